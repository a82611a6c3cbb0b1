/- The walks at a nil index, and over the statement IndexNil. -/
import Derived.Test.YtnfbchhbcinloaaTw
namespace Go.Proofs.Ytnfbchhbcinloaa
open Go.RowKit Go.XR Go.IndexPure
set_option maxHeartbeats 1000000 in
set_option maxRecDepth 100000 in
theorem put_nil (w : World) (k : KeyT) (v : PlaceT) : Calls Try.prog 16 #[.pointer none, keyV k, placeV v] w (RetBool w false) := by
  go_enter Try.func16, Try.ntmps16
  go_wp2
  go_ret
  exact ⟨rfl, ((Below.refl _ _).alloc (Nat.le_refl _) _).alloc (by simp) _⟩
set_option maxHeartbeats 1000000 in
set_option maxRecDepth 100000 in
theorem drop_nil (w : World) (k : KeyT) : Calls Try.prog 15 #[.pointer none, keyV k] w (RetBool w false) := by
  obtain ⟨W0, hW0⟩ : ∃ W0, w.alloc (.cells (keyC k) 27) = W0 := ⟨_, rfl⟩
  have hb0 : Below w.heap.size w W0 := by rw [← hW0]; exact (Below.refl _ _).alloc (Nat.le_refl _) _
  have HK : Hid (At W0 w.heap.size 0 (keyC k)) := by unfold Hid; rw [← hW0]; exact At.new _ _ _
  have Hb0 := Lib.hid hb0
  clear hb0
  obtain ⟨kb, hkb⟩ : ∃ kb, w.heap.size = kb := ⟨_, rfl⟩
  rw [hkb] at HK
  go_enter Try.func15, Try.ntmps15
  go_wp2_with (first | (refine wpList_load_at rfl 27 _ rfl kb 0 rfl (keyC k) HK.out _ Try.underlying27 rfl (keySize k) ?_) | fail)
  refine (get_nil W0 k).mono ?_
  rintro e w1 ⟨rfl, hb1⟩
  rw [show (aget ([] : List (KeyT × PlaceT)) k).isSome = false from rfl]
  have Hb1 := Lib.hid hb1
  clear hb1 hkb
  generalize (aget ([] : List (KeyT × PlaceT)) k).getD place0 = v0
  go_wp2_with (refine wpList_store_new rfl 33 _ _ rfl _ (placeC v0) _ rfl rfl rfl (one_placeL v0) (placeSize v0) ?_)
  go_ret
  have hb2 : Below W0.heap.size W0 (w1.alloc (.cells (placeC v0) 33)) := Hb1.out.alloc Hb1.out.size _
  exact ⟨rfl, Hb0.out.trans (hb2.mono Hb0.out.size)⟩
def RetNone (w : World) (e : Ending) (w' : World) : Prop := e = .returned (.slice none 0 0) ∧ Below w.heap.size w w'
set_option maxHeartbeats 1000000 in
set_option maxRecDepth 100000 in
theorem shelf_nil (w : World) (n : Int) : Calls Try.prog 23 #[.pointer none, .int .i64 n] w (RetNone w) := by
  go_enter Try.func23, Try.ntmps23
  go_wp2
  go_ret
  exact ⟨rfl, Below.refl _ _⟩
set_option maxHeartbeats 1000000 in
set_option maxRecDepth 100000 in
theorem all_nil (w : World) : Calls Try.prog 20 #[.pointer none] w (RetNone w) := by
  go_enter Try.func20, Try.ntmps20
  go_wp2
  go_ret
  exact ⟨rfl, Below.refl _ _⟩
set_option maxHeartbeats 4000000 in
set_option maxRecDepth 100000 in
theorem nil_walk (w : World) (k : KeyT) (v : PlaceT) : Calls Try.prog 7 #[keyV k, placeV v] w (RetBool w true) := by
  obtain ⟨W0, hW0⟩ : ∃ W0, (w.alloc (.cells (keyC k) 27)).alloc (.cells (placeC v) 33) = W0 := ⟨_, rfl⟩
  have hb0 : Below w.heap.size w W0 := by rw [← hW0]; exact ((Below.refl _ _).alloc (Nat.le_refl _) _).alloc (by simp) _
  have HK0 : Hid (At W0 w.heap.size 0 (keyC k)) := by unfold Hid; rw [← hW0]; exact (At.new _ _ _).alloc _
  have HP0 : Hid (Blk W0 (w.heap.size + 1) (placeL v)) := by
    unfold Hid; rw [← hW0]
    have h := Blk.new (w.alloc (.cells (keyC k) 27)) (placeC v) 33
    rwa [show (w.alloc (.cells (keyC k) 27)).heap.size = w.heap.size + 1 by simp] at h
  have HB0 := Lib.hid hb0
  clear hb0
  obtain ⟨kb, hkb⟩ : ∃ kb, w.heap.size = kb := ⟨_, rfl⟩
  obtain ⟨vb, hvb⟩ : ∃ vb, kb + 1 = vb := ⟨_, rfl⟩
  rw [hkb] at HK0 HP0
  rw [hvb] at HP0
  go_enter Try.func7, Try.ntmps7
  go_wp2_with (first | (refine wpList_load_at rfl 27 (.tmp 2) rfl kb 0 rfl (keyC k) HK0.out _ Try.underlying27 rfl (keySize k) ?_) | fail)
  clear hkb hvb hW0
  refine (get_nil W0 k).mono ?_
  rintro e w1 ⟨rfl, hb⟩
  rw [show (aget ([] : List (KeyT × PlaceT)) k).isSome = false from rfl]
  generalize (aget ([] : List (KeyT × PlaceT)) k).getD place0 = v0
  have HK1 := Lib.hid (HK0.out.below (by rw [keyC_size]; omega) hb)
  have HP1 := Lib.hid (HP0.out.below hb)
  have HB1 := Lib.hid (HB0.out.trans (hb.mono HB0.out.size))
  clear hb HK0 HP0 HB0
  go_wp2_with (first | (refine wpList_store_new rfl 33 _ _ rfl _ (placeC v0) _ rfl rfl rfl (one_placeL v0) (placeSize v0) ?_) | fail)
  have hb : Below w1.heap.size w1 (w1.alloc (.cells (placeC v0) 33)) := (Below.refl _ _).alloc (Nat.le_refl _) _
  have HK2 := Lib.hid (HK1.out.below (by rw [keyC_size]; omega) hb)
  have HP2 := Lib.hid (HP1.out.below hb)
  have HB2 := Lib.hid (HB1.out.trans (hb.mono HB1.out.size))
  clear hb HK1 HP1 HB1
  generalize w1.alloc (.cells (placeC v0) 33) = w2 at *
  refine (shown_any w2).mono ?_
  rintro e w3 ⟨rfl, hb⟩
  have HK3 := Lib.hid (HK2.out.below (by rw [keyC_size]; omega) hb)
  have HP3 := Lib.hid (HP2.out.below hb)
  have HB3 := Lib.hid (HB2.out.trans (hb.mono HB2.out.size))
  clear hb HK2 HP2 HB2
  go_wp2_with (first | (refine wpList_load_on rfl 27 (.tmp 2) rfl kb 0 rfl (keyC k) HK3.out _ Try.underlying27 rfl (keySize k) ?_) | (refine wpList_load_on rfl 33 (.tmp 3) rfl vb 0 rfl (placeC v) HP3.out.toAt _ Try.underlying33 rfl (placeSize v) ?_) | fail)
  refine (put_nil w3 k v).mono ?_
  rintro e w4 ⟨rfl, hb⟩
  have HK4 := Lib.hid (HK3.out.below (by rw [keyC_size]; omega) hb)
  have HP4 := Lib.hid (HP3.out.below hb)
  have HB4 := Lib.hid (HB3.out.trans (hb.mono HB3.out.size))
  clear hb HK3 HP3 HB3
  go_wp2_with (first | (refine wpList_load_on rfl 27 (.tmp 2) rfl kb 0 rfl (keyC k) HK4.out _ Try.underlying27 rfl (keySize k) ?_) | fail)
  refine (drop_nil w4 k).mono ?_
  rintro e w5 ⟨rfl, hb⟩
  have HK5 := Lib.hid (HK4.out.below (by rw [keyC_size]; omega) hb)
  have HP5 := Lib.hid (HP4.out.below hb)
  have HB5 := Lib.hid (HB4.out.trans (hb.mono HB4.out.size))
  clear hb HK4 HP4 HB4
  go_wp2_with (first | (refine wpList_load_on rfl 24 (.tmp 34) rfl kb 0 rfl (sumC k.sum) (key_at_sum HK5.out) _ Try.underlying24 rfl (sumSize k.sum) ?_) | fail)
  refine (twins_nil w5 k.sum).mono ?_
  rintro e w6 ⟨a6, c6, rfl, _, hb⟩
  have HK6 := Lib.hid (HK5.out.below (by rw [keyC_size]; omega) hb)
  have HP6 := Lib.hid (HP5.out.below hb)
  have HB6 := Lib.hid (HB5.out.trans (hb.mono HB5.out.size))
  clear hb HK5 HP5 HB5
  have hv0 := HP6.out.cell (i := 0) rfl
  go_wp2_with fail
  refine (shelf_nil w6 v.shelf).mono ?_
  rintro e w7 ⟨rfl, hb⟩
  have HK7 := Lib.hid (HK6.out.below (by rw [keyC_size]; omega) hb)
  have HP7 := Lib.hid (HP6.out.below hb)
  have HB7 := Lib.hid (HB6.out.trans (hb.mono HB6.out.size))
  clear hb HK6 HP6 HB6
  clear hv0
  go_wp2_with fail
  refine (len_nil w7).mono ?_
  rintro e w8 ⟨rfl, hb⟩
  have HK8 := Lib.hid (HK7.out.below (by rw [keyC_size]; omega) hb)
  have HP8 := Lib.hid (HP7.out.below hb)
  have HB8 := Lib.hid (HB7.out.trans (hb.mono HB7.out.size))
  clear hb HK7 HP7 HB7
  go_wp2_with fail
  refine (all_nil w8).mono ?_
  rintro e w9 ⟨rfl, hb⟩
  have HK9 := Lib.hid (HK8.out.below (by rw [keyC_size]; omega) hb)
  have HP9 := Lib.hid (HP8.out.below hb)
  have HB9 := Lib.hid (HB8.out.trans (hb.mono HB8.out.size))
  clear hb HK8 HP8 HB8
  go_wp2
  go_ret
  exact ⟨rfl, HB9.out⟩
theorem place_leafs : (leafs Try.prog 8 33).getD [] = [.int .i64, .int .i64] := by kernel_rfl
theorem place_agg {cs : Array Value} (hf : Fits ((leafs Try.prog 8 33).getD []) cs.toList) : ∃ p : PlaceT, cs = placeC p := by
  rw [place_leafs] at hf
  obtain ⟨l⟩ := cs
  simp only at hf
  obtain _ | ⟨⟨z, rfl, hz⟩, h2⟩ := hf
  obtain _ | ⟨⟨u, rfl, hu⟩, h2⟩ := h2
  cases h2
  exact ⟨⟨z, u⟩, rfl⟩
end Go.Proofs.Ytnfbchhbcinloaa
