/- The statement FindNil: it holds for every input.  No conditions. -/
import Derived.Test.YtnfbchhbcinloaaRows
import Derived.WalkKit
import Derived.ProofKit
import Derived.OpenShut
import Derived.ShutString
import Derived.ChangeOld
import Derived.Below
import Derived.SizedLaws
import Derived.Test.YtnfbchhbcinloaaQd
/- A nil finder; the walk over the statement FindNil. -/
namespace Go.Proofs.Ytnfbchhbcinloaa
open Go.RowKit Go.XR Go.IndexPure Go.CachePure Go.FindPure
set_option maxHeartbeats 1000000 in
set_option maxRecDepth 100000 in
theorem nrows (w : World) : Calls Try.prog 64 #[.pointer none] w fun e w' => e = .returned (.pointer none) ∧ w' = w := by
  go_enter Try.func64, Try.ntmps64
  go_wp2
  go_ret
  exact ⟨rfl, rfl⟩
set_option maxHeartbeats 1000000 in
set_option maxRecDepth 100000 in
theorem nput (w : World) (k : KeyT) (v : PlaceT) : Calls Try.prog 33 #[.pointer none, keyV k, placeV v] w fun e w' => e = .returned (.tuple #[]) ∧ Below w.heap.size w w' := by
  go_enter Try.func33, Try.ntmps33
  go_wp2
  (try simp only [Exit.inBlock, Exit.then]); refine bodyPost_ret (results_none rfl _ _ _) rfl ?_
  exact ⟨rfl, ((Below.refl _ _).alloc (Nat.le_refl _) _).alloc (by simp) _⟩
set_option maxHeartbeats 1000000 in
set_option maxRecDepth 100000 in
theorem nanew (w : World) : Calls Try.prog 40 #[.pointer none] w fun e w' => e = .returned (.tuple #[]) ∧ Below w.heap.size w w' := by
  go_enter Try.func40, Try.ntmps40
  go_wp2
  (try simp only [Exit.inBlock, Exit.then]); refine bodyPost_ret (results_none rfl _ _ _) rfl ?_
  exact ⟨rfl, Below.refl _ _⟩
set_option maxHeartbeats 1000000 in
set_option maxRecDepth 100000 in
theorem nblur (w : World) (v : Value) : Calls Try.prog 41 #[.pointer none, v] w fun e w' => e = .returned (.tuple #[]) ∧ Below w.heap.size w w' := by
  go_enter Try.func41, Try.ntmps41
  go_wp2
  go_end0
  exact ⟨rfl, Below.refl _ _⟩
set_option maxHeartbeats 1000000 in
set_option maxRecDepth 100000 in
theorem ndrop (w : World) (k : KeyT) : Calls Try.prog 42 #[.pointer none, keyV k] w (RetBool w false) := by
  go_enter Try.func42, Try.ntmps42
  go_wp2
  go_ret
  exact ⟨rfl, (Below.refl _ _).alloc (Nat.le_refl _) _⟩
set_option maxHeartbeats 1000000 in
set_option maxRecDepth 100000 in
theorem ncost (w : World) : Calls Try.prog 35 #[.pointer none] w fun e w' => e = .returned (.tuple #[.int .i64 0, .int .i64 0]) ∧ Below w.heap.size w w' := by
  go_enter Try.func35, Try.ntmps35
  go_wp2
  go_ret2
  exact ⟨rfl, Below.refl _ _⟩
set_option maxHeartbeats 1000000 in
set_option maxRecDepth 100000 in
theorem nlen (w : World) : Calls Try.prog 39 #[.pointer none] w (RetInt w 0) := by
  go_enter Try.func39, Try.ntmps39
  go_wp2_with fail
  refine (nrows w).mono ?_
  rintro e w1 ⟨rfl, hw⟩
  rw [hw]
  clear hw
  go_wp2_with fail
  refine (len_nil w).mono ?_
  rintro e w1 ⟨rfl, hb⟩
  go_wp2
  go_ret
  exact ⟨rfl, hb⟩
set_option maxHeartbeats 1000000 in
set_option maxRecDepth 100000 in
theorem nall (w : World) : Calls Try.prog 38 #[.pointer none] w (RetNone w) := by
  go_enter Try.func38, Try.ntmps38
  go_wp2_with fail
  refine (nrows w).mono ?_
  rintro e w1 ⟨rfl, hw⟩
  rw [hw]
  clear hw
  go_wp2_with fail
  refine (all_nil w).mono ?_
  rintro e w1 ⟨rfl, hb⟩
  go_wp2
  go_ret
  exact ⟨rfl, hb⟩
set_option maxHeartbeats 1000000 in
set_option maxRecDepth 100000 in
theorem nshelf (w : World) (s : Int) : Calls Try.prog 44 #[.pointer none, .int .i64 s] w (RetNone w) := by
  go_enter Try.func44, Try.ntmps44
  go_wp2_with fail
  refine (nrows w).mono ?_
  rintro e w1 ⟨rfl, hw⟩
  rw [hw]
  clear hw
  go_wp2_with fail
  refine (shelf_nil w s).mono ?_
  rintro e w1 ⟨rfl, hb⟩
  go_wp2
  go_ret
  exact ⟨rfl, hb⟩
set_option maxHeartbeats 1000000 in
set_option maxRecDepth 100000 in
theorem ntwins (w : World) (d : SumT) : Calls Try.prog 43 #[.pointer none, sumV d] w fun e w' => ∃ a c, e = .returned (.slice a 0 c) ∧ Below w.heap.size w w' := by
  obtain ⟨W0, hW0⟩ : ∃ W0, w.alloc (.cells (sumC d) 24) = W0 := ⟨_, rfl⟩
  have hb0 : Below w.heap.size w W0 := by rw [← hW0]; exact (Below.refl _ _).alloc (Nat.le_refl _) _
  have HS0 : Hid (At W0 w.heap.size 0 (sumC d)) := by unfold Hid; rw [← hW0]; exact At.new _ _ _
  have Hb0 := Lib.hid hb0
  clear hb0
  go_enter Try.func43, Try.ntmps43
  obtain ⟨kb, hkb⟩ : ∃ kb, w.heap.size = kb := ⟨_, rfl⟩
  rw [hkb] at HS0
  go_wp2
  clear hW0
  have Hkb := Lib.hid hkb
  clear hkb
  refine Go.XR.region_sched ((· = W0.drew)) [(0, true), (2, true), (1, false), (3, false), (4, false)] [3, 4] Try.mixed (by kernel_rfl) (by kernel_rfl) (by kernel_rfl) ?_
  simp only [List.map_cons, List.map_nil, List.getElem?_cons_succ, List.getElem?_cons_zero]
  repeat (first | (refine Go.XR.S_light rfl rfl rfl ?_ (fun w' hS K hK => ?_) (fun K hK => ?_); rotate_left 1; (cases hS; (first | (refine Go.XR.wp_load_at 24 (.tmp 3) rfl kb 0 rfl (sumC d) (At.drew HS0.out) _ Try.underlying24 rfl (sumSize d) ?_) | go_step); exact hK); go_step; refine hK _ ?_; clear hK K))
  refine Go.XR.S_heavy (fun K hK => ?_)
  go_step
  ((with_reducible refine ((nrows W0.drew)).mono ?_); rintro e w' ⟨rfl, hw⟩)
  rw [hw]
  clear hw
  refine hK _ _ ⟨fun _ => rfl, ?_⟩
  clear hK K
  repeat (first | (refine Go.XR.S_light rfl rfl rfl ?_ (fun w' hS K hK => ?_) (fun K hK => ?_); rotate_left 1; (cases hS; (first | (refine Go.XR.wp_load_at 24 (.tmp 3) rfl kb 0 rfl (sumC d) (At.drew HS0.out) _ Try.underlying24 rfl (sumSize d) ?_) | go_step); exact hK); go_step; refine hK _ ?_; clear hK K))
  refine Go.XR.S_heavy (fun K hK => ?_)
  go_step
  ((with_reducible refine ((twins_nil W0.drew d)).mono ?_); rintro e w' ⟨a, c, rfl, _, hb⟩)
  have Hb1 := Lib.hid (Hb0.out.trans ((Below.drew (Below.refl W0.heap.size W0)).trans (hb.mono (Nat.le_refl _)) |>.mono Hb0.out.size))
  clear hb
  refine hK _ _ ⟨fun h => by simp at h, ?_⟩
  clear hK K
  repeat (first | (refine Go.XR.S_light rfl rfl rfl ?_ (fun w' hS K hK => ?_) (fun K hK => ?_); rotate_left 1; (cases hS; (first | (refine Go.XR.wp_load_at 24 (.tmp 3) rfl kb 0 rfl (sumC d) (At.drew HS0.out) _ Try.underlying24 rfl (sumSize d) ?_) | go_step); exact hK); go_step; refine hK _ ?_; clear hK K))
  repeat (first | (refine Go.XR.S_heavy (fun K hK => ?_); go_step; refine hK _ _ ⟨fun h => by simp at h, ?_⟩; clear hK K))
  refine Go.XR.S_nil ?_
  go_wp2
  go_ret
  exact ⟨a, c, rfl, Hb1.out⟩
def place00 : PlaceT := ⟨0, 0⟩
set_option maxHeartbeats 1000000 in
set_option maxRecDepth 100000 in
theorem nfind (w : World) (k : KeyT) (draw : Int) : Calls Try.prog 34 #[.pointer none, keyV k, .int .u64 draw] w fun e w' => e = .returned (.tuple #[.agg #[.int .i64 0, .int .i64 0], .bool false]) ∧ Below w.heap.size w w' := by
  obtain ⟨W0, hW0⟩ : ∃ W0, (w.alloc (.cells (keyC k) 27)).alloc (.cells #[.int .i64 0, .int .i64 0] 33) = W0 := ⟨_, rfl⟩
  have hb0 : Below w.heap.size w W0 := by rw [← hW0]; exact ((Below.refl _ _).alloc (Nat.le_refl _) _).alloc (by simp) _
  have HK : Hid (At W0 w.heap.size 0 (keyC k)) := by unfold Hid; rw [← hW0]; exact (At.new _ _ _).alloc _
  have HR : Hid (Blk W0 (w.heap.size + 1) [.int .i64 0, .int .i64 0]) := by
    unfold Hid; rw [← hW0]
    have h := Blk.new (w.alloc (.cells (keyC k) 27)) #[.int .i64 0, .int .i64 0] 33
    rwa [show (w.alloc (.cells (keyC k) 27)).heap.size = w.heap.size + 1 by simp] at h
  have Hb0 := Lib.hid hb0
  clear hb0
  obtain ⟨kb, hkb⟩ : ∃ kb, w.heap.size = kb := ⟨_, rfl⟩
  obtain ⟨rb, hrb⟩ : ∃ rb, kb + 1 = rb := ⟨_, rfl⟩
  have Hrb : Hid (kb ≤ rb) := by unfold Hid; omega
  rw [hkb] at HK HR
  rw [hrb] at HR
  have Hkb := Lib.hid hkb
  have r0 := HR.out.cell (i := 0) rfl
  have r1 := HR.out.cell (i := 1) rfl
  have f0 := HR.out.free 0
  have f1 := HR.out.free 1
  go_enter Try.func34, Try.ntmps34
  go_wp2
  clear hW0 hkb hrb
  refine Go.XR.region_sched ((· = W0.drew)) [(0, true), (1, true), (2, true), (3, true), (4, true), (5, true), (6, true), (7, true), (8, false), (9, false), (10, false)] [8, 9, 10] Try.mixed (by kernel_rfl) (by kernel_rfl) (by kernel_rfl) ?_
  simp only [List.map_cons, List.map_nil, List.getElem?_cons_succ, List.getElem?_cons_zero]
  repeat (first | (refine Go.XR.S_light rfl rfl rfl ?_ (fun w' hS K hK => ?_) (fun K hK => ?_); rotate_left 1; (cases hS; (first | (refine Go.XR.wp_load_at 27 (.tmp 4) rfl kb 0 rfl (keyC k) (At.drew HK.out) _ Try.underlying27 rfl (keySize k) ?_) | go_step); exact hK); go_step; refine hK _ ?_; clear hK K) | (refine Go.XR.S_light_off rfl rfl (fun K hK => ?_); go_step; refine hK _ ?_; clear hK K) | (refine Go.XR.S_light_on rfl rfl rfl rfl ?_ (fun w' hS K hK => ?_) (fun K hK => ?_); rotate_left 1; (cases hS; (first | (refine Go.XR.wp_load_at 27 (.tmp 4) rfl kb 0 rfl (keyC k) (At.drew HK.out) _ Try.underlying27 rfl (keySize k) ?_) | go_step); exact hK); go_step; refine hK _ ?_; clear hK K))
  refine Go.XR.S_heavy_off rfl (fun h => by simp at h) (fun K hK => ?_)
  go_step
  refine hK _ ?_
  clear hK K
  repeat (first | (refine Go.XR.S_heavy (fun K hK => ?_); go_step; refine hK _ _ ⟨fun h => by simp at h, ?_⟩; clear hK K) | (refine Go.XR.S_heavy_off rfl (fun h => by simp at h) (fun K hK => ?_); go_step; refine hK _ ?_; clear hK K) | (refine Go.XR.S_heavy_on rfl (fun K hK => ?_); go_step; refine hK _ _ ⟨fun h => by simp at h, ?_⟩; clear hK K))
  refine Go.XR.S_nil ?_
  go_wp2
  (try simp only [Exit.inBlock, Exit.then])
  refine bodyPost_ret (results_at rfl (g := rb) rfl rfl ((((HR.out.below (Below.refl _ _).drew).set 0 (.int .i64 0)).set 1 (.int .i64 0)).toAt) Try.underlying33 rfl (placeSize place0)) rfl ?_
  refine ⟨rfl, ?_⟩
  exact Hb0.out.trans ((((But.refl [rb] W0).drew.setCell (.inl (by simp)) _).setCell (.inl (by simp)) _).below Hb0.out.size (by rw [Hkb.out]; have := Hrb.out; simpa using this))
set_option maxHeartbeats 4000000 in
set_option maxRecDepth 100000 in
theorem fnil_walk (w : World) (r : RowT) (draw : Int) : Calls Try.prog 11 #[.agg (rowC r), .int .u64 draw] w (RetBool w true) := by
  obtain ⟨W0, hW0⟩ : ∃ W0, w.alloc (.cells (rowC r) 35) = W0 := ⟨_, rfl⟩
  have hb0 : Below w.heap.size w W0 := by rw [← hW0]; exact (Below.refl _ _).alloc (Nat.le_refl _) _
  have HR0 : Hid (Blk W0 w.heap.size (rowL r)) := by unfold Hid; rw [← hW0]; exact Blk.new w (rowC r) _
  have HB0 := Lib.hid hb0
  clear hb0
  obtain ⟨rb, hrb⟩ : ∃ rb, w.heap.size = rb := ⟨_, rfl⟩
  rw [hrb] at HR0
  have HK0 := Lib.hid (row_at_key (o := 0) HR0.out.toAt)
  have HP0 := Lib.hid (row_at_place (o := 0) HR0.out.toAt)
  go_enter Try.func11, Try.ntmps11
  go_wp2_with (first | (refine opIs (X := .load 27 (.tmp 11)) rfl ?_; refine wpList_load_at rfl 27 (.tmp 11) rfl rb 0 rfl (keyC r.1) HK0.out _ Try.underlying27 rfl (keySize _) ?_) | (refine opIs (X := .load 33 (.tmp 13)) rfl ?_; refine wpList_load_at rfl 33 (.tmp 13) rfl rb (0 + 33) rfl (placeC r.2) HP0.out _ Try.underlying33 rfl (placeSize _) ?_) | fail)
  clear hrb hW0 HP0
  refine (nput W0 r.1 r.2).mono ?_
  rintro e w1 ⟨rfl, hb⟩
  have HR1 := Lib.hid (HR0.out.below hb)
  have HB1 := Lib.hid (HB0.out.trans (hb.mono HB0.out.size))
  have HK1 := Lib.hid (row_at_key (o := 0) HR1.out.toAt)
  clear hb HR0 HB0 HK0
  go_wp2_with fail
  refine (nanew w1).mono ?_
  rintro e w2 ⟨rfl, hb⟩
  have HR2 := Lib.hid (HR1.out.below hb)
  have HB2 := Lib.hid (HB1.out.trans (hb.mono HB1.out.size))
  have HK2 := Lib.hid (row_at_key (o := 0) HR2.out.toAt)
  clear hb HR1 HB1 HK1
  go_wp2_with fail
  have hb : Below w2.heap.size w2 (w2.alloc (.cells #[.int .u8 1] 5)) := (Below.refl _ _).alloc (Nat.le_refl _) _
  have HR3 := Lib.hid (HR2.out.below hb)
  have HB3 := Lib.hid (HB2.out.trans (hb.mono HB2.out.size))
  have HK3 := Lib.hid (row_at_key (o := 0) HR3.out.toAt)
  clear hb HR2 HB2 HK2
  generalize w2.alloc (.cells #[.int .u8 1] 5) = w3 at *
  refine (nblur w3 _).mono ?_
  rintro e w4 ⟨rfl, hb⟩
  have HR4 := Lib.hid (HR3.out.below hb)
  have HB4 := Lib.hid (HB3.out.trans (hb.mono HB3.out.size))
  have HK4 := Lib.hid (row_at_key (o := 0) HR4.out.toAt)
  clear hb HR3 HB3 HK3
  go_wp2_with (first | (refine opIs (X := .load 27 (.tmp 23)) rfl ?_; refine wpList_load_at rfl 27 (.tmp 23) rfl rb 0 rfl (keyC r.1) HK4.out _ Try.underlying27 rfl (keySize _) ?_) | fail)
  refine (nfind w4 r.1 draw).mono ?_
  rintro e w5 ⟨rfl, hb⟩
  have HR5 := Lib.hid (HR4.out.below hb)
  have HB5 := Lib.hid (HB4.out.trans (hb.mono HB4.out.size))
  have HK5 := Lib.hid (row_at_key (o := 0) HR5.out.toAt)
  clear hb HR4 HB4 HK4
  go_wp2_with fail
  have hb : Below w5.heap.size w5 (w5.alloc (.cells #[.int .i64 0, .int .i64 0] 33)) := (Below.refl _ _).alloc (Nat.le_refl _) _
  have HR6 := Lib.hid (HR5.out.below hb)
  have HB6 := Lib.hid (HB5.out.trans (hb.mono HB5.out.size))
  have HK6 := Lib.hid (row_at_key (o := 0) HR6.out.toAt)
  clear hb HR5 HB5 HK5
  generalize w5.alloc (.cells #[.int .i64 0, .int .i64 0] 33) = w6 at *
  refine (ncost w6).mono ?_
  rintro e w7 ⟨rfl, hb⟩
  have HR7 := Lib.hid (HR6.out.below hb)
  have HB7 := Lib.hid (HB6.out.trans (hb.mono HB6.out.size))
  have HK7 := Lib.hid (row_at_key (o := 0) HR7.out.toAt)
  clear hb HR6 HB6 HK6
  go_wp2_with fail
  refine (shown15_any w7).mono ?_
  rintro e w8 ⟨rfl, hb⟩
  have HR8 := Lib.hid (HR7.out.below hb)
  have HB8 := Lib.hid (HB7.out.trans (hb.mono HB7.out.size))
  have HK8 := Lib.hid (row_at_key (o := 0) HR8.out.toAt)
  clear hb HR7 HB7 HK7
  go_wp2_with (first | (refine wpList_load_on rfl 27 (.tmp 41) rfl rb 0 rfl (keyC r.1) HK8.out _ Try.underlying27 rfl (keySize _) ?_) | fail)
  refine (ndrop w8 r.1).mono ?_
  rintro e w9 ⟨rfl, hb⟩
  have HR9 := Lib.hid (HR8.out.below hb)
  have HB9 := Lib.hid (HB8.out.trans (hb.mono HB8.out.size))
  have HK9 := Lib.hid (row_at_key (o := 0) HR9.out.toAt)
  clear hb HR8 HB8 HK8
  go_wp2_with (first | (refine wpList_load_on rfl 24 (.tmp 49) rfl rb 0 rfl (sumC r.1.sum) (key_at_sum HK9.out) _ Try.underlying24 rfl (sumSize _) ?_) | fail)
  refine (ntwins w9 r.1.sum).mono ?_
  rintro e w10 ⟨a6, c6, rfl, hb⟩
  have HR10 := Lib.hid (HR9.out.below hb)
  have HB10 := Lib.hid (HB9.out.trans (hb.mono HB9.out.size))
  have HK10 := Lib.hid (row_at_key (o := 0) HR10.out.toAt)
  clear hb HR9 HB9 HK9
  have hv0 : w10.cell? ⟨rb, 33, none⟩ = some (.int .i64 r.2.shelf) := row_at_shelf (o := 0) HR10.out.toAt
  go_wp2_with fail
  refine (nshelf w10 r.2.shelf).mono ?_
  rintro e w11 ⟨rfl, hb⟩
  have HR11 := Lib.hid (HR10.out.below hb)
  have HB11 := Lib.hid (HB10.out.trans (hb.mono HB10.out.size))
  have HK11 := Lib.hid (row_at_key (o := 0) HR11.out.toAt)
  clear hb HR10 HB10 HK10
  clear hv0
  go_wp2_with fail
  refine (nall w11).mono ?_
  rintro e w12 ⟨rfl, hb⟩
  have HR12 := Lib.hid (HR11.out.below hb)
  have HB12 := Lib.hid (HB11.out.trans (hb.mono HB11.out.size))
  have HK12 := Lib.hid (row_at_key (o := 0) HR12.out.toAt)
  clear hb HR11 HB11 HK11
  go_wp2_with fail
  refine (nlen w12).mono ?_
  rintro e w13 ⟨rfl, hb⟩
  have HR13 := Lib.hid (HR12.out.below hb)
  have HB13 := Lib.hid (HB12.out.trans (hb.mono HB12.out.size))
  have HK13 := Lib.hid (row_at_key (o := 0) HR13.out.toAt)
  clear hb HR12 HB12 HK12
  go_wp2
  go_ret
  exact ⟨rfl, HB13.out⟩
end Go.Proofs.Ytnfbchhbcinloaa

/- The statement FindNil: it holds for every input.  No conditions. -/
namespace Go.Proofs.Ytnfbchhbcinloaa.findNil
open Go.ChangeShapes Go.WideShapes Go.ChangeAt Go.RowKit Go.XR
open Go.ChangeMaps (open_string shut_string)
theorem own : ownKnob Try.prog.godebug = none := by kernel_rfl
theorem laidOut : laidOutB Try.prog = true := by kernel_rfl
set_option maxRecDepth 100000 in
theorem lifted (os : Os) (started : os.Started) (H : Type) (enc : TypeId × Value → H) :
    ReturnsInHanded {} Try.checked os 11 .any (Rows.findNilSpec.pre6 enc Try.prog Try.f11 Rows.findNilRow.domain false) (Rows.findNilSpec.post enc Try.prog Try.f11 false true false false) := by
  refine returnsInHanded_of_change_sized (C := Try.checked) own started (by kernel_rfl) Try.func11
    (ChangeSpec.witness6 (enc := enc) (C := Try.checked) false ⟨#[], #[.agg #[.int .u8 0, .int .u8 0, .int .u8 0, .int .u8 0, .int .u8 0, .int .u8 0, .int .u8 0, .int .u8 0, .int .u8 0, .int .u8 0, .int .u8 0, .int .u8 0, .int .u8 0, .int .u8 0, .int .u8 0, .int .u8 0, .int .u8 0, .int .u8 0, .int .u8 0, .int .u8 0, .int .u8 0, .int .u8 0, .int .u8 0, .int .u8 0, .int .u8 0, .int .u8 0, .int .u8 0, .int .u8 0, .int .u8 0, .int .u8 0, .int .u8 0, .int .u8 0, .int .u32 0, .int .i64 0, .int .i64 0], .int .u64 0], []⟩ 8 (by kernel_rfl) (by kernel_rfl) (by kernel_rfl) (by kernel_rfl)) ?_
  intro W base args ds gs before hval0 hW _ _ _
  have hval : ∀ (j : Nat) t v, Try.f11.params[j]? = some t → args[j]? = some v → Value.okWide Try.prog W .any base t v := hval0
  have hW' := hW
  obtain ⟨p, q, hA0, hV, rfl, _, _⟩ := hW
  have hA : DataW.TrodAll enc Try.prog W 0 (fun _ => true) true Try.f11.params.toList args.toList ds p := hA0
  rw [Try.params11] at hA hval
  obtain ⟨v0, vs0, d0, ds0, p0, q0, hargs, rfl, rfl, h0, r0⟩ := trodAll_cons hA
  obtain ⟨v1, vs1, d1, ds1, p1, q1, rfl, rfl, rfl, h1, r1⟩ := trodAll_cons r0
  obtain ⟨rfl, rfl, rfl⟩ := trodAll_nil r1
  obtain rfl : args = #[v0, v1] := by cases args; simp_all
  obtain ⟨rfl, rfl⟩ := trodVars_none hV
  have k0 := h0
  have lt0 : ∀ x ∈ p0, x.block < W.heap.size := by obtain ⟨m, hm⟩ := k0; exact DataW.trod_lt m _ _ _ hm
  obtain ⟨a0, rfl, hf0⟩ := agg_of (f := 8) (ls := (leafs Try.prog 8 35).getD []) Try.underlying35 (hval 0 35 v0 rfl rfl) (by kernel_rfl) h0
  obtain ⟨b0_0, rfl⟩ := row_agg hf0
  have k1 := h1
  have lt1 : ∀ x ∈ p1, x.block < W.heap.size := by obtain ⟨m, hm⟩ := k1; exact DataW.trod_lt m _ _ _ hm
  obtain ⟨a1, rfl, rfl, rfl, w1⟩ := open_int Try.underlying66 (hval 1 66 v1 rfl rfl) h1
  clear hA0 hval0
  refine (fnil_walk W b0_0.1 a1).mono fun e W' ⟨he, bel⟩ => ?_
  subst he
  exact ⟨_, rfl, _, _, _, [], _, [], hW', trodAll_mk1 (shut_bool Try.underlying4 _), (trodAll_cons_mk (Below.trod laidOut (by kernel_rfl) (of_decide_eq_true (by kernel_rfl)) k0 bel lt0) (trodAll_cons_mk (Below.trod laidOut (by kernel_rfl) (of_decide_eq_true (by kernel_rfl)) k1 bel lt1) trodAll_mk0)), rfl, bel.frame _, fun h => by cases h⟩
theorem over : Rows.findNilRow.holds Try.pinned (OpenSpec.ofChange Rows.findNilSpec) :=
  OpenClaim.holds_of_wide 11 Try.f11 rfl rfl rfl rfl rfl rfl rfl ⟨rfl, rfl, rfl, rfl, rfl⟩ rfl rfl rfl rfl rfl (by kernel_rfl) Try.func11 (by kernel_rfl)
    (of_decide_eq_true (by kernel_rfl)) (by unfold Func.isWrapper; first | (rw [if_pos (by decide +kernel)]; kernel_rfl) | (rw [if_neg (by decide +kernel)]; exact ⟨rfl, rfl⟩))
    (fun os started H enc _ => lifted os started H enc)
theorem proved : Rows.FindNilSaid := over
#print axioms proved
end Go.Proofs.Ytnfbchhbcinloaa.findNil
namespace Go.Proofs.Ytnfbchhbcinloaa
/-- the statement, under a short name -/
theorem findNil_holds : Rows.FindNilSaid := findNil.proved
end Go.Proofs.Ytnfbchhbcinloaa
