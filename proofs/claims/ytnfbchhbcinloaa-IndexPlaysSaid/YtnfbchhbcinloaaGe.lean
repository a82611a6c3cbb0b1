/- The walks over New, Len, Get. -/
import Derived.Test.YtnfbchhbcinloaaBs
import Derived.Test.YtnfbchhbcinloaaGl
import Derived.Test.YtnfbchhbcinloaaOr
import Derived.Test.YtnfbchhbcinloaaReg
import Derived.Test.YtnfbchhbcinloaaLaws
import Derived.Laws.ResultCell
namespace Go.Proofs.Ytnfbchhbcinloaa
open Go.RowKit Go.XR Go.IndexPure
def RetInt (w : World) (z : Int) (e : Ending) (w' : World) : Prop := e = .returned (.int .i64 z) ∧ Below w.heap.size w w'
theorem bcell {W w1 : World} (hb : Below W.heap.size W w1) : ∀ b o, b < W.heap.size → w1.cell? ⟨b, o, none⟩ = W.cell? ⟨b, o, none⟩ :=
  fun b o h => hb.cell (p := ⟨b, o, none⟩) h
def place0 : PlaceT := ⟨0, 0⟩
/-- what Get answers -/
def RetGet (w : World) (D : List (KeyT × PlaceT)) (k : KeyT) (e : Ending) (w' : World) : Prop :=
  e = .returned (.tuple #[placeV ((aget D k).getD place0), .bool (aget D k).isSome]) ∧ Below w.heap.size w w'
theorem placeSize (p : PlaceT) : (Try.prog.info? 33).map (·.size) = some (placeC p).size := by rw [placeC_size]; kernel_rfl
set_option maxHeartbeats 1000000 in
set_option maxRecDepth 100000 in
theorem get_nil (w : World) (k : KeyT) : Calls Try.prog 17 #[.pointer none, keyV k] w (RetGet w [] k) := by
  go_enter Try.func17, Try.ntmps17
  go_wp2
  (try simp only [Exit.inBlock, Exit.then])
  refine bodyPost_ret (results_at rfl (g := w.heap.size + 1) rfl rfl (cs := placeC place0) (by have h := At.new (w.alloc (.cells (keyC k) 27)) (placeC place0) 33; rwa [show (w.alloc (.cells (keyC k) 27)).heap.size = w.heap.size + 1 by simp] at h) Try.underlying33 rfl (placeSize _)) rfl ?_
  exact ⟨rfl, ((Below.refl _ _).alloc (Nat.le_refl _) _).alloc (by simp) _⟩
theorem get_val (D : List (KeyT × PlaceT)) (k : KeyT) : ((aget D k).map placeV).getD (.agg #[.int .i64 0, .int .i64 0]) = placeV ((aget D k).getD place0) := by
  cases aget D k <;> rfl
set_option maxHeartbeats 1000000 in
set_option maxRecDepth 100000 in
theorem get_any (w : World) (p pb tb sb : Nat) (D : List (KeyT × PlaceT)) (hB : Blk w p [.map (some pb), .map (some tb), .map (some sb)]) (hG : GM keyV placeV w pb D) (k : KeyT) :
    Calls Try.prog 17 #[.pointer (some ⟨p, 0, none⟩), keyV k] w (RetGet w D k) := by
  obtain ⟨W2, hW2⟩ : ∃ W2, (w.alloc (.cells (keyC k) 27)).alloc (.cells #[.int .i64 0, .int .i64 0] 33) = W2 := ⟨_, rfl⟩
  have hb2 : Below w.heap.size w W2 := by rw [← hW2]; exact ((Below.refl _ _).alloc (Nat.le_refl _) _).alloc (by simp) _
  have HB2 := Lib.hid hb2
  have HM2 := Lib.hid (hB.below hb2)
  have HG2 := Lib.hid (hG.below hb2)
  have HK2 : Hid (At W2 w.heap.size 0 (keyC k)) := by unfold Hid; rw [← hW2]; exact (At.new _ _ _).alloc _
  have HR2 : Hid (Blk W2 (w.heap.size + 1) [.int .i64 0, .int .i64 0]) := by
    unfold Hid; rw [← hW2]
    have h := Blk.new (w.alloc (.cells (keyC k) 27)) #[.int .i64 0, .int .i64 0] 33
    rwa [show (w.alloc (.cells (keyC k) 27)).heap.size = w.heap.size + 1 by simp] at h
  clear hB hG hb2
  obtain ⟨v, hv⟩ : ∃ v, (aget D k).getD place0 = v := ⟨_, rfl⟩
  have Hv : Hid (((aget D k).map placeV).getD (.agg #[.int .i64 0, .int .i64 0]) = .agg #[.int .i64 v.shelf, .int .i64 v.slot]) := by unfold Hid; rw [get_val, hv]; rfl
  obtain ⟨is, his⟩ : ∃ b, (aget D k).isSome = b := ⟨_, rfl⟩
  have His := Lib.hid his
  unfold RetGet
  rw [hv, his]
  clear hv his
  obtain ⟨kb, hkb⟩ : ∃ kb, w.heap.size = kb := ⟨_, rfl⟩
  obtain ⟨rb, hrb⟩ : ∃ rb, kb + 1 = rb := ⟨_, rfl⟩
  have c0 := HM2.out.cell (i := 0) rfl
  have hpn : p < W2.heap.size := HM2.out.lt
  have hkn : kb < W2.heap.size := by rw [← hkb]; exact HK2.out.lt (by rw [keyC_size]; omega)
  rw [hkb] at HK2 HR2
  rw [hrb] at HR2
  go_enter Try.func17, Try.ntmps17
  go_wp2
  have hS0 : Below W2.heap.size W2 W2.drew := (Below.refl _ _).drew
  refine Go.XR.region_sched ((Below W2.heap.size W2)) [(0, true), (1, true), (2, true), (3, true), (4, true), (5, true), (6, true), (7, true), (8, true), (9, false), (10, false), (11, false)] [11] Try.mixed (by kernel_rfl) (by kernel_rfl) (by kernel_rfl) ?_
  simp only [List.map_cons, List.map_nil, List.getElem?_cons_succ, List.getElem?_cons_zero]
  repeat (first | (refine Go.XR.S_light rfl rfl (by assumption) ?_ (fun w' hS K hK => ?_) (fun K hK => ?_); rotate_left 1; (have hS1 := bcell hS; (first | (first | (refine Go.XR.wp_load_at 27 _ rfl kb 0 rfl (keyC k) (At.below HK2.out (by rw [keyC_size]; omega) hS) _ Try.underlying27 rfl (keySize k) ?_) | (refine Go.XR.wp_gm_lookup_ok _ _ 80 rfl keysKey Try.underlying80 (.agg #[.int .i64 0, .int .i64 0]) (Try.zeroValue33) k _ is rfl rfl (HG2.out.below hS) Hv.out His.out ?_)) | go_step); exact hK); go_step; refine hK _ ?_; clear hK K))
  refine Go.XR.S_heavy (fun K hK => ?_)
  go_step
  refine hK _ _ ⟨fun _ => hS0.alloc (Nat.le_refl _) _, ?_⟩
  clear hK K
  repeat (first | (refine Go.XR.S_light rfl rfl (by assumption) ?_ (fun w' hS K hK => ?_) (fun K hK => ?_); rotate_left 1; (have hS1 := bcell hS; (first | (first | (refine Go.XR.wp_load_at 27 _ rfl kb 0 rfl (keyC k) (At.below HK2.out (by rw [keyC_size]; omega) hS) _ Try.underlying27 rfl (keySize k) ?_) | (refine Go.XR.wp_gm_lookup_ok _ _ 80 rfl keysKey Try.underlying80 (.agg #[.int .i64 0, .int .i64 0]) (Try.zeroValue33) k _ is rfl rfl (HG2.out.below hS) Hv.out His.out ?_)) | go_step); exact hK); go_step; refine hK _ ?_; clear hK K))
  refine Go.XR.S_heavy (fun K hK => ?_)
  go_step
  obtain ⟨W3, hW3⟩ : ∃ W3, (W2.alloc (.cells #[.int .i64 v.shelf, .int .i64 v.slot] 33)).drew = W3 := ⟨_, rfl⟩
  have hS3 : Below W2.heap.size W2 W3 := by rw [← hW3]; exact ((Below.refl _ _).alloc (Nat.le_refl _) _).drew
  have HR3 := Lib.hid (HR2.out.below hS3)
  have HB3 := Lib.hid (HB2.out.trans (hS3.mono HB2.out.size))
  have d0 : W3.cell? ⟨W2.heap.size, 0, none⟩ = some (.int .i64 v.shelf) := by rw [← hW3]; simp
  have d1 : W3.cell? ⟨W2.heap.size, 1, none⟩ = some (.int .i64 v.slot) := by rw [← hW3]; simp
  rw [hW3]
  clear hW3 hW2 hS0
  refine hK _ _ ⟨fun _ => hS3, ?_⟩
  clear hK K
  repeat (first | (refine Go.XR.S_light rfl rfl (by assumption) ?_ (fun w' hS K hK => ?_) (fun K hK => ?_); rotate_left 1; (have hS1 := bcell hS; (first | (first | (refine Go.XR.wp_load_at 27 _ rfl kb 0 rfl (keyC k) (At.below HK2.out (by rw [keyC_size]; omega) hS) _ Try.underlying27 rfl (keySize k) ?_) | (refine Go.XR.wp_gm_lookup_ok _ _ 80 rfl keysKey Try.underlying80 (.agg #[.int .i64 0, .int .i64 0]) (Try.zeroValue33) k _ is rfl rfl (HG2.out.below hS) Hv.out His.out ?_)) | go_step); exact hK); go_step; refine hK _ ?_; clear hK K))
  repeat (first | (refine Go.XR.S_heavy (fun K hK => ?_); go_step; refine hK _ _ ⟨fun h => by simp at h, ?_⟩; clear hK K))
  refine Go.XR.S_nil ?_
  have r0 := HR3.out.cell (i := 0) rfl
  have r1 := HR3.out.cell (i := 1) rfl
  have f0 := HR3.out.free 0
  have f1 := HR3.out.free 1
  go_wp2
  (try simp only [Exit.inBlock, Exit.then])
  refine bodyPost_ret (results_at rfl (g := rb) rfl rfl (((HR3.out.set 0 (.int .i64 v.shelf)).set 1 (.int .i64 v.slot)).toAt) Try.underlying33 rfl (placeSize v)) rfl ?_
  exact ⟨rfl, HB3.out.trans ((((But.refl [rb] W3).setCell (.inl (by simp)) _).setCell (.inl (by simp)) _).below HB3.out.size (by simp; omega))⟩
set_option maxHeartbeats 1000000 in
set_option maxRecDepth 100000 in
theorem len_nil (w : World) : Calls Try.prog 19 #[.pointer none] w (RetInt w 0) := by
  go_enter Try.func19, Try.ntmps19
  go_wp2
  go_ret
  exact ⟨rfl, Below.refl _ _⟩
set_option maxHeartbeats 1000000 in
set_option maxRecDepth 100000 in
theorem len_any (w : World) (p pb tb sb : Nat) (D : List (KeyT × PlaceT)) (hB : Blk w p [.map (some pb), .map (some tb), .map (some sb)]) (hG : GM keyV placeV w pb D) :
    Calls Try.prog 19 #[.pointer (some ⟨p, 0, none⟩)] w (RetInt w D.length) := by
  have c0 := hB.cell (i := 0) rfl
  obtain ⟨es, clock, h3, h4, h5⟩ := hG
  have hsz : es.size = D.length := by have := congrArg List.length h5; simpa using this
  have hln : (Builtin.len_ #[80] 3 #[.map (some pb)]).run Try.prog w = .ok (.int .i64 es.size) w := by
    simp [Builtin.len_, run_underlying Try.underlying80, MapKept.run_getObj_map h3, goInt, Result.andThen]
  clear hB h4 h5
  go_enter Try.func19, Try.ntmps19
  go_wp2
  go_ret
  exact ⟨rfl, Below.refl _ _⟩
theorem push4 (a : Array Obj) (x y z u : Obj) : ((((a.push x).push y).push z).push u)[a.size]? = some x ∧ ((((a.push x).push y).push z).push u)[a.size + 1]? = some y ∧ ((((a.push x).push y).push z).push u)[a.size + 1 + 1]? = some z ∧ ((((a.push x).push y).push z).push u)[a.size + 1 + 1 + 1]? = some u := by
  refine ⟨?_, ?_, ?_, ?_⟩
  · rw [Array.getElem?_push, if_neg (by simp only [Array.size_push]; omega), Array.getElem?_push, if_neg (by simp only [Array.size_push]; omega), Array.getElem?_push, if_neg (by simp only [Array.size_push]; omega), Array.getElem?_push, if_pos rfl]
  · rw [Array.getElem?_push, if_neg (by simp only [Array.size_push]; omega), Array.getElem?_push, if_neg (by simp only [Array.size_push]; omega), Array.getElem?_push, if_pos (by simp only [Array.size_push])]
  · rw [Array.getElem?_push, if_neg (by simp only [Array.size_push]; omega), Array.getElem?_push, if_pos (by simp only [Array.size_push])]
  · rw [Array.getElem?_push, if_pos (by simp only [Array.size_push])]
/-- what New makes -/
def RetNew (w : World) (e : Ending) (w' : World) : Prop :=
  ∃ p pb tb sb, e = .returned (.pointer (some ⟨p, 0, none⟩)) ∧ Blk w' p [.map (some pb), .map (some tb), .map (some sb)] ∧ w'.heap[pb]? = some (.map #[] 0) ∧ w'.heap[tb]? = some (.map #[] 0) ∧ w'.heap[sb]? = some (.map #[] 0) ∧
    w.heap.size ≤ pb ∧ pb < tb ∧ tb < sb ∧ sb < p ∧ p < w'.heap.size ∧ Below w.heap.size w w'
set_option maxHeartbeats 1000000 in
set_option maxRecDepth 100000 in
theorem new_any (w : World) : Calls Try.prog 13 #[] w (RetNew w) := by
  have hmm := @run_makeMap Try.prog
  go_enter Try.func13, Try.ntmps13
  go_wp2
  go_ret
  refine ⟨_, _, _, _, rfl, ?_, ?_, ?_, ?_, Nat.le_refl _, Nat.lt_succ_self _, Nat.lt_succ_self _, Nat.lt_succ_self _, ?_, ?_⟩
  · exact ⟨_, (push4 w.heap _ _ _ _).2.2.2⟩
  · exact (push4 w.heap _ _ _ _).1
  · exact (push4 w.heap _ _ _ _).2.1
  · exact (push4 w.heap _ _ _ _).2.2.1
  · simp
  · exact (((((Below.refl w.heap.size w).alloc (Nat.le_refl _) _).alloc (by simp) _).alloc (by simp; omega) _).alloc (by simp; omega) _)
end Go.Proofs.Ytnfbchhbcinloaa
