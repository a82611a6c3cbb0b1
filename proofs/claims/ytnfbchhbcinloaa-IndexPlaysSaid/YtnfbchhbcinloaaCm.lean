/- The walks over bytes.Compare, cmp.Compare, order, Less, and the comparisons of the two sorts. -/
import Derived.Test.YtnfbchhbcinloaaAc
import Derived.Test.YtnfbchhbcinloaaOp
import Derived.Lib.BytesEntry
import Derived.Laws.BytesArg
import Derived.Sort.Grow
namespace Go.Proofs.Ytnfbchhbcinloaa
open Go.RowKit Go.XR Go.IndexPure
theorem sum_nums (s : SumT) : Lib.bytesOf (s.toList.map fun b => (b.toNat : Int)) = sumB s := by
  unfold Lib.bytesOf sumB
  rw [List.map_map]
  conv => rhs; rw [← List.map_id s.toList]
  refine List.map_congr_left fun b _ => ?_
  show ((b.toNat : Int)).toNat.toUInt8 = b
  simp
theorem sum_bytes (s : SumT) : ((s.toList.map fun b => (b.toNat : Int)).map fun n => UInt8.ofNat n.toNat) = sumB s := by
  unfold sumB
  rw [List.map_map]
  conv => rhs; rw [← List.map_id s.toList]
  refine List.map_congr_left fun b _ => ?_
  show UInt8.ofNat ((b.toNat : Int)).toNat = b
  simp
theorem sum_len (s : SumT) : (s.toList.map fun b => (b.toNat : Int)).length = 32 := by simp
theorem sum_cell {w : World} {b o : Nat} {s : SumT} (h : At w b o (sumC s)) {i : Nat} (hi : i < 32) : w.cell? ⟨b, o + i, none⟩ = some (.int .u8 ((s.toList.map fun b => (b.toNat : Int)).getD i 0)) := by
  refine h i _ ?_
  show (sumL s).toArray[i]? = _
  rw [List.getElem?_toArray]
  unfold sumL
  rw [List.getElem?_map, List.getElem?_eq_getElem (by simpa using hi), List.getD_eq_getElem?_getD, List.getElem?_map, List.getElem?_eq_getElem (by simpa using hi)]
  rfl
theorem run_bytes_sum {w : World} {b o c : Nat} {s : SumT} (h : At w b o (sumC s)) : (Extern.Bytes.bytesOf (.slice (some ⟨b, o, none⟩) 32 c)).run Try.prog w = .ok ⟨(sumB s).toArray⟩ w := by
  have hl := Lib.run_loadBytesX (P := Try.prog) w (s.toList.map fun b => (b.toNat : Int)) ⟨b, o, none⟩ .empty (fun j x hj => by
    have hjl := (List.getElem?_eq_some_iff.1 hj).1
    rw [sum_len] at hjl
    rw [add_lit, sum_cell h hjl, List.getD_eq_getElem?_getD, hj]; rfl)
  rw [sum_len, sum_nums] at hl
  have he : (⟨ByteArray.empty.data ++ (sumB s).toArray⟩ : ByteArray) = ⟨(sumB s).toArray⟩ := by
    apply ByteArray.ext
    show (#[] : Array UInt8) ++ (sumB s).toArray = (sumB s).toArray
    simp
  rw [he] at hl
  exact hl
set_option maxHeartbeats 1000000 in
set_option maxRecDepth 100000 in
theorem bcmp_any (w : World) (b1 o1 c1 b2 o2 c2 : Nat) (s t : SumT) (h1 : At w b1 o1 (sumC s)) (h2 : At w b2 o2 (sumC t)) :
    Calls Try.prog 73 #[.slice (some ⟨b1, o1, none⟩) 32 c1, .slice (some ⟨b2, o2, none⟩) 32 c2] w fun e w' => e = .returned (.int .i64 (Lib.compareBytes (sumB s) (sumB t))) ∧ w' = w := by
  have hc : (callFunc 94 #[.slice (some ⟨b1, o1, none⟩) 32 c1, .slice (some ⟨b2, o2, none⟩) 32 c2]).run Try.prog w = .ok (.value (.int .i64 (Lib.compareBytes (sumB s) (sumB t)))) w := by
    rw [run_callFunc_extern Try.func94 (by kernel_rfl) (by kernel_rfl) (by kernel_rfl) (e := Extern.BytealgCompare.compare) (by kernel_rfl)]
    have hr : (Extern.BytealgCompare.compare #[.slice (some ⟨b1, o1, none⟩) 32 c1, .slice (some ⟨b2, o2, none⟩) 32 c2]).run Try.prog w = .ok (.int .i64 (Lib.compareBytes (sumB s) (sumB t))) w := by
      change Sem.run Try.prog (do pure (goInt (Extern.BytealgCompare.cmp (← Extern.Bytes.bytesOf (.slice (some ⟨b1, o1, none⟩) 32 c1)) (← Extern.Bytes.bytesOf (.slice (some ⟨b2, o2, none⟩) 32 c2))))) w = _
      simp only [Sem.run_bind, run_bytes_sum h1, run_bytes_sum h2, Result.andThen_ok, Sem.run_pure, Lib.cmp_eq]
      rfl
    rw [hr]; rfl
  have Hc := Lib.hid hc
  clear hc h1 h2
  generalize Lib.compareBytes (sumB s) (sumB t) = z at *
  have hc := Hc.out
  go_enter Try.func73, Try.ntmps73
  go_wp2_with (simp only [hc])
  go_ret
  exact ⟨rfl, rfl⟩
set_option maxHeartbeats 1000000 in
set_option maxRecDepth 100000 in
theorem cmp32_any (w : World) (x y : UInt32) :
    Calls Try.prog 74 #[.int .u32 (x.toNat : Int), .int .u32 (y.toNat : Int)] w fun e w' => e = .returned (.int .i64 (Lib.compareInt (x.toNat : Int) (y.toNat : Int))) ∧ w' = w := by
  have hx := x.toNat_lt
  have hy := y.toNat_lt
  generalize x.toNat = x at *
  generalize y.toNat = y at *
  rcases Nat.lt_trichotomy x y with h | h | h
  · have h1 : (x : Int) < (y : Int) := by omega
    have e1 : Lib.compareInt (x : Int) (y : Int) = -1 := by unfold Lib.compareInt; rw [if_pos h1]
    rw [e1]
    go_enter Try.func74, Try.ntmps74
    go_wp2
    go_ret
    exact ⟨rfl, rfl⟩
  · subst h
    have e1 : Lib.compareInt (x : Int) (x : Int) = 0 := (ci_zero _ _).2 rfl
    rw [e1]
    go_enter Try.func74, Try.ntmps74
    go_wp2
    go_ret
    exact ⟨rfl, rfl⟩
  · have h1 : ¬ (x : Int) < (y : Int) := by omega
    have h2 : (y : Int) < (x : Int) := by omega
    have h3 : ¬ x < y := by omega
    have e1 : Lib.compareInt (x : Int) (y : Int) = 1 := by unfold Lib.compareInt; rw [if_neg h1, if_pos h2]
    rw [e1]
    go_enter Try.func74, Try.ntmps74
    go_wp2
    go_ret
    exact ⟨rfl, rfl⟩
set_option maxHeartbeats 1000000 in
set_option maxRecDepth 100000 in
theorem cmpI_any (w : World) (x y : Int) :
    Calls Try.prog 53 #[.int .i64 x, .int .i64 y] w fun e w' => e = .returned (.int .i64 (Lib.compareInt x y)) ∧ w' = w := by
  rcases Int.lt_trichotomy x y with h1 | h | h2
  · have e1 : Lib.compareInt x y = -1 := by unfold Lib.compareInt; rw [if_pos h1]
    rw [e1]
    go_enter Try.func53, Try.ntmps53
    go_wp2
    go_ret
    exact ⟨rfl, rfl⟩
  · subst h
    have e1 : Lib.compareInt x x = 0 := (ci_zero _ _).2 rfl
    rw [e1]
    go_enter Try.func53, Try.ntmps53
    go_wp2
    go_ret
    exact ⟨rfl, rfl⟩
  · have h1 : ¬ x < y := by omega
    have e1 : Lib.compareInt x y = 1 := by unfold Lib.compareInt; rw [if_neg h1, if_pos h2]
    rw [e1]
    go_enter Try.func53, Try.ntmps53
    go_wp2
    go_ret
    exact ⟨rfl, rfl⟩
/-- a world that only grew -/
def Grown (w w' : World) : Prop := ∃ q os, w' = Sort.grow (w.drewN q) os
set_option maxHeartbeats 1000000 in
set_option maxRecDepth 100000 in
theorem order_any (w : World) (a b : KeyT) :
    Calls Try.prog 50 #[keyV a, keyV b] w fun e w' => e = .returned (.int .i64 (cfK a b)) ∧ Grown w w' := by
  obtain ⟨W0, hW0⟩ : ∃ W0, (w.alloc (.cells (keyC a) 27)).alloc (.cells (keyC b) 27) = W0 := ⟨_, rfl⟩
  have HA : Hid (At W0 w.heap.size 0 (keyC a)) := by unfold Hid; rw [← hW0]; exact (At.new _ _ _).alloc _
  have HB : Hid (At W0 (w.heap.size + 1) 0 (keyC b)) := by
    unfold Hid; rw [← hW0]
    have h := At.new (w.alloc (.cells (keyC a) 27)) (keyC b) 27
    rwa [show (w.alloc (.cells (keyC a) 27)).heap.size = w.heap.size + 1 by simp] at h
  obtain ⟨z1, hz1⟩ : ∃ z, Lib.compareBytes (sumB a.sum) (sumB b.sum) = z := ⟨_, rfl⟩
  obtain ⟨z2, hz2⟩ : ∃ z, Lib.compareInt (a.n.toNat : Int) (b.n.toNat : Int) = z := ⟨_, rfl⟩
  have hz : cfK a b = or2 z1 z2 := by unfold cfK; rw [hz1, hz2]
  rw [hz]
  obtain ⟨z3, hz3⟩ : ∃ z, or2 z1 z2 = z := ⟨_, rfl⟩
  have K3 : Hid (∀ w b n, w.cell? ⟨b, 0, none⟩ = some (.int .i64 z1) → w.cell? ⟨b, 1, none⟩ = some (.int .i64 z2) → Calls Try.prog 52 #[.slice (some ⟨b, 0, none⟩) 2 n] w fun e w' => e = .returned (.int .i64 z3) ∧ w' = w) := fun w b n cx cy => by rw [← hz3]; exact or_any w b n z1 z2 cx cy
  rw [hz3]
  have K1 : Hid (Calls Try.prog 73 #[.slice (some ⟨w.heap.size, 0, none⟩) 32 32, .slice (some ⟨w.heap.size + 1, 0, none⟩) 32 32] W0.drew fun e w' => e = .returned (.int .i64 z1) ∧ w' = W0.drew) := by
    rw [← hz1]; exact bcmp_any W0.drew _ _ _ _ _ _ a.sum b.sum (key_at_sum HA.out) (key_at_sum HB.out)
  have K2 : Hid (∀ W, Calls Try.prog 74 #[.int .u32 (a.n.toNat : Int), .int .u32 (b.n.toNat : Int)] W fun e w' => e = .returned (.int .i64 z2) ∧ w' = W) := fun W => by rw [← hz2]; exact cmp32_any W a.n b.n
  have na : W0.cell? ⟨w.heap.size, 32, none⟩ = some (.int .u32 (a.n.toNat : Int)) := by have := key_at_n HA.out; rwa [Nat.zero_add] at this
  have nb : W0.cell? ⟨w.heap.size + 1, 32, none⟩ = some (.int .u32 (b.n.toNat : Int)) := by have := key_at_n HB.out; rwa [Nat.zero_add] at this
  clear hz hz1 hz2 hz3 HA HB
  go_enter Try.func50, Try.ntmps50
  go_wp2
  refine Go.XR.region_sched ((· = W0.drew)) [(0, true), (1, true), (2, true), (3, true), (5, true), (6, true), (7, true), (8, true), (4, false), (9, false), (10, false), (11, false), (12, false)] [9, 10, 11, 12] Try.mixed (by kernel_rfl) (by kernel_rfl) (by kernel_rfl) ?_
  simp only [List.map_cons, List.map_nil, List.getElem?_cons_succ, List.getElem?_cons_zero]
  repeat (first | (refine Go.XR.S_light rfl rfl rfl ?_ (fun w' hS K hK => ?_) (fun K hK => ?_); rotate_left 1; (cases hS; go_step; exact hK); go_step; refine hK _ ?_; clear hK K))
  refine Go.XR.S_heavy (fun K hK => ?_)
  go_step
  ((with_reducible refine (K1.out).mono ?_); rintro e w' ⟨rfl, rfl⟩)
  refine hK _ _ ⟨fun _ => rfl, ?_⟩
  clear hK K
  repeat (first | (refine Go.XR.S_light rfl rfl rfl ?_ (fun w' hS K hK => ?_) (fun K hK => ?_); rotate_left 1; (cases hS; go_step; exact hK); go_step; refine hK _ ?_; clear hK K))
  refine Go.XR.S_heavy (fun K hK => ?_)
  go_step
  ((with_reducible refine (K2.out _).mono ?_); rintro e w' ⟨rfl, rfl⟩)
  refine hK _ _ ⟨fun _ => rfl, ?_⟩
  clear hK K
  repeat (first | (refine Go.XR.S_light rfl rfl rfl ?_ (fun w' hS K hK => ?_) (fun K hK => ?_); rotate_left 1; (cases hS; go_step; exact hK); go_step; refine hK _ ?_; clear hK K))
  refine Go.XR.S_heavy (fun K hK => ?_)
  go_step
  refine hK _ _ ⟨fun h => by simp at h, ?_⟩
  clear hK K
  refine Go.XR.S_heavy (fun K hK => ?_)
  go_step
  ((with_reducible refine (K3.out _ _ _ (by simp) (by simp)).mono ?_); rintro e w' ⟨rfl, rfl⟩)
  refine hK _ _ ⟨fun h => by simp at h, ?_⟩
  clear hK K
  repeat (first | (refine Go.XR.S_heavy (fun K hK => ?_); go_step; refine hK _ _ ⟨fun h => by simp at h, ?_⟩; clear hK K))
  refine Go.XR.S_nil ?_
  go_wp2
  go_ret
  refine ⟨rfl, 1, #[.cells (keyC a) 27, .cells (keyC b) 27, .cells #[.int .i64 z1, .int .i64 z2] 3], ?_⟩
  rw [← hW0, Sort.alloc_eq_grow, Sort.alloc_eq_grow, Sort.alloc_eq_grow, Sort.grow_grow, Sort.grow_grow]
  rfl
theorem Grown.trans {a b c : World} (h : Grown a b) (h' : Grown b c) : Grown a c := by
  obtain ⟨q, os, rfl⟩ := h
  obtain ⟨q', os', rfl⟩ := h'
  refine ⟨q + q', os ++ os', ?_⟩
  have e : (Sort.grow (a.drewN q) os).drewN q' = Sort.grow (a.drewN (q + q')) os := by
    simp [Sort.grow, World.drewN, Nat.add_assoc]
  rw [e, Sort.grow_grow]
theorem Grown.alloc (w : World) (o : Obj) : Grown w (w.alloc o) := ⟨0, #[o], by rw [Sort.alloc_eq_grow]; rfl⟩
theorem Grown.drew (w : World) : Grown w w.drew := ⟨1, #[], by rw [Sort.grow_empty]; rfl⟩
theorem Grown.below {w w' : World} (h : Grown w w') : Below w.heap.size w w' := by
  obtain ⟨q, os, rfl⟩ := h
  exact ⟨rfl, rfl, rfl, by rw [Sort.size_grow]; exact Nat.le_add_right _ _, fun k hk => Sort.heap_grow_old _ _ hk⟩
theorem row_at_key {w : World} {b o : Nat} {r : KeyT × PlaceT} (h : At w b o (rowC r)) : At w b o (keyC r.1) := by
  have := h.sub 0 33
  rwa [rowC_key, Nat.add_zero] at this
theorem row_at_place {w : World} {b o : Nat} {r : KeyT × PlaceT} (h : At w b o (rowC r)) : At w b (o + 33) (placeC r.2) := by
  have := h.sub 33 2
  rwa [rowC_place] at this
theorem row_at_slot {w : World} {b o : Nat} {r : KeyT × PlaceT} (h : At w b o (rowC r)) : w.cell? ⟨b, o + 34, none⟩ = some (.int .i64 r.2.slot) := h 34 _ (rowC_slot r)
theorem row_at_shelf {w : World} {b o : Nat} {r : KeyT × PlaceT} (h : At w b o (rowC r)) : w.cell? ⟨b, o + 33, none⟩ = some (.int .i64 r.2.shelf) := h 33 _ (rowC_shelf r)
set_option maxHeartbeats 1000000 in
set_option maxRecDepth 100000 in
theorem cmpA_any (x y : KeyT × PlaceT) (w : World) :
    Calls Try.prog 49 #[rowV x, rowV y] w fun e w' => e = .returned (.int .i64 (cfA x y)) ∧ Grown w w' := by
  obtain ⟨W0, hW0⟩ : ∃ W0, (w.alloc (.cells (rowC x) 35)).alloc (.cells (rowC y) 35) = W0 := ⟨_, rfl⟩
  have HA : Hid (At W0 w.heap.size 0 (keyC x.1)) := by unfold Hid; rw [← hW0]; exact row_at_key ((At.new _ _ _).alloc _)
  have HB : Hid (At W0 (w.heap.size + 1) 0 (keyC y.1)) := by
    unfold Hid; rw [← hW0]
    have h := At.new (w.alloc (.cells (rowC x) 35)) (rowC y) 35
    rw [show (w.alloc (.cells (rowC x) 35)).heap.size = w.heap.size + 1 by simp] at h
    exact row_at_key h
  have hg : Grown w W0 := by rw [← hW0]; exact (Grown.alloc _ _).trans (Grown.alloc _ _)
  have Hg := Lib.hid hg
  clear hg
  go_enter Try.func49, Try.ntmps49
  go_wp2_with (first | (refine wpList_load_at rfl 27 (.tmp 5) rfl w.heap.size 0 rfl (keyC x.1) HA.out _ Try.underlying27 rfl (keySize x.1) ?_) | (refine wpList_load_at rfl 27 (.tmp 7) rfl (w.heap.size + 1) 0 rfl (keyC y.1) HB.out _ Try.underlying27 rfl (keySize y.1) ?_) | fail)
  refine (order_any W0 x.1 y.1).mono ?_
  rintro e w2 ⟨rfl, hg2⟩
  have Hg2 := Lib.hid (Hg.out.trans hg2)
  clear hg2
  go_wp2
  go_ret
  exact ⟨rfl, Hg2.out⟩
set_option maxHeartbeats 1000000 in
set_option maxRecDepth 100000 in
theorem cmpS_any (x y : KeyT × PlaceT) (w : World) :
    Calls Try.prog 51 #[rowV x, rowV y] w fun e w' => e = .returned (.int .i64 (cfS x y)) ∧ Grown w w' := by
  obtain ⟨W0, hW0⟩ : ∃ W0, (w.alloc (.cells (rowC x) 35)).alloc (.cells (rowC y) 35) = W0 := ⟨_, rfl⟩
  have hA : At W0 w.heap.size 0 (rowC x) := by rw [← hW0]; exact (At.new _ _ _).alloc _
  have hB : At W0 (w.heap.size + 1) 0 (rowC y) := by
    rw [← hW0]
    have h := At.new (w.alloc (.cells (rowC x) 35)) (rowC y) 35
    rwa [show (w.alloc (.cells (rowC x) 35)).heap.size = w.heap.size + 1 by simp] at h
  have HA := Lib.hid (row_at_key hA)
  have HB := Lib.hid (row_at_key hB)
  have sa : W0.cell? ⟨w.heap.size, 34, none⟩ = some (.int .i64 x.2.slot) := by have := row_at_slot hA; rwa [Nat.zero_add] at this
  have sb : W0.cell? ⟨w.heap.size + 1, 34, none⟩ = some (.int .i64 y.2.slot) := by have := row_at_slot hB; rwa [Nat.zero_add] at this
  have Hg : Hid (Grown w W0.drew) := by
    have : Grown w W0 := by rw [← hW0]; exact (Grown.alloc _ _).trans (Grown.alloc _ _)
    exact this.trans (Grown.drew _)
  obtain ⟨z1, hz1⟩ : ∃ z, Lib.compareInt x.2.slot y.2.slot = z := ⟨_, rfl⟩
  obtain ⟨z2, hz2⟩ : ∃ z, cfK x.1 y.1 = z := ⟨_, rfl⟩
  have hz : cfS x y = or2 z1 z2 := by unfold cfS; rw [hz1, hz2]
  rw [hz]
  obtain ⟨z3, hz3⟩ : ∃ z, or2 z1 z2 = z := ⟨_, rfl⟩
  have K3 : Hid (∀ w b n, w.cell? ⟨b, 0, none⟩ = some (.int .i64 z1) → w.cell? ⟨b, 1, none⟩ = some (.int .i64 z2) → Calls Try.prog 52 #[.slice (some ⟨b, 0, none⟩) 2 n] w fun e w' => e = .returned (.int .i64 z3) ∧ w' = w) := fun w b n cx cy => by rw [← hz3]; exact or_any w b n z1 z2 cx cy
  rw [hz3]
  have K1 : Hid (∀ W, Calls Try.prog 53 #[.int .i64 x.2.slot, .int .i64 y.2.slot] W fun e w' => e = .returned (.int .i64 z1) ∧ w' = W) := fun W => by rw [← hz1]; exact cmpI_any W _ _
  have K2 : Hid (∀ W, Calls Try.prog 50 #[keyV x.1, keyV y.1] W fun e w' => e = .returned (.int .i64 z2) ∧ Grown W w') := fun W => by rw [← hz2]; exact order_any W x.1 y.1
  clear hz hz1 hz2 hz3 hA hB
  go_enter Try.func51, Try.ntmps51
  go_wp2
  refine Go.XR.region_sched ((· = W0.drew)) [(0, true), (1, true), (2, true), (3, true), (4, true), (5, true), (7, true), (8, true), (9, true), (10, true), (6, false), (11, false), (12, false), (13, false), (14, false)] [11, 12, 13, 14] Try.mixed (by kernel_rfl) (by kernel_rfl) (by kernel_rfl) ?_
  simp only [List.map_cons, List.map_nil, List.getElem?_cons_succ, List.getElem?_cons_zero]
  repeat (first | (refine Go.XR.S_light rfl rfl rfl ?_ (fun w' hS K hK => ?_) (fun K hK => ?_); rotate_left 1; (cases hS; (first | (first | (refine Go.XR.wp_load_at 27 (.tmp 12) rfl w.heap.size 0 rfl (keyC x.1) (At.drew HA.out) _ Try.underlying27 rfl (keySize x.1) ?_) | (refine Go.XR.wp_load_at 27 (.tmp 14) rfl (w.heap.size + 1) 0 rfl (keyC y.1) (At.drew HB.out) _ Try.underlying27 rfl (keySize y.1) ?_)) | go_step); exact hK); go_step; refine hK _ ?_; clear hK K))
  refine Go.XR.S_heavy (fun K hK => ?_)
  go_step
  ((with_reducible refine (K1.out _).mono ?_); rintro e w' ⟨rfl, rfl⟩)
  refine hK _ _ ⟨fun _ => rfl, ?_⟩
  clear hK K
  repeat (first | (refine Go.XR.S_light rfl rfl rfl ?_ (fun w' hS K hK => ?_) (fun K hK => ?_); rotate_left 1; (cases hS; (first | (first | (refine Go.XR.wp_load_at 27 (.tmp 12) rfl w.heap.size 0 rfl (keyC x.1) (At.drew HA.out) _ Try.underlying27 rfl (keySize x.1) ?_) | (refine Go.XR.wp_load_at 27 (.tmp 14) rfl (w.heap.size + 1) 0 rfl (keyC y.1) (At.drew HB.out) _ Try.underlying27 rfl (keySize y.1) ?_)) | go_step); exact hK); go_step; refine hK _ ?_; clear hK K))
  refine Go.XR.S_heavy (fun K hK => ?_)
  go_step
  ((with_reducible refine (K2.out W0.drew).mono ?_); rintro e w2 ⟨rfl, hg2⟩)
  have Hg2 := Lib.hid (Hg.out.trans hg2)
  clear hg2
  refine hK _ _ ⟨fun h => by simp at h, ?_⟩
  clear hK K
  refine Go.XR.S_heavy (fun K hK => ?_)
  go_step
  refine hK _ _ ⟨fun h => by simp at h, ?_⟩
  clear hK K
  refine Go.XR.S_heavy (fun K hK => ?_)
  go_step
  ((with_reducible refine (K3.out _ _ _ (by simp) (by simp)).mono ?_); rintro e w' ⟨rfl, rfl⟩)
  refine hK _ _ ⟨fun h => by simp at h, ?_⟩
  clear hK K
  repeat (first | (refine Go.XR.S_heavy (fun K hK => ?_); go_step; refine hK _ _ ⟨fun h => by simp at h, ?_⟩; clear hK K))
  refine Go.XR.S_nil ?_
  go_wp2
  go_ret
  exact ⟨rfl, Hg2.out.trans (Grown.alloc _ _)⟩
set_option maxHeartbeats 1000000 in
set_option maxRecDepth 100000 in
theorem less_any (w : World) (a b : KeyT) :
    Calls Try.prog 21 #[keyV a, keyV b] w (RetBool w (decide (cfK a b < 0))) := by
  obtain ⟨W0, hW0⟩ : ∃ W0, (w.alloc (.cells (keyC a) 27)).alloc (.cells (keyC b) 27) = W0 := ⟨_, rfl⟩
  have HA : Hid (At W0 w.heap.size 0 (keyC a)) := by unfold Hid; rw [← hW0]; exact (At.new _ _ _).alloc _
  have HB : Hid (At W0 (w.heap.size + 1) 0 (keyC b)) := by
    unfold Hid; rw [← hW0]
    have h := At.new (w.alloc (.cells (keyC a) 27)) (keyC b) 27
    rwa [show (w.alloc (.cells (keyC a) 27)).heap.size = w.heap.size + 1 by simp] at h
  have hb0 : Below w.heap.size w W0 := by rw [← hW0]; exact ((Below.refl _ _).alloc (Nat.le_refl _) _).alloc (by simp) _
  have Hb0 := Lib.hid hb0
  have na : W0.cell? ⟨w.heap.size, 32, none⟩ = some (.int .u32 (a.n.toNat : Int)) := by have := key_at_n HA.out; rwa [Nat.zero_add] at this
  have nb : W0.cell? ⟨w.heap.size + 1, 32, none⟩ = some (.int .u32 (b.n.toNat : Int)) := by have := key_at_n HB.out; rwa [Nat.zero_add] at this
  obtain ⟨S1, hS1⟩ : ∃ S, strOfNums (a.sum.toList.map fun b => (b.toNat : Int)) = S := ⟨_, rfl⟩
  obtain ⟨S2, hS2⟩ : ∃ S, strOfNums (b.sum.toList.map fun b => (b.toNat : Int)) = S := ⟨_, rfl⟩
  have k1 : ∀ dst, Try.prog.underlying dst = some .string → (convert 72 dst (.slice (some ⟨w.heap.size, 0, none⟩) 32 32)).run Try.prog W0 = .ok (.string S1) W0 := by
    rw [← hS1]
    exact run_convert_bytes_arg W0 72 5 Try.underlying72 Try.underlying5 _ 0 32 32 _ (sum_len a.sum) (fun i hi => sum_cell (key_at_sum HA.out) hi)
  have k2 : ∀ dst, Try.prog.underlying dst = some .string → (convert 72 dst (.slice (some ⟨w.heap.size + 1, 0, none⟩) 32 32)).run Try.prog W0 = .ok (.string S2) W0 := by
    rw [← hS2]
    exact run_convert_bytes_arg W0 72 5 Try.underlying72 Try.underlying5 _ 0 32 32 _ (sum_len b.sum) (fun i hi => sum_cell (key_at_sum HB.out) hi)
  have k1' := k1 9 Try.underlying9
  have k2' := k2 9 Try.underlying9
  clear hb0 HA HB k1 k2
  go_enter Try.func21, Try.ntmps21
  have e1 : S1.toList = sumB a.sum := by rw [← hS1, Lib.toList_data, strOfNums_data]; exact sum_bytes a.sum
  have e2 : S2.toList = sumB b.sum := by rw [← hS2, Lib.toList_data, strOfNums_data]; exact sum_bytes b.sum
  have E1 := Lib.hid e1
  have E2 := Lib.hid e2
  clear e1 e2 hS1 hS2
  go_wp2
  all_goals go_ret
  · rename_i h1
    rw [E1.out, E2.out, less_cb, decide_eq_true_iff] at h1
    have h2 : cfK a b < 0 := by unfold cfK; rw [or2_ne _ (by omega)]; exact h1
    exact ⟨by rw [decide_eq_true h2]; rfl, Hb0.out⟩
  · rename_i h2 h1
    rw [E1.out, E2.out] at h1 h2
    have h3 : sumB a.sum = sumB b.sum := h1
    have h4 : cfK a b < 0 ↔ a.n.toNat < b.n.toNat := by
      unfold cfK
      rw [h3, cb_self, or2_zero, ci_lt]; omega
    exact ⟨by rw [decide_eq_decide.2 h4]; rfl, Hb0.out⟩
  · rename_i h2 h1
    rw [E1.out, E2.out] at h1 h2
    rw [less_cb, Bool.not_eq_true, decide_eq_false_iff_not] at h2
    have h3 : Lib.compareBytes (sumB a.sum) (sumB b.sum) ≠ 0 := fun e => h1 (by rw [cb_zero _ _ e])
    have h4 : ¬ cfK a b < 0 := by unfold cfK; rw [or2_ne _ h3]; exact h2
    exact ⟨by rw [decide_eq_false h4]; rfl, Hb0.out⟩
end Go.Proofs.Ytnfbchhbcinloaa
