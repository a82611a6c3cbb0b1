/- Slices built of aggregates whose cells are not written out. -/
import Derived.Test.YtnfbchhbcinloaaBut
import Derived.Test.YtnfbchhbcinloaaAe
namespace Go.XR
open Go Go.RowKit
theorem foldl_put (off : Nat) : ∀ (l : List Value) (i : Nat) (a : Array Value), off + i + l.length ≤ a.size →
    (l.zipIdx i).foldl (fun (a : Array Value) (p : Value × Nat) => a.setIfInBounds (off + p.2) p.1) a = (a.toList.take (off + i) ++ l ++ a.toList.drop (off + i + l.length)).toArray
  | [], i, a, h => by simp
  | v :: l, i, a, h => by
    rw [List.length_cons] at h
    rw [List.zipIdx_cons, List.foldl_cons, foldl_put off l (i + 1) _ (by simp; omega)]
    congr 1
    have hi : off + i < a.toList.length := by rw [Array.length_toList]; omega
    rw [Array.toList_setIfInBounds, show off + (i + 1) = off + i + 1 by omega, List.take_succ_eq_append_getElem (by rw [List.length_set]; exact hi), List.getElem_set_self, List.take_set_of_le (Nat.le_refl _), List.drop_set_of_lt (by omega), List.length_cons]
    simp only [List.append_assoc, List.singleton_append, List.cons_append, List.nil_append]
    rw [show off + i + 1 + l.length = off + i + (l.length + 1) by omega]
theorem fill_step (place : Nat → Option (Nat × Nat)) {i off size : Nat} {v : Value} (cells : Array Value) (rest : List (Nat × Value)) (hp : place i = some (off, size)) (hv : v.cells.size = size) (hc : off + size ≤ cells.size) :
    Instr.fill place cells ((i, v) :: rest) = Instr.fill place (cells.toList.take off ++ v.cells.toList ++ cells.toList.drop (off + size)).toArray rest := by
  have hf := foldl_put off v.cells.toList 0 cells (by rw [Array.length_toList, Nat.add_zero, hv]; exact hc)
  rw [Nat.add_zero, Array.length_toList, hv] at hf
  have e : v.cells.zipIdx.foldl (fun (a : Array Value) (p : Value × Nat) => a.setIfInBounds (off + p.2) p.1) cells = (v.cells.toList.zipIdx 0).foldl (fun (a : Array Value) (p : Value × Nat) => a.setIfInBounds (off + p.2) p.1) cells := by
    rw [← Array.foldl_toList, Array.toList_zipIdx]
  conv => lhs; unfold Instr.fill
  rw [hp]
  dsimp only
  rw [if_neg (by simp [hv]; omega)]
  congr 1
  rw [← hf, ← e]
section
variable {P : Program} {w : World}
theorem run_build_one {t e : TypeId} {k : Nat} (ht : P.underlying t = some (.slice e)) (hi : (P.info? e).map (·.size) = some k) (hk0 : 0 < k) (hk1 : k ≤ 1000) {z : Value} (hz : (zeroValue e).run P w = .ok z w) (v : Value) (hv : v.cells.size = k) :
    (Instr.buildSlice t 1 #[(0, v)]).run P w = .ok (.slice (some ⟨w.heap.size, 0, none⟩) 1 1) (w.alloc (.cells v.cells e)) := by
  have hfill : ∀ c : Array Value, c.size = k → Instr.fill (fun i => some (i * k, k)) c [(0, v)] = some v.cells := fun c hc => by
    rw [fill_step (off := 0) (size := k) _ c [] (by simp) hv (by omega)]
    show some _ = _
    congr 1
    rw [List.take_zero, List.nil_append, List.drop_eq_nil_of_le (by rw [Array.length_toList]; omega), List.append_nil, Array.toArray_toList]
  unfold Instr.buildSlice
  simp only [Sem.run_bind, run_underlying ht, Result.andThen_ok, run_sizeOf_eq hi, Nat.one_mul, List.toList_toArray]
  rw [if_neg (by omega), if_neg (by omega)]
  simp only [Sem.run_bind, Sem.run_pure, hz, Result.andThen_ok]
  rw [hfill _ (by simp)]
  simp [newRow, Result.andThen]
theorem run_build_two {t e : TypeId} {k : Nat} (ht : P.underlying t = some (.slice e)) (hi : (P.info? e).map (·.size) = some k) (hk0 : 0 < k) (hk1 : k ≤ 1000) {z : Value} (hz : (zeroValue e).run P w = .ok z w) (v u : Value) (hv : v.cells.size = k) (hu : u.cells.size = k) :
    (Instr.buildSlice t 2 #[(0, v), (1, u)]).run P w = .ok (.slice (some ⟨w.heap.size, 0, none⟩) 2 2) (w.alloc (.cells (v.cells ++ u.cells) e)) := by
  have hfill : ∀ c : Array Value, c.size = 2 * k → Instr.fill (fun i => some (i * k, k)) c [(0, v), (1, u)] = some (v.cells ++ u.cells) := fun c hc => by
    rw [fill_step (off := 0) (size := k) _ c _ (by simp) hv (by omega)]
    rw [fill_step (off := k) (size := k) _ _ [] (by simp) hu (by simp [hv]; omega)]
    show some _ = _
    congr 1
    rw [List.take_zero, List.nil_append, Nat.zero_add]
    have h1 : v.cells.toList.length = k := by rw [Array.length_toList, hv]
    have e1 : (v.cells.toList ++ c.toList.drop k).take k = v.cells.toList := List.take_left' h1
    have e2 : (v.cells.toList ++ c.toList.drop k).drop (k + k) = [] := List.drop_eq_nil_of_le (by simp [hv]; omega)
    simp only [e1, e2, List.append_nil]
    apply Array.ext'
    simp
  unfold Instr.buildSlice
  simp only [Sem.run_bind, run_underlying ht, Result.andThen_ok, run_sizeOf_eq hi, List.toList_toArray]
  rw [if_neg (by omega), if_neg (by omega)]
  simp only [Sem.run_bind, Sem.run_pure, hz, Result.andThen_ok]
  rw [hfill _ (by simp)]
  simp [newRow, Result.andThen]
theorem wp_build_one {o : Oper} {a : Act} {K : Act → World → Prop} {Q : Exit → Act → World → Prop} (t : TypeId) (x : Operand) (ho : o.op = .buildSlice t 1 #[(0, x)]) (e : TypeId) (k : Nat) (ht : P.underlying t = some (.slice e)) (hi : (P.info? e).map (·.size) = some k) (hk0 : 0 < k) (hk1 : k ≤ 1000)
    (z : Value) (hz : (zeroValue e).run P w = .ok z w) (cs : Array Value) (hv : a.eval x = .agg cs) (hs : cs.size = k)
    (hK : K (a.put o.dst (.slice (some ⟨w.heap.size, 0, none⟩) 1 1)) (w.alloc (.cells cs e))) : o.wp P a w K Q := by
  have hr := run_build_one ht hi hk0 hk1 hz (.agg cs) hs
  unfold Oper.wp execOp
  simp only [ho, List.map_toArray, List.map_cons, List.map_nil, hv, Sem.run_bind, hr, Result.andThen_ok, Sem.run_pure]
  exact hK
theorem wpList_build_one {ops : Array Oper} {rest : List Oper} {o : Oper} {a : Act} {Q : Exit → Act → World → Prop} (hgd : o.guard = none) (t : TypeId) (x : Operand) (ho : o.op = .buildSlice t 1 #[(0, x)]) (e : TypeId) (k : Nat) (ht : P.underlying t = some (.slice e)) (hi : (P.info? e).map (·.size) = some k) (hk0 : 0 < k) (hk1 : k ≤ 1000)
    (z : Value) (hz : (zeroValue e).run P w = .ok z w) (cs : Array Value) (hv : a.eval x = .agg cs) (hs : cs.size = k)
    (hK : wpList P ops Q rest (a.put o.dst (.slice (some ⟨w.heap.size, 0, none⟩) 1 1)) (w.alloc (.cells cs e))) : wpList P ops Q (o :: rest) a w :=
  wpList_plain hgd fun _ hK' => wp_build_one t x ho e k ht hi hk0 hk1 z hz cs hv hs (hK' _ _ hK)
theorem wpList_build_two {ops : Array Oper} {rest : List Oper} {o : Oper} {a : Act} {Q : Exit → Act → World → Prop} (hgd : o.guard = none) (t : TypeId) (x y : Operand) (ho : o.op = .buildSlice t 2 #[(0, x), (1, y)]) (e : TypeId) (k : Nat) (ht : P.underlying t = some (.slice e)) (hi : (P.info? e).map (·.size) = some k) (hk0 : 0 < k) (hk1 : k ≤ 1000)
    (z : Value) (hz : (zeroValue e).run P w = .ok z w) (cs ds : Array Value) (hv : a.eval x = .agg cs) (hu : a.eval y = .agg ds) (hs : cs.size = k) (hs2 : ds.size = k)
    (hK : wpList P ops Q rest (a.put o.dst (.slice (some ⟨w.heap.size, 0, none⟩) 2 2)) (w.alloc (.cells (cs ++ ds) e))) : wpList P ops Q (o :: rest) a w :=
  wpList_plain hgd fun _ hK' => by
    have hr := run_build_two ht hi hk0 hk1 hz (.agg cs) (.agg ds) hs hs2
    unfold Oper.wp execOp
    simp only [ho, List.map_toArray, List.map_cons, List.map_nil, hv, hu, Sem.run_bind, hr, Result.andThen_ok, Sem.run_pure]
    exact hK' _ _ hK
end
end Go.XR
