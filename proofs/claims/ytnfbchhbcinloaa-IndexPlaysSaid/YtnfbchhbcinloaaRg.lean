/- A range over a map known pair by pair, as steps of a walk. -/
import Derived.Test.YtnfbchhbcinloaaGl
import Derived.Laws.IdiomRangeMap
namespace Go.XR
open Go Go.RowKit
section
variable {κ ν : Type} [DecidableEq κ] {kv : κ → Value} {vv : ν → Value} {P : Program} {k t e : TypeId} {w : World} {m : Nat} {D : List (κ × ν)} {ops : Array Oper} {rest : List Oper} {o : Oper} {a : Act} {Q : Exit → Act → World → Prop}
omit [DecidableEq κ] in
theorem wpList_gm_range (hg : o.guard = none) (x : Operand) (t : TypeId) (hop : o.op = .range t x) (ht : P.underlying t = some (.map k e)) (hm : a.eval x = .map (some m)) (h : GM kv vv w m D)
    (hK : ∀ w', GR kv vv w' m w.heap.size D D → Below w.heap.size w w' → w'.heap.size = w.heap.size + 1 → wpList P ops Q rest (a.put o.dst (.pointer (some ⟨w.heap.size, 0, none⟩))) w') : wpList P ops Q (o :: rest) a w := by
  refine wpList_plain hg fun K' hK' => ?_
  obtain ⟨w', hrun, r1, r2, r3⟩ := h.range (P := P) ht
  unfold Oper.wp execOp
  simp only [hop, hm, Sem.run_bind, hrun, Result.andThen_ok, Sem.run_pure]
  exact hK' _ _ (hK w' r1 r2 r3)
theorem wpList_gr_next (hg : o.guard = none) (it : Operand) (hop : o.op = .next it false) (K : KeysOk P k kv) (r : Nat) (left : List (κ × ν)) (hit : a.eval it = .pointer (some ⟨r, 0, none⟩)) (h : GR kv vv w m r D left)
    (hDone : left = [] → wpList P ops Q rest (a.put o.dst (.tuple #[.bool false])) w)
    (hMore : ∀ c b w', (c, b) ∈ left → GR kv vv w' m r D (adel left c) → w.grownBy w' (some r) → w'.heap.size = w.heap.size → (Instr.entry (.pointer (some ⟨r, 0, none⟩))).run P w' = .ok (.tuple #[kv c, vv b]) w' → wpList P ops Q rest (a.put o.dst (.tuple #[.bool true, kv c, vv b])) w') :
    wpList P ops Q (o :: rest) a w := by
  refine wpList_plain hg fun K' hK' => ?_
  unfold Oper.wp execOp
  rcases h.next K o.type with ⟨h0, hrun⟩ | ⟨c, b, w', hm, hrun, hgr, hgb, hsz, hen⟩
  · simp only [hop, hit, Sem.run_bind, hrun, Result.andThen_ok, Sem.run_pure]
    exact hK' _ _ (hDone h0)
  · simp only [hop, hit, Sem.run_bind, hrun, Result.andThen_ok, Sem.run_pure]
    exact hK' _ _ (hMore c b w' hm hgr hgb hsz hen)
theorem wpList_entry (hg : o.guard = none) (it : Operand) (hop : o.op = .entry it) (r : Nat) (hit : a.eval it = .pointer (some ⟨r, 0, none⟩)) (v : Value) (hen : (Instr.entry (.pointer (some ⟨r, 0, none⟩))).run P w = .ok v w)
    (hK : wpList P ops Q rest (a.put o.dst v) w) : wpList P ops Q (o :: rest) a w := by
  refine wpList_plain hg fun K' hK' => ?_
  unfold Oper.wp execOp
  simp only [hop, hit, Sem.run_bind, hen, Result.andThen_ok, Sem.run_pure]
  exact hK' _ _ hK
theorem run_next_none {r : Nat} {a b : Nat} {s : Array Nat} (h : w.heap[r]? = some (.mapIter none a s b)) (ty : TypeId) :
    (Instr.next (.pointer (some ⟨r, 0, none⟩)) false ty).run P w = .ok (.tuple #[.bool false]) w := by
  simp only [Instr.next, getObj, Sem.run_bind, Sem.run, h, Result.andThen]
  rfl
theorem wpList_next_none (hg : o.guard = none) (it : Operand) (hop : o.op = .next it false) (r : Nat) (hit : a.eval it = .pointer (some ⟨r, 0, none⟩)) {x y : Nat} {s : Array Nat} (h : w.heap[r]? = some (.mapIter none x s y))
    (hK : wpList P ops Q rest (a.put o.dst (.tuple #[.bool false])) w) : wpList P ops Q (o :: rest) a w := by
  refine wpList_plain hg fun K' hK' => ?_
  unfold Oper.wp execOp
  have hrun := run_next_none (P := P) h o.type
  simp only [hop, hit, Sem.run_bind, hrun, Result.andThen_ok, Sem.run_pure]
  exact hK' _ _ hK
theorem wpList_range_none (hg : o.guard = none) (x : Operand) (t : TypeId) (hop : o.op = .range t x) (ht : P.underlying t = some (.map k e)) (hm : a.eval x = .map none)
    (hK : wpList P ops Q rest (a.put o.dst (.pointer (some ⟨w.heap.size, 0, none⟩))) (w.alloc (.mapIter none 0 #[] 0))) : wpList P ops Q (o :: rest) a w := by
  refine wpList_plain hg fun K' hK' => ?_
  have hrun := run_range_nilMap (P := P) w t k e ht
  unfold Oper.wp execOp
  simp only [hop, hm, Sem.run_bind, hrun, Result.andThen_ok, Sem.run_pure]
  exact hK' _ _ hK
/-- one pair taken out -/
theorem adel_perm {left : List (κ × ν)} (hnd : (left.map (·.1)).Nodup) {c : κ} {b : ν} (hm : (c, b) ∈ left) : left.Perm ((c, b) :: adel left c) := by
  induction left with
  | nil => cases hm
  | cons q left ih =>
    rw [List.map_cons, List.nodup_cons] at hnd
    unfold adel
    rcases List.mem_cons.1 hm with rfl | hm'
    · rw [List.filter_cons_of_neg (by simp)]
      have : left.filter (fun p => decide (p.1 ≠ c)) = left := by
        rw [List.filter_eq_self]
        intro p hp
        refine decide_eq_true fun e => hnd.1 ?_
        exact List.mem_map.2 ⟨p, hp, e⟩
      rw [this]
    · have hne : q.1 ≠ c := fun e => hnd.1 (List.mem_map.2 ⟨(c, b), hm', e.symm⟩)
      rw [List.filter_cons_of_pos (by simpa using hne)]
      exact (List.Perm.cons q (ih hnd.2 hm')).trans (List.Perm.swap _ _ _)
end
end Go.XR
