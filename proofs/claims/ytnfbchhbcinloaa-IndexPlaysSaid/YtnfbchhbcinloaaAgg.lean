/- Aggregates of many cells: read and written whole, their cells never written out. -/
import Derived.Test.YtnfbchhbcinloaaLaws
import Derived.Laws.Rows
import Derived.Laws.CopyRow
import Derived.Below
namespace Go.XR
open Go Go.RowKit

/-- the cells cs lie in w from block g, place off on -/
def At (w : World) (g off : Nat) (cs : Array Value) : Prop := ∀ j u, cs[j]? = some u → w.cell? ⟨g, off + j, none⟩ = some u

theorem At.new (w : World) (cs : Array Value) (T : TypeId) : At (w.alloc (.cells cs T)) w.heap.size 0 cs := fun j u h => by
  rw [World.cell?_alloc_new, Nat.zero_add]; exact h
theorem At.heap {w w' : World} {g off : Nat} {cs : Array Value} (h : At w g off cs) (hh : w'.heap[g]? = w.heap[g]?) : At w' g off cs := fun j u hj => by
  have := h j u hj
  unfold World.cell? at this ⊢
  dsimp only at this ⊢
  rw [hh]; exact this
theorem At.below {w w' : World} {g off : Nat} {cs : Array Value} (h : At w g off cs) (hne : 0 < cs.size) (hb : Below w.heap.size w w') : At w' g off cs :=
  h.heap (hb.block g (by have := cell_lt (h 0 cs[0] (Array.getElem?_eq_getElem hne)); exact this))
theorem At.alloc {w : World} {g off : Nat} {cs : Array Value} (h : At w g off cs) (o : Obj) : At (w.alloc o) g off cs := fun j u hj => by
  have h1 := h j u hj
  rw [World.cell?_alloc_old _ _ _ (Nat.ne_of_lt (cell_lt h1))]; exact h1
theorem At.drew {w : World} {g off : Nat} {cs : Array Value} (h : At w g off cs) : At w.drew g off cs := h
theorem At.sub {w : World} {g off : Nat} {cs : Array Value} (h : At w g off cs) (i n : Nat) : At w g (off + i) (cs.extract i (i + n)) := fun j u hj => by
  rw [Array.getElem?_extract] at hj
  split at hj
  · rw [Nat.add_assoc]; exact h _ u hj
  · cases hj
theorem At.lt {w : World} {g off : Nat} {cs : Array Value} (h : At w g off cs) (hne : 0 < cs.size) : g < w.heap.size := cell_lt (h 0 cs[0] (Array.getElem?_eq_getElem hne))

section
variable {P : Program} {w : World}

theorem run_isAgg {ty : TypeId} {d : TypeDesc} (hu : P.underlying ty = some d) (hd : (match d with | .struct _ | .array _ _ => true | _ => false) = true) : (isAgg ty).run P w = .ok true w := by
  unfold isAgg
  rw [Sem.run_bind, run_underlying hu w]
  cases d <;> simp_all
theorem run_sizeOf_eq {ty : TypeId} {n : Nat} (hi : (P.info? ty).map (·.size) = some n) : (sizeOf ty).run P w = .ok n w := by
  cases hq : P.info? ty with
  | none => simp [hq] at hi
  | some i =>
    have hs : i.size = n := by simpa [hq] using hi
    simp [sizeOf, typeInfo, hq, hs]

theorem run_loadVar_at {g off : Nat} {ty : TypeId} {cs : Array Value} {d : TypeDesc} (h : At w g off cs)
    (hu : P.underlying ty = some d) (hd : (match d with | .struct _ | .array _ _ => true | _ => false) = true) (hi : (P.info? ty).map (·.size) = some cs.size) :
    (loadVar ty ⟨g, off, none⟩).run P w = .ok (.agg cs) w := by
  have hl : (loadCells ⟨g, off, none⟩ cs.toList.length).run P w = .ok cs.toList.toArray w :=
    run_loadCells_list (P := P) w ⟨g, off, none⟩ cs.toList (fun j v hv => by
      have hadd : (⟨g, off, none⟩ : Addr).add j = ⟨g, off + j, none⟩ := by unfold Addr.add; split <;> simp_all
      rw [hadd]
      exact h j v (by simpa using hv))
  simp only [Array.length_toList, Array.toArray_toList] at hl
  simp [loadVar, Sem.run_bind, run_isAgg hu hd, run_sizeOf_eq hi, hl]

theorem wp_load_at {o : Oper} {a : Act} {K : Act → World → Prop} {Q : Exit → Act → World → Prop} (ty : TypeId) (x : Operand) (ho : o.op = .load ty x)
    (g off : Nat) (hx : a.eval x = .pointer (some ⟨g, off, none⟩)) (cs : Array Value) (h : At w g off cs) (d : TypeDesc)
    (hu : P.underlying ty = some d) (hd : (match d with | .struct _ | .array _ _ => true | _ => false) = true) (hi : (P.info? ty).map (·.size) = some cs.size)
    (hK : K (a.put o.dst (.agg cs)) w) : o.wp P a w K Q := by
  unfold Oper.wp execOp
  simp only [ho, hx, Instr.loadAt, Instr.sureAddr, Sem.run_bind, Sem.run_pure, Result.andThen_ok, run_loadVar_at h hu hd hi]
  exact hK
theorem wpList_load_at {ops : Array Oper} {rest : List Oper} {o : Oper} {a : Act} {Q : Exit → Act → World → Prop} (hgd : o.guard = none) (ty : TypeId) (x : Operand) (ho : o.op = .load ty x)
    (g off : Nat) (hx : a.eval x = .pointer (some ⟨g, off, none⟩)) (cs : Array Value) (h : At w g off cs) (d : TypeDesc)
    (hu : P.underlying ty = some d) (hd : (match d with | .struct _ | .array _ _ => true | _ => false) = true) (hi : (P.info? ty).map (·.size) = some cs.size)
    (hK : wpList P ops Q rest (a.put o.dst (.agg cs)) w) : wpList P ops Q (o :: rest) a w :=
  wpList_plain hgd fun _ hK' => wp_load_at ty x ho g off hx cs h d hu hd hi (hK' _ _ hK)

theorem alloc_setRow (w : World) (zs cs : Array Value) (T : TypeId) : (w.alloc (.cells zs T)).setRow w.heap.size cs = w.alloc (.cells cs T) := by
  unfold World.setRow World.alloc
  congr 1
  refine Array.ext_getElem? fun i => ?_
  simp only [Array.getElem?_modify, Array.getElem?_push]
  by_cases h : i = w.heap.size
  · subst h; simp
  · rw [if_neg (fun e => h e.symm), if_neg h, if_neg h]

theorem run_storeVar_at {g off : Nat} {ty t : TypeId} {cur cs : Array Value} (hg : w.heap[g]? = some (.cells cur t (0, 0))) (hl : off + cs.size ≤ cur.size) (h1 : ∀ v ∈ cs.toList, v.oneCell' = true)
    (hi : (P.info? ty).map (·.size) = some cs.size) :
    (storeVar ty ⟨g, off, none⟩ (.agg cs)).run P w = .ok () (w.setRow g (cur.toList.take off ++ cs.toList ++ cur.toList.drop (off + cs.size)).toArray) := by
  have h := run_storeCells_at (P := P) g off t cs.toList 0 cur w hg (by simpa using hl) h1
  simp [storeVar, Sem.run_bind, run_sizeOf_eq hi, Value.cells, h]

theorem wp_store_at {o : Oper} {a : Act} {K : Act → World → Prop} {Q : Exit → Act → World → Prop} (ty : TypeId) (x v : Operand) (ho : o.op = .store ty x v)
    (g off : Nat) (hx : a.eval x = .pointer (some ⟨g, off, none⟩)) (cs cur : Array Value) (hv : a.eval v = .agg cs) (t : TypeId) (hg : w.heap[g]? = some (.cells cur t (0, 0))) (hl : off + cs.size ≤ cur.size) (h1 : ∀ v ∈ cs.toList, v.oneCell' = true)
    (hi : (P.info? ty).map (·.size) = some cs.size)
    (hK : K (a.put o.dst undef) (w.setRow g (cur.toList.take off ++ cs.toList ++ cur.toList.drop (off + cs.size)).toArray)) : o.wp P a w K Q := by
  unfold Oper.wp execOp
  simp only [ho, hx, hv, Instr.storeAt, Instr.sureAddr, Sem.run_bind, Sem.run_pure, Result.andThen_ok, run_storeVar_at hg hl h1 hi]
  exact hK
/-- a variable of the call's own that was just made, written whole -/
theorem wpList_store_new {ops : Array Oper} {rest : List Oper} {o : Oper} {a : Act} {Q : Exit → Act → World → Prop} (hgd : o.guard = none) (ty : TypeId) (x v : Operand) (ho : o.op = .store ty x v)
    (zs cs : Array Value) (t : TypeId) (hx : a.eval x = .pointer (some ⟨w.heap.size, 0, none⟩)) (hv : a.eval v = .agg cs) (hz : zs.size = cs.size) (h1 : ∀ v ∈ cs.toList, v.oneCell' = true)
    (hi : (P.info? ty).map (·.size) = some cs.size)
    (hK : wpList P ops Q rest (a.put o.dst undef) (w.alloc (.cells cs t))) : wpList P ops Q (o :: rest) a (w.alloc (.cells zs t)) :=
  wpList_plain hgd fun _ hK' => wp_store_at ty x v ho w.heap.size 0 hx cs zs hv t (by rw [(MapKept.heap_alloc w _).1]) (by omega) h1 hi (by
    have e : (zs.toList.take 0 ++ cs.toList ++ zs.toList.drop (0 + cs.size)).toArray = cs := by
      rw [List.take_zero, List.nil_append, List.drop_eq_nil_of_le (by rw [Array.length_toList]; omega), List.append_nil]
    rw [e, alloc_setRow]
    exact hK' _ _ hK)
/-- a variable is made; its cells are not written out -/
theorem wpList_alloc_new {ops : Array Oper} {rest : List Oper} {o : Oper} {a : Act} {Q : Exit → Act → World → Prop} (hgd : o.guard = none) (ty : TypeId) (ho : o.op = .alloc ty) (zs : Array Value) (hz : (zeroValue ty).run P w = .ok (.agg zs) w)
    (hK : wpList P ops Q rest (a.put o.dst (.pointer (some ⟨w.heap.size, 0, none⟩))) (w.alloc (.cells zs ty))) : wpList P ops Q (o :: rest) a w := by
  refine wpList_plain hgd fun _ hK' => ?_
  have h := hK' _ _ hK
  have hr : (Instr.alloc ty true (.tuple #[])).run P w = .ok (.pointer (some ⟨w.heap.size, 0, none⟩)) (w.alloc (.cells zs ty)) := by
    unfold Instr.alloc
    rw [Sem.run_bind, hz]
    simp only [Result.andThen_ok, newVar, newRow, newObj, Value.cells]
    rfl
  unfold Oper.wp execOp
  simp only [ho, Sem.run_bind, hr, Result.andThen_ok, Sem.run_pure]
  exact h
end
end Go.XR
