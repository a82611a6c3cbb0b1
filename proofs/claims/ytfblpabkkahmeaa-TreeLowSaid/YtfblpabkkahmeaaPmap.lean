/- Maps whose keys are pointers to laid blocks, and whose elements are true. -/
import Derived.LaidEqlPtr
import Derived.Maps.Own
import Derived.Maps.OwnOps
import Derived.Below
namespace Go.XR
open Go.ChangeMaps Go.RowKit

/-- block n is a laid one -/
def Laid (w : World) (n : Nat) : Prop := ∃ cs T, w.heap[n]? = some (.cells cs T (0, 0))
theorem Laid.below {w w' : World} {n : Nat} (h : Laid w n) (hb : Below w.heap.size w w') : Laid w' n := by
  obtain ⟨cs, T, h⟩ := h
  exact ⟨cs, T, (hb.block n (Array.getElem?_eq_some_iff.1 h).1).trans h⟩

abbrev ptr (n : Nat) : Value := .pointer (some ⟨n, 0, none⟩)

/-- block m is a map that has just the pointers D, each with true -/
def PMap (w : World) (m : Nat) (D : List Nat) : Prop :=
  ∃ es clock, w.heap[m]? = some (.map es clock) ∧ (∀ e ∈ es.toList, ∃ n, e.key = ptr n ∧ e.val = .bool true ∧ n ∈ D ∧ Laid w n) ∧ ∀ n ∈ D, ∃ e ∈ es.toList, e.key = ptr n

section
variable {P : Program} {k te t e : TypeId} {j : TypeInfo} {w : World}

theorem equal_same (hp : P.underlying k = some (.pointer te)) (hte : P.info? te = some j) (n : Nat) : (Op.equal k (ptr n) (ptr n)).run P w = .ok true w := by
  have h : ∀ d : Nat, (Op.equalIn (d + 1) k (ptr n) (ptr n)).run P w = .ok true w := fun d => by
    simp [Op.equalIn, run_underlying hp, sizeOf, typeInfo, hte, run_sameAddr_same]
  simp [Op.equal, Op.maxDepth, h 9999]

theorem equal_other (hp : P.underlying k = some (.pointer te)) (hte : P.info? te = some j) (hsz : j.size ≠ 0) {a b : Nat} (hne : a ≠ b) (ha : Laid w a) (hb : Laid w b) : (Op.equal k (ptr a) (ptr b)).run P w = .ok false w := by
  obtain ⟨ca, ta, ha⟩ := ha
  obtain ⟨cb, tb, hb⟩ := hb
  have h : ∀ d : Nat, (Op.equalIn (d + 1) k (ptr a) (ptr b)).run P w = .ok false w := fun d => by
    simp [Op.equalIn, run_underlying hp, sizeOf, typeInfo, hte, hsz, run_sameAddr_other w (a := ⟨a, 0, none⟩) (b := ⟨b, 0, none⟩) (fun e => hne (by cases e; rfl)) ha hb]
  simp [Op.equal, Op.maxDepth, h 9999]

theorem find_asking (hp : P.underlying k = some (.pointer te)) (hte : P.info? te = some j) (hsz : j.size ≠ 0) (n : Nat) (hn : Laid w n) : ∀ (es : List MapEntry) (i : Nat), (∀ e ∈ es, ∃ m, e.key = ptr m ∧ Laid w m) →
    ((Instr.findAsking k (ptr n) es i).run P w = .ok none w ∧ ∀ e ∈ es, e.key ≠ ptr n) ∨ ∃ q e, (Instr.findAsking k (ptr n) es i).run P w = .ok (some (i + q, e.val)) w ∧ es[q]? = some e ∧ e.key = ptr n
  | [], _, _ => .inl ⟨by simp [Instr.findAsking], fun e he => by cases he⟩
  | e :: es, i, h => by
    obtain ⟨m, hk, hm⟩ := h e (List.mem_cons_self ..)
    by_cases c : n = m
    · subst c
      refine .inr ⟨0, e, ?_, rfl, hk⟩
      unfold Instr.findAsking
      rw [hk]
      simp [equal_same hp hte, Result.andThen]
    · have hstep : (Instr.findAsking k (ptr n) (e :: es) i).run P w = (Instr.findAsking k (ptr n) es (i + 1)).run P w := by
        conv => lhs; unfold Instr.findAsking
        rw [hk]
        simp [equal_other hp hte hsz c hn hm, Result.andThen]
      rcases find_asking hp hte hsz n hn es (i + 1) (fun e' he' => h e' (List.mem_cons_of_mem _ he')) with ⟨h1, h2⟩ | ⟨q, e0, h1, h2, h3⟩
      · refine .inl ⟨by rw [hstep]; exact h1, fun e' he' => ?_⟩
        rcases List.mem_cons.1 he' with rfl | he'
        · rw [hk]; intro h; cases h; exact c rfl
        · exact h2 e' he'
      · exact .inr ⟨q + 1, e0, by rw [hstep, h1]; congr 3; omega, h2, h3⟩

theorem find_key (hp : P.underlying k = some (.pointer te)) (hte : P.info? te = some j) (hsz : j.size ≠ 0) (n : Nat) (hn : Laid w n) (es : List MapEntry) (h : ∀ e ∈ es, ∃ m, e.key = ptr m ∧ Laid w m) :
    ((Instr.findKey k (ptr n) es).run P w = .ok none w ∧ ∀ e ∈ es, e.key ≠ ptr n) ∨ ∃ q e, (Instr.findKey k (ptr n) es).run P w = .ok (some (q, e.val)) w ∧ es[q]? = some e ∧ e.key = ptr n := by
  cases es with
  | nil => exact .inl ⟨by simp [Instr.findKey, run_underlying hp, Instr.findNow, Result.andThen], fun e he => by cases he⟩
  | cons e es =>
    have hstep : (Instr.findKey k (ptr n) (e :: es)).run P w = (Instr.findAsking k (ptr n) (e :: es)).run P w := by
      simp [Instr.findKey, run_underlying hp, Instr.findNow, Instr.sameNow, Result.andThen]
    rcases find_asking hp hte hsz n hn (e :: es) 0 h with ⟨h1, h2⟩ | ⟨q, e0, h1, h2, h3⟩
    · exact .inl ⟨by rw [hstep]; exact h1, h2⟩
    · exact .inr ⟨q, e0, by rw [hstep, h1]; simp, h2, h3⟩

theorem check_ptr (hp : P.underlying k = some (.pointer te)) (n : Nat) (em : Bool) : (Instr.checkKey em 10000 k (ptr n)).run P w = .ok () w := by
  unfold Instr.checkKey
  simp [run_underlying hp, Result.andThen]

theorem PMap.below {w' : World} {m : Nat} {D : List Nat} (h : PMap w m D) (hb : Below w.heap.size w w') : PMap w' m D := by
  obtain ⟨es, clock, h1, h2, h3⟩ := h
  refine ⟨es, clock, (hb.block m (Array.getElem?_eq_some_iff.1 h1).1).trans h1, fun e he => ?_, h3⟩
  obtain ⟨n, a, b, c, d⟩ := h2 e he
  exact ⟨n, a, b, c, d.below hb⟩

theorem PMap.lt {m : Nat} {D : List Nat} (h : PMap w m D) : m < w.heap.size := by
  obtain ⟨es, clock, h1, _⟩ := h
  exact (Array.getElem?_eq_some_iff.1 h1).1

theorem PMap.made (w : World) : PMap (w.alloc (.map #[] 0)) w.heap.size [] :=
  ⟨#[], 0, (MapKept.heap_alloc w _).1, fun e he => by simp at he, fun n hn => by cases hn⟩

/-- another block is written -/
theorem PMap.kept {w' : World} {row : Option Nat} {m : Nat} {D : List Nat} (h : PMap w m D) (hg : w.grownBy w' row) (hne : some m ≠ row) (hl : ∀ n ∈ D, Laid w' n) : PMap w' m D := by
  have hlt := h.lt
  obtain ⟨es, clock, h1, h2, h3⟩ := h
  refine ⟨es, clock, (hg.block m hlt hne).trans h1, fun e he => ?_, h3⟩
  obtain ⟨n, a, b, c, _⟩ := h2 e he
  exact ⟨n, a, b, c, hl n c⟩

theorem PMap.laid {m : Nat} {D : List Nat} (h : PMap w m D) : ∀ n ∈ D, Laid w n := by
  obtain ⟨es, clock, h1, h2, h3⟩ := h
  intro n hn
  obtain ⟨e, he, hk⟩ := h3 n hn
  obtain ⟨n', a, _, _, d⟩ := h2 e he
  rw [hk] at a
  cases a
  exact d

theorem PMap.update {m : Nat} {D : List Nat} (h : PMap w m D) (ht : P.underlying t = some (.map k e)) (hp : P.underlying k = some (.pointer te)) (hte : P.info? te = some j) (hsz : j.size ≠ 0) (n : Nat) (hn : Laid w n) :
    ∃ w', (Instr.mapUpdate t (.map (some m)) (ptr n) (.bool true)).run P w = .ok () w' ∧ PMap w' m (D ++ [n]) ∧ w.grownBy w' (some m) := by
  obtain ⟨es, clock, hb, h2, h3⟩ := h
  have hlt : m < w.heap.size := (Array.getElem?_eq_some_iff.1 hb).1
  have hg : ∀ o, w.grownBy (setBlock w m o) (some m) := fun o => ⟨rfl, rfl, rfl, by simp [setBlock], fun i _ hi => heap_setBlock_other hb _ (fun e => hi (by rw [e]))⟩
  have hl : ∀ (o : Obj) (x : Nat), Laid w x → Laid (setBlock w m o) x := fun o x hx => by
    obtain ⟨cs, T, hx⟩ := hx
    have hne : x ≠ m := fun e => by subst e; rw [hb] at hx; cases hx
    exact ⟨cs, T, (heap_setBlock_other hb _ hne).trans hx⟩
  rcases find_key (P := P) hp hte hsz n hn es.toList (fun e he => by obtain ⟨m', a, _, _, d⟩ := h2 e he; exact ⟨m', a, d⟩) with ⟨f1, f2⟩ | ⟨q, e0, f1, f2, f3⟩
  · refine ⟨setBlock w m (.map (es.push ⟨ptr n, .bool true, clock⟩) (clock + 1)), ?_, ⟨_, _, heap_setBlock_same hb _, ?_, ?_⟩, hg _⟩
    · simp [Instr.mapUpdate, run_underlying ht, MapKept.run_getObj_map hb, check_ptr hp, f1, MapKept.run_setObj_map _ hb, Result.andThen, setBlock]
    · intro e he
      simp only [Array.toList_push, List.mem_append, List.mem_singleton] at he
      rcases he with he | rfl
      · obtain ⟨n', a, b, c, d⟩ := h2 e he
        exact ⟨n', a, b, List.mem_append_left _ c, hl _ _ d⟩
      · exact ⟨n, rfl, rfl, by simp, hl _ _ hn⟩
    · intro x hx
      simp only [List.mem_append, List.mem_singleton] at hx
      rcases hx with hx | rfl
      · obtain ⟨e, he, hk⟩ := h3 x hx
        exact ⟨e, by simp only [Array.toList_push, List.mem_append]; exact .inl he, hk⟩
      · exact ⟨⟨ptr x, .bool true, clock⟩, by simp, rfl⟩
  · have hj : es[q]? = some e0 := by simpa using f2
    refine ⟨setBlock w m (.map (es.modify q (fun e' => { e' with key := ptr n, val := .bool true })) clock), ?_, ⟨_, _, heap_setBlock_same hb _, ?_, ?_⟩, hg _⟩
    · simp [Instr.mapUpdate, run_underlying ht, MapKept.run_getObj_map hb, check_ptr hp, f1, hj, f3, Instr.keyThatStays, Instr.sameBits, MapKept.run_setObj_map _ hb, Result.andThen, setBlock]
    · intro e he
      rcases MapFrom.mem_modify he with he | ⟨e', _, rfl⟩
      · obtain ⟨n', a, b, c, d⟩ := h2 e he
        exact ⟨n', a, b, List.mem_append_left _ c, hl _ _ d⟩
      · exact ⟨n, rfl, rfl, by simp, hl _ _ hn⟩
    · intro x hx
      have hm : ∀ (i : Nat) (a : MapEntry), es.toList[i]? = some a → ∃ b ∈ (es.modify q (fun e' => { e' with key := ptr n, val := .bool true })).toList, b.key = a.key := by
        intro i a hi
        rw [Array.getElem?_toList] at hi
        by_cases c : q = i
        · subst c
          rw [hj] at hi
          cases hi
          refine ⟨{ e0 with key := ptr n, val := .bool true }, ?_, f3.symm⟩
          rw [Array.mem_toList_iff, Array.mem_iff_getElem?]
          exact ⟨q, by rw [Array.getElem?_modify, if_pos rfl, hj]; rfl⟩
        · refine ⟨a, ?_, rfl⟩
          rw [Array.mem_toList_iff, Array.mem_iff_getElem?]
          exact ⟨i, by rw [Array.getElem?_modify, if_neg c]; exact hi⟩
      simp only [List.mem_append, List.mem_singleton] at hx
      have key : ∃ e ∈ es.toList, e.key = ptr x := by
        rcases hx with hx | rfl
        · exact h3 x hx
        · exact ⟨e0, List.mem_of_getElem? f2, f3⟩
      obtain ⟨e, he, hk⟩ := key
      obtain ⟨i, hi⟩ := List.mem_iff_getElem?.1 he
      obtain ⟨b, hb1, hb2⟩ := hm i e hi
      exact ⟨b, hb1, hb2.trans hk⟩

theorem PMap.lookup {m : Nat} {D : List Nat} (h : PMap w m D) (ht : P.underlying t = some (.map k e)) (hp : P.underlying k = some (.pointer te)) (hte : P.info? te = some j) (hsz : j.size ≠ 0) (hz : (zeroValue e).run P w = .ok (.bool false) w) (n : Nat) (hn : Laid w n) :
    (Instr.lookup t (.map (some m)) (ptr n) false).run P w = .ok (.bool (D.contains n)) w := by
  obtain ⟨es, clock, hb, h2, h3⟩ := h
  rcases find_key (P := P) hp hte hsz n hn es.toList (fun e he => by obtain ⟨m', a, _, _, d⟩ := h2 e he; exact ⟨m', a, d⟩) with ⟨f1, f2⟩ | ⟨q, e0, f1, f2, f3⟩
  · have hc : D.contains n = false := by
      rw [Bool.eq_false_iff]
      intro hc
      obtain ⟨e, he, hk⟩ := h3 n (List.contains_iff_mem.1 hc)
      exact f2 e he hk
    rw [hc]
    simp [Instr.lookup, run_underlying ht, MapKept.run_getObj_map hb, check_ptr hp, f1, hz, Result.andThen]
  · obtain ⟨n', a, b, c, _⟩ := h2 e0 (List.mem_of_getElem? f2)
    rw [f3] at a
    cases a
    rw [List.contains_iff_mem.2 c]
    simp [Instr.lookup, run_underlying ht, MapKept.run_getObj_map hb, check_ptr hp, f1, b, Result.andThen]

/-- the store, at the operation -/
theorem wpList_pm_update (w : World) {ops : Array Oper} {rest : List Oper} {o : Oper} {a : Act} {Q : Exit → Act → World → Prop}
    (hg : o.guard = none) (m x v : Operand) (t : TypeId) (hop : o.op = Op.mapUpdate t m x v) {k e te : TypeId} {j : TypeInfo}
    (ht : P.underlying t = some (.map k e)) (hp : P.underlying k = some (.pointer te)) (hte : P.info? te = some j) (hsz : j.size ≠ 0) (b n : Nat) (D : List Nat)
    (hm : a.eval m = .map (some b)) (hx : a.eval x = ptr n) (hv : a.eval v = .bool true) (h : PMap w b D) (hn : Laid w n)
    (hK : ∀ w', PMap w' b (D ++ [n]) → w.grownBy w' (some b) → wpList P ops Q rest (a.put o.dst undef) w') : wpList P ops Q (o :: rest) a w := by
  refine wpList_plain hg fun K' hK' => ?_
  obtain ⟨w', hrun, r1, r2⟩ := h.update (P := P) ht hp hte hsz n hn
  unfold Oper.wp
  simp only [ptr] at hx hrun
  simp [execOp, hop, hm, hx, hv, hrun, Result.andThen]
  exact hK' _ _ (hK w' r1 r2)

/-- the look-up, at the operation -/
theorem wpList_pm_lookup (w : World) {ops : Array Oper} {rest : List Oper} {o : Oper} {a : Act} {Q : Exit → Act → World → Prop}
    (hg : o.guard = none) (m x : Operand) (t : TypeId) (hop : o.op = Op.lookup t m x false) {k e te : TypeId} {j : TypeInfo}
    (ht : P.underlying t = some (.map k e)) (hp : P.underlying k = some (.pointer te)) (hte : P.info? te = some j) (hsz : j.size ≠ 0) (hz : (zeroValue e).run P w = .ok (.bool false) w) (b n : Nat) (D : List Nat)
    (hm : a.eval m = .map (some b)) (hx : a.eval x = ptr n) (h : PMap w b D) (hn : Laid w n)
    (hK : wpList P ops Q rest (a.put o.dst (.bool (decide (n ∈ D)))) w) : wpList P ops Q (o :: rest) a w := by
  refine wpList_plain hg fun K' hK' => ?_
  have hrun := h.lookup (P := P) ht hp hte hsz hz n hn
  unfold Oper.wp
  simp only [ptr] at hx hrun
  simp [execOp, hop, hm, hx, hrun, Result.andThen]
  exact hK' _ _ hK
end
end Go.XR
