/- Maps known entry by entry: a block is a map that has just the pairs of a list, in the order in which they came. -/
import Derived.Maps.RangeRun
import Derived.Maps.OwnOps
import Derived.Below
namespace Go.XR
open Go.ChangeMaps Go.MapKept Go.RowKit
open Go.Maps (Keyed)

section
variable {κ ν : Type} [DecidableEq κ]
def aget (D : List (κ × ν)) (a : κ) : Option ν := (D.find? fun p => decide (p.1 = a)).map (·.2)
def aput (D : List (κ × ν)) (a : κ) (b : ν) : List (κ × ν) := if (aget D a).isSome then D.map fun p => if p.1 = a then (a, b) else p else D ++ [(a, b)]
def adel (D : List (κ × ν)) (a : κ) : List (κ × ν) := D.filter fun p => decide (p.1 ≠ a)

theorem aget_none {D : List (κ × ν)} {a : κ} : aget D a = none ↔ ∀ p ∈ D, p.1 ≠ a := by
  unfold aget
  rw [Option.map_eq_none_iff, List.find?_eq_none]
  simp
theorem aget_nil (a : κ) : aget ([] : List (κ × ν)) a = none := rfl
theorem aget_cons (p : κ × ν) (D : List (κ × ν)) (a : κ) : aget (p :: D) a = if p.1 = a then some p.2 else aget D a := by
  unfold aget
  rw [List.find?_cons]
  by_cases h : p.1 = a <;> simp [h]
theorem aget_mem {D : List (κ × ν)} (hD : (D.map (·.1)).Nodup) {a : κ} {b : ν} : aget D a = some b ↔ (a, b) ∈ D := by
  induction D with
  | nil => simp [aget_nil]
  | cons p D ih =>
    rw [List.map_cons, List.nodup_cons] at hD
    rw [aget_cons, List.mem_cons]
    by_cases h : p.1 = a
    · rw [if_pos h]
      constructor
      · intro e; cases e; left; rw [← h]
      · rintro (e | e)
        · rw [← e]
        · exact absurd (List.mem_map.2 ⟨(a, b), e, rfl⟩) (h ▸ hD.1)
    · rw [if_neg h, ih hD.2]
      constructor
      · exact .inr
      · rintro (e | e)
        · exact absurd (by rw [← e]) h
        · exact e
theorem aput_keys_old {D : List (κ × ν)} {a : κ} {b : ν} : (D.map fun p => if p.1 = a then (a, b) else p).map (·.1) = D.map (·.1) := by
  rw [List.map_map]
  refine List.map_congr_left fun p _ => ?_
  show (if p.1 = a then (a, b) else p).1 = p.1
  split
  · rename_i h; exact h.symm
  · rfl
theorem aput_nodup {D : List (κ × ν)} (hD : (D.map (·.1)).Nodup) (a : κ) (b : ν) : ((aput D a b).map (·.1)).Nodup := by
  unfold aput
  split
  · rw [aput_keys_old]; exact hD
  · rename_i h
    have hn : aget D a = none := by simpa using h
    rw [aget_none] at hn
    rw [List.map_append, List.nodup_append]
    refine ⟨hD, by simp, ?_⟩
    intro x hx y hy
    obtain ⟨p, hp, rfl⟩ := List.mem_map.1 hx
    simp at hy
    subst hy
    exact hn p hp
theorem adel_nodup {D : List (κ × ν)} (hD : (D.map (·.1)).Nodup) (a : κ) : ((adel D a).map (·.1)).Nodup :=
  hD.sublist ((List.filter_sublist).map _)
theorem aget_put (D : List (κ × ν)) (a c : κ) (b : ν) : aget (aput D a b) c = if c = a then some b else aget D c := by
  unfold aput
  by_cases h : (aget D a).isSome = true
  · rw [if_pos h]
    induction D with
    | nil => rw [aget_nil] at h; cases h
    | cons p D ih =>
      rw [List.map_cons, aget_cons, aget_cons]
      rw [aget_cons] at h
      by_cases hp : p.1 = a
      · rw [if_pos hp]
        by_cases hc : c = a
        · subst hc; rw [if_pos rfl, if_pos rfl]
        · have h1 : ¬ a = c := fun e => hc e.symm
          have h2 : ¬ p.1 = c := fun e => hc (by rw [← e, hp])
          rw [if_neg h1, if_neg hc, if_neg h2]
          clear ih h
          induction D with
          | nil => rfl
          | cons q D ih =>
            rw [List.map_cons, aget_cons, aget_cons, ih]
            by_cases hq : q.1 = a
            · rw [if_pos hq, if_neg h1, if_neg (fun e => hc (by rw [← e, hq]))]
            · rw [if_neg hq]
      · rw [if_neg hp]
        rw [if_neg hp] at h
        rw [ih h]
        by_cases hc : p.1 = c
        · rw [if_pos hc, if_pos hc, if_neg (fun e => hp (by rw [hc, e]))]
        · rw [if_neg hc, if_neg hc]
  · rw [if_neg h]
    have hn : aget D a = none := by simpa using h
    clear h
    induction D with
    | nil =>
      rw [List.nil_append, aget_cons, aget_nil]
      by_cases hc : c = a
      · subst hc; simp
      · rw [if_neg (fun e => hc e.symm), if_neg hc]
    | cons p D ih =>
      rw [aget_none] at hn
      have h1 := hn p (by simp)
      rw [List.cons_append, aget_cons, aget_cons, ih (aget_none.2 fun q hq => hn q (List.mem_cons_of_mem _ hq))]
      by_cases hc : p.1 = c
      · rw [if_pos hc, if_pos hc, if_neg (fun e => h1 (by rw [hc, e]))]
      · rw [if_neg hc, if_neg hc]
theorem aget_del (D : List (κ × ν)) (a c : κ) : aget (adel D a) c = if c = a then none else aget D c := by
  unfold adel
  induction D with
  | nil => simp [aget_nil]
  | cons p D ih =>
    rw [List.filter_cons, aget_cons]
    by_cases hp : p.1 = a
    · rw [if_neg (by simp [hp]), ih]
      by_cases hc : c = a
      · rw [if_pos hc, if_pos hc]
      · rw [if_neg hc, if_neg hc, if_neg (fun e => hc (by rw [← e, hp]))]
    · rw [if_pos (by simp [hp]), aget_cons, ih]
      by_cases hc : p.1 = c
      · rw [if_pos hc, if_pos hc, if_neg (fun e => hp (by rw [hc, e]))]
      · rw [if_neg hc, if_neg hc]
theorem aput_length (D : List (κ × ν)) (a : κ) (b : ν) : (aput D a b).length = if (aget D a).isSome then D.length else D.length + 1 := by
  unfold aput
  split
  · rw [List.length_map]
  · rw [List.length_append]; rfl
theorem aput_le (D : List (κ × ν)) (a : κ) (b : ν) : (aput D a b).length ≤ D.length + 1 := by
  rw [aput_length]; split <;> omega
theorem mem_adel {D : List (κ × ν)} {a : κ} {p : κ × ν} : p ∈ adel D a ↔ p ∈ D ∧ p.1 ≠ a := by
  unfold adel; rw [List.mem_filter]; simp
end

/-- the keys of a kind: how their values look -/
structure KeysOk {κ : Type} (P : Program) (k : TypeId) (kv : κ → Value) : Prop where
  keyed : Keyed P k
  ok : ∀ a, ∃ l, keyOf P k (kv a) = some l
  inj : ∀ a b, kv a = kv b → a = b

/-- block m of w is a map that has just the pairs D -/
def GM {κ ν : Type} (kv : κ → Value) (vv : ν → Value) (w : World) (m : Nat) (D : List (κ × ν)) : Prop :=
  ∃ es clock, w.heap[m]? = some (.map es clock) ∧ Stamped es clock ∧ es.toList.map (fun x => (x.key, x.val)) = D.map (fun p => (kv p.1, vv p.2))

section
variable {κ ν : Type} [DecidableEq κ] {kv : κ → Value} {vv : ν → Value} {P : Program} {k t e : TypeId} {w : World} {m : Nat} {D : List (κ × ν)}

omit [DecidableEq κ] in
theorem GM.lt (h : GM kv vv w m D) : m < w.heap.size := by
  obtain ⟨es, clock, hb, _⟩ := h
  exact (Array.getElem?_eq_some_iff.1 hb).1
omit [DecidableEq κ] in
theorem GM.block (h : GM kv vv w m D) {w' : World} (hb : w'.heap[m]? = w.heap[m]?) : GM kv vv w' m D := by
  obtain ⟨es, clock, h1, h2⟩ := h
  exact ⟨es, clock, hb.trans h1, h2⟩
omit [DecidableEq κ] in
theorem GM.below (h : GM kv vv w m D) {w' : World} (hb : Below w.heap.size w w') : GM kv vv w' m D := h.block (hb.block m h.lt)
omit [DecidableEq κ] in
theorem GM.kept (h : GM kv vv w m D) {w' : World} {row : Option Nat} (hg : w.grownBy w' row) (hne : some m ≠ row) : GM kv vv w' m D := h.block (hg.block m h.lt hne)
omit [DecidableEq κ] in
theorem GM.made (kv : κ → Value) (vv : ν → Value) (w : World) : GM kv vv (w.alloc (.map #[] 0)) w.heap.size [] :=
  ⟨#[], 0, (MapKept.heap_alloc w _).1, stamped_empty 0, rfl⟩
omit [DecidableEq κ] in
theorem GM.nodup (K : KeysOk P k kv) (h : GM kv vv w m D) : (D.map (·.1)).Nodup := by
  obtain ⟨es, clock, _, h2, h3⟩ := h
  have h4 := ((stamped_iff es clock).1 h2).2.2
  have h5 : (es.toList.map (·.key)).Nodup := by
    unfold List.Nodup
    rw [List.pairwise_map]
    exact h4.imp fun h e => h e
  have h6 : es.toList.map (·.key) = (D.map (·.1)).map kv := by
    have := congrArg (List.map Prod.fst) h3
    rw [List.map_map, List.map_map] at this
    rw [List.map_map]
    exact this
  rw [h6] at h5
  exact List.Pairwise.of_map kv (fun a b h e => h (by rw [e])) h5

omit [DecidableEq κ] in
theorem gm_at {es : Array MapEntry} (h : es.toList.map (fun x => (x.key, x.val)) = D.map (fun p => (kv p.1, vv p.2))) {j : Nat} {e0 : MapEntry} (hj : es.toList[j]? = some e0) : ∃ a b, D[j]? = some (a, b) ∧ e0.key = kv a ∧ e0.val = vv b := by
  have h1 : (es.toList.map (fun x => (x.key, x.val)))[j]? = some (e0.key, e0.val) := by rw [List.getElem?_map, hj]; rfl
  rw [h, List.getElem?_map] at h1
  cases hd : D[j]? with
  | none => rw [hd] at h1; cases h1
  | some p =>
    rw [hd] at h1
    simp only [Option.map_some, Option.some.injEq, Prod.mk.injEq] at h1
    exact ⟨p.1, p.2, rfl, h1.1.symm, h1.2.symm⟩
omit [DecidableEq κ] in
theorem gm_mem {es : Array MapEntry} (h : es.toList.map (fun x => (x.key, x.val)) = D.map (fun p => (kv p.1, vv p.2))) {p : κ × ν} (hp : p ∈ D) : ∃ x ∈ es.toList, x.key = kv p.1 ∧ x.val = vv p.2 := by
  have h1 : (kv p.1, vv p.2) ∈ es.toList.map (fun x => (x.key, x.val)) := by rw [h]; exact List.mem_map.2 ⟨p, hp, rfl⟩
  obtain ⟨x, hx, he⟩ := List.mem_map.1 h1
  simp only [Prod.mk.injEq] at he
  exact ⟨x, hx, he.1, he.2⟩

/-- where a key stands -/
theorem gm_find (K : KeysOk P k kv) {es : Array MapEntry} {clock : Nat} (hs : Stamped es clock) (h : es.toList.map (fun x => (x.key, x.val)) = D.map (fun p => (kv p.1, vv p.2))) (hD : (D.map (·.1)).Nodup) (w : World) (a : κ) :
    ((Instr.findKey k (kv a) es.toList).run P w = .ok none w ∧ (∀ x ∈ es.toList, x.key ≠ kv a) ∧ aget D a = none) ∨
    ∃ j e0 b, (Instr.findKey k (kv a) es.toList).run P w = .ok (some (j, vv b)) w ∧ es.toList[j]? = some e0 ∧ e0.key = kv a ∧ e0.val = vv b ∧ D[j]? = some (a, b) ∧ aget D a = some b := by
  obtain ⟨l, hl⟩ := K.ok a
  rcases K.keyed.find w hl es.toList (fun x hx => by
      obtain ⟨j, hj⟩ := List.mem_iff_getElem?.1 hx
      obtain ⟨a', b', _, h2, _⟩ := gm_at h hj
      rw [h2]; exact K.ok a') with ⟨h1, h2⟩ | ⟨j, e0, h1, h2, h3⟩
  · refine .inl ⟨h1, h2, aget_none.2 fun p hp e => ?_⟩
    obtain ⟨x, hx, hk, _⟩ := gm_mem h hp
    exact h2 x hx (by rw [hk, e])
  · obtain ⟨a', b', hd, hk, hv⟩ := gm_at h h2
    have : a' = a := K.inj _ _ (hk ▸ h3)
    subst this
    exact .inr ⟨j, e0, b', by rw [← hv]; exact h1, h2, h3, hv, hd, (aget_mem hD).2 (List.mem_of_getElem? hd)⟩

theorem GM.lookup (h : GM kv vv w m D) (K : KeysOk P k kv) (ht : P.underlying t = some (.map k e)) {z : Value} (hz : (zeroValue e).run P w = .ok z w) (a : κ) :
    (Instr.lookup t (.map (some m)) (kv a) false).run P w = .ok (((aget D a).map vv).getD z) w := by
  have hD := h.nodup K
  obtain ⟨es, clock, hb, hs, h3⟩ := h
  obtain ⟨l, hl⟩ := K.ok a
  rcases gm_find K hs h3 hD w a with ⟨f1, f2, f3⟩ | ⟨j, e0, b, f1, f2, f3, f4, f5, f6⟩
  · rw [f3]
    simp [Instr.lookup, run_underlying ht, MapKept.run_getObj_map hb, K.keyed.check w _ hl, f1, hz, Result.andThen]
  · rw [f6]
    simp [Instr.lookup, run_underlying ht, MapKept.run_getObj_map hb, K.keyed.check w _ hl, f1, Result.andThen]
theorem GM.lookup_ok (h : GM kv vv w m D) (K : KeysOk P k kv) (ht : P.underlying t = some (.map k e)) {z : Value} (hz : (zeroValue e).run P w = .ok z w) (a : κ) :
    (Instr.lookup t (.map (some m)) (kv a) true).run P w = .ok (.tuple #[((aget D a).map vv).getD z, .bool (aget D a).isSome]) w := by
  have hD := h.nodup K
  obtain ⟨es, clock, hb, hs, h3⟩ := h
  obtain ⟨l, hl⟩ := K.ok a
  rcases gm_find K hs h3 hD w a with ⟨f1, f2, f3⟩ | ⟨j, e0, b, f1, f2, f3, f4, f5, f6⟩
  · rw [f3]
    simp [Instr.lookup, run_underlying ht, MapKept.run_getObj_map hb, K.keyed.check w _ hl, f1, hz, Result.andThen]
  · rw [f6]
    simp [Instr.lookup, run_underlying ht, MapKept.run_getObj_map hb, K.keyed.check w _ hl, f1, Result.andThen]
omit [DecidableEq κ] in
theorem lookup_nil (K : KeysOk P k kv) (ht : P.underlying t = some (.map k e)) {z : Value} (hz : (zeroValue e).run P w = .ok z w) (a : κ) (c : Bool) :
    (Instr.lookup t (.map none) (kv a) c).run P w = .ok (if c then .tuple #[z, .bool false] else z) w := by
  obtain ⟨l, hl⟩ := K.ok a
  have hf : (Instr.findKey k (kv a) []).run P w = .ok none w := by
    rcases K.keyed.find w hl [] (fun x hx => by cases hx) with ⟨h, _⟩ | ⟨j, e0, _, h, _⟩
    · exact h
    · cases h
  cases c <;> simp [Instr.lookup, run_underlying ht, K.keyed.check w _ hl, hf, hz, Result.andThen]

theorem set_aput (D : List (κ × ν)) (hD : (D.map (·.1)).Nodup) {j : Nat} {a : κ} {b c : ν} (hj : D[j]? = some (a, b)) : D.set j (a, c) = aput D a c := by
  unfold aput
  rw [if_pos (by rw [(aget_mem hD).2 (List.mem_of_getElem? hj)]; rfl)]
  refine List.ext_getElem? fun i => ?_
  rw [List.getElem?_set, List.getElem?_map]
  by_cases hij : j = i
  · subst hij
    rw [if_pos rfl, if_pos (List.getElem?_eq_some_iff.1 hj).1, hj]
    simp
  · rw [if_neg hij]
    cases hi : D[i]? with
    | none => rfl
    | some p =>
      rw [Option.map_some, if_neg]
      intro hp
      apply hij
      have h1 := (List.getElem?_eq_some_iff.1 hj)
      have h2 := (List.getElem?_eq_some_iff.1 hi)
      obtain ⟨l1, e1⟩ := h1
      obtain ⟨l2, e2⟩ := h2
      refine (List.getElem_inj (xs := D.map (·.1)) (h₀ := by simpa using l1) (h₁ := by simpa using l2) hD).1 ?_
      rw [List.getElem_map, List.getElem_map, e1, e2, hp]

theorem GM.update (h : GM kv vv w m D) (K : KeysOk P k kv) (ht : P.underlying t = some (.map k e)) (a : κ) (b : ν) :
    ∃ w', (Instr.mapUpdate t (.map (some m)) (kv a) (vv b)).run P w = .ok () w' ∧ GM kv vv w' m (aput D a b) ∧ w.grownBy w' (some m) ∧ w'.heap.size = w.heap.size := by
  have hD := h.nodup K
  obtain ⟨es, clock, hb, hs, h3⟩ := h
  obtain ⟨l, hl⟩ := K.ok a
  have hg : ∀ o, w.grownBy (setBlock w m o) (some m) := fun o => ⟨rfl, rfl, rfl, by simp [setBlock], fun i _ hi => heap_setBlock_other hb _ (fun e => hi (by rw [e]))⟩
  rcases gm_find K hs h3 hD w a with ⟨f1, f2, f3⟩ | ⟨j, e0, b0, f1, f2, f3, f4, f5, f6⟩
  · refine ⟨setBlock w m (.map (es.push ⟨kv a, vv b, clock⟩) (clock + 1)), ?_, ⟨_, _, heap_setBlock_same hb _, stamped_push hs f2, ?_⟩, hg _, by simp [setBlock]⟩
    · simp [Instr.mapUpdate, run_underlying ht, MapKept.run_getObj_map hb, K.keyed.check w _ hl, f1, MapKept.run_setObj_map _ hb, Result.andThen, setBlock]
    · unfold aput
      rw [f3]
      simp [h3]
  · have hj : es[j]? = some e0 := by simpa using f2
    have hkeyf : ∀ e', es[j]? = some e' → ({ e' with key := kv a, val := vv b } : MapEntry).key = e'.key := fun e' he' => by rw [hj] at he'; cases he'; exact f3.symm
    refine ⟨setBlock w m (.map (es.modify j (fun e' => { e' with key := kv a, val := vv b })) clock), ?_, ⟨_, _, heap_setBlock_same hb _, stamped_modify hs _ _ (fun _ _ => rfl) (fun e' _ he' => hkeyf e' he'), ?_⟩, hg _, by simp [setBlock]⟩
    · simp [Instr.mapUpdate, run_underlying ht, MapKept.run_getObj_map hb, K.keyed.check w _ hl, f1, hj, f3, K.keyed.stays w hl, MapKept.run_setObj_map _ hb, Result.andThen, setBlock]
    · have hlist : (es.modify j (fun e' => { e' with key := kv a, val := vv b })).toList = es.toList.set j { e0 with key := kv a, val := vv b } := by
        rw [Array.toList_modify]
        refine List.ext_getElem? fun i => ?_
        rw [List.getElem?_modify, List.getElem?_set]
        by_cases c : j = i
        · subst c
          rw [f2, if_pos rfl, if_pos (List.getElem?_eq_some_iff.1 f2).1]
          simp
        · rw [if_neg c]
          cases hi : es.toList[i]? <;> simp [c]
      rw [hlist, List.map_set, h3, ← set_aput D hD f5, List.map_set]

omit [DecidableEq κ] in
theorem map_erase {α β : Type} (f : α → β) : ∀ (l : List α) (j : Nat), (l.eraseIdx j).map f = (l.map f).eraseIdx j
  | [], j => by simp
  | x :: l, 0 => rfl
  | x :: l, j + 1 => by rw [List.eraseIdx_cons_succ, List.map_cons, List.map_cons, List.eraseIdx_cons_succ, map_erase f l j]
theorem erase_adel (hD : (D.map (·.1)).Nodup) {j : Nat} {a : κ} {b : ν} (hj : D[j]? = some (a, b)) : D.eraseIdx j = adel D a := by
  induction D generalizing j with
  | nil => simp at hj
  | cons p D ih =>
    rw [List.map_cons, List.nodup_cons] at hD
    cases j with
    | zero =>
      simp at hj
      subst hj
      rw [List.eraseIdx_cons_zero]
      unfold adel
      rw [List.filter_cons, if_neg (by simp)]
      refine (List.filter_eq_self.2 fun q hq => ?_).symm
      refine decide_eq_true fun e => hD.1 ?_
      show a ∈ _
      rw [← e]; exact List.mem_map.2 ⟨q, hq, rfl⟩
    | succ j =>
      rw [List.getElem?_cons_succ] at hj
      rw [List.eraseIdx_cons_succ, ih hD.2 hj]
      unfold adel
      rw [List.filter_cons, if_pos]
      refine decide_eq_true fun e => hD.1 ?_
      rw [e]; exact List.mem_map.2 ⟨(a, b), List.mem_of_getElem? hj, rfl⟩

theorem GM.delete {ty : TypeId} (h : GM kv vv w m D) (K : KeysOk P k kv) (ht : P.underlying t = some (.map k e)) (a : κ) :
    ∃ w', (Builtin.delete_ #[t, k] ty #[.map (some m), kv a]).run P w = .ok (.tuple #[]) w' ∧ GM kv vv w' m (adel D a) ∧ w.grownBy w' (some m) ∧ w'.heap.size = w.heap.size := by
  have hD := h.nodup K
  obtain ⟨es, clock, hb, hs, h3⟩ := h
  obtain ⟨l, hl⟩ := K.ok a
  have hg : ∀ o, w.grownBy (setBlock w m o) (some m) := fun o => ⟨rfl, rfl, rfl, by simp [setBlock], fun i _ hi => heap_setBlock_other hb _ (fun e => hi (by rw [e]))⟩
  rcases gm_find K hs h3 hD w a with ⟨f1, f2, f3⟩ | ⟨j, e0, b0, f1, f2, f3, f4, f5, f6⟩
  · refine ⟨setBlock w m (.map es clock), ?_, ⟨_, _, heap_setBlock_same hb _, hs, ?_⟩, hg _, by simp [setBlock]⟩
    · simp [Builtin.delete_, run_underlying ht, MapKept.run_getObj_map hb, K.keyed.check w _ hl, f1, MapKept.run_setObj_map _ hb, Result.andThen, setBlock]
    · rw [h3]
      unfold adel
      rw [List.filter_eq_self.2]
      intro p hp
      exact decide_eq_true (aget_none.1 f3 p hp)
  · have hjl : j < es.toList.length := (List.getElem?_eq_some_iff.1 f2).1
    have hjs : j < es.size := by simpa using hjl
    have hsub : (es.eraseIdxIfInBounds j).toList = es.toList.eraseIdx j := by
      unfold Array.eraseIdxIfInBounds
      rw [dif_pos hjs]
      simp
    refine ⟨setBlock w m (.map (es.eraseIdxIfInBounds j) clock), ?_, ⟨_, _, heap_setBlock_same hb _, stamped_erase hs j, ?_⟩, hg _, by simp [setBlock]⟩
    · simp [Builtin.delete_, run_underlying ht, MapKept.run_getObj_map hb, K.keyed.check w _ hl, f1, MapKept.run_setObj_map _ hb, Result.andThen, setBlock]
    · rw [hsub, map_erase, h3, ← erase_adel hD f5, map_erase]
omit [DecidableEq κ] in
theorem delete_nil {ty : TypeId} (K : KeysOk P k kv) (ht : P.underlying t = some (.map k e)) (a : κ) :
    (Builtin.delete_ #[t, k] ty #[.map none, kv a]).run P w = .ok (.tuple #[]) w := by
  obtain ⟨l, hl⟩ := K.ok a
  simp [Builtin.delete_, run_underlying ht, K.keyed.check w _ hl, Result.andThen]

/-- a range over a map is under way: the iterator's block r; the pairs that are still to come -/
def GR (kv : κ → Value) (vv : ν → Value) (w : World) (m r : Nat) (D left : List (κ × ν)) : Prop :=
  ∃ es clock since seen c0, w.heap[m]? = some (.map es clock) ∧ Stamped es clock ∧ es.toList.map (fun x => (x.key, x.val)) = D.map (fun p => (kv p.1, vv p.2)) ∧
    w.heap[r]? = some (.mapIter (some m) since seen c0) ∧ (∀ x ∈ es.toList, x.born < since) ∧ since ≤ c0 ∧ since ≤ clock ∧
    (es.toList.filter fun x => !seen.contains x.born).map (fun x => (x.key, x.val)) = left.map (fun p => (kv p.1, vv p.2)) ∧ left.Sublist D
omit [DecidableEq κ] in
theorem GR.map {r : Nat} {left : List (κ × ν)} (h : GR kv vv w m r D left) : GM kv vv w m D := by
  obtain ⟨es, clock, _, _, _, h1, h2, h3, _⟩ := h
  exact ⟨es, clock, h1, h2, h3⟩
omit [DecidableEq κ] in
theorem GR.sub {r : Nat} {left : List (κ × ν)} (h : GR kv vv w m r D left) : left.Sublist D := by
  obtain ⟨es, clock, _, _, _, _, _, _, _, _, _, _, _, h⟩ := h; exact h
omit [DecidableEq κ] in
theorem GR.lt {r : Nat} {left : List (κ × ν)} (h : GR kv vv w m r D left) : r < w.heap.size := by
  obtain ⟨es, clock, _, _, _, _, _, _, h, _⟩ := h
  exact (Array.getElem?_eq_some_iff.1 h).1
omit [DecidableEq κ] in
theorem GR.block {r : Nat} {left : List (κ × ν)} (h : GR kv vv w m r D left) {w' : World} (hb : w'.heap[m]? = w.heap[m]?) (hr : w'.heap[r]? = w.heap[r]?) : GR kv vv w' m r D left := by
  obtain ⟨es, clock, since, seen, c0, h1, h2, h3, h4, h5⟩ := h
  exact ⟨es, clock, since, seen, c0, hb.trans h1, h2, h3, hr.trans h4, h5⟩
omit [DecidableEq κ] in
theorem GR.below {r : Nat} {left : List (κ × ν)} (h : GR kv vv w m r D left) {w' : World} (hb : Below w.heap.size w w') : GR kv vv w' m r D left := h.block (hb.block m h.map.lt) (hb.block r h.lt)
omit [DecidableEq κ] in
theorem GR.kept {r : Nat} {left : List (κ × ν)} (h : GR kv vv w m r D left) {w' : World} {row : Option Nat} (hg : w.grownBy w' row) (hne : some m ≠ row) (hnr : some r ≠ row) : GR kv vv w' m r D left := h.block (hg.block m h.map.lt hne) (hg.block r h.lt hnr)

omit [DecidableEq κ] in
theorem GM.range (h : GM kv vv w m D) (ht : P.underlying t = some (.map k e)) :
    ∃ w', (Instr.range t (.map (some m))).run P w = .ok (.pointer (some ⟨w.heap.size, 0, none⟩)) w' ∧ GR kv vv w' m w.heap.size D D ∧ Below w.heap.size w w' ∧ w'.heap.size = w.heap.size + 1 := by
  have hlt := h.lt
  obtain ⟨es, clock, hb, hs, h3⟩ := h
  refine ⟨_, run_range_map w t k e m es clock ht hb, ⟨es, clock, clock, #[], clock, ((MapKept.heap_alloc w _).2 m hlt).trans hb, hs, h3, (MapKept.heap_alloc w _).1, hs.1, Nat.le_refl _, Nat.le_refl _, ?_, List.Sublist.refl _⟩, (Below.refl _ _).alloc (Nat.le_refl _) _, by simp⟩
  rw [← h3]
  congr 1
  exact List.filter_eq_self.2 fun x _ => by simp

theorem GR.next {r : Nat} {left : List (κ × ν)} (h : GR kv vv w m r D left) (K : KeysOk P k kv) (ty : TypeId) :
    (left = [] ∧ (Instr.next (.pointer (some ⟨r, 0, none⟩)) false ty).run P w = .ok (.tuple #[.bool false]) w) ∨
    ∃ a b w', (a, b) ∈ left ∧ (Instr.next (.pointer (some ⟨r, 0, none⟩)) false ty).run P w = .ok (.tuple #[.bool true, kv a, vv b]) w' ∧ GR kv vv w' m r D (adel left a) ∧ w.grownBy w' (some r) ∧ w'.heap.size = w.heap.size ∧
      (Instr.entry (.pointer (some ⟨r, 0, none⟩))).run P w' = .ok (.tuple #[kv a, vv b]) w' := by
  have hD := h.map.nodup K
  obtain ⟨es, clock, since, seen, c0, hb, hs, h3, hr, hold, hsc, hsk, hl, hsub⟩ := h
  have hne : r ≠ m := by intro e; rw [e, hb] at hr; cases hr
  have hleft : (leftOf es seen).toList = es.toList.filter fun x => !seen.contains x.born := by unfold leftOf; rw [Array.toList_filter]
  rcases run_next_at (P := P) w ty r m since c0 seen es clock hr hb hold hsc with ⟨h0, hrun⟩ | ⟨x, hx, w1, hal, hrun⟩
  · refine .inl ⟨?_, hrun⟩
    have h1 : (leftOf es seen).toList = [] := by rw [← List.length_eq_zero_iff, Array.length_toList]; exact h0
    rw [← hleft, h1] at hl
    cases left with
    | nil => rfl
    | cons p l => simp at hl
  · rw [hleft] at hx
    obtain ⟨hxm, hxs⟩ := List.mem_filter.1 hx
    have hx2 : (x.key, x.val) ∈ left.map (fun p => (kv p.1, vv p.2)) := by rw [← hl]; exact List.mem_map.2 ⟨x, hx, rfl⟩
    obtain ⟨p, hp, he⟩ := List.mem_map.1 hx2
    simp only [Prod.mk.injEq] at he
    have hr1 : w1.heap[r]? = some (.mapIter (some m) since seen c0) := by rcases hal with rfl | rfl <;> exact hr
    have hb1 : w1.heap[m]? = some (.map es clock) := by rcases hal with rfl | rfl <;> exact hb
    have hset := heap_set (o' := .mapIter (some m) since (seen.push x.born) clock) hr1
    have hb' : (setBlock w1 r (.mapIter (some m) since (seen.push x.born) clock)).heap[m]? = some (.map es clock) := (hset.2 m (fun e1 => hne e1.symm)).trans hb1
    have hst := (stamped_iff es clock).1 hs
    refine .inr ⟨p.1, p.2, _, hp, by rw [he.1, he.2]; exact hrun, ⟨es, clock, since, seen.push x.born, clock, hb', hs, h3, hset.1, hold, hsk, hsk, ?_, (List.filter_sublist).trans hsub⟩, ?_, ?_, ?_⟩
    · -- the entries that are left: the ones of other keys
      have h4 : (es.toList.filter fun y => !(seen.push x.born).contains y.born) = (es.toList.filter fun y => !seen.contains y.born).filter fun y => decide (y.born ≠ x.born) := by
        rw [List.filter_filter]
        refine List.filter_congr fun y _ => ?_
        by_cases c : y.born = x.born <;> simp [c]
      rw [h4]
      have h5 : ∀ (E : List MapEntry) (L : List (κ × ν)), E.map (fun x => (x.key, x.val)) = L.map (fun p => (kv p.1, vv p.2)) → (∀ y ∈ E, (y.born = x.born ↔ y.key = x.key)) →
          (E.filter fun y => decide (y.born ≠ x.born)).map (fun x => (x.key, x.val)) = (adel L p.1).map (fun p => (kv p.1, vv p.2)) := by
        intro E
        induction E with
        | nil => intro L hL _; cases L with
          | nil => rfl
          | cons q L => simp at hL
        | cons y E ih =>
          intro L hL hy
          cases L with
          | nil => simp at hL
          | cons q L =>
            rw [List.map_cons, List.map_cons, List.cons.injEq] at hL
            have hq := hL.1
            simp only [Prod.mk.injEq] at hq
            have ih' := ih L hL.2 fun z hz => hy z (List.mem_cons_of_mem _ hz)
            unfold adel at ih' ⊢
            rw [List.filter_cons, List.filter_cons]
            have hiff : y.born = x.born ↔ q.1 = p.1 := by
              rw [hy y (by simp), hq.1, ← he.1]
              exact ⟨K.inj _ _, fun e => by rw [e]⟩
            by_cases c : q.1 = p.1
            · rw [if_neg (by simp [hiff.2 c]), if_neg (by simp [c])]; exact ih'
            · rw [if_pos (by simpa using fun e => c (hiff.1 e)), if_pos (by simpa using c), List.map_cons, List.map_cons, ih', hq.1, hq.2]
      refine h5 _ _ hl fun y hy => ?_
      have hym := (List.mem_filter.1 hy).1
      constructor
      · intro e; rw [born_inj hst.2.1 hym hxm e]
      · intro e; rw [entry_key hst.2.2 hym hxm e]
    · rcases hal with rfl | rfl <;> exact ⟨rfl, rfl, rfl, by simp [setBlock], fun i _ hi => hset.2 i (fun e1 => hi (by rw [e1]))⟩
    · rcases hal with rfl | rfl <;> simp [setBlock]
    · rw [he.1, he.2]
      exact run_entry_at _ r m since seen es clock x hset.1 hb' hxm hst.2.1
where
  entry_key : ∀ {l : List MapEntry}, l.Pairwise (fun x y => x.key ≠ y.key) → ∀ {x y : MapEntry}, x ∈ l → y ∈ l → x.key = y.key → x = y
  | [], _, _, _, hx, _, _ => by simp at hx
  | a :: r, hp, x, y, hx, hy, h => by
    obtain ⟨h1, h2⟩ := List.pairwise_cons.1 hp
    rcases List.mem_cons.1 hx with ex | hx'
    · rcases List.mem_cons.1 hy with ey | hy'
      · rw [ex, ey]
      · exact absurd (ex ▸ h) (h1 y hy')
    · rcases List.mem_cons.1 hy with ey | hy'
      · exact absurd (ey ▸ h).symm (h1 x hx')
      · exact entry_key h2 hx' hy' h
/-- the store, at the operation -/
theorem wpList_gm_update {ops : Array Oper} {rest : List Oper} {o : Oper} {a : Act} {Q : Exit → Act → World → Prop}
    (hg : o.guard = none) (x y v : Operand) (t : TypeId) (hop : o.op = Op.mapUpdate t x y v) {k e : TypeId} (K : KeysOk P k kv) (ht : P.underlying t = some (.map k e)) (vv : ν → Value) (m : Nat) (D : List (κ × ν)) (c : κ) (b : ν)
    (hm : a.eval x = .map (some m)) (hx : a.eval y = kv c) (hv : a.eval v = vv b) (h : GM kv vv w m D)
    (hK : ∀ w', GM kv vv w' m (aput D c b) → w.grownBy w' (some m) → w'.heap.size = w.heap.size → wpList P ops Q rest (a.put o.dst undef) w') : wpList P ops Q (o :: rest) a w := by
  refine wpList_plain hg fun K' hK' => ?_
  obtain ⟨w', hrun, r1, r2, r3⟩ := h.update (P := P) K ht c b
  unfold Oper.wp execOp
  simp only [hop, hm, hx, hv, Sem.run_bind, hrun, Result.andThen_ok, Sem.run_pure]
  exact hK' _ _ (hK w' r1 r2 r3)
theorem wp_gm_update {o : Oper} {a : Act} {K : Act → World → Prop} {Q : Exit → Act → World → Prop}
    (x y v : Operand) (t : TypeId) (hop : o.op = Op.mapUpdate t x y v) {k e : TypeId} (KK : KeysOk P k kv) (ht : P.underlying t = some (.map k e)) (vv : ν → Value) (m : Nat) (D : List (κ × ν)) (c : κ) (b : ν)
    (hm : a.eval x = .map (some m)) (hx : a.eval y = kv c) (hv : a.eval v = vv b) (h : GM kv vv w m D)
    (hK : ∀ w', GM kv vv w' m (aput D c b) → w.grownBy w' (some m) → w'.heap.size = w.heap.size → K (a.put o.dst undef) w') : o.wp P a w K Q := by
  obtain ⟨w', hrun, r1, r2, r3⟩ := h.update (P := P) KK ht c b
  unfold Oper.wp execOp
  simp only [hop, hm, hx, hv, Sem.run_bind, hrun, Result.andThen_ok, Sem.run_pure]
  exact hK w' r1 r2 r3
omit [DecidableEq κ] in
theorem run_makeMap_hint {k e : TypeId} (ht : P.underlying t = some (.map k e)) (h : Int) (w : World) : (Instr.makeMap t (some (.int .i64 h))).run P w = .ok (.map (some w.heap.size)) (w.alloc (.map #[] 0)) := by
  unfold Instr.makeMap
  simp only [Sem.run_bind, run_underlying ht, Result.andThen_ok, asInt, Sem.run_pure]
  rfl
end
end Go.XR
