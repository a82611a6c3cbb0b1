/- Walks and laws that the statements of this seat share, part 1. -/
import Derived.Maps.RangeRun
import Derived.Maps.OwnOps
import Derived.Below
import Derived.DeepKeys5
import Derived.KernelRfl
import Derived.WalkKit
import Derived.Laws.StructEq
import Derived.WalkLawsBesides
import Derived.WalkSpells
import Derived.BigQuiet
import Derived.Lib.Hide
import Derived.Laws.Rows
import Derived.Laws.CopyRow
import Derived.Test.YtnfbchhbcinloaaGreatProg
import Derived.ProofKit
import Derived.OpenShut
import Derived.ShutString
import Derived.ChangeOld
import Derived.SizedLaws
import Derived.Deep.Slices
import Derived.Laws.OwnMore
import Derived.Laws.MakeOwn
import Derived.BigFrame
import Derived.Deep.LoopGhost
import Derived.Laws.ResultCell
import Derived.OrdersHeld
import Derived.Tactics
import Derived.Deep.RegionHeld3
import Derived.Sort.Grow
import Derived.Laws.BitsAllLaws
/- Maps known entry by entry: a block is a map that has just the pairs of a list, in the order in which they came. -/
namespace Go.XR
open Go.ChangeMaps Go.MapKept Go.RowKit
open Go.Maps (Keyed)

section
variable {κ ν : Type} [DecidableEq κ]
def aget (D : List (κ × ν)) (a : κ) : Option ν := (D.find? fun p => decide (p.1 = a)).map (·.2)
def aput (D : List (κ × ν)) (a : κ) (b : ν) : List (κ × ν) := if (aget D a).isSome then D.map fun p => if p.1 = a then (a, b) else p else D ++ [(a, b)]
def adel (D : List (κ × ν)) (a : κ) : List (κ × ν) := D.filter fun p => decide (p.1 ≠ a)

theorem aget_none {D : List (κ × ν)} {a : κ} : aget D a = none ↔ ∀ p ∈ D, p.1 ≠ a := by
  unfold aget
  rw [Option.map_eq_none_iff, List.find?_eq_none]
  simp
theorem aget_nil (a : κ) : aget ([] : List (κ × ν)) a = none := rfl
theorem aget_cons (p : κ × ν) (D : List (κ × ν)) (a : κ) : aget (p :: D) a = if p.1 = a then some p.2 else aget D a := by
  unfold aget
  rw [List.find?_cons]
  by_cases h : p.1 = a <;> simp [h]
theorem aget_mem {D : List (κ × ν)} (hD : (D.map (·.1)).Nodup) {a : κ} {b : ν} : aget D a = some b ↔ (a, b) ∈ D := by
  induction D with
  | nil => simp [aget_nil]
  | cons p D ih =>
    rw [List.map_cons, List.nodup_cons] at hD
    rw [aget_cons, List.mem_cons]
    by_cases h : p.1 = a
    · rw [if_pos h]
      constructor
      · intro e; cases e; left; rw [← h]
      · rintro (e | e)
        · rw [← e]
        · exact absurd (List.mem_map.2 ⟨(a, b), e, rfl⟩) (h ▸ hD.1)
    · rw [if_neg h, ih hD.2]
      constructor
      · exact .inr
      · rintro (e | e)
        · exact absurd (by rw [← e]) h
        · exact e
theorem aput_keys_old {D : List (κ × ν)} {a : κ} {b : ν} : (D.map fun p => if p.1 = a then (a, b) else p).map (·.1) = D.map (·.1) := by
  rw [List.map_map]
  refine List.map_congr_left fun p _ => ?_
  show (if p.1 = a then (a, b) else p).1 = p.1
  split
  · rename_i h; exact h.symm
  · rfl
theorem aput_nodup {D : List (κ × ν)} (hD : (D.map (·.1)).Nodup) (a : κ) (b : ν) : ((aput D a b).map (·.1)).Nodup := by
  unfold aput
  split
  · rw [aput_keys_old]; exact hD
  · rename_i h
    have hn : aget D a = none := by simpa using h
    rw [aget_none] at hn
    rw [List.map_append, List.nodup_append]
    refine ⟨hD, by simp, ?_⟩
    intro x hx y hy
    obtain ⟨p, hp, rfl⟩ := List.mem_map.1 hx
    simp at hy
    subst hy
    exact hn p hp
theorem adel_nodup {D : List (κ × ν)} (hD : (D.map (·.1)).Nodup) (a : κ) : ((adel D a).map (·.1)).Nodup :=
  hD.sublist ((List.filter_sublist).map _)
theorem aget_put (D : List (κ × ν)) (a c : κ) (b : ν) : aget (aput D a b) c = if c = a then some b else aget D c := by
  unfold aput
  by_cases h : (aget D a).isSome = true
  · rw [if_pos h]
    induction D with
    | nil => rw [aget_nil] at h; cases h
    | cons p D ih =>
      rw [List.map_cons, aget_cons, aget_cons]
      rw [aget_cons] at h
      by_cases hp : p.1 = a
      · rw [if_pos hp]
        by_cases hc : c = a
        · subst hc; rw [if_pos rfl, if_pos rfl]
        · have h1 : ¬ a = c := fun e => hc e.symm
          have h2 : ¬ p.1 = c := fun e => hc (by rw [← e, hp])
          rw [if_neg h1, if_neg hc, if_neg h2]
          clear ih h
          induction D with
          | nil => rfl
          | cons q D ih =>
            rw [List.map_cons, aget_cons, aget_cons, ih]
            by_cases hq : q.1 = a
            · rw [if_pos hq, if_neg h1, if_neg (fun e => hc (by rw [← e, hq]))]
            · rw [if_neg hq]
      · rw [if_neg hp]
        rw [if_neg hp] at h
        rw [ih h]
        by_cases hc : p.1 = c
        · rw [if_pos hc, if_pos hc, if_neg (fun e => hp (by rw [hc, e]))]
        · rw [if_neg hc, if_neg hc]
  · rw [if_neg h]
    have hn : aget D a = none := by simpa using h
    clear h
    induction D with
    | nil =>
      rw [List.nil_append, aget_cons, aget_nil]
      by_cases hc : c = a
      · subst hc; simp
      · rw [if_neg (fun e => hc e.symm), if_neg hc]
    | cons p D ih =>
      rw [aget_none] at hn
      have h1 := hn p (by simp)
      rw [List.cons_append, aget_cons, aget_cons, ih (aget_none.2 fun q hq => hn q (List.mem_cons_of_mem _ hq))]
      by_cases hc : p.1 = c
      · rw [if_pos hc, if_pos hc, if_neg (fun e => h1 (by rw [hc, e]))]
      · rw [if_neg hc, if_neg hc]
theorem aget_del (D : List (κ × ν)) (a c : κ) : aget (adel D a) c = if c = a then none else aget D c := by
  unfold adel
  induction D with
  | nil => simp [aget_nil]
  | cons p D ih =>
    rw [List.filter_cons, aget_cons]
    by_cases hp : p.1 = a
    · rw [if_neg (by simp [hp]), ih]
      by_cases hc : c = a
      · rw [if_pos hc, if_pos hc]
      · rw [if_neg hc, if_neg hc, if_neg (fun e => hc (by rw [← e, hp]))]
    · rw [if_pos (by simp [hp]), aget_cons, ih]
      by_cases hc : p.1 = c
      · rw [if_pos hc, if_pos hc, if_neg (fun e => hp (by rw [hc, e]))]
      · rw [if_neg hc, if_neg hc]
theorem aput_length (D : List (κ × ν)) (a : κ) (b : ν) : (aput D a b).length = if (aget D a).isSome then D.length else D.length + 1 := by
  unfold aput
  split
  · rw [List.length_map]
  · rw [List.length_append]; rfl
theorem aput_le (D : List (κ × ν)) (a : κ) (b : ν) : (aput D a b).length ≤ D.length + 1 := by
  rw [aput_length]; split <;> omega
theorem mem_adel {D : List (κ × ν)} {a : κ} {p : κ × ν} : p ∈ adel D a ↔ p ∈ D ∧ p.1 ≠ a := by
  unfold adel; rw [List.mem_filter]; simp
end

/-- the keys of a kind: how their values look -/
structure KeysOk {κ : Type} (P : Program) (k : TypeId) (kv : κ → Value) : Prop where
  keyed : Keyed P k
  ok : ∀ a, ∃ l, keyOf P k (kv a) = some l
  inj : ∀ a b, kv a = kv b → a = b

/-- block m of w is a map that has just the pairs D -/
def GM {κ ν : Type} (kv : κ → Value) (vv : ν → Value) (w : World) (m : Nat) (D : List (κ × ν)) : Prop :=
  ∃ es clock, w.heap[m]? = some (.map es clock) ∧ Stamped es clock ∧ es.toList.map (fun x => (x.key, x.val)) = D.map (fun p => (kv p.1, vv p.2))

section
variable {κ ν : Type} [DecidableEq κ] {kv : κ → Value} {vv : ν → Value} {P : Program} {k t e : TypeId} {w : World} {m : Nat} {D : List (κ × ν)}

omit [DecidableEq κ] in
theorem GM.lt (h : GM kv vv w m D) : m < w.heap.size := by
  obtain ⟨es, clock, hb, _⟩ := h
  exact (Array.getElem?_eq_some_iff.1 hb).1
omit [DecidableEq κ] in
theorem GM.block (h : GM kv vv w m D) {w' : World} (hb : w'.heap[m]? = w.heap[m]?) : GM kv vv w' m D := by
  obtain ⟨es, clock, h1, h2⟩ := h
  exact ⟨es, clock, hb.trans h1, h2⟩
omit [DecidableEq κ] in
theorem GM.below (h : GM kv vv w m D) {w' : World} (hb : Below w.heap.size w w') : GM kv vv w' m D := h.block (hb.block m h.lt)
omit [DecidableEq κ] in
theorem GM.kept (h : GM kv vv w m D) {w' : World} {row : Option Nat} (hg : w.grownBy w' row) (hne : some m ≠ row) : GM kv vv w' m D := h.block (hg.block m h.lt hne)
omit [DecidableEq κ] in
theorem GM.made (kv : κ → Value) (vv : ν → Value) (w : World) : GM kv vv (w.alloc (.map #[] 0)) w.heap.size [] :=
  ⟨#[], 0, (MapKept.heap_alloc w _).1, stamped_empty 0, rfl⟩
omit [DecidableEq κ] in
theorem GM.nodup (_ : KeysOk P k kv) (h : GM kv vv w m D) : (D.map (·.1)).Nodup := by
  obtain ⟨es, clock, _, h2, h3⟩ := h
  have h4 := ((stamped_iff es clock).1 h2).2.2
  have h5 : (es.toList.map (·.key)).Nodup := by
    unfold List.Nodup
    rw [List.pairwise_map]
    exact h4.imp fun h e => h e
  have h6 : es.toList.map (·.key) = (D.map (·.1)).map kv := by
    have := congrArg (List.map Prod.fst) h3
    rw [List.map_map, List.map_map] at this
    rw [List.map_map]
    exact this
  rw [h6] at h5
  exact List.Pairwise.of_map kv (fun a b h e => h (by rw [e])) h5

omit [DecidableEq κ] in
theorem gm_at {es : Array MapEntry} (h : es.toList.map (fun x => (x.key, x.val)) = D.map (fun p => (kv p.1, vv p.2))) {j : Nat} {e0 : MapEntry} (hj : es.toList[j]? = some e0) : ∃ a b, D[j]? = some (a, b) ∧ e0.key = kv a ∧ e0.val = vv b := by
  have h1 : (es.toList.map (fun x => (x.key, x.val)))[j]? = some (e0.key, e0.val) := by rw [List.getElem?_map, hj]; rfl
  rw [h, List.getElem?_map] at h1
  cases hd : D[j]? with
  | none => rw [hd] at h1; cases h1
  | some p =>
    rw [hd] at h1
    simp only [Option.map_some, Option.some.injEq, Prod.mk.injEq] at h1
    exact ⟨p.1, p.2, rfl, h1.1.symm, h1.2.symm⟩
omit [DecidableEq κ] in
theorem gm_mem {es : Array MapEntry} (h : es.toList.map (fun x => (x.key, x.val)) = D.map (fun p => (kv p.1, vv p.2))) {p : κ × ν} (hp : p ∈ D) : ∃ x ∈ es.toList, x.key = kv p.1 ∧ x.val = vv p.2 := by
  have h1 : (kv p.1, vv p.2) ∈ es.toList.map (fun x => (x.key, x.val)) := by rw [h]; exact List.mem_map.2 ⟨p, hp, rfl⟩
  obtain ⟨x, hx, he⟩ := List.mem_map.1 h1
  simp only [Prod.mk.injEq] at he
  exact ⟨x, hx, he.1, he.2⟩

/-- where a key stands -/
theorem gm_find (K : KeysOk P k kv) {es : Array MapEntry} {clock : Nat} (_ : Stamped es clock) (h : es.toList.map (fun x => (x.key, x.val)) = D.map (fun p => (kv p.1, vv p.2))) (hD : (D.map (·.1)).Nodup) (w : World) (a : κ) :
    ((Instr.findKey k (kv a) es.toList).run P w = .ok none w ∧ (∀ x ∈ es.toList, x.key ≠ kv a) ∧ aget D a = none) ∨
    ∃ j e0 b, (Instr.findKey k (kv a) es.toList).run P w = .ok (some (j, vv b)) w ∧ es.toList[j]? = some e0 ∧ e0.key = kv a ∧ e0.val = vv b ∧ D[j]? = some (a, b) ∧ aget D a = some b := by
  obtain ⟨l, hl⟩ := K.ok a
  rcases K.keyed.find w hl es.toList (fun x hx => by
      obtain ⟨j, hj⟩ := List.mem_iff_getElem?.1 hx
      obtain ⟨a', b', _, h2, _⟩ := gm_at h hj
      rw [h2]; exact K.ok a') with ⟨h1, h2⟩ | ⟨j, e0, h1, h2, h3⟩
  · refine .inl ⟨h1, h2, aget_none.2 fun p hp e => ?_⟩
    obtain ⟨x, hx, hk, _⟩ := gm_mem h hp
    exact h2 x hx (by rw [hk, e])
  · obtain ⟨a', b', hd, hk, hv⟩ := gm_at h h2
    have : a' = a := K.inj _ _ (hk ▸ h3)
    subst this
    exact .inr ⟨j, e0, b', by rw [← hv]; exact h1, h2, h3, hv, hd, (aget_mem hD).2 (List.mem_of_getElem? hd)⟩

theorem GM.lookup (h : GM kv vv w m D) (K : KeysOk P k kv) (ht : P.underlying t = some (.map k e)) {z : Value} (hz : (zeroValue e).run P w = .ok z w) (a : κ) :
    (Instr.lookup t (.map (some m)) (kv a) false).run P w = .ok (((aget D a).map vv).getD z) w := by
  have hD := h.nodup K
  obtain ⟨es, clock, hb, hs, h3⟩ := h
  obtain ⟨l, hl⟩ := K.ok a
  rcases gm_find K hs h3 hD w a with ⟨f1, f2, f3⟩ | ⟨j, e0, b, f1, f2, f3, f4, f5, f6⟩
  · rw [f3]
    simp [Instr.lookup, run_underlying ht, MapKept.run_getObj_map hb, K.keyed.check w _ hl, f1, hz, Result.andThen]
  · rw [f6]
    simp [Instr.lookup, run_underlying ht, MapKept.run_getObj_map hb, K.keyed.check w _ hl, f1, Result.andThen]
theorem GM.lookup_ok (h : GM kv vv w m D) (K : KeysOk P k kv) (ht : P.underlying t = some (.map k e)) {z : Value} (hz : (zeroValue e).run P w = .ok z w) (a : κ) :
    (Instr.lookup t (.map (some m)) (kv a) true).run P w = .ok (.tuple #[((aget D a).map vv).getD z, .bool (aget D a).isSome]) w := by
  have hD := h.nodup K
  obtain ⟨es, clock, hb, hs, h3⟩ := h
  obtain ⟨l, hl⟩ := K.ok a
  rcases gm_find K hs h3 hD w a with ⟨f1, f2, f3⟩ | ⟨j, e0, b, f1, f2, f3, f4, f5, f6⟩
  · rw [f3]
    simp [Instr.lookup, run_underlying ht, MapKept.run_getObj_map hb, K.keyed.check w _ hl, f1, hz, Result.andThen]
  · rw [f6]
    simp [Instr.lookup, run_underlying ht, MapKept.run_getObj_map hb, K.keyed.check w _ hl, f1, Result.andThen]
omit [DecidableEq κ] in
theorem lookup_nil (K : KeysOk P k kv) (ht : P.underlying t = some (.map k e)) {z : Value} (hz : (zeroValue e).run P w = .ok z w) (a : κ) (c : Bool) :
    (Instr.lookup t (.map none) (kv a) c).run P w = .ok (if c then .tuple #[z, .bool false] else z) w := by
  obtain ⟨l, hl⟩ := K.ok a
  have hf : (Instr.findKey k (kv a) []).run P w = .ok none w := by
    rcases K.keyed.find w hl [] (fun x hx => by cases hx) with ⟨h, _⟩ | ⟨j, e0, _, h, _⟩
    · exact h
    · cases h
  cases c <;> simp [Instr.lookup, run_underlying ht, K.keyed.check w _ hl, hf, hz, Result.andThen]

theorem set_aput (D : List (κ × ν)) (hD : (D.map (·.1)).Nodup) {j : Nat} {a : κ} {b c : ν} (hj : D[j]? = some (a, b)) : D.set j (a, c) = aput D a c := by
  unfold aput
  rw [if_pos (by rw [(aget_mem hD).2 (List.mem_of_getElem? hj)]; rfl)]
  refine List.ext_getElem? fun i => ?_
  rw [List.getElem?_set, List.getElem?_map]
  by_cases hij : j = i
  · subst hij
    rw [if_pos rfl, if_pos (List.getElem?_eq_some_iff.1 hj).1, hj]
    simp
  · rw [if_neg hij]
    cases hi : D[i]? with
    | none => rfl
    | some p =>
      rw [Option.map_some, if_neg]
      intro hp
      apply hij
      have h1 := (List.getElem?_eq_some_iff.1 hj)
      have h2 := (List.getElem?_eq_some_iff.1 hi)
      obtain ⟨l1, e1⟩ := h1
      obtain ⟨l2, e2⟩ := h2
      refine (List.getElem_inj (xs := D.map (·.1)) (h₀ := by simpa using l1) (h₁ := by simpa using l2) hD).1 ?_
      rw [List.getElem_map, List.getElem_map, e1, e2, hp]

theorem GM.update (h : GM kv vv w m D) (K : KeysOk P k kv) (ht : P.underlying t = some (.map k e)) (a : κ) (b : ν) :
    ∃ w', (Instr.mapUpdate t (.map (some m)) (kv a) (vv b)).run P w = .ok () w' ∧ GM kv vv w' m (aput D a b) ∧ w.grownBy w' (some m) ∧ w'.heap.size = w.heap.size := by
  have hD := h.nodup K
  obtain ⟨es, clock, hb, hs, h3⟩ := h
  obtain ⟨l, hl⟩ := K.ok a
  have hg : ∀ o, w.grownBy (setBlock w m o) (some m) := fun o => ⟨rfl, rfl, rfl, by simp [setBlock], fun i _ hi => heap_setBlock_other hb _ (fun e => hi (by rw [e]))⟩
  rcases gm_find K hs h3 hD w a with ⟨f1, f2, f3⟩ | ⟨j, e0, b0, f1, f2, f3, f4, f5, f6⟩
  · refine ⟨setBlock w m (.map (es.push ⟨kv a, vv b, clock⟩) (clock + 1)), ?_, ⟨_, _, heap_setBlock_same hb _, stamped_push hs f2, ?_⟩, hg _, by simp [setBlock]⟩
    · simp [Instr.mapUpdate, run_underlying ht, MapKept.run_getObj_map hb, K.keyed.check w _ hl, f1, MapKept.run_setObj_map _ hb, Result.andThen, setBlock]
    · unfold aput
      rw [f3]
      simp [h3]
  · have hj : es[j]? = some e0 := by simpa using f2
    have hkeyf : ∀ e', es[j]? = some e' → ({ e' with key := kv a, val := vv b } : MapEntry).key = e'.key := fun e' he' => by rw [hj] at he'; cases he'; exact f3.symm
    refine ⟨setBlock w m (.map (es.modify j (fun e' => { e' with key := kv a, val := vv b })) clock), ?_, ⟨_, _, heap_setBlock_same hb _, stamped_modify hs _ _ (fun _ _ => rfl) (fun e' _ he' => hkeyf e' he'), ?_⟩, hg _, by simp [setBlock]⟩
    · simp [Instr.mapUpdate, run_underlying ht, MapKept.run_getObj_map hb, K.keyed.check w _ hl, f1, hj, f3, K.keyed.stays w hl, MapKept.run_setObj_map _ hb, Result.andThen, setBlock]
    · have hlist : (es.modify j (fun e' => { e' with key := kv a, val := vv b })).toList = es.toList.set j { e0 with key := kv a, val := vv b } := by
        rw [Array.toList_modify]
        refine List.ext_getElem? fun i => ?_
        rw [List.getElem?_modify, List.getElem?_set]
        by_cases c : j = i
        · subst c
          rw [f2, if_pos rfl, if_pos (List.getElem?_eq_some_iff.1 f2).1]
          simp
        · rw [if_neg c]
          cases hi : es.toList[i]? <;> simp [c]
      rw [hlist, List.map_set, h3, ← set_aput D hD f5, List.map_set]

omit [DecidableEq κ] in
theorem map_erase {α β : Type} (f : α → β) : ∀ (l : List α) (j : Nat), (l.eraseIdx j).map f = (l.map f).eraseIdx j
  | [], j => by simp
  | x :: l, 0 => rfl
  | x :: l, j + 1 => by rw [List.eraseIdx_cons_succ, List.map_cons, List.map_cons, List.eraseIdx_cons_succ, map_erase f l j]
theorem erase_adel (hD : (D.map (·.1)).Nodup) {j : Nat} {a : κ} {b : ν} (hj : D[j]? = some (a, b)) : D.eraseIdx j = adel D a := by
  induction D generalizing j with
  | nil => simp at hj
  | cons p D ih =>
    rw [List.map_cons, List.nodup_cons] at hD
    cases j with
    | zero =>
      simp at hj
      subst hj
      rw [List.eraseIdx_cons_zero]
      unfold adel
      rw [List.filter_cons, if_neg (by simp)]
      refine (List.filter_eq_self.2 fun q hq => ?_).symm
      refine decide_eq_true fun e => hD.1 ?_
      show a ∈ _
      rw [← e]; exact List.mem_map.2 ⟨q, hq, rfl⟩
    | succ j =>
      rw [List.getElem?_cons_succ] at hj
      rw [List.eraseIdx_cons_succ, ih hD.2 hj]
      unfold adel
      rw [List.filter_cons, if_pos]
      refine decide_eq_true fun e => hD.1 ?_
      rw [e]; exact List.mem_map.2 ⟨(a, b), List.mem_of_getElem? hj, rfl⟩

theorem GM.delete {ty : TypeId} (h : GM kv vv w m D) (K : KeysOk P k kv) (ht : P.underlying t = some (.map k e)) (a : κ) :
    ∃ w', (Builtin.delete_ #[t, k] ty #[.map (some m), kv a]).run P w = .ok (.tuple #[]) w' ∧ GM kv vv w' m (adel D a) ∧ w.grownBy w' (some m) ∧ w'.heap.size = w.heap.size := by
  have hD := h.nodup K
  obtain ⟨es, clock, hb, hs, h3⟩ := h
  obtain ⟨l, hl⟩ := K.ok a
  have hg : ∀ o, w.grownBy (setBlock w m o) (some m) := fun o => ⟨rfl, rfl, rfl, by simp [setBlock], fun i _ hi => heap_setBlock_other hb _ (fun e => hi (by rw [e]))⟩
  rcases gm_find K hs h3 hD w a with ⟨f1, f2, f3⟩ | ⟨j, e0, b0, f1, f2, f3, f4, f5, f6⟩
  · refine ⟨setBlock w m (.map es clock), ?_, ⟨_, _, heap_setBlock_same hb _, hs, ?_⟩, hg _, by simp [setBlock]⟩
    · simp [Builtin.delete_, run_underlying ht, MapKept.run_getObj_map hb, K.keyed.check w _ hl, f1, MapKept.run_setObj_map _ hb, Result.andThen, setBlock]
    · rw [h3]
      unfold adel
      rw [List.filter_eq_self.2]
      intro p hp
      exact decide_eq_true (aget_none.1 f3 p hp)
  · have hjl : j < es.toList.length := (List.getElem?_eq_some_iff.1 f2).1
    have hjs : j < es.size := by simpa using hjl
    have hsub : (es.eraseIdxIfInBounds j).toList = es.toList.eraseIdx j := by
      unfold Array.eraseIdxIfInBounds
      rw [dif_pos hjs]
      simp
    refine ⟨setBlock w m (.map (es.eraseIdxIfInBounds j) clock), ?_, ⟨_, _, heap_setBlock_same hb _, stamped_erase hs j, ?_⟩, hg _, by simp [setBlock]⟩
    · simp [Builtin.delete_, run_underlying ht, MapKept.run_getObj_map hb, K.keyed.check w _ hl, f1, MapKept.run_setObj_map _ hb, Result.andThen, setBlock]
    · rw [hsub, map_erase, h3, ← erase_adel hD f5, map_erase]
omit [DecidableEq κ] in
theorem delete_nil {ty : TypeId} (K : KeysOk P k kv) (ht : P.underlying t = some (.map k e)) (a : κ) :
    (Builtin.delete_ #[t, k] ty #[.map none, kv a]).run P w = .ok (.tuple #[]) w := by
  obtain ⟨l, hl⟩ := K.ok a
  simp [Builtin.delete_, run_underlying ht, K.keyed.check w _ hl, Result.andThen]

/-- a range over a map is under way: the iterator's block r; the pairs that are still to come -/
def GR (kv : κ → Value) (vv : ν → Value) (w : World) (m r : Nat) (D left : List (κ × ν)) : Prop :=
  ∃ es clock since seen c0, w.heap[m]? = some (.map es clock) ∧ Stamped es clock ∧ es.toList.map (fun x => (x.key, x.val)) = D.map (fun p => (kv p.1, vv p.2)) ∧
    w.heap[r]? = some (.mapIter (some m) since seen c0) ∧ (∀ x ∈ es.toList, x.born < since) ∧ since ≤ c0 ∧ since ≤ clock ∧
    (es.toList.filter fun x => !seen.contains x.born).map (fun x => (x.key, x.val)) = left.map (fun p => (kv p.1, vv p.2)) ∧ left.Sublist D
omit [DecidableEq κ] in
theorem GR.map {r : Nat} {left : List (κ × ν)} (h : GR kv vv w m r D left) : GM kv vv w m D := by
  obtain ⟨es, clock, _, _, _, h1, h2, h3, _⟩ := h
  exact ⟨es, clock, h1, h2, h3⟩
omit [DecidableEq κ] in
theorem GR.sub {r : Nat} {left : List (κ × ν)} (h : GR kv vv w m r D left) : left.Sublist D := by
  obtain ⟨es, clock, _, _, _, _, _, _, _, _, _, _, _, h⟩ := h; exact h
omit [DecidableEq κ] in
theorem GR.lt {r : Nat} {left : List (κ × ν)} (h : GR kv vv w m r D left) : r < w.heap.size := by
  obtain ⟨es, clock, _, _, _, _, _, _, h, _⟩ := h
  exact (Array.getElem?_eq_some_iff.1 h).1
omit [DecidableEq κ] in
theorem GR.block {r : Nat} {left : List (κ × ν)} (h : GR kv vv w m r D left) {w' : World} (hb : w'.heap[m]? = w.heap[m]?) (hr : w'.heap[r]? = w.heap[r]?) : GR kv vv w' m r D left := by
  obtain ⟨es, clock, since, seen, c0, h1, h2, h3, h4, h5⟩ := h
  exact ⟨es, clock, since, seen, c0, hb.trans h1, h2, h3, hr.trans h4, h5⟩
omit [DecidableEq κ] in
theorem GR.below {r : Nat} {left : List (κ × ν)} (h : GR kv vv w m r D left) {w' : World} (hb : Below w.heap.size w w') : GR kv vv w' m r D left := h.block (hb.block m h.map.lt) (hb.block r h.lt)
omit [DecidableEq κ] in
theorem GR.kept {r : Nat} {left : List (κ × ν)} (h : GR kv vv w m r D left) {w' : World} {row : Option Nat} (hg : w.grownBy w' row) (hne : some m ≠ row) (hnr : some r ≠ row) : GR kv vv w' m r D left := h.block (hg.block m h.map.lt hne) (hg.block r h.lt hnr)

omit [DecidableEq κ] in
theorem GM.range (h : GM kv vv w m D) (ht : P.underlying t = some (.map k e)) :
    ∃ w', (Instr.range t (.map (some m))).run P w = .ok (.pointer (some ⟨w.heap.size, 0, none⟩)) w' ∧ GR kv vv w' m w.heap.size D D ∧ Below w.heap.size w w' ∧ w'.heap.size = w.heap.size + 1 := by
  have hlt := h.lt
  obtain ⟨es, clock, hb, hs, h3⟩ := h
  refine ⟨_, run_range_map w t k e m es clock ht hb, ⟨es, clock, clock, #[], clock, ((MapKept.heap_alloc w _).2 m hlt).trans hb, hs, h3, (MapKept.heap_alloc w _).1, hs.1, Nat.le_refl _, Nat.le_refl _, ?_, List.Sublist.refl _⟩, (Below.refl _ _).alloc (Nat.le_refl _) _, by simp⟩
  rw [← h3]
  congr 1
  exact List.filter_eq_self.2 fun x _ => by simp

theorem GR.next {r : Nat} {left : List (κ × ν)} (h : GR kv vv w m r D left) (K : KeysOk P k kv) (ty : TypeId) :
    (left = [] ∧ (Instr.next (.pointer (some ⟨r, 0, none⟩)) false ty).run P w = .ok (.tuple #[.bool false]) w) ∨
    ∃ a b w', (a, b) ∈ left ∧ (Instr.next (.pointer (some ⟨r, 0, none⟩)) false ty).run P w = .ok (.tuple #[.bool true, kv a, vv b]) w' ∧ GR kv vv w' m r D (adel left a) ∧ w.grownBy w' (some r) ∧ w'.heap.size = w.heap.size ∧
      (Instr.entry (.pointer (some ⟨r, 0, none⟩))).run P w' = .ok (.tuple #[kv a, vv b]) w' := by
  have hD := h.map.nodup K
  obtain ⟨es, clock, since, seen, c0, hb, hs, h3, hr, hold, hsc, hsk, hl, hsub⟩ := h
  have hne : r ≠ m := by intro e; rw [e, hb] at hr; cases hr
  have hleft : (leftOf es seen).toList = es.toList.filter fun x => !seen.contains x.born := by unfold leftOf; rw [Array.toList_filter]
  rcases run_next_at (P := P) w ty r m since c0 seen es clock hr hb hold hsc with ⟨h0, hrun⟩ | ⟨x, hx, w1, hal, hrun⟩
  · refine .inl ⟨?_, hrun⟩
    have h1 : (leftOf es seen).toList = [] := by rw [← List.length_eq_zero_iff, Array.length_toList]; exact h0
    rw [← hleft, h1] at hl
    cases left with
    | nil => rfl
    | cons p l => simp at hl
  · rw [hleft] at hx
    obtain ⟨hxm, hxs⟩ := List.mem_filter.1 hx
    have hx2 : (x.key, x.val) ∈ left.map (fun p => (kv p.1, vv p.2)) := by rw [← hl]; exact List.mem_map.2 ⟨x, hx, rfl⟩
    obtain ⟨p, hp, he⟩ := List.mem_map.1 hx2
    simp only [Prod.mk.injEq] at he
    have hr1 : w1.heap[r]? = some (.mapIter (some m) since seen c0) := by rcases hal with rfl | rfl <;> exact hr
    have hb1 : w1.heap[m]? = some (.map es clock) := by rcases hal with rfl | rfl <;> exact hb
    have hset := heap_set (o' := .mapIter (some m) since (seen.push x.born) clock) hr1
    have hb' : (setBlock w1 r (.mapIter (some m) since (seen.push x.born) clock)).heap[m]? = some (.map es clock) := (hset.2 m (fun e1 => hne e1.symm)).trans hb1
    have hst := (stamped_iff es clock).1 hs
    refine .inr ⟨p.1, p.2, _, hp, by rw [he.1, he.2]; exact hrun, ⟨es, clock, since, seen.push x.born, clock, hb', hs, h3, hset.1, hold, hsk, hsk, ?_, (List.filter_sublist).trans hsub⟩, ?_, ?_, ?_⟩
    · -- the entries that are left: the ones of other keys
      have h4 : (es.toList.filter fun y => !(seen.push x.born).contains y.born) = (es.toList.filter fun y => !seen.contains y.born).filter fun y => decide (y.born ≠ x.born) := by
        rw [List.filter_filter]
        refine List.filter_congr fun y _ => ?_
        by_cases c : y.born = x.born <;> simp [c]
      rw [h4]
      have h5 : ∀ (E : List MapEntry) (L : List (κ × ν)), E.map (fun x => (x.key, x.val)) = L.map (fun p => (kv p.1, vv p.2)) → (∀ y ∈ E, (y.born = x.born ↔ y.key = x.key)) →
          (E.filter fun y => decide (y.born ≠ x.born)).map (fun x => (x.key, x.val)) = (adel L p.1).map (fun p => (kv p.1, vv p.2)) := by
        intro E
        induction E with
        | nil => intro L hL _; cases L with
          | nil => rfl
          | cons q L => simp at hL
        | cons y E ih =>
          intro L hL hy
          cases L with
          | nil => simp at hL
          | cons q L =>
            rw [List.map_cons, List.map_cons, List.cons.injEq] at hL
            have hq := hL.1
            simp only [Prod.mk.injEq] at hq
            have ih' := ih L hL.2 fun z hz => hy z (List.mem_cons_of_mem _ hz)
            unfold adel at ih' ⊢
            rw [List.filter_cons, List.filter_cons]
            have hiff : y.born = x.born ↔ q.1 = p.1 := by
              rw [hy y (by simp), hq.1, ← he.1]
              exact ⟨K.inj _ _, fun e => by rw [e]⟩
            by_cases c : q.1 = p.1
            · rw [if_neg (by simp [hiff.2 c]), if_neg (by simp [c])]; exact ih'
            · rw [if_pos (by simpa using fun e => c (hiff.1 e)), if_pos (by simpa using c), List.map_cons, List.map_cons, ih', hq.1, hq.2]
      refine h5 _ _ hl fun y hy => ?_
      have hym := (List.mem_filter.1 hy).1
      constructor
      · intro e; rw [born_inj hst.2.1 hym hxm e]
      · intro e; rw [entry_key hst.2.2 hym hxm e]
    · rcases hal with rfl | rfl <;> exact ⟨rfl, rfl, rfl, by simp [setBlock], fun i _ hi => hset.2 i (fun e1 => hi (by rw [e1]))⟩
    · rcases hal with rfl | rfl <;> simp [setBlock]
    · rw [he.1, he.2]
      exact run_entry_at _ r m since seen es clock x hset.1 hb' hxm hst.2.1
where
  entry_key : ∀ {l : List MapEntry}, l.Pairwise (fun x y => x.key ≠ y.key) → ∀ {x y : MapEntry}, x ∈ l → y ∈ l → x.key = y.key → x = y
  | [], _, _, _, hx, _, _ => by simp at hx
  | a :: r, hp, x, y, hx, hy, h => by
    obtain ⟨h1, h2⟩ := List.pairwise_cons.1 hp
    rcases List.mem_cons.1 hx with ex | hx'
    · rcases List.mem_cons.1 hy with ey | hy'
      · rw [ex, ey]
      · exact absurd (ex ▸ h) (h1 y hy')
    · rcases List.mem_cons.1 hy with ey | hy'
      · exact absurd (ey ▸ h).symm (h1 x hx')
      · exact entry_key h2 hx' hy' h
/-- the store, at the operation -/
theorem wpList_gm_update {ops : Array Oper} {rest : List Oper} {o : Oper} {a : Act} {Q : Exit → Act → World → Prop}
    (hg : o.guard = none) (x y v : Operand) (t : TypeId) (hop : o.op = Op.mapUpdate t x y v) {k e : TypeId} (K : KeysOk P k kv) (ht : P.underlying t = some (.map k e)) (vv : ν → Value) (m : Nat) (D : List (κ × ν)) (c : κ) (b : ν)
    (hm : a.eval x = .map (some m)) (hx : a.eval y = kv c) (hv : a.eval v = vv b) (h : GM kv vv w m D)
    (hK : ∀ w', GM kv vv w' m (aput D c b) → w.grownBy w' (some m) → w'.heap.size = w.heap.size → wpList P ops Q rest (a.put o.dst undef) w') : wpList P ops Q (o :: rest) a w := by
  refine wpList_plain hg fun K' hK' => ?_
  obtain ⟨w', hrun, r1, r2, r3⟩ := h.update (P := P) K ht c b
  unfold Oper.wp execOp
  simp only [hop, hm, hx, hv, Sem.run_bind, hrun, Result.andThen_ok, Sem.run_pure]
  exact hK' _ _ (hK w' r1 r2 r3)
theorem wp_gm_update {o : Oper} {a : Act} {K : Act → World → Prop} {Q : Exit → Act → World → Prop}
    (x y v : Operand) (t : TypeId) (hop : o.op = Op.mapUpdate t x y v) {k e : TypeId} (KK : KeysOk P k kv) (ht : P.underlying t = some (.map k e)) (vv : ν → Value) (m : Nat) (D : List (κ × ν)) (c : κ) (b : ν)
    (hm : a.eval x = .map (some m)) (hx : a.eval y = kv c) (hv : a.eval v = vv b) (h : GM kv vv w m D)
    (hK : ∀ w', GM kv vv w' m (aput D c b) → w.grownBy w' (some m) → w'.heap.size = w.heap.size → K (a.put o.dst undef) w') : o.wp P a w K Q := by
  obtain ⟨w', hrun, r1, r2, r3⟩ := h.update (P := P) KK ht c b
  unfold Oper.wp execOp
  simp only [hop, hm, hx, hv, Sem.run_bind, hrun, Result.andThen_ok, Sem.run_pure]
  exact hK w' r1 r2 r3
omit [DecidableEq κ] in
theorem run_makeMap_hint {k e : TypeId} (ht : P.underlying t = some (.map k e)) (h : Int) (w : World) : (Instr.makeMap t (some (.int .i64 h))).run P w = .ok (.map (some w.heap.size)) (w.alloc (.map #[] 0)) := by
  unfold Instr.makeMap
  simp only [Sem.run_bind, run_underlying ht, Result.andThen_ok, asInt, Sem.run_pure]
  rfl
end
end Go.XR

/- Fingerprints, keys, places, rows as cells; '==' and map keys over them. -/
namespace Go.XR
open Go

structure KeyT where
  sum : Vector UInt8 32
  n : UInt32
deriving DecidableEq
structure PlaceT where
  shelf : Int
  slot : Int
deriving DecidableEq

def bV (b : UInt8) : Value := .int .u8 (b.toNat : Int)
def sumL (s : Vector UInt8 32) : List Value := s.toList.map bV
def keyL (k : KeyT) : List Value := sumL k.sum ++ [.int .u32 (k.n.toNat : Int)]
def placeL (p : PlaceT) : List Value := [.int .i64 p.shelf, .int .i64 p.slot]
def rowL (r : KeyT × PlaceT) : List Value := keyL r.1 ++ placeL r.2
def sumC (s : Vector UInt8 32) : Array Value := (sumL s).toArray
def keyC (k : KeyT) : Array Value := (keyL k).toArray
def placeC (p : PlaceT) : Array Value := (placeL p).toArray
def rowC (r : KeyT × PlaceT) : Array Value := (rowL r).toArray
abbrev sumV (s : Vector UInt8 32) : Value := .agg (sumC s)
abbrev keyV (k : KeyT) : Value := .agg (keyC k)
abbrev placeV (p : PlaceT) : Value := .agg (placeC p)
abbrev rowV (r : KeyT × PlaceT) : Value := .agg (rowC r)

theorem sumL_length (s : Vector UInt8 32) : (sumL s).length = 32 := by simp [sumL]
theorem keyL_length (k : KeyT) : (keyL k).length = 33 := by simp [keyL, sumL_length]
theorem placeL_length (p : PlaceT) : (placeL p).length = 2 := rfl
theorem rowL_length (r : KeyT × PlaceT) : (rowL r).length = 35 := by simp [rowL, keyL_length, placeL_length]
theorem sumC_size (s : Vector UInt8 32) : (sumC s).size = 32 := by simp [sumC, sumL_length]
theorem keyC_size (k : KeyT) : (keyC k).size = 33 := by simp [keyC, keyL_length]
theorem placeC_size (p : PlaceT) : (placeC p).size = 2 := rfl
theorem rowC_size (r : KeyT × PlaceT) : (rowC r).size = 35 := by simp [rowC, rowL_length]
theorem bV_inj {a b : UInt8} (h : bV a = bV b) : a = b := by
  unfold bV at h
  injection h with _ h
  exact UInt8.toNat_inj.1 (by omega)
theorem sumL_inj {a b : Vector UInt8 32} (h : sumL a = sumL b) : a = b := by
  have h1 : a.toList = b.toList := by
    unfold sumL at h
    exact List.map_inj_right (fun x y => bV_inj) |>.1 h
  exact Vector.toList_inj.1 h1
theorem keyL_inj {a b : KeyT} (h : keyL a = keyL b) : a = b := by
  obtain ⟨h1, h2⟩ := List.append_inj h (by rw [sumL_length, sumL_length])
  have h3 := sumL_inj h1
  simp at h2
  obtain ⟨s, n⟩ := a
  obtain ⟨s', n'⟩ := b
  simp at h3 h2
  subst h3
  have h4 : n = n' := UInt32.toNat_inj.1 (by omega)
  rw [h4]
theorem placeL_inj {a b : PlaceT} (h : placeL a = placeL b) : a = b := by
  unfold placeL at h
  simp at h
  obtain ⟨s, n⟩ := a
  obtain ⟨s', n'⟩ := b
  simp at h
  rw [h.1, h.2]
theorem rowL_inj {a b : KeyT × PlaceT} (h : rowL a = rowL b) : a = b := by
  obtain ⟨h1, h2⟩ := List.append_inj h (by rw [keyL_length, keyL_length])
  exact Prod.ext (keyL_inj h1) (placeL_inj h2)
theorem toArr_inj {a b : List Value} (h : a.toArray = b.toArray) : a = b := by
  have := congrArg Array.toList h; simpa using this
theorem agg_inj {a b : Array Value} (h : Value.agg a = .agg b) : a = b := by injection h
theorem keyV_inj (a b : KeyT) (h : keyV a = keyV b) : a = b := keyL_inj (toArr_inj (agg_inj h))
theorem sumV_inj (a b : Vector UInt8 32) (h : sumV a = sumV b) : a = b := sumL_inj (toArr_inj (agg_inj h))
theorem one_sumL (s : Vector UInt8 32) : ∀ v ∈ sumL s, v.oneCell' = true := by
  intro v hv
  obtain ⟨b, _, rfl⟩ := List.mem_map.1 hv
  rfl
theorem one_keyL (k : KeyT) : ∀ v ∈ keyL k, v.oneCell' = true := by
  intro v hv
  rcases List.mem_append.1 hv with h | h
  · exact one_sumL _ v h
  · rw [List.mem_singleton] at h; subst h; rfl
theorem one_placeL (p : PlaceT) : ∀ v ∈ placeL p, v.oneCell' = true := by
  intro v hv
  simp only [placeL, List.mem_cons, List.not_mem_nil, or_false] at hv
  rcases hv with rfl | rfl <;> rfl
theorem one_rowL (r : KeyT × PlaceT) : ∀ v ∈ rowL r, v.oneCell' = true := by
  intro v hv
  rcases List.mem_append.1 hv with h | h
  · exact one_keyL _ v h
  · exact one_placeL _ v h
theorem one_keyC (k : KeyT) : ∀ v ∈ (keyC k).toList, v.oneCell' = true := one_keyL k
theorem one_sumC (k : Vector UInt8 32) : ∀ v ∈ (sumC k).toList, v.oneCell' = true := one_sumL k
theorem one_rowC (k : KeyT × PlaceT) : ∀ v ∈ (rowC k).toList, v.oneCell' = true := one_rowL k

theorem sumC_get (s : Vector UInt8 32) {i : Nat} (h : i < 32) : (sumC s)[i]? = some (.int .u8 (s[i].toNat : Int)) := by
  simp [sumC, sumL, bV, h]
theorem keyC_sum (k : KeyT) : (keyC k).extract 0 (0 + 32) = sumC k.sum := by
  apply Array.ext'
  rw [Array.toList_extract, List.extract_eq_take_drop, List.drop_zero]
  exact List.take_left' (sumL_length _)
theorem keyC_n (k : KeyT) : (keyC k)[32]? = some (.int .u32 (k.n.toNat : Int)) := by
  unfold keyC
  rw [List.getElem?_toArray]
  unfold keyL
  rw [List.getElem?_append_right (by rw [sumL_length]; omega), sumL_length]; rfl
theorem rowC_key (r : KeyT × PlaceT) : (rowC r).extract 0 (0 + 33) = keyC r.1 := by
  apply Array.ext'
  rw [Array.toList_extract, List.extract_eq_take_drop, List.drop_zero]
  exact List.take_left' (keyL_length _)
theorem rowC_place (r : KeyT × PlaceT) : (rowC r).extract 33 (33 + 2) = placeC r.2 := by
  apply Array.ext'
  rw [Array.toList_extract, List.extract_eq_take_drop]
  have e : (rowL r).drop 33 = placeL r.2 := List.drop_left' (keyL_length _)
  show ((rowL r).drop 33).take (33 + 2 - 33) = _
  rw [e]
  rfl
theorem rowC_shelf (r : KeyT × PlaceT) : (rowC r)[33]? = some (.int .i64 r.2.shelf) := by
  unfold rowC
  rw [List.getElem?_toArray]
  unfold rowL
  rw [List.getElem?_append_right (by rw [keyL_length]; omega), keyL_length]; rfl
theorem rowC_slot (r : KeyT × PlaceT) : (rowC r)[34]? = some (.int .i64 r.2.slot) := by
  unfold rowC
  rw [List.getElem?_toArray]
  unfold rowL
  rw [List.getElem?_append_right (by rw [keyL_length]; omega), keyL_length]; rfl
theorem rowC_n (r : KeyT × PlaceT) : (rowC r)[32]? = some (.int .u32 (r.1.n.toNat : Int)) := by
  unfold rowC
  rw [List.getElem?_toArray]
  unfold rowL
  rw [List.getElem?_append_left (by rw [keyL_length]; omega)]
  have := keyC_n r.1
  unfold keyC at this
  rw [List.getElem?_toArray] at this
  exact this

theorem bV_wf (b : UInt8) : (Lit.int .u8 (b.toNat : Int)).wf = true := by
  have := b.toNat_lt
  simp [Lit.wf, IntKind.min, IntKind.max, IntKind.signed, IntKind.bits]
  omega
theorem u32_wf (b : UInt32) : (Lit.int .u32 (b.toNat : Int)).wf = true := by
  have := b.toNat_lt
  simp [Lit.wf, IntKind.min, IntKind.max, IntKind.signed, IntKind.bits]
  omega

section
variable {P : Program}
theorem mapM_range {f : Nat → Option (List Lit)} : ∀ (n : Nat), (∀ i, i < n → (f i).isSome = true) → ∃ ls9, (List.range n).mapM f = some ls9 := by
  intro n h
  suffices H : ∀ l : List Nat, (∀ i ∈ l, (f i).isSome = true) → ∃ ls9, l.mapM f = some ls9 from H _ fun i hi => h i (List.mem_range.1 hi)
  intro l
  induction l with
  | nil => intro _; exact ⟨[], rfl⟩
  | cons a l ih =>
    intro hl
    obtain ⟨b, hb⟩ := Option.isSome_iff_exists.1 (hl a (by simp))
    obtain ⟨ls9, ha⟩ := ih fun i hi => hl i (List.mem_cons_of_mem _ hi)
    exact ⟨b :: ls9, by simp [List.mapM_cons, hb, ha]⟩

theorem lits_array {d n : Nat} {t e : TypeId} {q : IntKind} (ht : P.underlying t = some (.array n e)) (he : P.underlying e = some (.int q)) (hce : P.cellsOf e = 1) (hct : P.cellsOf t = n)
    {cs : List Value} (hl : cs.length = n) (hw : ∀ v ∈ cs, ∃ z, v = .int q z ∧ (Lit.int q z).wf = true) : ∃ ls, P.keyLits (d + 2) t cs = some ls := by
  obtain ⟨ls9, ha⟩ := mapM_range (f := fun i => P.keyLits (d + 1) e ((cs.drop (i * P.cellsOf e)).take (P.cellsOf e))) n fun i hi => by
    rw [hce, Nat.mul_one, List.drop_eq_getElem_cons (by omega), List.take_succ_cons, List.take_zero]
    obtain ⟨z, hz, hzw⟩ := hw cs[i] (List.getElem_mem (by omega))
    rw [hz]
    simp [Program.keyLits, he, hzw]
  refine ⟨ls9.flatten, ?_⟩
  unfold Program.keyLits
  rw [ht]
  dsimp only
  rw [if_pos (by rw [hct]; exact hl), ha]; rfl

theorem lits_int {d : Nat} {t : TypeId} {q : IntKind} (ht : P.underlying t = some (.int q)) {z : Int} (hw : (Lit.int q z).wf = true) : ∃ ls, P.keyLits (d + 1) t [.int q z] = some ls :=
  ⟨[.int q z], by simp [Program.keyLits, ht, hw]⟩

theorem lits_pair {d : Nat} {t : TypeId} {f1 f2 : Field} (ht : P.underlying t = some (.struct #[f1, f2])) (h1 : (f1.name != "_") = true) (h2 : (f2.name != "_") = true) (o1 : f1.offset = 0)
    {xs ys : List Value} (hx : xs.length = P.cellsOf f1.type) (hy : ys.length = P.cellsOf f2.type) (o2 : f2.offset = xs.length) (hct : P.cellsOf t = xs.length + ys.length)
    (hlx : ∃ ls, P.keyLits d f1.type xs = some ls) (hly : ∃ ls, P.keyLits d f2.type ys = some ls) : ∃ ls, P.keyLits (d + 1) t (xs ++ ys) = some ls := by
  obtain ⟨a, ha⟩ := hlx
  obtain ⟨b, hb⟩ := hly
  refine ⟨[a, b].flatten, ?_⟩
  unfold Program.keyLits
  rw [ht]
  dsimp only
  rw [if_pos ⟨by rw [hct, List.length_append], by simp [h1, h2]⟩]
  have e1 : ((xs ++ ys).drop f1.offset).take (P.cellsOf f1.type) = xs := by rw [o1, List.drop_zero, ← hx]; exact List.take_left' rfl
  have e2 : ((xs ++ ys).drop f2.offset).take (P.cellsOf f2.type) = ys := by rw [o2, List.drop_left' rfl, ← hy, List.take_length]
  simp [List.mapM_cons, e1, e2, ha, hb]

theorem keyOf_of_lits {t : TypeId} (hwide : (match P.underlying t with | some (.array _ _) | some (.struct _) => true | _ => false) = true) (hk : P.keyType t = true)
    {cs : Array Value} (hs : cs.size = P.cellsOf t) (hl : ∃ ls, P.keyLits (P.types.size + 1) t cs.toList = some ls) : ∃ l, keyOf P t (.agg cs) = some l := by
  obtain ⟨ls, hl⟩ := hl
  refine ⟨.string (keyBytes ls), ?_⟩
  have hf : (Value.agg cs).formed P t = true := by
    unfold Value.formed
    split at hwide <;> simp_all
  unfold keyOf
  split
  · rw [if_pos (by simp [hk, hf])]; simp [Value.cells, hl]
  · rw [if_pos (by simp [hk, hf])]; simp [Value.cells, hl]
  · rename_i h1 h2
    split at hwide <;> simp_all

/-- '==' at a type of such cells -/
theorem equal_cells {α : Type} {t : TypeId} {c : α → Array Value} (hl : laidOutB P = true) (hsmall : P.types.size + 2 ≤ 10000) (hrow : t < P.types.size) (hk : P.keyType t = true)
    (hwide : (match P.underlying t with | some (.array _ _) | some (.struct _) => true | _ => false) = true)
    (ok : ∀ a, ∃ l, keyOf P t (.agg (c a)) = some l) (inj : ∀ a b, Value.agg (c a) = .agg (c b) → a = b) [DecidableEq α] (a b : α) (w : World) :
    (Op.equal t (.agg (c a)) (.agg (c b))).run P w = .ok (decide (a = b)) w := by
  obtain ⟨la, ha⟩ := ok a
  obtain ⟨lb, hb⟩ := ok b
  have K := deep_law_gate hl hsmall hrow hk hwide
  obtain ⟨r, hr, hiff⟩ := run_equal_deep (P := P) w (m := P.types.size + 1) (by omega) hk hwide ha hb
  rw [hr]
  congr 1
  rw [Bool.eq_iff_iff, hiff, decide_eq_true_iff]
  constructor
  · intro e
    subst e
    exact inj a b (K.inj ha hb)
  · rintro rfl
    rw [ha] at hb
    exact Option.some.inj hb
end
end Go.XR

/- Small laws for the walk: max and min of whole numbers. -/
namespace Go.XR
open Go
theorem max2_int (k k' : IntKind) (x y : Int) : Builtin.max2 (.int k x) (.int k' y) = pure (.int k (max x y)) := by
  simp only [Builtin.max2, gt_iff_lt]; congr 2; omega
theorem min2_int (k k' : IntKind) (x y : Int) : Builtin.min2 (.int k x) (.int k' y) = pure (.int k (min x y)) := by
  simp only [Builtin.min2]; congr 2; omega
theorem max_two (ats : Array TypeId) (ty : TypeId) (a b : Value) : Builtin.max_ ats ty #[a, b] = (Builtin.max2 a b >>= fun s => pure s) := by simp only [Builtin.max_, List.foldlM_cons, List.foldlM_nil]
theorem min_two (ats : Array TypeId) (ty : TypeId) (a b : Value) : Builtin.min_ ats ty #[a, b] = (Builtin.min2 a b >>= fun s => pure s) := by simp only [Builtin.min_, List.foldlM_cons, List.foldlM_nil]
theorem max_three (ats : Array TypeId) (ty : TypeId) (a b c : Value) : Builtin.max_ ats ty #[a, b, c] = (Builtin.max2 a b >>= fun s => Builtin.max2 s c >>= fun s => pure s) := by simp only [Builtin.max_, List.foldlM_cons, List.foldlM_nil]
theorem min_three (ats : Array TypeId) (ty : TypeId) (a b c : Value) : Builtin.min_ ats ty #[a, b, c] = (Builtin.min2 a b >>= fun s => Builtin.min2 s c >>= fun s => pure s) := by simp only [Builtin.min_, List.foldlM_cons, List.foldlM_nil]
@[go_sem ↓ high] theorem execOp_max2 (ρ : Operand → Value) (dst : Option Tmp) (x y : Operand) (ats : Array TypeId) (ty : TypeId) (pos : String) (after : Array Edge) (guard : Option (Nat × Bool)) :
    execOp ρ { dst, op := .call { callee := .builtin .max, args := #[x, y], argTypes := ats }, type := ty, pos, after, guard } = (do pure (.value (← Builtin.max2 (ρ x) (ρ y)))) := by
  rw [Go.BigFrame.execOp_builtin, Go.BigFrame.builtin_max]; simp [max_two]
@[go_sem ↓ high] theorem execOp_min2 (ρ : Operand → Value) (dst : Option Tmp) (x y : Operand) (ats : Array TypeId) (ty : TypeId) (pos : String) (after : Array Edge) (guard : Option (Nat × Bool)) :
    execOp ρ { dst, op := .call { callee := .builtin .min, args := #[x, y], argTypes := ats }, type := ty, pos, after, guard } = (do pure (.value (← Builtin.min2 (ρ x) (ρ y)))) := by
  rw [Go.BigFrame.execOp_builtin, Go.BigFrame.builtin_min]; simp [min_two]
@[go_sem ↓ high] theorem execOp_max3 (ρ : Operand → Value) (dst : Option Tmp) (x y z : Operand) (ats : Array TypeId) (ty : TypeId) (pos : String) (after : Array Edge) (guard : Option (Nat × Bool)) :
    execOp ρ { dst, op := .call { callee := .builtin .max, args := #[x, y, z], argTypes := ats }, type := ty, pos, after, guard } = (do pure (.value (← Builtin.max2 (ρ x) (ρ y) >>= fun s => Builtin.max2 s (ρ z)))) := by
  rw [Go.BigFrame.execOp_builtin, Go.BigFrame.builtin_max]; simp [max_three]
@[go_sem ↓ high] theorem execOp_min3 (ρ : Operand → Value) (dst : Option Tmp) (x y z : Operand) (ats : Array TypeId) (ty : TypeId) (pos : String) (after : Array Edge) (guard : Option (Nat × Bool)) :
    execOp ρ { dst, op := .call { callee := .builtin .min, args := #[x, y, z], argTypes := ats }, type := ty, pos, after, guard } = (do pure (.value (← Builtin.min2 (ρ x) (ρ y) >>= fun s => Builtin.min2 s (ρ z)))) := by
  rw [Go.BigFrame.execOp_builtin, Go.BigFrame.builtin_min]; simp [min_three]
attribute [go_sem high] max2_int min2_int

theorem ownsRow_shape {w : World} {base : Nat} {e : TypeId} {size : Nat} {v : Value} {n : Nat} {xs : List Value} (h : w.ownsRow base e size v n xs) : ∃ a c, v = .slice a n c := by
  rcases h.2 with ⟨rfl, rfl⟩ | ⟨g, cap, cur, rfl, _⟩
  · exact ⟨none, 0, rfl⟩
  · exact ⟨_, _, rfl⟩

/-- append to a row of the call's own, at one operation; the value that comes shows its shape -/
theorem wp_append {P : Program} {w : World} {A : Act} {K : Act → World → Prop} {Q : Exit → Act → World → Prop} {dst : Option Tmp} {s x : Operand} {t ty : TypeId} {pos : String} {after : Array Edge} {guard : Option (Nat × Bool)}
    (base : Nat) (e : TypeId) (i : TypeInfo) (z : Value) (size bytes : Nat) (ht : P.underlying t = some (.slice e)) (hi : P.info? e = some i) (hz : i.zero = some z)
    (hsize : i.size = size) (hby : i.bytes = bytes) (hzs : z.cells.size = size) (hsz : 0 < size)
    (so : Option Addr) (n sc : Nat) (xs : List Value) (hs : A.eval s = .slice so n sc) (hown : w.ownsRow base e size (.slice so n sc) n xs)
    (ad : Addr) (m c : Nat) (news : List Value) (hx : A.eval x = .slice (some ad) m c) (hl : news.length = m * size) (hnews : ∀ j u, news[j]? = some u → w.cell? (ad.add j) = some u) (h1 : ∀ u ∈ news, u.oneCell' = true)
    (h63 : n + m ≤ maxLen) (hbytes : (n + m) * bytes ≤ 140737488355328) (hbase : base ≤ w.heap.size)
    (h : ∀ a' c' w', w'.ownsRow base e size (.slice a' (n + m) c') (n + m) (xs ++ news) → w.grownBy w' (Value.ownBlock (.slice so n sc)) →
      Oper.wp P ⟨dst, .move (.const (.slice a' (n + m) c')), ty, "", #[], none⟩ A w' K (fun _ _ _ => False)) :
    Oper.wp P ⟨dst, .call { callee := .builtin .append, args := #[s, x], argTypes := #[t, t] }, ty, pos, after, guard⟩ A w K Q := by
  refine wp_append_own w s x t rfl base e i z size bytes ht hi hz hsize hby hzs hsz _ n xs hs hown ad m c news hx hl hnews h1 h63 hbytes hbase ?_
  intro v' w' h2 h3 _
  obtain ⟨a', c', rfl⟩ := ownsRow_shape h2
  have := h a' c' w' h2 h3
  simpa [Oper.wp, execOp, Oper.upon, Act.eval] using this

/-- what a row of the call's own keeps while another block is written -/
theorem ownsRow_setCell {w : World} {base : Nat} {e : TypeId} {size : Nat} {v : Value} {n : Nat} {xs : List Value} (h : w.ownsRow base e size v n xs) {a : Addr} (ha : a.block < base) (u : Value) : (w.setCell a u).ownsRow base e size v n xs :=
  RowKit.ownsRow_setCell_below h ha u

/-! ### '==' of structs, field by field -/
section
variable {P : Program} {d : Nat} {xs ys : Array Value} {f : Field} {fs : List Field} {a b : Value} {r s : Bool} {w : World}
theorem eqs_last (hn : (f.name == "_") = false) (ha : (part f.type xs f.offset).run P w = .ok a w) (hb : (part f.type ys f.offset).run P w = .ok b w) (he : (Op.equalIn d f.type a b).run P w = .ok r w) : (Op.eqFields d xs ys [f]).run P w = .ok r w := by
  have hn' : f.name ≠ "_" := by simpa using hn
  simp only [Op.eqFields, if_pos hn', Sem.run_bind, ha, hb, he, Result.andThen_ok]
  cases r <;> simp
theorem eqs_cons (hn : (f.name == "_") = false) (ha : (part f.type xs f.offset).run P w = .ok a w) (hb : (part f.type ys f.offset).run P w = .ok b w) (he : (Op.equalIn d f.type a b).run P w = .ok r w) (hr : (Op.eqFields d xs ys fs).run P w = .ok s w) : (Op.eqFields d xs ys (f :: fs)).run P w = .ok (r && s) w := by
  have hn' : f.name ≠ "_" := by simpa using hn
  rw [Op.eqFields]
  simp only [if_pos hn', Sem.run_bind, ha, hb, he, Result.andThen_ok]
  cases r
  · simp
  · simpa using hr
theorem eqs_of {t : TypeId} {fs : Array Field} (hu : P.underlying t = some (.struct fs)) (hp : P.stoodInHeld t = false) (h : (Op.eqFields d xs ys fs.toList).run P w = .ok r w) : (Op.equalIn (d + 1) t (.agg xs) (.agg ys)).run P w = .ok r w := by
  have hf : P.fieldsOf t = fs := by simp [Program.fieldsOf, hu]
  rw [run_equalIn_struct (P := P) w d t xs ys (by rw [hf]; exact hu) hp, hf]
  exact h
end

/-! ### a row of cells -/
/-- the cells xs lie in w from a on -/
def Row (w : World) (a : Option Addr) (xs : List Value) : Prop :=
  xs = [] ∨ ∃ g o, a = some ⟨g, o, none⟩ ∧ ∀ j u, xs[j]? = some u → w.cell? ⟨g, o + j, none⟩ = some u

theorem Row.get {w : World} {a : Option Addr} {xs : List Value} (h : Row w a xs) {j : Nat} {u : Value} (hj : xs[j]? = some u) : ∃ g o, a = some ⟨g, o, none⟩ ∧ w.cell? ⟨g, o + j, none⟩ = some u := by
  rcases h with rfl | ⟨g, o, ha, h⟩
  · simp at hj
  · exact ⟨g, o, ha, h j u hj⟩

theorem cell_lt {w : World} {a : Addr} {v : Value} (h : w.cell? a = some v) : a.block < w.heap.size := World.block_lt_of_cell? w a h

theorem Row.below {w w' : World} (hb : RowKit.Below w.heap.size w w') {a : Option Addr} {xs : List Value} (h : Row w a xs) : Row w' a xs := by
  rcases h with rfl | ⟨g, o, ha, h⟩
  · exact .inl rfl
  · refine .inr ⟨g, o, ha, fun j u hj => ?_⟩
    have := h j u hj
    rw [hb.cell (p := ⟨g, o + j, none⟩) (cell_lt this)]
    exact this

theorem Row.owned {w : World} {base : Nat} {e : TypeId} {size : Nat} {a : Option Addr} {n c : Nat} {xs : List Value} (h : w.ownsRow base e size (.slice a n c) n xs) : Row w a xs := by
  rcases h.2 with ⟨h1, h2⟩ | ⟨g, cap, cur, h1, h2, h3, h4, h5, h6, h7⟩
  · left
    have := h.1
    subst h2
    simpa using this
  · right
    cases h1
    refine ⟨g, 0, rfl, fun j u hj => ?_⟩
    have := h.cells (g := g) rfl j u hj
    have hadd : (⟨g, 0, none⟩ : Addr).add j = ⟨g, 0 + j, none⟩ := by unfold Addr.add; split <;> simp_all
    rwa [hadd] at this

theorem Row.new (w : World) (cs : Array Value) (T : TypeId) : Row (w.alloc (.cells cs T)) (some ⟨w.heap.size, 0, none⟩) cs.toList := by
  refine .inr ⟨_, 0, rfl, fun j u hj => ?_⟩
  rw [World.cell?_alloc_new, Nat.zero_add]
  simpa using hj

theorem Row.take {w : World} {a : Option Addr} {xs : List Value} (h : Row w a xs) (n : Nat) : Row w a (xs.take n) := by
  rcases h with rfl | ⟨g, o, ha, h⟩
  · simp [Row]
  · refine .inr ⟨g, o, ha, fun j u hj => h j u ?_⟩
    rw [List.getElem?_take] at hj
    split at hj
    · exact hj
    · cases hj
end Go.XR

/- Aggregates of many cells: read and written whole, their cells never written out. -/
namespace Go.XR
open Go Go.RowKit

/-- the cells cs lie in w from block g, place off on -/
def At (w : World) (g off : Nat) (cs : Array Value) : Prop := ∀ j u, cs[j]? = some u → w.cell? ⟨g, off + j, none⟩ = some u

theorem At.new (w : World) (cs : Array Value) (T : TypeId) : At (w.alloc (.cells cs T)) w.heap.size 0 cs := fun j u h => by
  rw [World.cell?_alloc_new, Nat.zero_add]; exact h
theorem At.heap {w w' : World} {g off : Nat} {cs : Array Value} (h : At w g off cs) (hh : w'.heap[g]? = w.heap[g]?) : At w' g off cs := fun j u hj => by
  have := h j u hj
  unfold World.cell? at this ⊢
  dsimp only at this ⊢
  rw [hh]; exact this
theorem At.below {w w' : World} {g off : Nat} {cs : Array Value} (h : At w g off cs) (hne : 0 < cs.size) (hb : Below w.heap.size w w') : At w' g off cs :=
  h.heap (hb.block g (by have := cell_lt (h 0 cs[0] (Array.getElem?_eq_getElem hne)); exact this))
theorem At.alloc {w : World} {g off : Nat} {cs : Array Value} (h : At w g off cs) (o : Obj) : At (w.alloc o) g off cs := fun j u hj => by
  have h1 := h j u hj
  rw [World.cell?_alloc_old _ _ _ (Nat.ne_of_lt (cell_lt h1))]; exact h1
theorem At.drew {w : World} {g off : Nat} {cs : Array Value} (h : At w g off cs) : At w.drew g off cs := h
theorem At.sub {w : World} {g off : Nat} {cs : Array Value} (h : At w g off cs) (i n : Nat) : At w g (off + i) (cs.extract i (i + n)) := fun j u hj => by
  rw [Array.getElem?_extract] at hj
  split at hj
  · rw [Nat.add_assoc]; exact h _ u hj
  · cases hj
theorem At.lt {w : World} {g off : Nat} {cs : Array Value} (h : At w g off cs) (hne : 0 < cs.size) : g < w.heap.size := cell_lt (h 0 cs[0] (Array.getElem?_eq_getElem hne))

section
variable {P : Program} {w : World}

theorem run_isAgg {ty : TypeId} {d : TypeDesc} (hu : P.underlying ty = some d) (hd : (match d with | .struct _ | .array _ _ => true | _ => false) = true) : (isAgg ty).run P w = .ok true w := by
  unfold isAgg
  rw [Sem.run_bind, run_underlying hu w]
  cases d <;> simp_all
theorem run_sizeOf_eq {ty : TypeId} {n : Nat} (hi : (P.info? ty).map (·.size) = some n) : (sizeOf ty).run P w = .ok n w := by
  cases hq : P.info? ty with
  | none => simp [hq] at hi
  | some i =>
    have hs : i.size = n := by simpa [hq] using hi
    simp [sizeOf, typeInfo, hq, hs]

theorem run_loadVar_at {g off : Nat} {ty : TypeId} {cs : Array Value} {d : TypeDesc} (h : At w g off cs)
    (hu : P.underlying ty = some d) (hd : (match d with | .struct _ | .array _ _ => true | _ => false) = true) (hi : (P.info? ty).map (·.size) = some cs.size) :
    (loadVar ty ⟨g, off, none⟩).run P w = .ok (.agg cs) w := by
  have hl : (loadCells ⟨g, off, none⟩ cs.toList.length).run P w = .ok cs.toList.toArray w :=
    run_loadCells_list (P := P) w ⟨g, off, none⟩ cs.toList (fun j v hv => by
      have hadd : (⟨g, off, none⟩ : Addr).add j = ⟨g, off + j, none⟩ := by unfold Addr.add; split <;> simp_all
      rw [hadd]
      exact h j v (by simpa using hv))
  simp only [Array.length_toList, Array.toArray_toList] at hl
  simp [loadVar, Sem.run_bind, run_isAgg hu hd, run_sizeOf_eq hi, hl]

theorem wp_load_at {o : Oper} {a : Act} {K : Act → World → Prop} {Q : Exit → Act → World → Prop} (ty : TypeId) (x : Operand) (ho : o.op = .load ty x)
    (g off : Nat) (hx : a.eval x = .pointer (some ⟨g, off, none⟩)) (cs : Array Value) (h : At w g off cs) (d : TypeDesc)
    (hu : P.underlying ty = some d) (hd : (match d with | .struct _ | .array _ _ => true | _ => false) = true) (hi : (P.info? ty).map (·.size) = some cs.size)
    (hK : K (a.put o.dst (.agg cs)) w) : o.wp P a w K Q := by
  unfold Oper.wp execOp
  simp only [ho, hx, Instr.loadAt, Instr.sureAddr, Sem.run_bind, Sem.run_pure, Result.andThen_ok, run_loadVar_at h hu hd hi]
  exact hK
theorem wpList_load_at {ops : Array Oper} {rest : List Oper} {o : Oper} {a : Act} {Q : Exit → Act → World → Prop} (hgd : o.guard = none) (ty : TypeId) (x : Operand) (ho : o.op = .load ty x)
    (g off : Nat) (hx : a.eval x = .pointer (some ⟨g, off, none⟩)) (cs : Array Value) (h : At w g off cs) (d : TypeDesc)
    (hu : P.underlying ty = some d) (hd : (match d with | .struct _ | .array _ _ => true | _ => false) = true) (hi : (P.info? ty).map (·.size) = some cs.size)
    (hK : wpList P ops Q rest (a.put o.dst (.agg cs)) w) : wpList P ops Q (o :: rest) a w :=
  wpList_plain hgd fun _ hK' => wp_load_at ty x ho g off hx cs h d hu hd hi (hK' _ _ hK)

theorem alloc_setRow (w : World) (zs cs : Array Value) (T : TypeId) : (w.alloc (.cells zs T)).setRow w.heap.size cs = w.alloc (.cells cs T) := by
  unfold World.setRow World.alloc
  congr 1
  refine Array.ext_getElem? fun i => ?_
  simp only [Array.getElem?_modify, Array.getElem?_push]
  by_cases h : i = w.heap.size
  · subst h; simp
  · rw [if_neg (fun e => h e.symm), if_neg h, if_neg h]

theorem run_storeVar_at {g off : Nat} {ty t : TypeId} {cur cs : Array Value} (hg : w.heap[g]? = some (.cells cur t (0, 0))) (hl : off + cs.size ≤ cur.size) (h1 : ∀ v ∈ cs.toList, v.oneCell' = true)
    (hi : (P.info? ty).map (·.size) = some cs.size) :
    (storeVar ty ⟨g, off, none⟩ (.agg cs)).run P w = .ok () (w.setRow g (cur.toList.take off ++ cs.toList ++ cur.toList.drop (off + cs.size)).toArray) := by
  have h := run_storeCells_at (P := P) g off t cs.toList 0 cur w hg (by simpa using hl) h1
  simp [storeVar, Sem.run_bind, run_sizeOf_eq hi, Value.cells, h]

theorem wp_store_at {o : Oper} {a : Act} {K : Act → World → Prop} {Q : Exit → Act → World → Prop} (ty : TypeId) (x v : Operand) (ho : o.op = .store ty x v)
    (g off : Nat) (hx : a.eval x = .pointer (some ⟨g, off, none⟩)) (cs cur : Array Value) (hv : a.eval v = .agg cs) (t : TypeId) (hg : w.heap[g]? = some (.cells cur t (0, 0))) (hl : off + cs.size ≤ cur.size) (h1 : ∀ v ∈ cs.toList, v.oneCell' = true)
    (hi : (P.info? ty).map (·.size) = some cs.size)
    (hK : K (a.put o.dst undef) (w.setRow g (cur.toList.take off ++ cs.toList ++ cur.toList.drop (off + cs.size)).toArray)) : o.wp P a w K Q := by
  unfold Oper.wp execOp
  simp only [ho, hx, hv, Instr.storeAt, Instr.sureAddr, Sem.run_bind, Sem.run_pure, Result.andThen_ok, run_storeVar_at hg hl h1 hi]
  exact hK
/-- a variable of the call's own that was just made, written whole -/
theorem wpList_store_new {ops : Array Oper} {rest : List Oper} {o : Oper} {a : Act} {Q : Exit → Act → World → Prop} (hgd : o.guard = none) (ty : TypeId) (x v : Operand) (ho : o.op = .store ty x v)
    (zs cs : Array Value) (t : TypeId) (hx : a.eval x = .pointer (some ⟨w.heap.size, 0, none⟩)) (hv : a.eval v = .agg cs) (hz : zs.size = cs.size) (h1 : ∀ v ∈ cs.toList, v.oneCell' = true)
    (hi : (P.info? ty).map (·.size) = some cs.size)
    (hK : wpList P ops Q rest (a.put o.dst undef) (w.alloc (.cells cs t))) : wpList P ops Q (o :: rest) a (w.alloc (.cells zs t)) :=
  wpList_plain hgd fun _ hK' => wp_store_at ty x v ho w.heap.size 0 hx cs zs hv t (by rw [(MapKept.heap_alloc w _).1]) (by omega) h1 hi (by
    have e : (zs.toList.take 0 ++ cs.toList ++ zs.toList.drop (0 + cs.size)).toArray = cs := by
      rw [List.take_zero, List.nil_append, List.drop_eq_nil_of_le (by rw [Array.length_toList]; omega), List.append_nil]
    rw [e, alloc_setRow]
    exact hK' _ _ hK)
/-- a variable is made; its cells are not written out -/
theorem wpList_alloc_new {ops : Array Oper} {rest : List Oper} {o : Oper} {a : Act} {Q : Exit → Act → World → Prop} (hgd : o.guard = none) (ty : TypeId) (ho : o.op = .alloc ty) (zs : Array Value) (hz : (zeroValue ty).run P w = .ok (.agg zs) w)
    (hK : wpList P ops Q rest (a.put o.dst (.pointer (some ⟨w.heap.size, 0, none⟩))) (w.alloc (.cells zs ty))) : wpList P ops Q (o :: rest) a w := by
  refine wpList_plain hgd fun _ hK' => ?_
  have h := hK' _ _ hK
  have hr : (Instr.alloc ty true (.tuple #[])).run P w = .ok (.pointer (some ⟨w.heap.size, 0, none⟩)) (w.alloc (.cells zs ty)) := by
    unfold Instr.alloc
    rw [Sem.run_bind, hz]
    simp only [Result.andThen_ok, newVar, newRow, newObj, Value.cells]
    rfl
  unfold Oper.wp execOp
  simp only [ho, Sem.run_bind, hr, Result.andThen_ok, Sem.run_pure]
  exact h
end
end Go.XR

/- Keys and fingerprints at this program: '==', map keys, reads. -/
namespace Go.Proofs.YtnfbchhbcinloaaGreat
open Go.RowKit Go.XR
theorem laidOut : laidOutB Tryz.prog = true := by kernel_rfl
theorem typesSmall : Tryz.prog.types.size + 2 ≤ 10000 := of_decide_eq_true (by kernel_rfl)
theorem typesSize : Tryz.prog.types.size + 1 = (Tryz.prog.types.size - 2) + 3 := by kernel_rfl
theorem sum_lits (d : Nat) (s : Vector UInt8 32) : ∃ ls, Tryz.prog.keyLits (d + 2) 26 (sumL s) = some ls :=
  lits_array (n := 32) (e := 5) (q := .u8) (by kernel_rfl) (by kernel_rfl) (by kernel_rfl) (by kernel_rfl) (sumL_length s) fun v hv => by
    obtain ⟨b, _, rfl⟩ := List.mem_map.1 hv
    exact ⟨_, rfl, bV_wf b⟩
theorem key_fields : Tryz.prog.underlying 29 = some (.struct (Tryz.prog.fieldsOf 29)) := by kernel_rfl
set_option maxRecDepth 100000 in
theorem key_lits (d : Nat) (k : KeyT) : ∃ ls, Tryz.prog.keyLits (d + 3) 29 (keyL k) = some ls := by
  obtain ⟨f1, f2, ht, a1, a2, a3, a4, a5, a6⟩ : ∃ f1 f2, Tryz.prog.underlying 29 = some (.struct #[f1, f2]) ∧ (f1.name != "_") = true ∧ (f2.name != "_") = true ∧ f1.offset = 0 ∧ f2.offset = 32 ∧ f1.type = 26 ∧ f2.type = 27 :=
    ⟨_, _, Tryz.underlying29, rfl, rfl, rfl, rfl, rfl, rfl⟩
  refine lits_pair ht a1 a2 a3 (xs := sumL k.sum) (ys := [.int .u32 (k.n.toNat : Int)]) ?_ ?_ ?_ ?_ ?_ ?_
  · rw [a5, sumL_length]; exact (by kernel_rfl : (32 : Nat) = Tryz.prog.cellsOf 26)
  · rw [a6]; exact (by kernel_rfl : (1 : Nat) = Tryz.prog.cellsOf 27)
  · rw [a4, sumL_length]
  · rw [sumL_length]; exact (by kernel_rfl : Tryz.prog.cellsOf 29 = 33)
  · rw [a5]; exact sum_lits d k.sum
  · rw [a6]; exact lits_int (by kernel_rfl) (u32_wf k.n)
theorem key_of (k : KeyT) : ∃ l, keyOf Tryz.prog 29 (keyV k) = some l :=
  keyOf_of_lits (by kernel_rfl) (by kernel_rfl) (by rw [keyC_size]; kernel_rfl) (by rw [typesSize]; exact key_lits _ k)
theorem sum_of (s : Vector UInt8 32) : ∃ l, keyOf Tryz.prog 26 (sumV s) = some l :=
  keyOf_of_lits (by kernel_rfl) (by kernel_rfl) (by rw [sumC_size]; kernel_rfl) (by rw [typesSize]; exact sum_lits _ s)
theorem key_eq (a b : KeyT) (w : World) : (Op.equal 29 (keyV a) (keyV b)).run Tryz.prog w = .ok (decide (a = b)) w :=
  equal_cells laidOut typesSmall (of_decide_eq_true (by kernel_rfl)) (by kernel_rfl) (by kernel_rfl) key_of keyV_inj a b w
theorem sum_eq (a b : Vector UInt8 32) (w : World) : (Op.equal 26 (sumV a) (sumV b)).run Tryz.prog w = .ok (decide (a = b)) w :=
  equal_cells laidOut typesSmall (of_decide_eq_true (by kernel_rfl)) (by kernel_rfl) (by kernel_rfl) sum_of sumV_inj a b w
theorem keysKey : KeysOk Tryz.prog 29 keyV := ⟨Go.Maps.Keyed.of_law (deep_law_gate laidOut typesSmall (of_decide_eq_true (by kernel_rfl)) (by kernel_rfl) (by kernel_rfl)), key_of, keyV_inj⟩
theorem keysSum : KeysOk Tryz.prog 26 sumV := ⟨Go.Maps.Keyed.of_law (deep_law_gate laidOut typesSmall (of_decide_eq_true (by kernel_rfl)) (by kernel_rfl) (by kernel_rfl)), sum_of, sumV_inj⟩
theorem keySize (k : KeyT) : (Tryz.prog.info? 29).map (·.size) = some (keyC k).size := by rw [keyC_size]; kernel_rfl
theorem sumSize (s : Vector UInt8 32) : (Tryz.prog.info? 26).map (·.size) = some (sumC s).size := by rw [sumC_size]; kernel_rfl
/-- an element of a fingerprint -/
theorem sum_index (s : Vector UInt8 32) {i : Nat} (h : i < 32) (w : World) : (Instr.index 26 (sumV s) (.int .i64 (i : Int))).run Tryz.prog w = .ok (.int .u8 (s[i].toNat : Int)) w := by
  have hu : Tryz.prog.underlying 26 = some (.array 32 5) := by kernel_rfl
  have he : (isAgg 5).run Tryz.prog w = .ok false w := by
    unfold isAgg
    rw [Sem.run_bind, run_underlying (P := Tryz.prog) (show Tryz.prog.underlying 5 = some (.int .u8) by kernel_rfl) w]; rfl
  have hs : (sizeOf 5).run Tryz.prog w = .ok 1 w := run_sizeOf_eq (by kernel_rfl)
  have hlt : 0 ≤ (i : Int) ∧ (i : Int) < 32 := by omega
  simp [Instr.index, asIntOf, run_underlying hu, hlt, hs, part, he, sumC_get s h, Result.andThen]
  intro h'
  omega
end Go.Proofs.YtnfbchhbcinloaaGreat

/- Reading plain arguments: values of bools, integers, strings, and structs and arrays of these; slices of such. -/
namespace Go.XR
open Go Go.RowKit

inductive Leaf where
  | bool
  | int (k : IntKind)
  | str
def LeafOk : Leaf → Value → Prop
  | .bool, v => ∃ b, v = .bool b
  | .int k, v => ∃ n, v = .int k n ∧ (Lit.int k n).wf = true
  | .str, v => ∃ s, v = .string s ∧ s.size ≤ maxLen
inductive Fits : List Leaf → List Value → Prop where
  | nil : Fits [] []
  | cons {l : Leaf} {v : Value} {ls : List Leaf} {vs : List Value} : LeafOk l v → Fits ls vs → Fits (l :: ls) (v :: vs)

theorem Fits.length : ∀ {ls : List Leaf} {vs : List Value}, Fits ls vs → vs.length = ls.length
  | _, _, .nil => rfl
  | _, _, .cons _ h => by simp [h.length]
theorem Fits.append : ∀ {a b : List Leaf} {x y : List Value}, Fits a x → Fits b y → Fits (a ++ b) (x ++ y)
  | _, _, _, _, .nil, h => h
  | _, _, _, _, .cons h1 h2, h => .cons h1 (h2.append h)

def leafsF (P : Program) (rec : TypeId → Option (List Leaf)) : Nat → List Field → Option (List Leaf)
  | _, [] => some []
  | off, f :: fs =>
    match rec f.type with
    | none => none
    | some l => if f.offset == off && P.cellsOf f.type == l.length then (leafsF P rec (off + l.length) fs).map (l ++ ·) else none

def leafs (P : Program) : Nat → TypeId → Option (List Leaf)
  | 0, _ => none
  | f + 1, t =>
    match P.underlying t with
    | some .bool => some [.bool]
    | some (.int k) => some [.int k]
    | some .string => some [.str]
    | some (.struct fs) => (leafsF P (leafs P f) 0 fs.toList).bind fun l => if P.cellsOf t == l.length then some l else none
    | some (.array n e) => (leafs P f e).bind fun l => if P.cellsOf e == l.length && P.cellsOf t == n * l.length then some (List.replicate n l).flatten else none
    | _ => none

section
variable {H : Type} {enc : TypeId × Value → H} {P : Program} {w : World} {base : Nat} {spare : Nat → Bool} {held : Bool}

theorem fits_fields {rec : TypeId → Option (List Leaf)} {g : TypeId → List Value → Option (DataW H × List MemPlace)} (hrec : ∀ t l cs x, rec t = some l → g t cs = some x → Fits l cs) (cs : List Value) :
    ∀ (fs : List Field) (off : Nat) (ls : List Leaf), leafsF P rec off fs = some ls →
      (∀ (i : Nat) (f : Field), fs[i]? = some f → ∃ y, g f.type ((cs.drop f.offset).take (P.cellsOf f.type)) = some y) → Fits ls ((cs.drop off).take ls.length)
  | [], _, _, h, _ => by cases h; simp; exact .nil
  | f :: fs, off, ls, h, hx => by
    simp only [leafsF] at h
    cases hr : rec f.type with
    | none => rw [hr] at h; cases h
    | some l =>
      rw [hr] at h
      simp only at h
      split at h
      · rename_i hc
        simp only [Bool.and_eq_true, beq_iff_eq] at hc
        cases hl : leafsF P rec (off + l.length) fs with
        | none => rw [hl] at h; cases h
        | some ls' =>
          rw [hl] at h
          cases h
          obtain ⟨y, hy⟩ := hx 0 f rfl
          have h1 := hrec _ _ _ _ hr hy
          have h2 := fits_fields hrec cs fs _ _ hl fun i f' hf => hx (i + 1) f' hf
          rw [hc.1, hc.2] at h1
          have := h1.append h2
          rw [List.length_append, List.take_add, List.drop_drop]
          exact this
      · cases h

theorem fits_array {l : List Leaf} {g : List Value → Option (DataW H × List MemPlace)} (hrec : ∀ cs x, g cs = some x → Fits l cs) (cs : List Value) :
    ∀ (n off : Nat), (∀ i, off ≤ i → i < off + n → ∃ y, g ((cs.drop (i * l.length)).take l.length) = some y) →
      Fits (List.replicate n l).flatten ((cs.drop (off * l.length)).take (n * l.length))
  | 0, _, _ => by simp; exact .nil
  | n + 1, off, hx => by
    obtain ⟨y, hy⟩ := hx off (Nat.le_refl _) (by omega)
    have h1 := hrec _ _ hy
    have h2 := fits_array hrec cs n (off + 1) fun i h h' => hx i (by omega) (by omega)
    have := h1.append h2
    rw [List.replicate_succ, List.flatten_cons, show (n + 1) * l.length = l.length + n * l.length from by rw [Nat.add_mul]; omega, List.take_add, List.drop_drop]
    rw [show off * l.length + l.length = (off + 1) * l.length from by rw [Nat.add_mul]; omega]
    exact this

theorem trod_flat : ∀ (f fuel : Nat) (t : TypeId) (ls : List Leaf) (cs : List Value) (x : DataW H × List MemPlace), leafs P f t = some ls → DataW.trod enc P w base spare held fuel t cs = some x → Fits ls cs
  | 0, _, _, _, _, _, h, _ => by cases h
  | f + 1, fuel, t, ls, cs, x, h, hx => by
    simp only [leafs] at h
    split at h
    · rename_i hu
      cases h
      obtain ⟨b, rfl, _⟩ := DataW.trod_bool hu hx
      exact .cons ⟨_, rfl⟩ .nil
    · rename_i k hu
      cases h
      obtain ⟨n, rfl, _, hn⟩ := DataW.trod_int hu hx
      exact .cons ⟨_, rfl, hn⟩ .nil
    · rename_i hu
      cases h
      obtain ⟨n, rfl, _, hn⟩ := DataW.trod_string hu hx
      exact .cons ⟨_, rfl, hn⟩ .nil
    · rename_i fs hu
      cases hl : leafsF P (leafs P f) 0 fs.toList with
      | none => rw [hl] at h; cases h
      | some l =>
        rw [hl] at h
        simp only [Option.bind_some] at h
        split at h
        · rename_i hc
          cases h
          obtain ⟨xs, n, rfl, rfl, hlen, hxl, hall⟩ := DataW.trod_struct hu hx
          have := fits_fields (g := DataW.trod enc P w base spare held n) (fun t l cs x h1 h2 => trod_flat f n t l cs x h1 h2) cs _ _ _ hl fun i g hg => by
            have hi : i < xs.length := by
              rw [hxl]
              have := (List.getElem?_eq_some_iff.1 hg).1
              simpa using this
            exact ⟨_, (hall i g (by simpa using hg)).trans (List.getElem?_eq_getElem hi)⟩
          rw [List.drop_zero, List.take_of_length_le (by rw [hlen]; exact Nat.le_of_eq (beq_iff_eq.1 hc))] at this
          exact this
        · cases h
    · rename_i n e hu
      cases hl : leafs P f e with
      | none => rw [hl] at h; cases h
      | some l =>
        rw [hl] at h
        simp only [Option.bind_some] at h
        split at h
        · rename_i hc
          simp only [Bool.and_eq_true, beq_iff_eq] at hc
          cases h
          obtain ⟨xs, m, rfl, rfl, hlen, hxl, hall⟩ := DataW.trod_array hu hx
          have := fits_array (l := l) (g := DataW.trod enc P w base spare held m e) (fun cs x h2 => trod_flat f m e l cs x hl h2) cs n 0 fun i _ hi => by
            have hi' : i < xs.length := by omega
            have := (hall i (by omega)).trans (List.getElem?_eq_getElem hi')
            rw [hc.1] at this
            exact ⟨_, this⟩
          rw [Nat.zero_mul, List.drop_zero, List.take_of_length_le (by rw [hlen, hc.2]; exact Nat.le_refl _)] at this
          exact this
        · cases h
    · cases h

theorem flat_of {f : Nat} {t : TypeId} {ls : List Leaf} {v : Value} {d : DataW H} {ps : List MemPlace} (hl : leafs P f t = some ls) (hd : DataW.Trod enc P w base spare held t v d ps) : Fits ls v.cells.toList := by
  obtain ⟨fuel, h⟩ := hd
  exact trod_flat f fuel t ls _ _ hl h

theorem agg_of {f : Nat} {t : TypeId} {fs : Array Field} {ls : List Leaf} {v : Value} {d : DataW H} {ps : List MemPlace} {r : Reach} {b0 : Nat} (ht : P.underlying t = some (.struct fs)) (hval : Value.okWide P w r b0 t v) (hl : leafs P f t = some ls)
    (hd : DataW.Trod enc P w base spare held t v d ps) : ∃ cs : Array Value, v = .agg cs ∧ Fits ls cs.toList := by
  obtain ⟨cs, rfl, _⟩ := WideShapes.okWide_struct ht hval
  exact ⟨cs, rfl, by simpa [Value.cells] using flat_of hl hd⟩

/-- a slice of plain elements, as a list of what each reads as -/
theorem slice_of {α : Type} (cell : α → List Value) {f : Nat} {t e : TypeId} {ls : List Leaf} (hα : ∀ cs, Fits ls cs → ∃ x, cell x = cs) (hlen : ∀ x, (cell x).length = ls.length) {a : Option Addr} {len cap : Nat} {d : DataW H} {ps : List MemPlace}
    (ht : P.underlying t = some (.slice e)) (hl : leafs P f e = some ls) (hpos : 0 < ls.length) (hc : P.cellsOf e = ls.length)
    (hd : DataW.Trod enc P w base spare held t (.slice a len cap) d ps) : ∃ L : List α, L.length = len ∧ Row w a (L.flatMap cell) ∧ len ≤ cap ∧ cap ≤ maxLen := by
  obtain ⟨fuel, h⟩ := hd
  rcases Deep.open_slice ht h with ⟨hcs, _⟩ | ⟨x, len', cap', m, n, D, Pl, hcs, _, hle, hcm, hm, _, hall⟩
  · simp [Value.cells] at hcs
    obtain ⟨rfl, rfl, rfl⟩ := hcs
    exact ⟨[], rfl, .inl rfl, Nat.le_refl _, Nat.zero_le _⟩
  · simp [Value.cells] at hcs
    obtain ⟨rfl, rfl, rfl⟩ := hcs
    have hlm : len ≤ m := by rw [hm]; split <;> omega
    have hx : ∀ i, i < len → ∃ y : α, ∀ j u, (cell y)[j]? = some u → w.cell? ((x.add (i * ls.length)).add j) = some u := fun i hi => by
      obtain ⟨cs', h1, h2⟩ := hall i (by omega)
      obtain ⟨y, hy⟩ := hα cs' (trod_flat f n e ls cs' _ hl h2)
      obtain ⟨_, h4, h5⟩ := World.cells?_some h1
      refine ⟨y, fun j u hj => ?_⟩
      rw [hy] at hj
      have hjl := (List.getElem?_eq_some_iff.1 hj).1
      rw [← hc, h5 j (by omega)]
      exact hj
    have hL : ∀ k, k ≤ len → ∃ L : List α, L.length = k ∧ ∀ j u, (L.flatMap cell)[j]? = some u → w.cell? (x.add j) = some u := by
      intro k
      induction k with
      | zero => intro _; exact ⟨[], rfl, fun j u h => by simp at h⟩
      | succ k ih =>
        intro hk
        obtain ⟨L, hL1, hL2⟩ := ih (by omega)
        obtain ⟨y, hy⟩ := hx k (by omega)
        have hfl : (L.flatMap cell).length = k * ls.length := by
          rw [← hL1]
          clear hL1 hL2
          induction L with
          | nil => simp
          | cons z L ih => rw [List.flatMap_cons, List.length_append, ih, hlen, List.length_cons, Nat.add_mul]; omega
        refine ⟨L ++ [y], by simp [hL1], fun j u hj => ?_⟩
        rw [List.flatMap_append, List.flatMap_cons, List.flatMap_nil, List.append_nil] at hj
        by_cases hjl : j < (L.flatMap cell).length
        · rw [List.getElem?_append_left hjl] at hj
          exact hL2 j u hj
        · rw [List.getElem?_append_right (by omega), hfl] at hj
          have := hy _ u hj
          rw [Deep.add_add] at this
          rw [show k * ls.length + (j - k * ls.length) = j from by omega] at this
          exact this
    obtain ⟨L, hL1, hL2⟩ := hL len (Nat.le_refl _)
    refine ⟨L, hL1, ?_, hle, hcm⟩
    cases L with
    | nil => exact .inl rfl
    | cons y L =>
      right
      have hne : 0 < ((y :: L).flatMap cell).length := by rw [List.flatMap_cons, List.length_append, hlen]; omega
      obtain ⟨u0, hu0⟩ : ∃ u, ((y :: L).flatMap cell)[0]? = some u := ⟨_, List.getElem?_eq_getElem hne⟩
      have h0 := hL2 0 u0 hu0
      have hsp : x.spot = none := by
        cases hs : x.spot with
        | none => rfl
        | some _ =>
          simp only [Addr.add, if_true, World.cell?, hs] at h0
          split at h0 <;> simp at h0
      obtain ⟨g, o, sp⟩ := x
      simp only at hsp
      subst hsp
      refine ⟨g, o, rfl, fun j u hj => ?_⟩
      have := hL2 j u hj
      have hadd : (⟨g, o, none⟩ : Addr).add j = ⟨g, o + j, none⟩ := by unfold Addr.add; split <;> simp_all
      rwa [hadd] at this
end
end Go.XR

/- What a key's cells look like at the opening, and back. -/
namespace Go.Proofs.YtnfbchhbcinloaaGreat
open Go.RowKit Go.XR
theorem fits_split : ∀ {a b : List Leaf} {cs : List Value}, Fits (a ++ b) cs → ∃ x y, cs = x ++ y ∧ Fits a x ∧ Fits b y
  | [], _, cs, h => ⟨[], cs, rfl, .nil, h⟩
  | _ :: a, b, _, h => by
    obtain _ | ⟨h1, h2⟩ := h
    obtain ⟨x, y, rfl, h3, h4⟩ := fits_split (a := a) h2
    exact ⟨_, y, rfl, .cons h1 h3, h4⟩
theorem bytes_fits : ∀ {n : Nat} {cs : List Value}, Fits (List.replicate n (.int .u8)) cs → ∃ bs : List UInt8, bs.length = n ∧ bs.map bV = cs
  | 0, _, h => by cases h; exact ⟨[], rfl, rfl⟩
  | n + 1, _, h => by
    rw [List.replicate_succ] at h
    obtain _ | ⟨⟨z, rfl, hz⟩, h⟩ := h
    obtain ⟨bs, h1, h2⟩ := bytes_fits h
    have hb := bounds_u8 hz
    refine ⟨UInt8.ofNat z.toNat :: bs, by rw [List.length_cons, h1], ?_⟩
    rw [List.map_cons, h2]
    congr 1
    unfold bV
    rw [UInt8.toNat_ofNat_of_lt' (by show z.toNat < 256; omega)]
    congr 1; omega
theorem key_leafs : (leafs Tryz.prog 8 29).getD [] = List.replicate 32 (.int .u8) ++ [.int .u32] := by kernel_rfl
theorem key_fits : ∀ cs, Fits ((leafs Tryz.prog 8 29).getD []) cs → ∃ k : KeyT, keyL k = cs := by
  rw [key_leafs]
  intro cs hf
  obtain ⟨x, y, rfl, h1, h2⟩ := fits_split hf
  obtain ⟨bs, hb, rfl⟩ := bytes_fits h1
  obtain _ | ⟨⟨z, rfl, hz⟩, h2⟩ := h2
  cases h2
  have hb3 := bounds_u32 hz
  refine ⟨⟨⟨bs.toArray, by simpa using hb⟩, UInt32.ofNat z.toNat⟩, ?_⟩
  unfold keyL sumL
  congr 1
  rw [UInt32.toNat_ofNat_of_lt' (by show z.toNat < 4294967296; omega)]
  congr 2; omega
theorem key_len (k : KeyT) : (keyL k).length = ((leafs Tryz.prog 8 29).getD []).length := by
  rw [key_leafs, keyL_length]; rfl
theorem key_agg {cs : Array Value} (hf : Fits ((leafs Tryz.prog 8 29).getD []) cs.toList) : ∃ k : KeyT, cs = keyC k := by
  obtain ⟨k, hk⟩ := key_fits _ hf
  exact ⟨k, by unfold keyC; rw [hk]⟩
end Go.Proofs.YtnfbchhbcinloaaGreat

/- What stands between two worlds while some blocks of the call's own are written. -/
namespace Go.XR
open Go Go.RowKit
/-- all but the blocks S stand -/
structure But (S : List Nat) (w w' : World) : Prop where
  os : w'.os = w.os
  tape : w'.tape = w.tape
  output : w'.output = w.output
  size : w.heap.size ≤ w'.heap.size
  block : ∀ i, i < w.heap.size → i ∉ S → w'.heap[i]? = w.heap[i]?
section
variable {S T : List Nat} {w w' w'' : World}
theorem But.refl (S : List Nat) (w : World) : But S w w := ⟨rfl, rfl, rfl, Nat.le_refl _, fun _ _ _ => rfl⟩
theorem But.trans (h : But S w w') (h' : But S w' w'') : But S w w'' :=
  ⟨h'.os.trans h.os, h'.tape.trans h.tape, h'.output.trans h.output, Nat.le_trans h.size h'.size, fun i hi hn => (h'.block i (Nat.lt_of_lt_of_le hi h.size) hn).trans (h.block i hi hn)⟩
theorem But.mono (h : But S w w') (hs : ∀ i ∈ S, i < w.heap.size → i ∈ T) : But T w w' := ⟨h.os, h.tape, h.output, h.size, fun i hi hn => h.block i hi fun hm => hn (hs i hm hi)⟩
theorem But.of_below (h : Below w.heap.size w w') : But S w w' := ⟨h.os, h.tape, h.output, h.size, fun i hi _ => h.block i hi⟩
theorem But.of_grown {b : Nat} (h : w.grownBy w' (some b)) : But [b] w w' := ⟨h.os, h.tape, h.output, h.size, fun i hi hn => h.block i hi (fun e => hn (by cases e; simp))⟩
theorem But.of_grown_none (h : w.grownBy w' none) : But S w w' := ⟨h.os, h.tape, h.output, h.size, fun i hi _ => h.block i hi (fun e => by cases e)⟩
theorem But.below (h : But S w w') {B : Nat} (hB : B ≤ w.heap.size) (hS : ∀ i ∈ S, B ≤ i) : Below B w w' := ⟨h.os, h.tape, h.output, h.size, fun k hk => h.block k (Nat.lt_of_lt_of_le hk hB) fun hm => by have := hS k hm; omega⟩
theorem But.alloc (h : But S w w') (o : Obj) : But S w (w'.alloc o) := h.trans (But.of_below ((Below.refl _ _).alloc (Nat.le_refl _) _))
theorem But.drew (h : But S w w') : But S w w'.drew := ⟨h.os, h.tape, h.output, h.size, h.block⟩
theorem But.setCell (h : But S w w') {b i : Nat} (hb : b ∈ S ∨ w.heap.size ≤ b) (v : Value) : But S w (w'.setCell ⟨b, i, none⟩ v) :=
  ⟨h.os, h.tape, h.output, by have := h.size; simpa using this, fun k hk hn => by
    rw [heap_setCell_other _ _ _ _ (fun e => by
      rcases hb with hb | hb
      · exact hn (by rw [show k = b from e]; exact hb)
      · have e' : k = b := e
        omega)]
    exact h.block k hk hn⟩
theorem But.setRow (h : But S w w') {b : Nat} (hb : b ∈ S ∨ w.heap.size ≤ b) (cs : Array Value) : But S w (w'.setRow b cs) :=
  ⟨h.os, h.tape, h.output, by have := h.size; simpa using this, fun k hk hn => by
    rw [setRow_other _ _ _ _ (fun e => by
      rcases hb with hb | hb
      · exact hn (by rw [e]; exact hb)
      · subst e; omega)]
    exact h.block k hk hn⟩
theorem But.cell (h : But S w w') {g o : Nat} {v : Value} (hc : w.cell? ⟨g, o, none⟩ = some v) (hn : g ∉ S) : w'.cell? ⟨g, o, none⟩ = some v := by
  rw [World.cell?_of_block (a := ⟨g, o, none⟩) (h.block g (cell_lt hc) hn)]; exact hc
theorem At.but {g off : Nat} {cs : Array Value} (h : At w g off cs) (hb : But S w w') (hn : g ∉ S) : At w' g off cs := fun j u hj => hb.cell (h j u hj) hn
theorem Row.but {a : Option Addr} {xs : List Value} (h : Row w a xs) (hb : But S w w') (hn : ∀ g o, a = some ⟨g, o, none⟩ → g ∉ S) : Row w' a xs := by
  rcases h with rfl | ⟨g, o, ha, h⟩
  · exact .inl rfl
  · exact .inr ⟨g, o, ha, fun j u hj => hb.cell (h j u hj) (hn g o ha)⟩
theorem GM.but {κ ν : Type} {kv : κ → Value} {vv : ν → Value} {m : Nat} {D : List (κ × ν)} (h : GM kv vv w m D) (hb : But S w w') (hn : m ∉ S) : GM kv vv w' m D := h.block (hb.block m h.lt hn)
end

/-- a block of cells of the call's own, known whole -/
def Blk (w : World) (b : Nat) (cs : List Value) : Prop := ∃ T, w.heap[b]? = some (.cells cs.toArray T (0, 0))
section
variable {w w' : World} {b : Nat} {cs : List Value}
theorem Blk.lt (h : Blk w b cs) : b < w.heap.size := by obtain ⟨T, h⟩ := h; exact (Array.getElem?_eq_some_iff.1 h).1
theorem Blk.heap (h : Blk w b cs) (hh : w'.heap[b]? = w.heap[b]?) : Blk w' b cs := by obtain ⟨T, h⟩ := h; exact ⟨T, hh.trans h⟩
theorem Blk.but {S : List Nat} (h : Blk w b cs) (hb : But S w w') (hn : b ∉ S) : Blk w' b cs := h.heap (hb.block b h.lt hn)
theorem Blk.below (h : Blk w b cs) (hb : Below w.heap.size w w') : Blk w' b cs := h.heap (hb.block b h.lt)
theorem Blk.cell (h : Blk w b cs) {i : Nat} {v : Value} (hi : cs[i]? = some v) : w.cell? ⟨b, i, none⟩ = some v := by
  obtain ⟨T, h⟩ := h
  rw [cell_of_row w b i _ T _ h]; simpa using hi
theorem Blk.free (h : Blk w b cs) (i : Nat) : w.frozen? ⟨b, i, none⟩ = false := by
  obtain ⟨T, h⟩ := h; exact frozen_of_row w b i _ T h
theorem Blk.new (w : World) (cs : Array Value) (T : TypeId) : Blk (w.alloc (.cells cs T)) w.heap.size cs.toList := ⟨T, by rw [(MapKept.heap_alloc w _).1]⟩
theorem Blk.set (h : Blk w b cs) (i : Nat) (v : Value) : Blk (w.setCell ⟨b, i, none⟩ v) b (cs.set i v) := by
  obtain ⟨T, h⟩ := h
  refine ⟨T, ?_⟩
  rw [heap_setCell_same w b i _ T v h]
  simp
theorem Blk.row (h : Blk w b cs) : Row w (some ⟨b, 0, none⟩) cs := .inr ⟨b, 0, rfl, fun j u hj => by rw [Nat.zero_add]; exact h.cell hj⟩
theorem Blk.setRow (h : Blk w b cs) (ds : List Value) : Blk (w.setRow b ds.toArray) b ds := by
  obtain ⟨T, h⟩ := h
  exact ⟨T, setRow_heap w b _ _ T _ h⟩
end
end Go.XR

/- append of whatever slice onto a row of the call's own. -/
namespace Go.XR
/-- append of whatever slice onto a row of the call's own -/
theorem wp_append_src {P : Program} {w : World} {A : Act} {K : Act → World → Prop} {Q : Exit → Act → World → Prop} {dst : Option Tmp} {s x : Operand} {t ty : TypeId} {pos : String} {after : Array Edge} {guard : Option (Nat × Bool)}
    (base : Nat) (e : TypeId) (i : TypeInfo) (z : Value) (size bytes : Nat) (ht : P.underlying t = some (.slice e)) (hi : P.info? e = some i) (hz : i.zero = some z)
    (hsize : i.size = size) (hby : i.bytes = bytes) (hzs : z.cells.size = size) (hsz : 0 < size)
    (so : Option Addr) (n sc : Nat) (xs : List Value) (hs : A.eval s = .slice so n sc) (hown : w.ownsRow base e size (.slice so n sc) n xs)
    (xo : Option Addr) (m c : Nat) (news : List Value) (hx : A.eval x = .slice xo m c) (hl : news.length = m * size) (hrow : Row w xo news) (hnil : xo = none → m = 0 ∧ c = 0) (h1 : ∀ u ∈ news, u.oneCell' = true)
    (h63 : n + m ≤ maxLen) (hbytes : (n + m) * bytes ≤ 140737488355328) (hbase : base ≤ w.heap.size)
    (h : ∀ a' c' w', w'.ownsRow base e size (.slice a' (n + m) c') (n + m) (xs ++ news) → w.grownBy w' (Value.ownBlock (.slice so n sc)) → (a' = none ↔ so = none ∧ m = 0) →
      Oper.wp P ⟨dst, .move (.const (.slice a' (n + m) c')), ty, "", #[], none⟩ A w' K (fun _ _ _ => False)) :
    Oper.wp P ⟨dst, .call { callee := .builtin .append, args := #[s, x], argTypes := #[t, t] }, ty, pos, after, guard⟩ A w K Q := by
  cases xo with
  | some ad =>
    refine wp_append_own w s x t rfl base e i z size bytes ht hi hz hsize hby hzs hsz _ n xs hs hown ad m c news hx hl ?_ h1 h63 hbytes hbase ?_
    · intro j u hj
      rcases hrow with rfl | ⟨g, o, ha, hr⟩
      · simp at hj
      · cases ha
        have := hr j u hj
        have hadd : (⟨g, o, none⟩ : Addr).add j = ⟨g, o + j, none⟩ := by unfold Addr.add; split <;> simp_all
        rwa [hadd]
    · intro v' w' h2 h3 h4
      obtain ⟨a', c', rfl⟩ := ownsRow_shape h2
      have hnn : a' = none ↔ so = none ∧ m = 0 := by
        constructor
        · rintro rfl
          have h0 : n + m = 0 ∧ c' = 0 := by
            rcases h2.2 with ⟨h5, h6⟩ | ⟨g, cap, cur, h5, _⟩
            · injection h5 with _ _ h7; exact ⟨h6, h7⟩
            · injection h5 with h7; cases h7
          have h5 := h4.1 (by rw [h0.1, h0.2])
          have h6 := h5.1
          injection h6 with h7
          exact ⟨h7, h5.2⟩
        · rintro ⟨rfl, rfl⟩
          have hn0 : n = 0 ∧ sc = 0 := by
            rcases hown.2 with ⟨h5, h6⟩ | ⟨g, cap, cur, h5, _⟩
            · injection h5 with _ _ h7; exact ⟨h6, h7⟩
            · injection h5 with h7; cases h7
          have h6 := h4.2 ⟨by rw [hn0.1, hn0.2], rfl⟩
          injection h6
      have := h a' c' w' h2 h3 hnn
      simpa [Oper.wp, execOp, Oper.upon, Act.eval] using this
  | none =>
    obtain ⟨rfl, rfl⟩ := hnil rfl
    have hn : news = [] := List.eq_nil_of_length_eq_zero (by simpa using hl)
    subst hn
    have hr := run_append_owned_none (P := P) w base t ty e i size ht hi (.slice so n sc) n xs hown
    have := h so sc w (by simpa using hown) ⟨rfl, rfl, rfl, Nat.le_refl _, fun _ _ _ => rfl⟩ (by simp)
    unfold Oper.wp execOp at this ⊢
    simp only [resolve, invoke, builtin, Sem.run_bind, Sem.run_pure, Result.andThen_ok, List.map_toArray, List.map_cons, List.map_nil, hs, hx, hr]
    simpa [Oper.upon, Act.eval] using this

/-- the walk stops here -/
theorem stop {p : Prop} (h : ∀ X : Prop, RowKit.Hid (p → X) → X) : p := h p id

theorem grown_below {w w' : World} {base n c : Nat} {so : Option Addr} {e : TypeId} {size : Nat} {xs : List Value} (hg : w.grownBy w' (Value.ownBlock (.slice so n c))) (hown : w.ownsRow base e size (.slice so n c) n xs) (hb : base ≤ w.heap.size) : RowKit.Below base w w' :=
  (RowKit.Below.refl base w).grown hg hb fun k hk => (hown.lt k hk).1
end Go.XR

/- append of elements of k cells onto a row of the call's own. -/
namespace Go.XR
open Go Go.RowKit
theorem flat_len {α : Type} {enc : α → List Value} {k : Nat} (hk : ∀ x, (enc x).length = k) : ∀ l : List α, (l.flatMap enc).length = l.length * k
  | [] => by simp
  | a :: l => by rw [List.flatMap_cons, List.length_append, hk, flat_len hk l, List.length_cons, Nat.add_mul, Nat.one_mul, Nat.add_comm]
theorem flat_take {α : Type} {enc : α → List Value} {k : Nat} (hk : ∀ x, (enc x).length = k) (l : List α) {i : Nat} (hi : i ≤ l.length) : (l.flatMap enc).take (i * k) = (l.take i).flatMap enc := by
  conv => lhs; rw [← List.take_append_drop i l, List.flatMap_append]
  rw [List.take_left']
  rw [flat_len hk, List.length_take]; congr 1; omega
theorem flat_drop {α : Type} {enc : α → List Value} {k : Nat} (hk : ∀ x, (enc x).length = k) (l : List α) {i : Nat} (hi : i ≤ l.length) : (l.flatMap enc).drop (i * k) = (l.drop i).flatMap enc := by
  conv => lhs; rw [← List.take_append_drop i l, List.flatMap_append]
  rw [List.drop_left']
  rw [flat_len hk, List.length_take]; congr 1; omega
theorem flat_get {α : Type} {enc : α → List Value} {k : Nat} (hk : ∀ x, (enc x).length = k) (l : List α) {i j : Nat} (hi : i < l.length) (hj : j < k) : (l.flatMap enc)[i * k + j]? = (enc l[i])[j]? := by
  have h := flat_drop hk l (i := i) (by omega)
  rw [← List.getElem?_drop, h, List.drop_eq_getElem_cons hi, List.flatMap_cons, List.getElem?_append_left (by rw [hk]; exact hj)]
theorem flat_setk {α : Type} {enc : α → List Value} {k : Nat} (hk : ∀ x, (enc x).length = k) (l : List α) {i j : Nat} (hi : i < l.length) (hj : j < k) (v : Value) (x : α) (hx : enc x = (enc l[i]).set j v) : (l.flatMap enc).set (i * k + j) v = (l.set i x).flatMap enc := by
  refine List.ext_getElem? fun q => ?_
  have hl := flat_len hk l
  have hl2 := flat_len hk (l.set i x)
  rw [List.length_set] at hl2
  have hk0 : 0 < k := by omega
  by_cases hq : q < l.length * k
  · have h1 : q / k < l.length := Nat.div_lt_of_lt_mul (by rw [Nat.mul_comm]; exact hq)
    have h2 : q % k < k := Nat.mod_lt _ hk0
    have e : q = q / k * k + q % k := by rw [Nat.mul_comm]; exact (Nat.div_add_mod q k).symm
    have h3 : ((l.set i x).flatMap enc)[q]? = (enc (if i = q / k then x else l[q / k]))[q % k]? := by
      conv => lhs; rw [e]
      rw [flat_get hk _ (by rw [List.length_set]; exact h1) h2, List.getElem_set]
    have h4 : (l.flatMap enc)[q]? = (enc l[q / k])[q % k]? := by
      conv => lhs; rw [e]
      rw [flat_get hk _ h1 h2]
    rw [h3, List.getElem?_set]
    by_cases c : i = q / k
    · subst c
      rw [if_pos rfl, hx, List.getElem?_set]
      by_cases d : j = q % k
      · rw [if_pos d, if_pos (by omega), if_pos (by omega), if_pos (by rw [hk]; omega)]
      · rw [if_neg d, if_neg (by omega), h4]
    · have : ¬ i * k + j = q := fun e2 => c (by
        have : (i * k + j) / k = i := by rw [Nat.mul_comm, Nat.mul_add_div hk0, Nat.div_eq_of_lt hj, Nat.add_zero]
        rw [← e2, this])
      rw [if_neg c, if_neg this, h4]
  · rw [List.getElem?_eq_none (by rw [List.length_set, hl]; omega), List.getElem?_eq_none (by rw [hl2]; omega)]
theorem made_flat {α : Type} {enc : α → List Value} {k : Nat} (hk : ∀ x, (enc x).length = k) (x : α) (z : Array Value) (hz : z.toList = enc x) (n : Nat) : (madeCells z (n * k)).toList = (List.replicate n x).flatMap enc := by
  have hzs : z.size = k := by rw [← Array.length_toList, hz, hk]
  refine List.ext_getElem? fun q => ?_
  have hl := flat_len hk (List.replicate n x)
  rw [List.length_replicate] at hl
  by_cases hq : q < n * k
  · have hk0 : 0 < k := Nat.pos_of_ne_zero fun e => by subst e; omega
    have h1 : q / k < n := Nat.div_lt_of_lt_mul (by rw [Nat.mul_comm]; exact hq)
    have h2 : q % k < k := Nat.mod_lt _ hk0
    have e : q = q / k * k + q % k := by rw [Nat.mul_comm]; exact (Nat.div_add_mod q k).symm
    have h3 : ((List.replicate n x).flatMap enc)[q]? = (enc x)[q % k]? := by
      conv => lhs; rw [e]
      rw [flat_get hk _ (by rw [List.length_replicate]; exact h1) h2, List.getElem_replicate]
    rw [h3]
    unfold madeCells
    rw [Array.toList_map, List.getElem?_map, Array.toList_range, List.getElem?_range hq]
    show some (z[q % z.size]!) = _
    rw [hzs, getElem!_pos z _ (by omega), ← hz, Array.getElem?_toList, Array.getElem?_eq_getElem (by omega)]
  · rw [List.getElem?_eq_none (by rw [Array.length_toList, size_madeCells]; omega), List.getElem?_eq_none (by omega)]
theorem info_parts {P : Program} {t : TypeId} {z : Value} {n b : Nat} (h : (P.info? t).map (fun i => (i.zero, i.size, i.bytes)) = some (some z, n, b)) : ∃ i, P.info? t = some i ∧ i.zero = some z ∧ i.size = n ∧ i.bytes = b := by
  cases hi : P.info? t with
  | none => rw [hi] at h; cases h
  | some i => rw [hi] at h; simp at h; exact ⟨i, rfl, h.1, h.2.1, h.2.2⟩
theorem info_z {P : Program} {t : TypeId} {n b : Nat} (h : (P.info? t).map (fun i => (i.size, i.bytes, i.zero.isSome, (i.zero.map (·.cells.size)))) = some (n, b, true, some n)) : ∃ i z, P.info? t = some i ∧ i.zero = some z ∧ i.size = n ∧ i.bytes = b ∧ z.cells.size = n := by
  cases hi : P.info? t with
  | none => rw [hi] at h; cases h
  | some i =>
    rw [hi] at h
    simp at h
    obtain ⟨h1, h2, h3, h4⟩ := h
    cases hz : i.zero with
    | none => rw [hz] at h3; cases h3
    | some z => rw [hz] at h4; simp at h4; exact ⟨i, z, rfl, hz, h1, h2, h4⟩

theorem owns_le {w : World} {base : Nat} {e : TypeId} {size : Nat} {a : Option Addr} {n c : Nat} {xs : List Value} (h : w.ownsRow base e size (.slice a n c) n xs) : n ≤ c := by
  rcases h.2 with ⟨h1, h2⟩ | ⟨g, cap, cur, h1, h2, h3, h4, h5, h6, h7⟩
  · omega
  · cases h1; omega
theorem owns_some {w : World} {base : Nat} {e : TypeId} {size : Nat} {a : Option Addr} {n c : Nat} {xs : List Value} (h : w.ownsRow base e size (.slice a n c) n xs) (hc : c ≠ 0) : ∃ g o, a = some ⟨g, o, none⟩ := by
  rcases h.2 with ⟨h1, h2⟩ | ⟨g, cap, cur, h1, h2, h3, h4, h5, h6, h7⟩
  · injection h1 with _ _ h3; exact absurd h3 hc
  · injection h1 with h3; exact ⟨g, 0, h3⟩
theorem owns_nil {w : World} {base : Nat} {e : TypeId} {size : Nat} {n c : Nat} {xs : List Value} (h : w.ownsRow base e size (.slice none n c) n xs) : n = 0 ∧ c = 0 := by
  rcases h.2 with ⟨h1, h2⟩ | ⟨g, cap, cur, h1, h2, h3, h4, h5, h6, h7⟩
  · injection h1 with _ _ h3; exact ⟨h2, h3⟩
  · injection h1 with h3; cases h3
theorem owns_below {w w' : World} {base : Nat} {e : TypeId} {size : Nat} {v : Value} {n : Nat} {xs : List Value} (h : w.ownsRow base e size v n xs) (hb : Below w.heap.size w w') : w'.ownsRow base e size v n xs := by
  refine ⟨h.1, ?_⟩
  rcases h.2 with h2 | ⟨g, cap, cur, h1, h2, h3, h4⟩
  · exact .inl h2
  · exact .inr ⟨g, cap, cur, h1, h2, (hb.block g (Array.getElem?_eq_some_iff.1 h3).1).trans h3, h4⟩

theorem append_enc {P : Program} {α : Type} (enc : α → List Value) (k bytes : Nat) (hk : ∀ x, (enc x).length = k) (hone : ∀ x, ∀ v ∈ enc x, v.oneCell' = true)
    {w : World} {A : Act} {K : Act → World → Prop} {Q : Exit → Act → World → Prop} {dst : Option Tmp} {s x : Operand} {t ty : TypeId} {pos : String} {after : Array Edge} {guard : Option (Nat × Bool)}
    (e : TypeId) (ht : P.underlying t = some (.slice e)) (hinfo : (P.info? e).map (fun i => (i.size, i.bytes, i.zero.isSome, (i.zero.map (·.cells.size)))) = some (k, bytes, true, some k)) (hk0 : 0 < k)
    (base : Nat) (so : Option Addr) (sc : Nat) (l : List α) (hs : A.eval s = .slice so l.length sc) (hown : w.ownsRow base e k (.slice so l.length sc) l.length (l.flatMap enc))
    (xo : Option Addr) (c : Nat) (m : List α) (hx : A.eval x = .slice xo m.length c) (hrow : Row w xo (m.flatMap enc)) (hnil : xo = none → m.length = 0 ∧ c = 0)
    (hlen : (l.length + m.length) * bytes ≤ 140737488355328) (hlen2 : l.length + m.length ≤ maxLen) (hbase : base ≤ w.heap.size)
    (h : ∀ a' c' w', w'.ownsRow base e k (.slice a' (l ++ m).length c') (l ++ m).length ((l ++ m).flatMap enc) → Below base w w' → (a' = none ↔ so = none ∧ m.length = 0) → w.grownBy w' (Value.ownBlock (.slice so l.length sc)) →
      Oper.wp P ⟨dst, .move (.const (.slice a' (l ++ m).length c')), ty, "", #[], none⟩ A w' K (fun _ _ _ => False)) :
    Oper.wp P ⟨dst, .call { callee := .builtin .append, args := #[s, x], argTypes := #[t, t] }, ty, pos, after, guard⟩ A w K Q := by
  obtain ⟨i0, z, hi, hz0, hz1, hz2, hz3⟩ := info_z hinfo
  refine wp_append_src base e i0 z k bytes ht hi hz0 hz1 hz2 hz3 hk0 so l.length sc (l.flatMap enc) hs hown xo m.length c (m.flatMap enc) hx (flat_len hk m) hrow hnil (by
    intro u hu
    obtain ⟨b, _, hb⟩ := List.mem_flatMap.1 hu
    exact hone b u hb) hlen2 hlen hbase ?_
  intro a' c' w' ho hg hn
  have e1 : (l ++ m).length = l.length + m.length := List.length_append
  have := h a' c' w' (by rw [e1, List.flatMap_append]; exact ho) (grown_below hg hown hbase) hn hg
  rw [e1] at this
  exact this
/-- make of so many elements -/
theorem make_any {P : Program} {α : Type} {enc : α → List Value} {k : Nat} (hk : ∀ x, (enc x).length = k) (x : α) (t e : TypeId) (bytes : Nat) (ht : P.underlying t = some (.slice e))
    (hinfo : (P.info? e).map (fun i => (i.size, i.bytes, i.zero.map (·.cells.toList))) = some (k, bytes, some (enc x))) (n : Nat) (hn : bytes * n ≤ 281474976710656) (hn2 : n ≤ 9223372036854775807) :
    ∃ C : Array Value, C.toList = (List.replicate n x).flatMap enc ∧ ∀ w, (Instr.makeSlice t (.int .i64 n) (.int .i64 n)).run P w = .ok (.slice (some ⟨w.heap.size, 0, none⟩) n n) (w.alloc (.cells C e)) := by
  cases hi : P.info? e with
  | none => rw [hi] at hinfo; cases hinfo
  | some i =>
    rw [hi] at hinfo
    simp at hinfo
    obtain ⟨h1, h2, h3⟩ := hinfo
    obtain ⟨z, hz, hzc⟩ := h3
    refine ⟨madeCells z.cells (n * k), made_flat hk x z.cells (by simpa using hzc) n, fun w => ?_⟩
    have h := run_make (P := P) w t e i z ht hi hz .i64 .i64 n n (by omega) (by omega) (by rw [h2, ← Int.natCast_mul]; omega) (by omega)
    rw [Int.toNat_natCast, h1] at h
    exact h
end Go.XR

/- Slices built of aggregates whose cells are not written out. -/
namespace Go.XR
open Go Go.RowKit
theorem foldl_put (off : Nat) : ∀ (l : List Value) (i : Nat) (a : Array Value), off + i + l.length ≤ a.size →
    (l.zipIdx i).foldl (fun (a : Array Value) (p : Value × Nat) => a.setIfInBounds (off + p.2) p.1) a = (a.toList.take (off + i) ++ l ++ a.toList.drop (off + i + l.length)).toArray
  | [], i, a, h => by simp
  | v :: l, i, a, h => by
    rw [List.length_cons] at h
    rw [List.zipIdx_cons, List.foldl_cons, foldl_put off l (i + 1) _ (by simp; omega)]
    congr 1
    have hi : off + i < a.toList.length := by rw [Array.length_toList]; omega
    rw [Array.toList_setIfInBounds, show off + (i + 1) = off + i + 1 by omega, List.take_succ_eq_append_getElem (by rw [List.length_set]; exact hi), List.getElem_set_self, List.take_set_of_le (Nat.le_refl _), List.drop_set_of_lt (by omega), List.length_cons]
    simp only [List.append_assoc, List.cons_append, List.nil_append]
    rw [show off + i + 1 + l.length = off + i + (l.length + 1) by omega]
theorem fill_step (place : Nat → Option (Nat × Nat)) {i off size : Nat} {v : Value} (cells : Array Value) (rest : List (Nat × Value)) (hp : place i = some (off, size)) (hv : v.cells.size = size) (hc : off + size ≤ cells.size) :
    Instr.fill place cells ((i, v) :: rest) = Instr.fill place (cells.toList.take off ++ v.cells.toList ++ cells.toList.drop (off + size)).toArray rest := by
  have hf := foldl_put off v.cells.toList 0 cells (by rw [Array.length_toList, Nat.add_zero, hv]; exact hc)
  rw [Nat.add_zero, Array.length_toList, hv] at hf
  have e : v.cells.zipIdx.foldl (fun (a : Array Value) (p : Value × Nat) => a.setIfInBounds (off + p.2) p.1) cells = (v.cells.toList.zipIdx 0).foldl (fun (a : Array Value) (p : Value × Nat) => a.setIfInBounds (off + p.2) p.1) cells := by
    rw [← Array.foldl_toList, Array.toList_zipIdx]
  conv => lhs; unfold Instr.fill
  rw [hp]
  dsimp only
  rw [if_neg (by simp [hv]; omega)]
  congr 1
  rw [← hf, ← e]
section
variable {P : Program} {w : World}
theorem run_build_one {t e : TypeId} {k : Nat} (ht : P.underlying t = some (.slice e)) (hi : (P.info? e).map (·.size) = some k) (hk0 : 0 < k) (hk1 : k ≤ 1000) {z : Value} (hz : (zeroValue e).run P w = .ok z w) (v : Value) (hv : v.cells.size = k) :
    (Instr.buildSlice t 1 #[(0, v)]).run P w = .ok (.slice (some ⟨w.heap.size, 0, none⟩) 1 1) (w.alloc (.cells v.cells e)) := by
  have hfill : ∀ c : Array Value, c.size = k → Instr.fill (fun i => some (i * k, k)) c [(0, v)] = some v.cells := fun c hc => by
    rw [fill_step (off := 0) (size := k) _ c [] (by simp) hv (by omega)]
    show some _ = _
    congr 1
    rw [List.take_zero, List.nil_append, List.drop_eq_nil_of_le (by rw [Array.length_toList]; omega), List.append_nil, Array.toArray_toList]
  unfold Instr.buildSlice
  simp only [Sem.run_bind, run_underlying ht, Result.andThen_ok, run_sizeOf_eq hi, Nat.one_mul]
  rw [if_neg (by omega), if_neg (by omega)]
  simp only [Sem.run_bind, Sem.run_pure, hz, Result.andThen_ok]
  rw [hfill _ (by simp)]
  simp [newRow, Result.andThen]
theorem run_build_two {t e : TypeId} {k : Nat} (ht : P.underlying t = some (.slice e)) (hi : (P.info? e).map (·.size) = some k) (hk0 : 0 < k) (hk1 : k ≤ 1000) {z : Value} (hz : (zeroValue e).run P w = .ok z w) (v u : Value) (hv : v.cells.size = k) (hu : u.cells.size = k) :
    (Instr.buildSlice t 2 #[(0, v), (1, u)]).run P w = .ok (.slice (some ⟨w.heap.size, 0, none⟩) 2 2) (w.alloc (.cells (v.cells ++ u.cells) e)) := by
  have hfill : ∀ c : Array Value, c.size = 2 * k → Instr.fill (fun i => some (i * k, k)) c [(0, v), (1, u)] = some (v.cells ++ u.cells) := fun c hc => by
    rw [fill_step (off := 0) (size := k) _ c _ (by simp) hv (by omega)]
    rw [fill_step (off := k) (size := k) _ _ [] (by simp) hu (by simp [hv]; omega)]
    show some _ = _
    congr 1
    rw [List.take_zero, List.nil_append, Nat.zero_add]
    have h1 : v.cells.toList.length = k := by rw [Array.length_toList, hv]
    have e1 : (v.cells.toList ++ c.toList.drop k).take k = v.cells.toList := List.take_left' h1
    have e2 : (v.cells.toList ++ c.toList.drop k).drop (k + k) = [] := List.drop_eq_nil_of_le (by simp [hv]; omega)
    simp only [e1, e2, List.append_nil]
    apply Array.ext'
    simp
  unfold Instr.buildSlice
  simp only [Sem.run_bind, run_underlying ht, Result.andThen_ok, run_sizeOf_eq hi]
  rw [if_neg (by omega), if_neg (by omega)]
  simp only [Sem.run_bind, Sem.run_pure, hz, Result.andThen_ok]
  rw [hfill _ (by simp)]
  simp [newRow, Result.andThen]
theorem wp_build_one {o : Oper} {a : Act} {K : Act → World → Prop} {Q : Exit → Act → World → Prop} (t : TypeId) (x : Operand) (ho : o.op = .buildSlice t 1 #[(0, x)]) (e : TypeId) (k : Nat) (ht : P.underlying t = some (.slice e)) (hi : (P.info? e).map (·.size) = some k) (hk0 : 0 < k) (hk1 : k ≤ 1000)
    (z : Value) (hz : (zeroValue e).run P w = .ok z w) (cs : Array Value) (hv : a.eval x = .agg cs) (hs : cs.size = k)
    (hK : K (a.put o.dst (.slice (some ⟨w.heap.size, 0, none⟩) 1 1)) (w.alloc (.cells cs e))) : o.wp P a w K Q := by
  have hr := run_build_one ht hi hk0 hk1 hz (.agg cs) hs
  unfold Oper.wp execOp
  simp only [ho, List.map_toArray, List.map_cons, List.map_nil, hv, Sem.run_bind, hr, Result.andThen_ok, Sem.run_pure]
  exact hK
theorem wpList_build_one {ops : Array Oper} {rest : List Oper} {o : Oper} {a : Act} {Q : Exit → Act → World → Prop} (hgd : o.guard = none) (t : TypeId) (x : Operand) (ho : o.op = .buildSlice t 1 #[(0, x)]) (e : TypeId) (k : Nat) (ht : P.underlying t = some (.slice e)) (hi : (P.info? e).map (·.size) = some k) (hk0 : 0 < k) (hk1 : k ≤ 1000)
    (z : Value) (hz : (zeroValue e).run P w = .ok z w) (cs : Array Value) (hv : a.eval x = .agg cs) (hs : cs.size = k)
    (hK : wpList P ops Q rest (a.put o.dst (.slice (some ⟨w.heap.size, 0, none⟩) 1 1)) (w.alloc (.cells cs e))) : wpList P ops Q (o :: rest) a w :=
  wpList_plain hgd fun _ hK' => wp_build_one t x ho e k ht hi hk0 hk1 z hz cs hv hs (hK' _ _ hK)
theorem wpList_build_two {ops : Array Oper} {rest : List Oper} {o : Oper} {a : Act} {Q : Exit → Act → World → Prop} (hgd : o.guard = none) (t : TypeId) (x y : Operand) (ho : o.op = .buildSlice t 2 #[(0, x), (1, y)]) (e : TypeId) (k : Nat) (ht : P.underlying t = some (.slice e)) (hi : (P.info? e).map (·.size) = some k) (hk0 : 0 < k) (hk1 : k ≤ 1000)
    (z : Value) (hz : (zeroValue e).run P w = .ok z w) (cs ds : Array Value) (hv : a.eval x = .agg cs) (hu : a.eval y = .agg ds) (hs : cs.size = k) (hs2 : ds.size = k)
    (hK : wpList P ops Q rest (a.put o.dst (.slice (some ⟨w.heap.size, 0, none⟩) 2 2)) (w.alloc (.cells (cs ++ ds) e))) : wpList P ops Q (o :: rest) a w :=
  wpList_plain hgd fun _ hK' => by
    have hr := run_build_two ht hi hk0 hk1 hz (.agg cs) (.agg ds) hs hs2
    unfold Oper.wp execOp
    simp only [ho, List.map_toArray, List.map_cons, List.map_nil, hv, hu, Sem.run_bind, hr, Result.andThen_ok, Sem.run_pure]
    exact hK' _ _ hK
end
end Go.XR

/- '==' at aggregates whose cells are not written out. -/
namespace Go.XR
open Go Go.RowKit
section
variable {P : Program} {w : World}
theorem wp_agg_eql {o : Oper} {a : Act} {K : Act → World → Prop} {Q : Exit → Act → World → Prop} (t : TypeId) (x y : Operand) (t2 : TypeId) (ho : o.op = .binOp .eql t x y t2)
    (cs ds : Array Value) (hx : a.eval x = .agg cs) (hy : a.eval y = .agg ds) (hm : P.eqGuardType P.depth t = false) (b : Bool) (he : (Op.equal t (.agg cs) (.agg ds)).run P w = .ok b w)
    (hK : K (a.put o.dst (.bool b)) w) : o.wp P a w K Q := by
  unfold Oper.wp execOp
  simp only [ho, hx, hy, Sem.run_bind, run_eqGuard_agg (hm := hm), binOp, he, Result.andThen_ok, Sem.run_pure]
  exact hK
theorem wpList_agg_eql {ops : Array Oper} {rest : List Oper} {o : Oper} {a : Act} {Q : Exit → Act → World → Prop} (hgd : o.guard = none) (t : TypeId) (x y : Operand) (t2 : TypeId) (ho : o.op = .binOp .eql t x y t2)
    (cs ds : Array Value) (hx : a.eval x = .agg cs) (hy : a.eval y = .agg ds) (hm : P.eqGuardType P.depth t = false) (b : Bool) (he : (Op.equal t (.agg cs) (.agg ds)).run P w = .ok b w)
    (hK : wpList P ops Q rest (a.put o.dst (.bool b)) w) : wpList P ops Q (o :: rest) a w :=
  wpList_plain hgd fun _ hK' => wp_agg_eql t x y t2 ho cs ds hx hy hm b he (hK' _ _ hK)
theorem wpList_load_on {ops : Array Oper} {rest : List Oper} {o : Oper} {a : Act} {Q : Exit → Act → World → Prop} (hw : Region.wanted o (yielded ops a.tmps) = true) (ty : TypeId) (x : Operand) (ho : o.op = .load ty x)
    (g off : Nat) (hx : a.eval x = .pointer (some ⟨g, off, none⟩)) (cs : Array Value) (h : At w g off cs) (d : TypeDesc)
    (hu : P.underlying ty = some d) (hd : (match d with | .struct _ | .array _ _ => true | _ => false) = true) (hi : (P.info? ty).map (·.size) = some cs.size)
    (hK : wpList P ops Q rest (a.put o.dst (.agg cs)) w) : wpList P ops Q (o :: rest) a w :=
  BigFrame.wpList_want hw fun _ hK' => wp_load_at ty x ho g off hx cs h d hu hd hi (hK' _ _ hK)
theorem wpList_eql_on {ops : Array Oper} {rest : List Oper} {o : Oper} {a : Act} {Q : Exit → Act → World → Prop} (hw : Region.wanted o (yielded ops a.tmps) = true) (t : TypeId) (x y : Operand) (t2 : TypeId) (ho : o.op = .binOp .eql t x y t2)
    (cs ds : Array Value) (hx : a.eval x = .agg cs) (hy : a.eval y = .agg ds) (hm : P.eqGuardType P.depth t = false) (b : Bool) (he : (Op.equal t (.agg cs) (.agg ds)).run P w = .ok b w)
    (hK : wpList P ops Q rest (a.put o.dst (.bool b)) w) : wpList P ops Q (o :: rest) a w :=
  BigFrame.wpList_want hw fun _ hK' => wp_agg_eql t x y t2 ho cs ds hx hy hm b he (hK' _ _ hK)
theorem wp_agg_neq {o : Oper} {a : Act} {K : Act → World → Prop} {Q : Exit → Act → World → Prop} (t : TypeId) (x y : Operand) (t2 : TypeId) (ho : o.op = .binOp .neq t x y t2)
    (cs ds : Array Value) (hx : a.eval x = .agg cs) (hy : a.eval y = .agg ds) (hm : P.eqGuardType P.depth t = false) (b : Bool) (he : (Op.equal t (.agg cs) (.agg ds)).run P w = .ok b w)
    (hK : K (a.put o.dst (.bool (!b))) w) : o.wp P a w K Q := by
  unfold Oper.wp execOp
  simp only [ho, hx, hy, Sem.run_bind, run_eqGuard_agg (hm := hm), binOp, he, Result.andThen_ok, Sem.run_pure]
  exact hK
end
end Go.XR

/- The walk over slices.BinarySearch at numbers of 32 bits. -/
namespace Go.IndexPure
/-- how many numbers of a rising list lie below n -/
def LowAt (l : List UInt32) (n : UInt32) (i : Nat) : Prop := i ≤ l.length ∧ (∀ q (h : q < l.length), q < i → l[q].toNat < n.toNat) ∧ (∀ q (h : q < l.length), i ≤ q → n.toNat ≤ l[q].toNat)
end Go.IndexPure
namespace Go.Proofs.YtnfbchhbcinloaaGreat
open Go.RowKit Go.XR Go.IndexPure
def nL (x : UInt32) : List Value := [.int .u32 (x.toNat : Int)]
theorem row_num {w : World} {a : Option Addr} {l : List UInt32} (h : Row w a (l.flatMap nL)) {q : Nat} (hq : q < l.length) : ∃ g o, a = some ⟨g, o, none⟩ ∧ w.cell? ⟨g, o + q, none⟩ = some (.int .u32 (l[q].toNat : Int)) := by
  have h2 := flat_get (enc := nL) (k := 1) (fun _ => rfl) l (j := 0) hq (by omega)
  rw [Nat.mul_one, Nat.add_zero] at h2
  obtain ⟨g, o, he, h3⟩ := h.get (j := q) (u := .int .u32 (l[q].toNat : Int)) (by rw [h2]; rfl)
  exact ⟨g, o, he, h3⟩
set_option maxHeartbeats 1000000 in
set_option maxRecDepth 100000 in
theorem bsearch_any (w : World) (a : Option Addr) (c : Nat) (l : List UInt32) (hR : Row w a (l.flatMap nL)) (hl : l.length < 2^40) (hs : l.Pairwise (fun x y => x.toNat < y.toNat)) (n : UInt32) :
    Calls Tryz.prog 61 #[.slice a l.length c, .int .u32 (n.toNat : Int)] w fun e w' => (∃ i, LowAt l n i ∧ e = .returned (.tuple #[.int .i64 i, .bool (decide (n ∈ l))])) ∧ w' = w := by
  have HR := Lib.hid hR
  have HS := Lib.hid (List.pairwise_iff_getElem.1 hs)
  clear hR hs
  have hn := n.toNat_lt
  go_enter Tryz.func61, Tryz.ntmps61
  go_wp2
  go_loopg [7, 8] l.length (fun m x y w1 => w = w1 ∧ ∃ i j : Nat, i ≤ j ∧ j ≤ l.length ∧ x = .int .i64 i ∧ y = .int .i64 j ∧ Hid (m = j - i ∧ (∀ q (h : q < l.length), q < i → l[q].toNat < n.toNat) ∧ (∀ q (h : q < l.length), j ≤ q → n.toNat ≤ l[q].toNat)))
  case atStart => exact ⟨rfl, 0, l.length, by omega, by omega, rfl, rfl, rfl, fun q _ h => by omega, fun q h h' => by omega⟩
  case round =>
    obtain ⟨rfl, i, j, hij, hj, rfl, rfl, hr⟩ := hrel
    by_cases hlt : i < j
    · have hlt2 : (i : Int) < (j : Int) := by omega
      obtain ⟨h, hh⟩ : ∃ h, (i + j) / 2 = h := ⟨_, rfl⟩
      have hq1 : i ≤ h := by omega
      have hq2 : h < j := by omega
      have hq3 : ((i : Int) + (j : Int)) / 2 = (h : Int) := by omega
      have hhl : h < l.length := by omega
      clear hh
      obtain ⟨g, o, rfl, c0⟩ := row_num HR.out hhl
      have hbx := l[h].toNat_lt
      have Hx : Hid (∀ q (h' : q < l.length), q ≤ h → l[q].toNat ≤ l[h].toNat) := fun q h' hle => by
        by_cases c : q = h
        · subst c; exact Nat.le_refl _
        · exact Nat.le_of_lt (HS.out q h h' hhl (by omega))
      have Hy : Hid (∀ q (h' : q < l.length), h ≤ q → l[h].toNat ≤ l[q].toNat) := fun q h' hle => by
        by_cases c : h = q
        · subst c; exact Nat.le_refl _
        · exact Nat.le_of_lt (HS.out h q hhl h' (by omega))
      generalize l[h].toNat = x at *
      by_cases hc : x < n.toNat
      · have hc2 : (x : Int) < (n.toNat : Int) := by omega
        go_wp2
        go_roundg (j - (h + 1))
        case measure => have := hr.out.1; omega
        case rel => exact ⟨rfl, h + 1, j, by omega, by omega, by go_num, rfl, rfl, fun q h' hle => by have := Hx.out q h' (by omega); omega, hr.out.2.2⟩
      · have hc2 : ¬ (x : Int) < (n.toNat : Int) := by omega
        go_wp2
        go_roundg (h - i)
        case measure => have := hr.out.1; omega
        case rel => exact ⟨rfl, i, h, by omega, by omega, rfl, rfl, rfl, hr.out.2.1, fun q h' hle => by have := Hy.out q h' hle; omega⟩
    · have hge : ¬ (i : Int) < (j : Int) := by omega
      have hLow : Hid (LowAt l n i) := ⟨by omega, hr.out.2.1, fun q h h' => hr.out.2.2 q h (by omega)⟩
      clear hr
      by_cases hil : i < l.length
      · have hil2 : (i : Int) < (l.length : Int) := by omega
        obtain ⟨g, o, rfl, c0⟩ := row_num HR.out hil
        have hbx := l[i].toNat_lt
        have Hin : Hid (n ∈ l ↔ l[i].toNat = n.toNat) := by
          constructor
          · intro hm
            obtain ⟨q, hq, he⟩ := List.getElem_of_mem hm
            by_cases c : q < i
            · have := hLow.out.2.1 q hq c; rw [he] at this; omega
            · by_cases d : q = i
              · subst d; rw [he]
              · have h1 := HS.out i q hil hq (by omega)
                have h2 := hLow.out.2.2 i hil (Nat.le_refl _)
                rw [he] at h1; omega
          · intro he
            rw [← UInt32.toNat_inj.1 he]; exact List.getElem_mem hil
        generalize l[i].toNat = x at *
        by_cases he : x = n.toNat
        · have he2 : (x : Int) = (n.toNat : Int) := by omega
          have Hd : Hid (decide (n ∈ l) = true) := decide_eq_true (Hin.out.2 he)
          subst he
          go_wp2
          go_ret2
          exact ⟨⟨i, hLow.out, by rw [Hd.out]; rfl⟩, rfl⟩
        · have he2 : ¬ (x : Int) = (n.toNat : Int) := by omega
          have hbz : ((x : Int) == (n.toNat : Int)) = false := by rw [beq_eq_false_iff_ne]; exact he2
          have Hd : Hid (decide (n ∈ l) = false) := decide_eq_false fun h => he (Hin.out.1 h)
          go_wp2
          go_ret2
          exact ⟨⟨i, hLow.out, by rw [Hd.out]; rfl⟩, rfl⟩
      · have hil2 : ¬ (i : Int) < (l.length : Int) := by omega
        have Hd : Hid (decide (n ∈ l) = false) := decide_eq_false fun hm => by
          obtain ⟨q, hq, he⟩ := List.getElem_of_mem hm
          have := hLow.out.2.1 q hq (by omega)
          rw [he] at this; omega
        go_wp2
        go_ret2
        exact ⟨⟨i, hLow.out, by rw [Hd.out]; rfl⟩, rfl⟩
end Go.Proofs.YtnfbchhbcinloaaGreat

/- Look-ups in maps known pair by pair, as steps of a walk. -/
namespace Go.XR
open Go Go.RowKit
section
variable {κ ν : Type} [DecidableEq κ] {kv : κ → Value} {vv : ν → Value} {P : Program} {k t e : TypeId} {w : World} {m : Nat} {D : List (κ × ν)}
theorem wp_gm_lookup {o : Oper} {a : Act} {K : Act → World → Prop} {Q : Exit → Act → World → Prop} (x y : Operand) (t : TypeId) (hop : o.op = .lookup t x y false)
    (KK : KeysOk P k kv) (ht : P.underlying t = some (.map k e)) (z : Value) (hz : ∀ w, (zeroValue e).run P w = .ok z w) (c : κ) (v : Value) (hm : a.eval x = .map (some m)) (hx : a.eval y = kv c) (h : GM kv vv w m D)
    (hv : ((aget D c).map vv).getD z = v) (hK : K (a.put o.dst v) w) : o.wp P a w K Q := by
  have hr := h.lookup (P := P) KK ht (hz w) c
  rw [hv] at hr
  unfold Oper.wp execOp
  simp only [hop, hm, hx, Sem.run_bind, hr, Result.andThen_ok, Sem.run_pure]
  exact hK
theorem wp_gm_lookup_ok {o : Oper} {a : Act} {K : Act → World → Prop} {Q : Exit → Act → World → Prop} (x y : Operand) (t : TypeId) (hop : o.op = .lookup t x y true)
    (KK : KeysOk P k kv) (ht : P.underlying t = some (.map k e)) (z : Value) (hz : ∀ w, (zeroValue e).run P w = .ok z w) (c : κ) (v : Value) (b : Bool) (hm : a.eval x = .map (some m)) (hx : a.eval y = kv c) (h : GM kv vv w m D)
    (hv : ((aget D c).map vv).getD z = v) (hb : (aget D c).isSome = b) (hK : K (a.put o.dst (.tuple #[v, .bool b])) w) : o.wp P a w K Q := by
  have hr := h.lookup_ok (P := P) KK ht (hz w) c
  rw [hv, hb] at hr
  unfold Oper.wp execOp
  simp only [hop, hm, hx, Sem.run_bind, hr, Result.andThen_ok, Sem.run_pure]
  exact hK
theorem Blk.toAt {w : World} {b : Nat} {cs : List Value} (h : Blk w b cs) : At w b 0 cs.toArray := fun j u hj => by
  rw [Nat.zero_add]; exact h.cell (by simpa using hj)
/-- a result variable that is a struct, and one that is a temporary -/
theorem results_at {fn : Func} {p u : Tmp} {ty : TypeId} (hf : fn.results = #[.cell p ty, .tmp u]) {w' : World} {g : Nat} {cs : Array Value} {tmps : Array Value} {v : Value} {d : TypeDesc} (hp : tmps.getD p undef = .pointer (some ⟨g, 0, none⟩)) (hv : tmps.getD u undef = v) (h : At w' g 0 cs)
    (hu : P.underlying ty = some d) (hd : (match d with | .struct _ | .array _ _ => true | _ => false) = true) (hi : (P.info? ty).map (·.size) = some cs.size) :
    (results fn tmps).run P w' = .ok (.tuple #[.agg cs, v]) w' := by
  rw [results_cell_tmp hf, hp, hv]
  have h1 := run_loadVar_at (P := P) h hu hd hi
  simp [asAddr, Result.andThen, h1]
end
end Go.XR

/- A region whose order is drawn, walked once: what is light (it yields its value in every world that meets S) is taken first; what is heavy comes in one forced order. -/
namespace Go.XR
section
variable {P : Program} {ops : Array Oper} {Q : Exit → Act → World → Prop} {md : Region.Mode} {S : World → Prop} {sd : List Nat}

/-- does number j wait for number i, itself or through others? -/
def reach (md : Region.Mode) (ops : Array Oper) : Nat → Nat → Nat → Bool
  | 0, _, _ => false
  | f + 1, j, i =>
    match ops[j]? with
    | some oj => (oj.after.any fun e => Region.binds md e && e.on == i) || oj.after.any fun e => Region.binds md e && reach md ops f e.on i
    | none => false

def Closed (md : Region.Mode) (ops : Array Oper) (listed : Array Bool) : Prop :=
  ∀ j oj, ops[j]? = some oj → listed.getD j false = true → ∀ e ∈ oj.after, Region.binds md e = true → listed.getD e.on false = true

theorem Closed.set {listed : Array Bool} {i : Nat} (h : Closed md ops listed) (hi : i ∈ Region.ready md ops listed) : Closed md ops (listed.setIfInBounds i true) := by
  obtain ⟨_, oi, hoi, hall⟩ := mem_ready.1 hi
  intro j oj hj hl e he hb
  by_cases hij : i = j
  · subst hij
    have : oj = oi := Option.some.inj (hj.symm.trans hoi)
    subst this
    exact getD_set_true (hall e he hb)
  · rw [getD_set_ne false hij] at hl
    exact getD_set_true (h j oj hj hl e he hb)

theorem reach_spec {listed : Array Bool} {i : Nat} (hc : Closed md ops listed) : ∀ (f j : Nat) (oj : Oper), ops[j]? = some oj →
    (∀ e ∈ oj.after, Region.binds md e = true → listed.getD e.on false = true) → reach md ops f j i = true → listed.getD i false = true
  | 0, _, _, _, _, h => by cases h
  | f + 1, j, oj, hj, hall, h => by
    simp only [reach, hj, Bool.or_eq_true] at h
    rcases h with h | h
    · obtain ⟨e, he, hb⟩ := Array.any_eq_true'.1 h
      simp only [Bool.and_eq_true, beq_iff_eq] at hb
      rw [← hb.2]; exact hall e he hb.1
    · obtain ⟨e, he, hb⟩ := Array.any_eq_true'.1 h
      simp only [Bool.and_eq_true] at hb
      cases ho : ops[e.on]? with
      | none =>
        cases f with
        | zero => simp [reach] at hb
        | succ f => simp [reach, ho] at hb
      | some o' => exact reach_spec hc f e.on o' ho (fun e' he' hb' => hc e.on o' ho (hall e he hb.1) e' he' hb') hb.2

/-- whatever order comes; S is shown behind each operation that is not among sd -/
def wpAnyX (P : Program) (md : Region.Mode) (ops : Array Oper) (Q : Exit → Act → World → Prop) (S : World → Prop) (sd : List Nat) : Nat → Array Bool → Act → World → Prop
  | 0, listed, a, w => Region.ready md ops listed = [] ∧ Q .normal a w
  | fuel + 1, listed, a, w =>
    (Region.ready md ops listed = [] → Q .normal a w) ∧
    ∀ i ∈ Region.ready md ops listed, wpOp P ops Q i (fun a' w' => (sd.contains i = false → S w') ∧ wpAnyX P md ops Q S sd fuel (listed.setIfInBounds i true) a' w') a w

theorem wpAny_of_X : ∀ (fuel : Nat) (listed : Array Bool) (a : Act) (w : World), wpAnyX P md ops Q S sd fuel listed a w → wpAny P md ops Q fuel listed a w
  | 0, _, _, _, h => h
  | fuel + 1, _, _, _, h => ⟨h.1, fun i hi => wpOp_mono (fun a' w' h' => wpAny_of_X fuel _ a' w' h'.2) (h.2 i hi)⟩

theorem wpAnyX_first {i : Nat} {oi : Oper} {v : Value} (hi : ops[i]? = some oi) (hsel : ∀ (j : Nat) (o : Oper) cs b, ops[j]? = some o → o.op ≠ .select cs b)
    (hQ : ∀ c a w, Q (.panic c) (a.put oi.dst v) w → Q (.panic c) a w) (hsd : ∀ j, sd.contains j = true → reach md ops 12 j i = true) :
    ∀ (fuel : Nat) (listed : Array Bool) (a : Act) (w : World),
      (∀ j oj, ops[j]? = some oj → j ≠ i → listed.getD j true = false → (∀ e ∈ oj.after, Region.binds md e = true → e.on ≠ i) → oi.apart ops oj = true) →
      Closed md ops listed → i ∈ Region.ready md ops listed → YieldsIf P ops S oi v a → S w →
      wpAnyX P md ops Q S sd fuel (listed.setIfInBounds i true) (a.put oi.dst v) w → wpAnyX P md ops Q S sd (fuel + 1) listed a w := by
  intro fuel
  induction fuel with
  | zero =>
    intro listed a w _ _ hr hy hS H
    refine ⟨fun h => (by rw [h] at hr; cases hr), fun j hj => ?_⟩
    by_cases hji : j = i
    · subst hji; exact hy.wpOp hi hS ⟨fun _ => hS, H⟩
    · have := ready_mono hj hji
      rw [H.1] at this
      cases this
  | succ fuel ih =>
    intro listed a w hfree hcl hr hy hS H
    refine ⟨fun h => (by rw [h] at hr; cases hr), fun j hj => ?_⟩
    by_cases hji : j = i
    · subst hji; exact hy.wpOp hi hS ⟨fun _ => hS, H⟩
    · have h1 := H.2 j (ready_mono hj hji)
      obtain ⟨hjun, oj, hoj, hall⟩ := mem_ready.1 hj
      have hnot : ∀ e ∈ oj.after, Region.binds md e = true → e.on ≠ i := fun e he hb heq => by
        have h1 := hall e he hb
        have h0 := (mem_ready.1 hr).1
        rw [heq] at h1
        rcases Nat.lt_or_ge i listed.size with h' | h'
        · simp [h'] at h0 h1; rw [h0] at h1; cases h1
        · simp [Array.getElem?_eq_none h'] at h1
      have hns : sd.contains j = false := by
        cases hc : sd.contains j with
        | false => rfl
        | true =>
          have h1 := reach_spec hcl 12 j oj hoj hall (hsd j hc)
          have h0 := (mem_ready.1 hr).1
          rcases Nat.lt_or_ge i listed.size with h' | h'
          · simp [h'] at h0 h1; rw [h0] at h1; cases h1
          · simp [Array.getElem?_eq_none h'] at h1
      have h2 := wpOp_putIf hoj (hfree j oj hoj hji hjun hnot) (fun cs b => hsel i oi cs b hi) (fun cs b => hsel j oj cs b hoj) hQ hy h1
      have hfree' : ∀ k ok, ops[k]? = some ok → k ≠ i → (listed.setIfInBounds j true).getD k true = false →
          (∀ e ∈ ok.after, Region.binds md e = true → e.on ≠ i) → oi.apart ops ok = true := fun k ok hk hki hun hno => by
        refine hfree k ok hk hki ?_ hno
        by_cases hjk : j = k
        · subst hjk; exact hjun
        · rw [getD_set_ne true hjk] at hun; exact hun
      refine wpOp_mono (fun a' w' h3 => ⟨fun _ => h3.2.1 hns, ih (listed.setIfInBounds j true) a' w' hfree' (hcl.set hj) (ready_mono hr (Ne.symm hji)) h3.1 (h3.2.1 hns) ?_⟩) h2
      rw [Array.setIfInBounds_comm _ _ hji]
      exact h3.2.2

/-- a schedule: number and whether it is light -/
def schedB (md : Region.Mode) (ops : Array Oper) (sd : List Nat) : List (Nat × Bool) → Array Bool → Bool
  | [], listed => (Region.ready md ops listed).isEmpty
  | (i, true) :: r, listed => (Region.ready md ops listed).contains i && (Region.free md ops listed i && ((sd.all fun j => reach md ops 12 j i) && schedB md ops sd r (listed.setIfInBounds i true)))
  | (i, false) :: r, listed => (Region.ready md ops listed == [i]) && schedB md ops sd r (listed.setIfInBounds i true)

def wpT (P : Program) (ops : Array Oper) (Q : Exit → Act → World → Prop) (S : World → Prop) (sd : List Nat) : List (Nat × Bool × Option Oper) → Act → World → Prop
  | [], a, w => Q .normal a w
  | (_, true, some o) :: r, a, w => ∃ v, YieldsIf P ops S o v a ∧ S w ∧ wpT P ops Q S sd r (a.put o.dst v) w
  | (i, false, some o) :: r, a, w => if Region.wanted o (yielded ops a.tmps) then o.wp P a w (fun a' w' => (sd.contains i = false → S w') ∧ wpT P ops Q S sd r a' w') Q else (sd.contains i = false → S w) ∧ wpT P ops Q S sd r (a.put o.dst undef) w
  | (_, _, none) :: _, _, _ => False

theorem X_of_T (hsel : Region.noSelect ops = true) (hQ : ∀ c a a' w, Q (.panic c) a w → Q (.panic c) a' w) : ∀ (l : List (Nat × Bool)) (listed : Array Bool) (a : Act) (w : World),
    Closed md ops listed → schedB md ops sd l listed = true → wpT P ops Q S sd (l.map fun p => (p.1, p.2, ops[p.1]?)) a w → wpAnyX P md ops Q S sd l.length listed a w
  | [], listed, a, w, _, hb, h => by
    simp only [schedB, List.isEmpty_iff] at hb
    exact ⟨hb, h⟩
  | (i, true) :: r, listed, a, w, hcl, hb, h => by
    simp only [schedB, Bool.and_eq_true] at hb
    obtain ⟨hr, hf, hs, hrest⟩ := hb
    simp only [List.map_cons] at h
    cases ho : ops[i]? with
    | none => rw [ho] at h; exact h.elim
    | some o =>
      rw [ho] at h
      obtain ⟨v, hy, hS, hn⟩ := h
      refine wpAnyX_first ho (Region.noSelect_spec hsel) (fun c a w h => hQ c _ _ w h) (fun j hj => ?_) _ _ _ _ (Region.free_spec ho hf) hcl (by simpa using hr) hy hS (X_of_T hsel hQ r _ _ _ (hcl.set (by simpa using hr)) hrest hn)
      exact List.all_eq_true.1 hs j (by simpa using hj)
  | (i, false) :: r, listed, a, w, hcl, hb, h => by
    simp only [schedB, Bool.and_eq_true, beq_iff_eq] at hb
    obtain ⟨hr, hrest⟩ := hb
    refine ⟨fun h0 => absurd (hr ▸ h0 : [i] = []) (by simp), fun j hj => ?_⟩
    rw [hr] at hj
    obtain rfl : j = i := by simpa using hj
    simp only [List.map_cons] at h
    have hm := hcl.set (i := j) (by rw [hr]; simp)
    unfold wpOp
    cases ho : ops[j]? with
    | none => rw [ho] at h; exact h.elim
    | some o =>
      rw [ho] at h
      simp only [wpT] at h ⊢
      split
      · rename_i hw
        rw [if_pos hw] at h
        exact .inl (Oper.wp_mono (fun a' w' h' => ⟨h'.1, X_of_T hsel hQ r _ _ _ hm hrest h'.2⟩) h)
      · rename_i hw
        rw [if_neg hw] at h
        exact ⟨h.1, X_of_T hsel hQ r _ _ _ hm hrest h.2⟩

/-- the region, walked by a schedule -/
theorem region_sched {id : Nat} {ops : List Oper} {a : Act} {w : World} (S : World → Prop) (l : List (Nat × Bool)) (sd : List Nat)
    (hm : P.follows .mixedOrders = true) (hsel : Region.noSelect ops.toArray = true) (hn : (l.length == ops.length) = true)
    (hb : schedB .any ops.toArray sd l (Array.replicate ops.toArray.size false) = true)
    (h : wpT P ops.toArray (NoPanic Q) S sd (l.map fun p => (p.1, p.2, ops[p.1]?)) a w.drew) : (Code.region id ops.toArray true).wp P Q a w := by
  refine wp_region_noPanic (wp_region_any hm (wpAny_of_X (S := S) (sd := sd) _ _ _ _ ?_))
  have e : ops.toArray.size = l.length := by simpa using (beq_iff_eq.1 hn).symm
  have := X_of_T (P := P) (Q := NoPanic Q) (S := S) (w := w.drew) hsel (fun _ _ _ _ h => h.elim) l _ a (fun j oj _ hl => by simp [Array.getD] at hl) hb (by simpa using h)
  rw [e] at this ⊢
  exact this

section
variable {r : List (Nat × Bool × Option Oper)} {a : Act} {w : World} {o : Oper} {i : Nat}
theorem S_nil (h : Q .normal a w) : wpT P ops (NoPanic Q) S sd [] a w := h

theorem S_lightV (hg : o.guard = none) (hS : S w) (v : Value)
    (hy : ∀ w', S w' → (execOp a.eval o).run P w' = .ok (.value v) w') (h : wpT P ops Q S sd r (a.put o.dst v) w) : wpT P ops Q S sd ((i, true, some o) :: r) a w :=
  ⟨v, .inl ⟨by simp [Region.wanted, hg], hy⟩, hS, h⟩

theorem S_lightV_on (hg : Region.wanted o (yielded ops a.tmps) = true) (hS : S w) (v : Value)
    (hy : ∀ w', S w' → (execOp a.eval o).run P w' = .ok (.value v) w') (h : wpT P ops Q S sd r (a.put o.dst v) w) : wpT P ops Q S sd ((i, true, some o) :: r) a w :=
  ⟨v, .inl ⟨hg, hy⟩, hS, h⟩

/-- operations that yield a value, and do nothing else -/
def lightOp : Op → Bool
  | .move _ | .assign _ | .build .. | .load .. | .binOp .. | .unOp .. | .convert .. | .makeInterface .. | .makeFunc .. | .slice .. | .fieldAddr .. | .field .. | .indexAddr .. | .index .. | .lookup .. | .extract .. | .nilCheck .. | .pick .. => true
  | .call { callee := .builtin b, .. } => match b with | .max | .min | .len | .cap => true | _ => false
  | _ => false

theorem bind_value {e : Sem Value} {P : Program} {w w' : World} {n : Next} (h : (do pure (Next.value (← e)) : Sem Next).run P w = .ok n w') : ∃ v, n = .value v := by
  rw [Sem.run_bind] at h
  cases hr : e.run P w with
  | ok v w1 => rw [hr] at h; simp at h; exact ⟨v, h.1.symm⟩
  | halt x w1 => rw [hr] at h; simp at h

theorem pure_value {v : Value} {P : Program} {w w' : World} {n : Next} (h : (pure (Next.value v) : Sem Next).run P w = .ok n w') : ∃ v, n = .value v := by
  simp at h; exact ⟨v, h.1.symm⟩

theorem light_value {ρ : Operand → Value} {o : Oper} (hl : lightOp o.op = true) {P : Program} {w w' : World} {n : Next} (h : (execOp ρ o).run P w = .ok n w') : ∃ v, n = .value v := by
  obtain ⟨dst, op, ty, pos, after, guard⟩ := o
  cases op <;> first | (simp [lightOp] at hl; done) | exact bind_value h | exact pure_value h | skip
  case pick c x y => exact bind_value (e := do pure (if ← asBool (ρ c) then ρ x else ρ y)) (by simpa [execOp] using h)
  case nilCheck x =>
    simp only [execOp] at h
    split at h
    · simp [runtimePanic] at h
    · simp [runtimePanic] at h
    · simp [runtimePanic] at h
    · split at h
      · simp [runtimePanic] at h
      · rw [Sem.run_bind] at h
        simp only [run_program, Result.andThen] at h
        rw [Sem.run_bind] at h
        generalize Sem.run P (nilAhead _ _ _ _) w = r at h
        cases r with
        | halt x w1 => simp [Result.andThen] at h
        | ok b w1 =>
          simp only [Result.andThen] at h
          split at h
          · simp [unsupported] at h
          · exact pure_value h
      · exact pure_value h
    · exact pure_value h
  case call c =>
    obtain ⟨callee, args, ats⟩ := c
    cases callee with
    | builtin b => cases b <;> first | (simp [lightOp] at hl; done) | exact bind_value h
    | _ => simp [lightOp] at hl

def dstOk (dst : Option Tmp) (a : Act) : Bool := match dst with | some d => decide (d < a.tmps.size) | none => false

theorem put_inj {a : Act} {d : Nat} {u v : Value} (hd : d < a.tmps.size) (h : a.put (some d) u = a.put (some d) v) : u = v := by
  have h1 := congrArg (fun x : Act => x.tmps[d]?) h
  simpa [Act.put, hd] using h1

theorem yields_of_wp {dst : Option Tmp} {op : Op} {ty : TypeId} {pos : String} {after : Array Edge} {guard : Option (Nat × Bool)} {v : Value}
    (hl : lightOp op = true) (hd : dstOk dst a = true)
    (hy : ∀ K : Act → World → Prop, K (a.put dst v) w → Oper.wp P ⟨dst, op, ty, pos, after, guard⟩ a w K (fun _ _ _ => False)) :
    (execOp a.eval ⟨dst, op, ty, pos, after, guard⟩).run P w = .ok (.value v) w := by
  replace hy := hy (fun a' w' => a' = a.put dst v ∧ w' = w) ⟨rfl, rfl⟩
  unfold Oper.wp at hy
  cases hr : (execOp a.eval ⟨dst, op, ty, pos, after, guard⟩).run P w with
  | ok n w1 =>
    obtain ⟨u, rfl⟩ := light_value (o := ⟨dst, op, ty, pos, after, guard⟩) hl hr
    rw [hr] at hy
    simp only [Oper.upon] at hy
    obtain ⟨h1, rfl⟩ := hy
    cases dst with
    | none => simp [dstOk] at hd
    | some d => rw [put_inj (by simpa [dstOk] using hd) h1]
  | halt x w1 =>
    rw [hr] at hy
    cases x <;> simp [Oper.upon] at hy

/-- light: its value is the same in every world that meets S -/
theorem S_light {dst : Option Tmp} {op : Op} {ty : TypeId} {pos : String} {after : Array Edge}
    (hl : lightOp op = true) (hd : dstOk dst a = true) (hS : S w) (v : Value)
    (hy : ∀ w', S w' → ∀ K : Act → World → Prop, K (a.put dst v) w' → Oper.wp P ⟨dst, op, ty, pos, after, none⟩ a w' K (fun _ _ _ => False))
    (h : ∀ K : Act → World → Prop, (∀ a', wpT P ops Q S sd r a' w → K a' w) → Oper.wp P ⟨dst, .move (.const v), ty, "", #[], none⟩ a w K (fun _ _ _ => False)) :
    wpT P ops Q S sd ((i, true, some ⟨dst, op, ty, pos, after, none⟩) :: r) a w :=
  S_lightV rfl hS v (fun w' hS' => yields_of_wp hl hd (hy w' hS')) (by
    have := h (fun a' w' => wpT P ops Q S sd r a' w) (fun _ h => h)
    simpa [Oper.wp, execOp, Oper.upon, Act.eval] using this)

theorem S_light_on {dst : Option Tmp} {op : Op} {ty : TypeId} {pos : String} {after : Array Edge} {g : Nat × Bool}
    (hg : Region.wanted ⟨dst, op, ty, pos, after, some g⟩ (yielded ops a.tmps) = true)
    (hl : lightOp op = true) (hd : dstOk dst a = true) (hS : S w) (v : Value)
    (hy : ∀ w', S w' → ∀ K : Act → World → Prop, K (a.put dst v) w' → Oper.wp P ⟨dst, op, ty, pos, after, none⟩ a w' K (fun _ _ _ => False))
    (h : ∀ K : Act → World → Prop, (∀ a', wpT P ops Q S sd r a' w → K a' w) → Oper.wp P ⟨dst, .move (.const v), ty, "", #[], none⟩ a w K (fun _ _ _ => False)) :
    wpT P ops Q S sd ((i, true, some ⟨dst, op, ty, pos, after, some g⟩) :: r) a w :=
  S_lightV_on hg hS v (fun w' hS' => yields_of_wp (guard := some g) hl hd (hy w' hS')) (by
    have := h (fun a' w' => wpT P ops Q S sd r a' w) (fun _ h => h)
    simpa [Oper.wp, execOp, Oper.upon, Act.eval] using this)

theorem S_light_off {dst : Option Tmp} {op : Op} {ty : TypeId} {pos : String} {after : Array Edge} {g : Nat × Bool}
    (hg : Region.wanted ⟨dst, op, ty, pos, after, some g⟩ (yielded ops a.tmps) = false) (hS : S w)
    (h : ∀ K : Act → World → Prop, (∀ a', wpT P ops Q S sd r a' w → K a' w) → Oper.wp P ⟨dst, .move (.const undef), ty, "", #[], none⟩ a w K (fun _ _ _ => False)) :
    wpT P ops Q S sd ((i, true, some ⟨dst, op, ty, pos, after, some g⟩) :: r) a w :=
  ⟨undef, .inr ⟨hg, rfl⟩, hS, by
    have := h (fun a' w' => wpT P ops Q S sd r a' w) (fun _ h => h)
    simpa [Oper.wp, execOp, Oper.upon, Act.eval] using this⟩

theorem S_heavy {dst : Option Tmp} {op : Op} {ty : TypeId} {pos : String} {after : Array Edge}
    (h : ∀ K : Act → World → Prop, (∀ a' w', ((sd.contains i = false → S w') ∧ wpT P ops Q S sd r a' w') → K a' w') → Oper.wp P ⟨dst, op, ty, pos, after, none⟩ a w K Q) :
    wpT P ops Q S sd ((i, false, some ⟨dst, op, ty, pos, after, none⟩) :: r) a w := by
  unfold wpT
  rw [if_pos (by simp [Region.wanted])]
  exact h _ (fun _ _ h => h)

theorem S_heavy_on {dst : Option Tmp} {op : Op} {ty : TypeId} {pos : String} {after : Array Edge} {g : Nat × Bool}
    (hg : Region.wanted ⟨dst, op, ty, pos, after, some g⟩ (yielded ops a.tmps) = true)
    (h : ∀ K : Act → World → Prop, (∀ a' w', ((sd.contains i = false → S w') ∧ wpT P ops Q S sd r a' w') → K a' w') → Oper.wp P ⟨dst, op, ty, pos, after, none⟩ a w K Q) :
    wpT P ops Q S sd ((i, false, some ⟨dst, op, ty, pos, after, some g⟩) :: r) a w := by
  unfold wpT
  rw [if_pos hg]
  exact h _ (fun _ _ h => h)

theorem S_heavy_off {dst : Option Tmp} {op : Op} {ty : TypeId} {pos : String} {after : Array Edge} {g : Nat × Bool}
    (hg : Region.wanted ⟨dst, op, ty, pos, after, some g⟩ (yielded ops a.tmps) = false)
    (hS : sd.contains i = false → S w) (h : ∀ K : Act → World → Prop, (∀ a', wpT P ops Q S sd r a' w → K a' w) → Oper.wp P ⟨dst, .move (.const undef), ty, "", #[], none⟩ a w K (fun _ _ _ => False)) :
    wpT P ops Q S sd ((i, false, some ⟨dst, op, ty, pos, after, some g⟩) :: r) a w := by
  unfold wpT
  rw [if_neg (by simp [hg])]
  refine ⟨hS, ?_⟩
  have := h (fun a' w' => wpT P ops Q S sd r a' w) (fun _ h => h)
  simpa [Oper.wp, execOp, Oper.upon, Act.eval] using this
end
end
end Go.XR

/- The walk over cmp.Or at two whole numbers. -/
namespace Go.XR
def or2 (x y : Int) : Int := if x = 0 then y else x
theorem or2_zero (y : Int) : or2 0 y = y := rfl
theorem or2_ne {x : Int} (y : Int) (h : x ≠ 0) : or2 x y = x := if_neg h
end Go.XR
namespace Go.Proofs.YtnfbchhbcinloaaGreat
open Go.RowKit Go.XR
theorem Tryz.mixed : Tryz.prog.follows .mixedOrders = true := by kernel_rfl
set_option maxHeartbeats 1000000 in
theorem or_any (w : World) (b n : Nat) (x y : Int) (cx : w.cell? ⟨b, 0, none⟩ = some (.int .i64 x)) (cy : w.cell? ⟨b, 1, none⟩ = some (.int .i64 y)) :
    Calls Tryz.prog 73 #[.slice (some ⟨b, 0, none⟩) 2 n] w fun e w' => e = .returned (.int .i64 (or2 x y)) ∧ w' = w := by
  by_cases hx : x = 0
  · subst hx
    rw [or2_zero]
    by_cases hy : y = 0
    · subst hy
      go_enter Tryz.func73, Tryz.ntmps73
      go_wp2
      go_loopg [8] 2 (fun n i wr => wr = w ∧ ∃ j : Nat, j ≤ 2 ∧ i = .int .i64 j ∧ n = 2 - j)
      case atStart => exact ⟨rfl, 0, by omega, rfl, rfl⟩
      case round =>
        obtain ⟨rfl, j, hj, rfl, hn⟩ := hrel
        rcases (show j = 0 ∨ j = 1 ∨ j = 2 by omega) with rfl | rfl | rfl
        · have Hn := Lib.hid hn; clear hn
          go_wp2
          go_roundg 1
          case measure => have := Hn.out; omega
          case rel => exact ⟨rfl, 1, by omega, by go_num, rfl⟩
        · have Hn := Lib.hid hn; clear hn
          go_wp2
          go_roundg 0
          case measure => have := Hn.out; omega
          case rel => exact ⟨rfl, 2, by omega, by go_num, rfl⟩
        · go_wp2
          go_ret
          exact ⟨rfl, rfl⟩
    · have hy2 : (y != 0) = true := by simpa using hy
      go_enter Tryz.func73, Tryz.ntmps73
      go_wp2
      go_loopg [8] 2 (fun n i wr => wr = w ∧ ∃ j : Nat, j ≤ 1 ∧ i = .int .i64 j ∧ n = 2 - j)
      case atStart => exact ⟨rfl, 0, by omega, rfl, rfl⟩
      case round =>
        obtain ⟨rfl, j, hj, rfl, hn⟩ := hrel
        rcases (show j = 0 ∨ j = 1 by omega) with rfl | rfl
        · have Hn := Lib.hid hn; clear hn
          go_wp2
          go_roundg 1
          case measure => have := Hn.out; omega
          case rel => exact ⟨rfl, 1, by omega, by go_num, rfl⟩
        · have Hn := Lib.hid hn; clear hn
          go_wp2
          go_ret
          exact ⟨rfl, rfl⟩
  · have hx2 : (x != 0) = true := by simpa using hx
    rw [or2_ne y hx]
    go_enter Tryz.func73, Tryz.ntmps73
    go_wp2
    go_loopg [8] 2 (fun n i wr => wr = w ∧ ∃ j : Nat, j ≤ 0 ∧ i = .int .i64 j ∧ n = 2 - j)
    case atStart => exact ⟨rfl, 0, by omega, rfl, rfl⟩
    case round =>
      obtain ⟨rfl, j, hj, rfl, hn⟩ := hrel
      obtain rfl : j = 0 := by omega
      have Hn := Lib.hid hn; clear hn
      go_wp2
      go_ret
      exact ⟨rfl, rfl⟩
end Go.Proofs.YtnfbchhbcinloaaGreat

/- The walks over New, Len, Get. -/
namespace Go.Proofs.YtnfbchhbcinloaaGreat
open Go.RowKit Go.XR Go.IndexPure
def RetInt (w : World) (z : Int) (e : Ending) (w' : World) : Prop := e = .returned (.int .i64 z) ∧ Below w.heap.size w w'
theorem bcell {W w1 : World} (hb : Below W.heap.size W w1) : ∀ b o, b < W.heap.size → w1.cell? ⟨b, o, none⟩ = W.cell? ⟨b, o, none⟩ :=
  fun b o h => hb.cell (p := ⟨b, o, none⟩) h
def place0 : PlaceT := ⟨0, 0⟩
/-- what Get answers -/
def RetGet (w : World) (D : List (KeyT × PlaceT)) (k : KeyT) (e : Ending) (w' : World) : Prop :=
  e = .returned (.tuple #[placeV ((aget D k).getD place0), .bool (aget D k).isSome]) ∧ Below w.heap.size w w'
theorem placeSize (p : PlaceT) : (Tryz.prog.info? 40).map (·.size) = some (placeC p).size := by rw [placeC_size]; kernel_rfl
set_option maxHeartbeats 1000000 in
set_option maxRecDepth 100000 in
theorem get_nil (w : World) (k : KeyT) : Calls Tryz.prog 43 #[.pointer none, keyV k] w (RetGet w [] k) := by
  go_enter Tryz.func43, Tryz.ntmps43
  go_wp2
  (try simp only [Exit.inBlock, Exit.then])
  refine bodyPost_ret (results_at rfl (g := w.heap.size + 1) rfl rfl (cs := placeC place0) (by have h := At.new (w.alloc (.cells (keyC k) 29)) (placeC place0) 40; rwa [show (w.alloc (.cells (keyC k) 29)).heap.size = w.heap.size + 1 by simp] at h) Tryz.underlying40 rfl (placeSize _)) rfl ?_
  exact ⟨rfl, ((Below.refl _ _).alloc (Nat.le_refl _) _).alloc (by simp) _⟩
theorem get_val (D : List (KeyT × PlaceT)) (k : KeyT) : ((aget D k).map placeV).getD (.agg #[.int .i64 0, .int .i64 0]) = placeV ((aget D k).getD place0) := by
  cases aget D k <;> rfl
set_option maxHeartbeats 1000000 in
set_option maxRecDepth 100000 in
theorem get_any (w : World) (p pb tb sb : Nat) (D : List (KeyT × PlaceT)) (hB : Blk w p [.map (some pb), .map (some tb), .map (some sb)]) (hG : GM keyV placeV w pb D) (k : KeyT) :
    Calls Tryz.prog 43 #[.pointer (some ⟨p, 0, none⟩), keyV k] w (RetGet w D k) := by
  obtain ⟨W2, hW2⟩ : ∃ W2, (w.alloc (.cells (keyC k) 29)).alloc (.cells #[.int .i64 0, .int .i64 0] 40) = W2 := ⟨_, rfl⟩
  have hb2 : Below w.heap.size w W2 := by rw [← hW2]; exact ((Below.refl _ _).alloc (Nat.le_refl _) _).alloc (by simp) _
  have HB2 := Lib.hid hb2
  have HM2 := Lib.hid (hB.below hb2)
  have HG2 := Lib.hid (hG.below hb2)
  have HK2 : Hid (At W2 w.heap.size 0 (keyC k)) := by unfold Hid; rw [← hW2]; exact (At.new _ _ _).alloc _
  have HR2 : Hid (Blk W2 (w.heap.size + 1) [.int .i64 0, .int .i64 0]) := by
    unfold Hid; rw [← hW2]
    have h := Blk.new (w.alloc (.cells (keyC k) 29)) #[.int .i64 0, .int .i64 0] 40
    rwa [show (w.alloc (.cells (keyC k) 29)).heap.size = w.heap.size + 1 by simp] at h
  clear hB hG hb2
  obtain ⟨v, hv⟩ : ∃ v, (aget D k).getD place0 = v := ⟨_, rfl⟩
  have Hv : Hid (((aget D k).map placeV).getD (.agg #[.int .i64 0, .int .i64 0]) = .agg #[.int .i64 v.shelf, .int .i64 v.slot]) := by unfold Hid; rw [get_val, hv]; rfl
  obtain ⟨is, his⟩ : ∃ b, (aget D k).isSome = b := ⟨_, rfl⟩
  have His := Lib.hid his
  unfold RetGet
  rw [hv, his]
  clear hv his
  obtain ⟨kb, hkb⟩ : ∃ kb, w.heap.size = kb := ⟨_, rfl⟩
  obtain ⟨rb, hrb⟩ : ∃ rb, kb + 1 = rb := ⟨_, rfl⟩
  have c0 := HM2.out.cell (i := 0) rfl
  have hpn : p < W2.heap.size := HM2.out.lt
  have hkn : kb < W2.heap.size := by rw [← hkb]; exact HK2.out.lt (by rw [keyC_size]; omega)
  rw [hkb] at HK2 HR2
  rw [hrb] at HR2
  go_enter Tryz.func43, Tryz.ntmps43
  go_wp2
  have hS0 : Below W2.heap.size W2 W2.drew := (Below.refl _ _).drew
  refine Go.XR.region_sched ((Below W2.heap.size W2)) [(0, true), (1, true), (2, true), (3, true), (4, true), (5, true), (6, true), (7, true), (8, true), (9, false), (10, false), (11, false)] [11] Tryz.mixed (by kernel_rfl) (by kernel_rfl) (by kernel_rfl) ?_
  simp only [List.map_cons, List.map_nil, List.getElem?_cons_succ, List.getElem?_cons_zero]
  repeat (first | (refine Go.XR.S_light rfl rfl (by assumption) ?_ (fun w' hS K hK => ?_) (fun K hK => ?_); rotate_left 1; (have hS1 := bcell hS; (first | (first | (refine Go.XR.wp_load_at 29 _ rfl kb 0 rfl (keyC k) (At.below HK2.out (by rw [keyC_size]; omega) hS) _ Tryz.underlying29 rfl (keySize k) ?_) | (refine Go.XR.wp_gm_lookup_ok _ _ 100 rfl keysKey Tryz.underlying100 (.agg #[.int .i64 0, .int .i64 0]) (Tryz.zeroValue40) k _ is rfl rfl (HG2.out.below hS) Hv.out His.out ?_)) | go_step); exact hK); go_step; refine hK _ ?_; clear hK K))
  refine Go.XR.S_heavy (fun K hK => ?_)
  go_step
  refine hK _ _ ⟨fun _ => hS0.alloc (Nat.le_refl _) _, ?_⟩
  clear hK K
  repeat (first | (refine Go.XR.S_light rfl rfl (by assumption) ?_ (fun w' hS K hK => ?_) (fun K hK => ?_); rotate_left 1; (have hS1 := bcell hS; (first | (first | (refine Go.XR.wp_load_at 29 _ rfl kb 0 rfl (keyC k) (At.below HK2.out (by rw [keyC_size]; omega) hS) _ Tryz.underlying29 rfl (keySize k) ?_) | (refine Go.XR.wp_gm_lookup_ok _ _ 100 rfl keysKey Tryz.underlying100 (.agg #[.int .i64 0, .int .i64 0]) (Tryz.zeroValue40) k _ is rfl rfl (HG2.out.below hS) Hv.out His.out ?_)) | go_step); exact hK); go_step; refine hK _ ?_; clear hK K))
  refine Go.XR.S_heavy (fun K hK => ?_)
  go_step
  obtain ⟨W3, hW3⟩ : ∃ W3, (W2.alloc (.cells #[.int .i64 v.shelf, .int .i64 v.slot] 40)).drew = W3 := ⟨_, rfl⟩
  have hS3 : Below W2.heap.size W2 W3 := by rw [← hW3]; exact ((Below.refl _ _).alloc (Nat.le_refl _) _).drew
  have HR3 := Lib.hid (HR2.out.below hS3)
  have HB3 := Lib.hid (HB2.out.trans (hS3.mono HB2.out.size))
  have d0 : W3.cell? ⟨W2.heap.size, 0, none⟩ = some (.int .i64 v.shelf) := by rw [← hW3]; simp
  have d1 : W3.cell? ⟨W2.heap.size, 1, none⟩ = some (.int .i64 v.slot) := by rw [← hW3]; simp
  rw [hW3]
  clear hW3 hW2 hS0
  refine hK _ _ ⟨fun _ => hS3, ?_⟩
  clear hK K
  repeat (first | (refine Go.XR.S_light rfl rfl (by assumption) ?_ (fun w' hS K hK => ?_) (fun K hK => ?_); rotate_left 1; (have hS1 := bcell hS; (first | (first | (refine Go.XR.wp_load_at 29 _ rfl kb 0 rfl (keyC k) (At.below HK2.out (by rw [keyC_size]; omega) hS) _ Tryz.underlying29 rfl (keySize k) ?_) | (refine Go.XR.wp_gm_lookup_ok _ _ 100 rfl keysKey Tryz.underlying100 (.agg #[.int .i64 0, .int .i64 0]) (Tryz.zeroValue40) k _ is rfl rfl (HG2.out.below hS) Hv.out His.out ?_)) | go_step); exact hK); go_step; refine hK _ ?_; clear hK K))
  repeat (first | (refine Go.XR.S_heavy (fun K hK => ?_); go_step; refine hK _ _ ⟨fun h => by simp at h, ?_⟩; clear hK K))
  refine Go.XR.S_nil ?_
  have r0 := HR3.out.cell (i := 0) rfl
  have r1 := HR3.out.cell (i := 1) rfl
  have f0 := HR3.out.free 0
  have f1 := HR3.out.free 1
  go_wp2
  (try simp only [Exit.inBlock, Exit.then])
  refine bodyPost_ret (results_at rfl (g := rb) rfl rfl (((HR3.out.set 0 (.int .i64 v.shelf)).set 1 (.int .i64 v.slot)).toAt) Tryz.underlying40 rfl (placeSize v)) rfl ?_
  exact ⟨rfl, HB3.out.trans ((((But.refl [rb] W3).setCell (.inl (by simp)) _).setCell (.inl (by simp)) _).below HB3.out.size (by simp; omega))⟩
set_option maxHeartbeats 1000000 in
set_option maxRecDepth 100000 in
theorem len_nil (w : World) : Calls Tryz.prog 53 #[.pointer none] w (RetInt w 0) := by
  go_enter Tryz.func53, Tryz.ntmps53
  go_wp2
  go_ret
  exact ⟨rfl, Below.refl _ _⟩
set_option maxHeartbeats 1000000 in
set_option maxRecDepth 100000 in
theorem len_any (w : World) (p pb tb sb : Nat) (D : List (KeyT × PlaceT)) (hB : Blk w p [.map (some pb), .map (some tb), .map (some sb)]) (hG : GM keyV placeV w pb D) :
    Calls Tryz.prog 53 #[.pointer (some ⟨p, 0, none⟩)] w (RetInt w D.length) := by
  have c0 := hB.cell (i := 0) rfl
  obtain ⟨es, clock, h3, h4, h5⟩ := hG
  have hsz : es.size = D.length := by have := congrArg List.length h5; simpa using this
  have hln : (Builtin.len_ #[100] 3 #[.map (some pb)]).run Tryz.prog w = .ok (.int .i64 es.size) w := by
    simp [Builtin.len_, run_underlying Tryz.underlying100, MapKept.run_getObj_map h3, goInt, Result.andThen]
  clear hB h4 h5
  go_enter Tryz.func53, Tryz.ntmps53
  go_wp2
  go_ret
  exact ⟨rfl, Below.refl _ _⟩
theorem push4 (a : Array Obj) (x y z u : Obj) : ((((a.push x).push y).push z).push u)[a.size]? = some x ∧ ((((a.push x).push y).push z).push u)[a.size + 1]? = some y ∧ ((((a.push x).push y).push z).push u)[a.size + 1 + 1]? = some z ∧ ((((a.push x).push y).push z).push u)[a.size + 1 + 1 + 1]? = some u := by
  refine ⟨?_, ?_, ?_, ?_⟩
  · rw [Array.getElem?_push, if_neg (by simp only [Array.size_push]; omega), Array.getElem?_push, if_neg (by simp only [Array.size_push]; omega), Array.getElem?_push, if_neg (by simp only [Array.size_push]; omega), Array.getElem?_push, if_pos rfl]
  · rw [Array.getElem?_push, if_neg (by simp only [Array.size_push]; omega), Array.getElem?_push, if_neg (by simp only [Array.size_push]; omega), Array.getElem?_push, if_pos (by simp only [Array.size_push])]
  · rw [Array.getElem?_push, if_neg (by simp only [Array.size_push]; omega), Array.getElem?_push, if_pos (by simp only [Array.size_push])]
  · rw [Array.getElem?_push, if_pos (by simp only [Array.size_push])]
/-- what New makes -/
def RetNew (w : World) (e : Ending) (w' : World) : Prop :=
  ∃ p pb tb sb, e = .returned (.pointer (some ⟨p, 0, none⟩)) ∧ Blk w' p [.map (some pb), .map (some tb), .map (some sb)] ∧ w'.heap[pb]? = some (.map #[] 0) ∧ w'.heap[tb]? = some (.map #[] 0) ∧ w'.heap[sb]? = some (.map #[] 0) ∧
    w.heap.size ≤ pb ∧ pb < tb ∧ tb < sb ∧ sb < p ∧ p < w'.heap.size ∧ Below w.heap.size w w'
set_option maxHeartbeats 1000000 in
set_option maxRecDepth 100000 in
theorem new_any (w : World) : Calls Tryz.prog 29 #[] w (RetNew w) := by
  have hmm := @run_makeMap Tryz.prog
  go_enter Tryz.func29, Tryz.ntmps29
  go_wp2
  go_ret
  refine ⟨_, _, _, _, rfl, ?_, ?_, ?_, ?_, Nat.le_refl _, Nat.lt_succ_self _, Nat.lt_succ_self _, Nat.lt_succ_self _, ?_, ?_⟩
  · exact ⟨_, (push4 w.heap _ _ _ _).2.2.2⟩
  · exact (push4 w.heap _ _ _ _).1
  · exact (push4 w.heap _ _ _ _).2.1
  · exact (push4 w.heap _ _ _ _).2.2.1
  · simp
  · exact (((((Below.refl w.heap.size w).alloc (Nat.le_refl _) _).alloc (by simp) _).alloc (by simp; omega) _).alloc (by simp; omega) _)
end Go.Proofs.YtnfbchhbcinloaaGreat

/- 'clear' of a slice whose block is known whole. -/
namespace Go.XR
open Go Go.RowKit
theorem zeros_length (z : Array Value) (n : Nat) : (Builtin.zeroCells z n).toList.length = n * z.size := by rw [Array.length_toList, size_zeroCells]
theorem zeros_one {z : Array Value} (h : ∀ v ∈ z.toList, v.oneCell' = true) (n : Nat) : ∀ v ∈ (Builtin.zeroCells z n).toList, v.oneCell' = true := by
  intro v hv
  unfold Builtin.zeroCells at hv
  rw [Array.toList_map, List.mem_map] at hv
  obtain ⟨i, hi, rfl⟩ := hv
  rw [Array.toList_range, List.mem_range] at hi
  have hz : 0 < z.size := Nat.pos_of_ne_zero fun e => by rw [e] at hi; omega
  have hm : i % z.size < z.size := Nat.mod_lt _ hz
  rw [getElem!_pos z _ hm]
  exact h _ (by rw [Array.mem_toList_iff]; exact Array.getElem_mem hm)
section
variable {P : Program} {w : World}
theorem wp_clear {a : Act} {K : Act → World → Prop} {Q : Exit → Act → World → Prop} {dst : Option Tmp} {x : Operand} {t e ty : TypeId} {pos : String} {after : Array Edge} {guard : Option (Nat × Bool)}
    (g off n c : Nat) (hx : a.eval x = .slice (some ⟨g, off, none⟩) n c) (ht : P.underlying t = some (.slice e)) (z : Value) (hz : (zeroValue e).run P w = .ok z w) (h1 : ∀ v ∈ z.cells.toList, v.oneCell' = true)
    (cur : List Value) (hb : Blk w g cur) (hl : off + n * z.cells.size ≤ cur.length)
    (hK : ∀ zs : List Value, zs.length = n * z.cells.size → (∀ v ∈ zs, v.oneCell' = true) → ∀ w', Blk w' g (cur.take off ++ zs ++ cur.drop (off + n * z.cells.size)) → But [g] w w' → K (a.put dst (.tuple #[])) w') :
    Oper.wp P ⟨dst, .call { callee := .builtin .clear, args := #[x], argTypes := #[t] }, ty, pos, after, guard⟩ a w K Q := by
  by_cases h0 : n = 0
  · subst h0
    have hr : (Builtin.clear_ #[t] ty #[a.eval x]).run P w = .ok (.tuple #[]) w := by
      rw [hx]; simp [Builtin.clear_, run_underlying ht, Result.andThen]
    have := hK [] (by simp) (by simp) w (by simpa using hb) (But.refl _ _)
    unfold Oper.wp execOp
    simp only [resolve, invoke, builtin, Sem.run_bind, Sem.run_pure, Result.andThen_ok, List.map_toArray, List.map_cons, List.map_nil, hr]
    exact this
  · have hzl := zeros_length z.cells n
    obtain ⟨T, hg⟩ := hb
    have hs := run_storeCells_at (P := P) g off T (Builtin.zeroCells z.cells n).toList 0 cur.toArray w hg (by rw [hzl]; simpa using hl) (zeros_one h1 n)
    have hr : (Builtin.clear_ #[t] ty #[a.eval x]).run P w = .ok (.tuple #[]) (w.setRow g (cur.take off ++ (Builtin.zeroCells z.cells n).toList ++ cur.drop (off + n * z.cells.size)).toArray) := by
      rw [hx]
      rw [hzl] at hs
      unfold Builtin.clear_
      simp only [List.getElem?_toArray, List.getElem?_cons_zero, Sem.run_bind, run_underlying ht, Result.andThen_ok]
      cases n with
      | zero => exact absurd rfl h0
      | succ n =>
        simp only [hz, Result.andThen_ok, Sem.run_pure]
        simp only [Nat.add_zero] at hs
        rw [hs]
        rfl
    have hbk : Blk w g cur := ⟨T, hg⟩
    have := hK _ hzl (zeros_one h1 n) _ (hbk.setRow _) ((But.refl [g] w).setRow (.inl (by simp)) _)
    unfold Oper.wp execOp
    simp only [resolve, invoke, builtin, Sem.run_bind, Sem.run_pure, Result.andThen_ok, List.map_toArray, List.map_cons, List.map_nil, hr]
    exact this
theorem wpList_clear {ops : Array Oper} {rest : List Oper} {o : Oper} {a : Act} {Q : Exit → Act → World → Prop} (hgd : o.guard = none) (x : Operand) (t e : TypeId)
    (ho : o.op = .call { callee := .builtin .clear, args := #[x], argTypes := #[t] })
    (g off n c : Nat) (hx : a.eval x = .slice (some ⟨g, off, none⟩) n c) (ht : P.underlying t = some (.slice e)) (z : Value) (hz : (zeroValue e).run P w = .ok z w) (h1 : ∀ v ∈ z.cells.toList, v.oneCell' = true)
    (cur : List Value) (hb : Blk w g cur) (hl : off + n * z.cells.size ≤ cur.length)
    (hK : ∀ zs : List Value, zs.length = n * z.cells.size → (∀ v ∈ zs, v.oneCell' = true) → ∀ w', Blk w' g (cur.take off ++ zs ++ cur.drop (off + n * z.cells.size)) → But [g] w w' → wpList P ops Q rest (a.put o.dst (.tuple #[])) w') :
    wpList P ops Q (o :: rest) a w := by
  refine wpList_plain hgd fun _ hK' => ?_
  obtain ⟨dst, op, ty, pos, after, guard⟩ := o
  cases ho
  exact wp_clear g off n c hx ht z hz h1 cur hb hl fun zs a1 a2 w' a3 a4 => hK' _ _ (hK zs a1 a2 w' a3 a4)
end
end Go.XR

/- The walk over slices.Delete of one number. -/
namespace Go.Proofs.YtnfbchhbcinloaaGreat
open Go.RowKit Go.XR Go.IndexPure
theorem owns_shorter {w : World} {base : Nat} {e : TypeId} {size g n c : Nat} {xs : List Value} (h : w.ownsRow base e size (.slice (some ⟨g, 0, none⟩) n c) n xs) {m : Nat} (hm : m ≤ n) : w.ownsRow base e size (.slice (some ⟨g, 0, none⟩) m c) m (xs.take (m * size)) := by
  have h0 := h.1
  have hmn : m * size ≤ n * size := Nat.mul_le_mul_right _ hm
  refine ⟨by rw [List.length_take, h0]; omega, ?_⟩
  rcases h.2 with ⟨h1, _⟩ | ⟨g', cap, cur, h1, h2, h3, h4, h5, h6, h7⟩
  · cases h1
  · cases h1
    exact .inr ⟨g, c, cur, rfl, h2, h3, Nat.le_trans hm h4, h5, h6, by rw [← h7, List.take_take, Nat.min_eq_left hmn]⟩
theorem wp_append_fits {P : Program} {w : World} {A : Act} {K : Act → World → Prop} {Q : Exit → Act → World → Prop} {dst : Option Tmp} {s x : Operand} {t ty : TypeId} {pos : String} {after : Array Edge} {guard : Option (Nat × Bool)}
    (base : Nat) (e : TypeId) (i : TypeInfo) (size : Nat) (ht : P.underlying t = some (.slice e)) (hi : P.info? e = some i) (hsize : i.size = size) (g n cap : Nat) (xs : List Value) (hs : A.eval s = .slice (some ⟨g, 0, none⟩) n cap) (hown : w.ownsRow base e size (.slice (some ⟨g, 0, none⟩) n cap) n xs)
    (a : Addr) (m c : Nat) (hx : A.eval x = .slice (some a) m c) (news : List Value) (hl : news.length = m * size) (hnews : ∀ j u, news[j]? = some u → w.cell? (a.add j) = some u) (h1 : ∀ u ∈ news, u.oneCell' = true) (hroom : n + m ≤ cap)
    (h : ∀ w', w'.ownsRow base e size (.slice (some ⟨g, 0, none⟩) (n + m) cap) (n + m) (xs ++ news) → w.grownBy w' (some g) → K (A.put dst (.slice (some ⟨g, 0, none⟩) (n + m) cap)) w') :
    Oper.wp P ⟨dst, .call { callee := .builtin .append, args := #[s, x], argTypes := #[t, t] }, ty, pos, after, guard⟩ A w K Q := by
  obtain ⟨w', hr, ho, hg⟩ := run_append_fits (P := P) (w := w) base t ty e i size ht hi hsize g n cap xs hown a m c news hl hnews h1 hroom
  have := h w' ho hg
  unfold Oper.wp execOp
  simp only [resolve, invoke, builtin, Sem.run_bind, Sem.run_pure, Result.andThen_ok, List.map_toArray, List.map_cons, List.map_nil, hs, hx, hr]
  exact this
theorem wpList_clear_t {P : Program} {w : World} {ops : Array Oper} {rest : List Oper} {o : Oper} {a : Act} {Q : Exit → Act → World → Prop} (hgd : o.guard = none) (x : Operand) (t e : TypeId)
    (ho : o.op = .call { callee := .builtin .clear, args := #[x], argTypes := #[t] })
    (g off n c : Nat) (hx : a.eval x = .slice (some ⟨g, off, none⟩) n c) (ht : P.underlying t = some (.slice e)) (z : Value) (hz : (zeroValue e).run P w = .ok z w) (h1 : ∀ v ∈ z.cells.toList, v.oneCell' = true)
    (T : TypeId) (cur : Array Value) (hg : w.heap[g]? = some (.cells cur T (0, 0))) (hl : off + n * z.cells.size ≤ cur.size) (hn : n ≠ 0)
    (hK : wpList P ops Q rest (a.put o.dst (.tuple #[])) (w.setRow g (cur.toList.take off ++ (Builtin.zeroCells z.cells n).toList ++ cur.toList.drop (off + n * z.cells.size)).toArray)) :
    wpList P ops Q (o :: rest) a w := by
  refine wpList_plain hgd fun _ hK' => ?_
  have := hK' _ _ hK
  obtain ⟨dst, op, ty, pos, after, guard⟩ := o
  cases ho
  have hzl := zeros_length z.cells n
  have hs := run_storeCells_at (P := P) g off T (Builtin.zeroCells z.cells n).toList 0 cur w hg (by rw [hzl]; simpa using hl) (zeros_one h1 n)
  have hr : (Builtin.clear_ #[t] ty #[a.eval x]).run P w = .ok (.tuple #[]) (w.setRow g (cur.toList.take off ++ (Builtin.zeroCells z.cells n).toList ++ cur.toList.drop (off + n * z.cells.size)).toArray) := by
    rw [hx]
    rw [hzl] at hs
    unfold Builtin.clear_
    simp only [List.getElem?_toArray, List.getElem?_cons_zero, Sem.run_bind, run_underlying ht, Result.andThen_ok]
    cases n with
    | zero => exact absurd rfl hn
    | succ n =>
      simp only [hz, Result.andThen_ok, Sem.run_pure]
      simp only [Nat.add_zero] at hs
      rw [hs]
      rfl
  unfold Oper.wp execOp
  simp only [resolve, invoke, builtin, Sem.run_bind, Sem.run_pure, Result.andThen_ok, List.map_toArray, List.map_cons, List.map_nil, hr]
  exact this
theorem z32_one : ∀ v ∈ (Value.int .u32 0).cells.toList, v.oneCell' = true := by
  intro v hv
  simp [Value.cells] at hv
  subst hv; rfl
theorem nL_one (n : UInt32) : ∀ v ∈ nL n, v.oneCell' = true := by
  intro v hv
  unfold nL at hv
  rw [List.mem_singleton] at hv
  subst hv; rfl
def RetDel (w : World) (B g c : Nat) (l : List UInt32) (e : Ending) (w' : World) : Prop :=
  e = .returned (.slice (some ⟨g, 0, none⟩) l.length c) ∧ w'.ownsRow B 27 1 (.slice (some ⟨g, 0, none⟩) l.length c) l.length (l.flatMap nL) ∧ But [g] w w'
set_option maxHeartbeats 1000000 in
set_option maxRecDepth 100000 in
theorem delete_any (w : World) (B g c : Nat) (l : List UInt32) (hown : w.ownsRow B 27 1 (.slice (some ⟨g, 0, none⟩) l.length c) l.length (l.flatMap nL)) (_hl : l.length < 2^40) (_hcm : c ≤ 9223372036854775807) (i : Nat) (hi : i < l.length) :
    Calls Tryz.prog 67 #[.slice (some ⟨g, 0, none⟩) l.length c, .int .i64 i, .int .i64 ((i : Int) + 1)] w (RetDel w B g c (l.take i ++ l.drop (i + 1))) := by
  have hlc := owns_le hown
  have Hown := Lib.hid hown
  have hrow := Row.owned hown
  have Hrow := Lib.hid hrow
  clear hown hrow
  have hne : ¬ (i : Int) = (i : Int) + 1 := by omega
  obtain ⟨L, hL⟩ : ∃ L, l.take i ++ l.drop (i + 1) = L := ⟨_, rfl⟩
  have HLl : Hid (L.length = i + (l.length - (i + 1))) := by unfold Hid; rw [← hL, List.length_append, List.length_take, List.length_drop]; omega
  have HLf : Hid ((l.take i).flatMap nL ++ (l.drop (i + 1)).flatMap nL = L.flatMap nL) := by unfold Hid; rw [← hL, List.flatMap_append]
  rw [hL]
  clear hL
  go_enter Tryz.func67, Tryz.ntmps67
  go_wp2
  have Hd1 : Hid (((l.drop (i + 1)).flatMap nL).length = (l.length - (i + 1)) * 1) := by unfold Hid; rw [flat_len (enc := nL) (k := 1) (fun _ => rfl), List.length_drop]
  obtain ⟨ad, had, hd2⟩ : ∃ ad : Addr, (if c = i + 1 then some (⟨g, 0, none⟩ : Addr) else some ⟨g, i + 1, none⟩) = some ad ∧ ∀ j u, ((l.drop (i + 1)).flatMap nL)[j]? = some u → w.drew.cell? (ad.add j) = some u := by
    by_cases hce : c = i + 1
    · refine ⟨⟨g, 0, none⟩, by rw [if_pos hce], fun j u hj => ?_⟩
      rw [List.drop_eq_nil_of_le (by omega)] at hj
      simp at hj
    · refine ⟨⟨g, i + 1, none⟩, by rw [if_neg hce], fun j u hj => ?_⟩
      have h1 := flat_drop (enc := nL) (k := 1) (fun _ => rfl) l (i := i + 1) (by omega)
      rw [Nat.mul_one] at h1
      rw [← h1, List.getElem?_drop] at hj
      obtain ⟨_, _, he, h3⟩ := Hrow.out.get hj
      cases he
      have hadd : (⟨g, i + 1, none⟩ : Addr).add j = ⟨g, i + 1 + j, none⟩ := by unfold Addr.add; split <;> simp_all
      rw [hadd]
      rw [show 0 + (i + 1 + j) = i + 1 + j by omega] at h3
      exact h3
  have Had := Lib.hid had
  have Hd2 := Lib.hid hd2
  clear had hd2
  have Hsh : Hid (w.drew.ownsRow B 27 1 (.slice (some ⟨g, 0, none⟩) i c) i ((l.take i).flatMap nL)) := by
    have h1 := owns_shorter Hown.out (m := i) (by omega)
    rw [flat_take (enc := nL) (k := 1) (fun _ => rfl) l (by omega)] at h1
    exact h1.drew
  obtain ⟨i0, z0, hi0, hz0, hs0, hb0, hzs0⟩ := info_z (P := Tryz.prog) (t := 27) (n := 1) (b := 4) (by kernel_rfl)
  have Hi0 := Lib.hid hi0
  have Hs0 := Lib.hid hs0
  clear hi0 hz0 hs0 hb0 hzs0
  refine Go.XR.region_sched ((· = w.drew)) [(0, true), (1, true), (2, true), (3, true), (4, true), (5, true), (6, false), (7, false)] [6, 7] Tryz.mixed (by kernel_rfl) (by kernel_rfl) (by kernel_rfl) ?_
  simp only [List.map_cons, List.map_nil, List.getElem?_cons_succ, List.getElem?_cons_zero]
  repeat (first | (refine Go.XR.S_light rfl rfl rfl ?_ (fun w' hS K hK => ?_) (fun K hK => ?_); rotate_left 1; (cases hS; go_step; exact hK); go_step; refine hK _ ?_; clear hK K))
  refine Go.XR.S_heavy (fun K hK => ?_)
  refine wp_append_fits B 27 i0 1 Tryz.underlying109 Hi0.out Hs0.out g i c ((l.take i).flatMap nL) rfl Hsh.out ad (l.length - (i + 1)) (c - (i + 1)) (congrArg (fun x => Value.slice x (l.length - (i + 1)) (c - (i + 1))) Had.out) ((l.drop (i + 1)).flatMap nL) Hd1.out Hd2.out (fun u hu => ?_) (by omega) ?_
  · obtain ⟨b, _, hb⟩ := List.mem_flatMap.1 hu
    exact nL_one b u hb
  intro w2 ho2 hg2
  rw [← HLl.out, HLf.out] at ho2
  rw [← HLl.out]
  refine hK _ _ ⟨fun h => by simp at h, ?_⟩
  clear hK K
  repeat (first | (refine Go.XR.S_heavy (fun K hK => ?_); go_step; refine hK _ _ ⟨fun h => by simp at h, ?_⟩; clear hK K))
  refine Go.XR.S_nil ?_
  have hLl := HLl.out
  have hLlt : L.length < l.length := by omega
  have hcne : ¬ c = L.length := by omega
  clear HLl hLl
  have Hb2 : Hid (But [g] w w2) := (But.refl [g] w).drew.trans (But.of_grown hg2)
  obtain ⟨cur, hcur, hcs, htk⟩ : ∃ cur : Array Value, w2.heap[g]? = some (.cells cur 27 (0, 0)) ∧ cur.size = c ∧ cur.toList.take L.length = L.flatMap nL := by
    rcases ho2.2 with ⟨h1, _⟩ | ⟨g', cap, cur, h1, h2, h3, h4, h5, h6, h7⟩
    · cases h1
    · cases h1
      exact ⟨cur, h3, by rw [h6, Nat.mul_one], by rw [Nat.mul_one] at h7; exact h7⟩
  have HC2 : Hid (w2.heap[g]? = some (.cells cur 27 (0, 0))) := hcur
  have Hcs := Lib.hid hcs
  have Htk := Lib.hid htk
  have Hlen := Lib.hid ho2.1
  obtain ⟨hB, hcm2⟩ : B ≤ g ∧ c ≤ maxLen := by
    rcases ho2.2 with ⟨h1, _⟩ | ⟨g', cap, cur, h1, h2, h3, h4, h5, h6, h7⟩
    · cases h1
    · cases h1; exact ⟨h2, h5⟩
  have Hend : Hid (∀ zs : List Value, zs.length = l.length - L.length → RetDel w B g c L (.returned (.slice (some ⟨g, 0, none⟩) L.length c)) (w2.setRow g (cur.toList.take L.length ++ (zs ++ cur.toList.drop (L.length + (l.length - L.length)))).toArray)) := fun zs hz => by
    refine ⟨rfl, ⟨Hlen.out, .inr ⟨g, c, _, rfl, hB, setRow_heap w2 g _ _ _ _ HC2.out, by omega, hcm2, ?_, ?_⟩⟩, Hb2.out.trans ((But.refl [g] w2).setRow (.inl (by simp)) _)⟩
    · have := Hcs.out
      simp [hz]; omega
    · have e : (cur.toList.take L.length).length = L.length := by
        have e1 : cur.toList.length = cur.size := Array.length_toList
        have e2 := Hcs.out
        rw [List.length_take]; omega
      rw [Nat.mul_one]
      show (cur.toList.take L.length ++ (zs ++ cur.toList.drop (L.length + (l.length - L.length)))).take L.length = _
      rw [List.take_left' e, Htk.out]
  have Hc0 : Hid (l.length - L.length ≠ 0) := by unfold Hid; omega
  clear hcur hcs htk ho2 hg2 hB hcm2
  go_wp2_with (refine wpList_clear_t rfl _ 109 27 rfl g L.length (l.length - L.length) _ rfl Tryz.underlying109 (.int .u32 0) (Tryz.zeroValue27 _) z32_one 27 cur HC2.out (by have := Hcs.out; show L.length + (l.length - L.length) * 1 ≤ cur.size; omega) Hc0.out ?_)
  all_goals go_ret
  · have h1 := Hend.out (Builtin.zeroCells #[Value.int .u32 0] (l.length - L.length)).toList (by rw [zeros_length]; show (l.length - L.length) * 1 = _; omega)
    rw [h] at h1
    exact h1
  · exact Hend.out (Builtin.zeroCells #[Value.int .u32 0] (l.length - L.length)).toList (by rw [zeros_length]; show (l.length - L.length) * 1 = _; omega)
end Go.Proofs.YtnfbchhbcinloaaGreat

/- A key built of a fingerprint and a number. -/
namespace Go.Proofs.YtnfbchhbcinloaaGreat
open Go.RowKit Go.XR
theorem run_build_key (d : Vector UInt8 32) (n : UInt32) (w : World) : (Instr.build 29 #[(0, sumV d), (1, .int .u32 (n.toNat : Int))]).run Tryz.prog w = .ok (keyV ⟨d, n⟩) w := by
  obtain ⟨zs, hzs, hz⟩ : ∃ zs : Array Value, zs.size = 33 ∧ ∀ w, (zeroValue 29).run Tryz.prog w = .ok (.agg zs) w := ⟨_, rfl, fun w => Tryz.zeroValue29 w⟩
  obtain ⟨f1, f2, ht, o1, o2, t1, t2⟩ : ∃ f1 f2, Tryz.prog.underlying 29 = some (.struct #[f1, f2]) ∧ f1.offset = 0 ∧ f2.offset = 32 ∧ f1.type = 26 ∧ f2.type = 27 :=
    ⟨_, _, Tryz.underlying29, rfl, rfl, rfl, rfl⟩
  have hs1 : (sizeOf f1.type).run Tryz.prog w = .ok 32 w := by rw [t1]; exact run_sizeOf_eq (by kernel_rfl)
  have hs2 : (sizeOf f2.type).run Tryz.prog w = .ok 1 w := by rw [t2]; exact run_sizeOf_eq (by kernel_rfl)
  have hm : ((#[f1, f2] : Array Field).mapM fun (f : Field) => do pure (f.offset, ← sizeOf f.type) : Sem (Array (Nat × Nat))).run Tryz.prog w = .ok #[(0, 32), (32, 1)] w := by
    rw [Array.mapM_eq_mapM_toList]
    simp [Sem.run_bind, hs1, hs2, o1, o2, Result.andThen]
  have hfill : Instr.fill ((#[(0, 32), (32, 1)] : Array (Nat × Nat))[·]?) zs [(0, sumV d), (1, .int .u32 (n.toNat : Int))] = some (keyC ⟨d, n⟩) := by
    rw [fill_step (i := 0) (off := 0) (size := 32) (v := sumV d) ((#[(0, 32), (32, 1)] : Array (Nat × Nat))[·]?) zs _ rfl (sumC_size d) (by omega)]
    rw [fill_step (i := 1) (off := 32) (size := 1) (v := .int .u32 (n.toNat : Int)) ((#[(0, 32), (32, 1)] : Array (Nat × Nat))[·]?) _ [] rfl rfl (by simp [Value.cells, sumC_size, hzs])]
    unfold Instr.fill
    refine congrArg some ?_
    apply Array.ext'
    have e1 : (sumC d).toList = sumL d := rfl
    simp [Value.cells, keyC, keyL, e1, sumL_length, hzs]
  unfold Instr.build
  simp only [Sem.run_bind, hz, Result.andThen_ok, run_underlying ht, hm]
  have hz2 : (Value.agg zs).cells = zs := rfl
  rw [hz2]
  simp only [hfill, Sem.run_pure]
theorem wpList_build_key {w : World} {ops : Array Oper} {rest : List Oper} {o : Oper} {a : Act} {Q : Exit → Act → World → Prop} (hgd : o.guard = none) (x y : Operand) (ho : o.op = .build 29 #[(0, x), (1, y)]) (d : Vector UInt8 32) (n : UInt32)
    (hx : a.eval x = sumV d) (hy : a.eval y = .int .u32 (n.toNat : Int)) (hK : wpList Tryz.prog ops Q rest (a.put o.dst (keyV ⟨d, n⟩)) w) : wpList Tryz.prog ops Q (o :: rest) a w := by
  refine wpList_plain hgd fun _ hK' => ?_
  have h := hK' _ _ hK
  have hr := run_build_key d n w
  unfold Oper.wp execOp
  simp only [ho, List.map_toArray, List.map_cons, List.map_nil, hx, hy, Sem.run_bind, hr, Result.andThen_ok, Sem.run_pure]
  exact h
end Go.Proofs.YtnfbchhbcinloaaGreat

/- The walk over Twins. -/
namespace Go.IndexPure
open Go.XR
abbrev SumT := Vector UInt8 32
/-- the numbers of a fingerprint, where they lie -/
structure NumRow where
  a : Option Addr
  c : Nat
  l : List UInt32
def numV (r : NumRow) : Value := .slice r.a r.l.length r.c
def numsOf (T : List (SumT × NumRow)) (d : SumT) : List UInt32 := match aget T d with | some r => r.l | none => []
end Go.IndexPure
namespace Go.Proofs.YtnfbchhbcinloaaGreat
open Go.RowKit Go.XR Go.IndexPure
theorem zero_key : ∃ zs : Array Value, zs.size = 33 ∧ ∀ w, (zeroValue 29).run Tryz.prog w = .ok (.agg zs) w := ⟨_, rfl, fun w => Tryz.zeroValue29 w⟩
theorem owns_base {w : World} {B B' : Nat} {e : TypeId} {size : Nat} {v : Value} {n : Nat} {xs : List Value} (h : w.ownsRow B' e size v n xs) (hb : B ≤ B') : w.ownsRow B e size v n xs := by
  refine ⟨h.1, ?_⟩
  rcases h.2 with h2 | ⟨g, cap, cur, h1, h2, h3⟩
  · exact .inl h2
  · exact .inr ⟨g, cap, cur, h1, Nat.le_trans hb h2, h3⟩
def RetTwins (w : World) (l : List KeyT) (e : Ending) (w' : World) : Prop :=
  ∃ a c, e = .returned (.slice a l.length c) ∧ w'.ownsRow w.heap.size 29 33 (.slice a l.length c) l.length (l.flatMap keyL) ∧ Below w.heap.size w w'
set_option maxHeartbeats 1000000 in
set_option maxRecDepth 100000 in
theorem twins_nil (w : World) (d : SumT) : Calls Tryz.prog 54 #[.pointer none, sumV d] w (RetTwins w []) := by
  go_enter Tryz.func54, Tryz.ntmps54
  go_wp2
  go_ret
  exact ⟨none, 0, rfl, ⟨rfl, .inl ⟨rfl, rfl⟩⟩, (Below.refl _ _).alloc (Nat.le_refl _) _⟩
set_option maxHeartbeats 1000000 in
set_option maxRecDepth 100000 in
theorem twins_any (w : World) (p pb tb sb : Nat) (T : List (SumT × NumRow)) (hB : Blk w p [.map (some pb), .map (some tb), .map (some sb)]) (hG : GM sumV numV w tb T) (hR : ∀ d r, aget T d = some r → Row w r.a (r.l.flatMap nL) ∧ r.l.length ≤ 2^20) (d : SumT) :
    Calls Tryz.prog 54 #[.pointer (some ⟨p, 0, none⟩), sumV d] w (RetTwins w ((numsOf T d).map fun n => ⟨d, n⟩)) := by
  obtain ⟨zs, hzs, hz⟩ := zero_key
  have Hz := Lib.hid hz
  clear hz
  obtain ⟨W0, hW0⟩ : ∃ W0, w.alloc (.cells (sumC d) 26) = W0 := ⟨_, rfl⟩
  have hb0 : Below w.heap.size w W0 := by rw [← hW0]; exact (Below.refl _ _).alloc (Nat.le_refl _) _
  have HB0 := Lib.hid hb0
  have HM0 := Lib.hid (hB.below hb0)
  have HG0 := Lib.hid (hG.below hb0)
  have HK0 : Hid (At W0 w.heap.size 0 (sumC d)) := by unfold Hid; rw [← hW0]; exact At.new _ _ _
  obtain ⟨xa, xc, l, hv, hl, hrow, hlen⟩ : ∃ xa xc l, ((aget T d).map numV).getD (.slice none 0 0) = .slice xa l.length xc ∧ numsOf T d = l ∧ Row W0 xa (l.flatMap nL) ∧ l.length ≤ 2^20 := by
    cases h : aget T d with
    | some r => exact ⟨r.a, r.c, r.l, rfl, by unfold numsOf; rw [h], (hR d r h).1.below hb0, (hR d r h).2⟩
    | none => exact ⟨none, 0, [], rfl, by unfold numsOf; rw [h], .inl rfl, by decide⟩
  have Hv := Lib.hid hv
  have Hrow := Lib.hid hrow
  rw [hl]
  clear hB hG hR hb0 hv hrow hl
  have c1 := HM0.out.cell (i := 1) rfl
  obtain ⟨db, hdb⟩ : ∃ db, w.heap.size = db := ⟨_, rfl⟩
  have Hdb := Lib.hid hdb
  rw [hdb] at HK0
  go_enter Tryz.func54, Tryz.ntmps54
  go_wp2
  refine Go.XR.region_sched ((· = W0.drew)) [(0, true), (1, true), (2, true), (3, true), (4, true), (7, true), (5, false), (6, true)] [] Tryz.mixed (by kernel_rfl) (by kernel_rfl) (by kernel_rfl) ?_
  simp only [List.map_cons, List.map_nil, List.getElem?_cons_succ, List.getElem?_cons_zero]
  repeat (first | (refine Go.XR.S_light rfl rfl rfl ?_ (fun w' hS K hK => ?_) (fun K hK => ?_); rotate_left 1; (cases hS; (first | (refine Go.XR.wp_load_at 26 _ rfl db 0 rfl (sumC d) (At.drew HK0.out) _ Tryz.underlying26 rfl (sumSize d) ?_) | go_step); exact hK); go_step; refine hK _ ?_; clear hK K))
  refine Go.XR.S_heavy (fun K hK => ?_)
  refine Go.XR.wp_gm_lookup _ _ 101 rfl keysSum Tryz.underlying101 (.slice none 0 0) (fun w => Tryz.zeroValue109 w) d _ rfl rfl (GM.block (w' := W0.drew) HG0.out rfl) Hv.out ?_
  refine hK _ _ ⟨fun _ => rfl, ?_⟩
  clear hK K
  repeat (first | (refine Go.XR.S_light rfl rfl rfl ?_ (fun w' hS K hK => ?_) (fun K hK => ?_); rotate_left 1; (cases hS; (first | (refine Go.XR.wp_load_at 26 _ rfl db 0 rfl (sumC d) (At.drew HK0.out) _ Tryz.underlying26 rfl (sumSize d) ?_) | go_step); exact hK); go_step; refine hK _ ?_; clear hK K))
  refine Go.XR.S_nil ?_
  go_wp2
  have hzd : db ≤ W0.heap.size := by have := HB0.out.size; omega
  go_loopg [17, 5] l.length (fun n i out w1 => Below W0.heap.size W0 w1 ∧ ∃ (j : Nat) (o : List KeyT) (a : Option Addr) (c : Nat), j ≤ l.length ∧ i = .int .i64 j ∧ out = .slice a o.length c ∧ Hid (n = l.length - j ∧ o = (l.take j).map (fun n => ⟨d, n⟩) ∧ w1.ownsRow W0.heap.size 29 33 (.slice a o.length c) o.length (o.flatMap keyL)))
  case atStart => exact ⟨(Below.refl _ _).drew, 0, [], none, 0, by omega, rfl, rfl, rfl, rfl, rfl, .inl ⟨rfl, rfl⟩⟩
  case round =>
    obtain ⟨hb, j, o, a, c, hj, rfl, rfl, hr⟩ := hrel
    have Hb := Lib.hid hb
    clear hb
    have Ho := Lib.hid hr.out.2.1
    have Hown := Lib.hid hr.out.2.2
    have hgn := hr.out.1
    clear hr
    by_cases hlt : j < l.length
    · have hlt2 : (j : Int) < (l.length : Int) := by omega
      obtain ⟨g, oo, rfl, c0⟩ := row_num (Hrow.out.below Hb.out) hlt
      have hol : o.length ≤ 2^20 := by rw [Ho.out, List.length_map, List.length_take]; omega
      have Hsn : Hid (o ++ [⟨d, l[j]⟩] = (l.take (j + 1)).map (fun n => ⟨d, n⟩)) := by
        unfold Hid
        rw [List.take_succ_eq_append_getElem hlt, List.map_append, ← Ho.out]; rfl
      have HK := Lib.hid (At.below HK0.out (by rw [sumC_size]; omega) Hb.out)
      have hzb := Hb.out.size
      generalize l[j] = nj at *
      go_wp2_with (first | (refine wpList_load_at rfl 26 _ rfl db 0 rfl (sumC d) HK.out _ Tryz.underlying26 rfl (sumSize d) ?_) | (refine wpList_build_key rfl _ _ rfl d nj rfl rfl ?_) | (refine wpList_build_one rfl 66 _ rfl 29 33 Tryz.underlying66 (by kernel_rfl) (by omega) (by omega) _ (Hz.out _) (keyC ⟨d, nj⟩) rfl (keyC_size _) ?_) | (at_builtin; refine Go.XR.stop (fun X hX => ?_)))
      refine hX.out ?_
      clear hX X
      refine wpList_plain rfl (fun K hK => ?_)
      refine append_enc (P := Tryz.prog) keyL 33 36 keyL_length one_keyL 29 Tryz.underlying66 (by kernel_rfl) (by decide) W0.heap.size a c o rfl (Hown.out.alloc _) (some ⟨wr.heap.size, 0, none⟩) 1 [⟨d, nj⟩] rfl (by rw [List.flatMap_cons, List.flatMap_nil, List.append_nil]; exact Row.new _ _ _) (fun e => by cases e) (by simp; omega) (by unfold maxLen; simp; omega) (by simp; omega) ?_
      intro a3 c3 w3 ho3 hb3 _ hg3
      have Ho3 := Lib.hid ho3
      have Hb3 := Lib.hid ((Hb.out.alloc Hb.out.size _).trans hb3)
      clear ho3 hb3 hg3
      obtain ⟨o3, hoo⟩ : ∃ o3, o ++ [(⟨d, nj⟩ : KeyT)] = o3 := ⟨_, rfl⟩
      rw [hoo] at Hsn Ho3 ⊢
      clear hoo
      go_wp2
      go_roundg (l.length - (j + 1))
      case measure => omega
      case rel => exact ⟨Hb3.out, j + 1, o3, a3, c3, by omega, by go_num, rfl, rfl, Hsn.out, Ho3.out⟩
    · have hge : ¬ (j : Int) < (l.length : Int) := by omega
      have Hoe : Hid (o = l.map (fun n => ⟨d, n⟩)) := by unfold Hid; rw [Ho.out, List.take_of_length_le (by omega)]
      go_wp2
      go_ret
      unfold RetTwins
      rw [← Hoe.out]
      exact ⟨a, c, rfl, owns_base Hown.out HB0.out.size, HB0.out.trans (Hb.out.mono HB0.out.size)⟩
end Go.Proofs.YtnfbchhbcinloaaGreat

/- append onto a row of the call's own: the block is the old one or a new one. -/
namespace Go.XR
open Go Go.RowKit
/-- where the row lies behind an append -/
def SameOrNew (w w' : World) (so a' : Option Addr) : Prop := a' = so ∨ ∃ g, a' = some ⟨g, 0, none⟩ ∧ w.heap.size ≤ g ∧ g < w'.heap.size
section
variable {P : Program}
theorem run_append_where (w : World) (base : Nat) (t ty e : TypeId) (i : TypeInfo) (z : Value) (size bytes : Nat) (ht : P.underlying t = some (.slice e)) (hi : P.info? e = some i) (hz : i.zero = some z)
    (hsize : i.size = size) (hby : i.bytes = bytes) (hzs : z.cells.size = size) (hsz : 0 < size)
    (so : Option Addr) (n sc : Nat) (xs : List Value) (hown : w.ownsRow base e size (.slice so n sc) n xs)
    (ad : Addr) (m c : Nat) (news : List Value) (hl : news.length = m * size) (hnews : ∀ j u, news[j]? = some u → w.cell? (ad.add j) = some u) (h1 : ∀ u ∈ news, u.oneCell' = true)
    (h63 : n + m ≤ maxLen) (hbytes : (n + m) * bytes ≤ 140737488355328) (hbase : base ≤ w.heap.size) :
    ∃ a' c' w', (Builtin.append_ #[t, t] ty #[.slice so n sc, .slice (some ad) m c]).run P w = .ok (.slice a' (n + m) c') w' ∧ w'.ownsRow base e size (.slice a' (n + m) c') (n + m) (xs ++ news) ∧ w.grownBy w' (Value.ownBlock (.slice so n sc)) ∧
      SameOrNew w w' so a' := by
  obtain ⟨v', w', hr, ho, hg, _⟩ := run_append_own (P := P) w base t ty e i z size bytes ht hi hz hsize hby hzs hsz (.slice so n sc) n xs hown ad m c news hl hnews h1 h63 hbytes hbase
  obtain ⟨a', c', rfl⟩ := ownsRow_shape ho
  refine ⟨a', c', w', hr, ho, hg, ?_⟩
  have hsmall : n + m ≤ 9223372036854775807 := by simp only [maxLen] at h63; omega
  rcases hown.2 with ⟨h2, h3⟩ | ⟨g, cap, cur, h2, hbg, hgb, hnc, hcm, hcs, htake⟩
  · cases h2
    by_cases hm : m = 0
    · left
      subst hm
      have hn : news = [] := List.eq_nil_of_length_eq_zero (by simpa using hl)
      have hr2 : (Builtin.append_ #[t, t] ty #[.slice none 0 0, .slice (some ad) 0 c]).run P w = .ok (.slice none 0 0) w := by
        simp [Builtin.append_, run_underlying ht, sizeOf, typeInfo, hi, Builtin.lenOf, Builtin.firstCells, loadCells, loadCellsFrom]
      have := hr.symm.trans hr2
      injection this with h4 _
      injection h4
    · right
      subst hsize hby
      have hr2 := run_append_nil (P := P) w t ty e i z ht hi hz ad m c news hl hnews (by omega) (by omega) (by have hb := hbytes; rw [Nat.zero_add] at hb; omega)
      have := hr.symm.trans hr2
      injection this with h4 h5
      injection h4 with h6
      exact ⟨w.heap.size, h6, Nat.le_refl _, by rw [h5]; simp⟩
  · cases h2
    by_cases hroom : n + m ≤ sc
    · left
      obtain ⟨w2, hr2, _⟩ := run_append_fits (P := P) w base t ty e i size ht hi hsize g n sc xs hown ad m c news hl hnews h1 hroom
      have := hr.symm.trans hr2
      injection this with h4 _
      injection h4
    · right
      subst hsize hby
      have holds : ∀ j u, xs[j]? = some u → w.cell? ((⟨g, 0, none⟩ : Addr).add j) = some u := hown.cells (g := g) rfl
      have hr2 := run_append_grow (P := P) w t ty e i z ht hi hz ⟨g, 0, none⟩ n sc xs hown.1 holds ad m c news hl hnews (by omega) (by omega) (growslice_fits (by omega) hbytes)
      have := hr.symm.trans hr2
      injection this with h4 h5
      injection h4 with h6
      exact ⟨w.heap.size, h6, Nat.le_refl _, by rw [h5]; simp⟩

theorem append_enc2 {α : Type} (enc : α → List Value) (k bytes : Nat) (hk : ∀ x, (enc x).length = k) (hone : ∀ x, ∀ v ∈ enc x, v.oneCell' = true)
    {w : World} {A : Act} {K : Act → World → Prop} {Q : Exit → Act → World → Prop} {dst : Option Tmp} {s x : Operand} {t ty : TypeId} {pos : String} {after : Array Edge} {guard : Option (Nat × Bool)}
    (e : TypeId) (ht : P.underlying t = some (.slice e)) (hinfo : (P.info? e).map (fun i => (i.size, i.bytes, i.zero.isSome, (i.zero.map (·.cells.size)))) = some (k, bytes, true, some k)) (hk0 : 0 < k)
    (base : Nat) (so : Option Addr) (sc : Nat) (l : List α) (hs : A.eval s = .slice so l.length sc) (hown : w.ownsRow base e k (.slice so l.length sc) l.length (l.flatMap enc))
    (g o c : Nat) (m : List α) (hx : A.eval x = .slice (some ⟨g, o, none⟩) m.length c) (hrow : Row w (some ⟨g, o, none⟩) (m.flatMap enc))
    (hlen : (l.length + m.length) * bytes ≤ 140737488355328) (hlen2 : l.length + m.length ≤ maxLen) (hbase : base ≤ w.heap.size)
    (h : ∀ a' c' w', w'.ownsRow base e k (.slice a' (l ++ m).length c') (l ++ m).length ((l ++ m).flatMap enc) → w.grownBy w' (Value.ownBlock (.slice so l.length sc)) → SameOrNew w w' so a' →
      Oper.wp P ⟨dst, .move (.const (.slice a' (l ++ m).length c')), ty, "", #[], none⟩ A w' K (fun _ _ _ => False)) :
    Oper.wp P ⟨dst, .call { callee := .builtin .append, args := #[s, x], argTypes := #[t, t] }, ty, pos, after, guard⟩ A w K Q := by
  obtain ⟨i0, z, hi, hz0, hz1, hz2, hz3⟩ := info_z hinfo
  obtain ⟨a', c', w', hr, ho, hg, hn⟩ := run_append_where (P := P) w base t ty e i0 z k bytes ht hi hz0 hz1 hz2 hz3 hk0 so l.length sc (l.flatMap enc) hown ⟨g, o, none⟩ m.length c (m.flatMap enc) (flat_len hk m) (by
    intro j u hj
    rcases hrow with h0 | ⟨g', o', ha, hrw⟩
    · rw [h0] at hj; simp at hj
    · cases ha
      have hadd : (⟨g, o, none⟩ : Addr).add j = ⟨g, o + j, none⟩ := by unfold Addr.add; split <;> simp_all
      rw [hadd]; exact hrw j u hj) (by
    intro u hu
    obtain ⟨b, _, hb⟩ := List.mem_flatMap.1 hu
    exact hone b u hb) hlen2 hlen hbase
  have e1 : (l ++ m).length = l.length + m.length := List.length_append
  have := h a' c' w' (by rw [e1, List.flatMap_append]; exact ho) hg hn
  rw [e1] at this
  unfold Oper.wp execOp at this ⊢
  simp only [resolve, invoke, builtin, Sem.run_bind, Sem.run_pure, Result.andThen_ok, List.map_toArray, List.map_cons, List.map_nil, hs, hx, hr]
  simpa [Oper.upon, Act.eval] using this
end
end Go.XR

/- How an index lies in memory: its three maps, the rows of numbers, the shelves' own maps. -/
namespace Go.IndexPure
open Go.XR Go.RowKit
/-- a number that fits a word -/
def I64 := {z : Int // -9223372036854775808 ≤ z ∧ z ≤ 9223372036854775807}
instance : DecidableEq I64 := inferInstanceAs (DecidableEq (Subtype _))
def i64V (z : I64) : Value := .int .i64 z.1
def mapV (m : Nat) : Value := .map (some m)
def unitV (_ : Unit) : Value := .bool true
def emptyRow : NumRow := ⟨none, 0, []⟩
def rowOf (T : List (SumT × NumRow)) (d : SumT) : NumRow := (aget T d).getD emptyRow
theorem rowOf_l (T : List (SumT × NumRow)) (d : SumT) : (rowOf T d).l = numsOf T d := by unfold rowOf numsOf; cases aget T d <;> rfl
def rowSl (r : NumRow) : Value := .slice r.a r.l.length r.c
theorem rowSl_get (T : List (SumT × NumRow)) (d : SumT) : ((aget T d).map numV).getD (.slice none 0 0) = .slice (rowOf T d).a (rowOf T d).l.length (rowOf T d).c := by
  unfold rowOf numV; cases aget T d <;> rfl
/-- new blocks of a footprint are new -/
def Grew (w : World) (F F' : List Nat) : Prop := ∀ b ∈ F', b ∈ F ∨ w.heap.size ≤ b
theorem Grew.refl (w : World) (F : List Nat) : Grew w F F := fun _ h => .inl h
theorem Grew.trans {w w' : World} {F F' F'' : List Nat} (h : Grew w F F') (h' : Grew w' F' F'') (hs : w.heap.size ≤ w'.heap.size) : Grew w F F'' := fun b hb => by
  rcases h' b hb with h1 | h1
  · exact h b h1
  · exact .inr (Nat.le_trans hs h1)
theorem _root_.Go.XR.But.grew {w w' w'' : World} {F F' : List Nat} (h : But F w w') (h' : But F' w' w'') (hg : Grew w F F') : But F w w'' :=
  ⟨h'.os.trans h.os, h'.tape.trans h.tape, h'.output.trans h.output, Nat.le_trans h.size h'.size, fun i hi hn =>
    (h'.block i (Nat.lt_of_lt_of_le hi h.size) (fun hm => by
      rcases hg i hm with h1 | h1
      · exact hn h1
      · omega)).trans (h.block i hi hn)⟩
end Go.IndexPure
namespace Go.Proofs.YtnfbchhbcinloaaGreat
open Go.RowKit Go.XR Go.IndexPure
theorem i64_wf (a : I64) : (Lit.int .i64 a.1).wf = true := by
  have h := a.2
  have h1 : IntKind.i64.min = -9223372036854775808 := by decide
  have h2 : IntKind.i64.max = 9223372036854775807 := by decide
  simp only [Lit.wf, h1, h2, Bool.and_eq_true, decide_eq_true_eq]
  exact h
theorem keysI64 : KeysOk Tryz.prog 3 i64V := ⟨Go.Maps.int_keyed Tryz.underlying3, fun a => ⟨.int .i64 a.1, Go.Maps.keyOf_int_mk Tryz.underlying3 (i64_wf a)⟩, fun a b h => Subtype.ext (by unfold i64V at h; injection h)⟩
abbrev ownNums (w : World) (r : NumRow) : Prop := w.ownsRow 0 27 1 (.slice r.a r.l.length r.c) r.l.length (r.l.flatMap nL)
structure IxC (w : World) (F : List Nat) (p pb tb sb : Nat) (D : List (KeyT × PlaceT)) (T : List (SumT × NumRow)) (Sh : List (I64 × Nat)) (L : Nat → List (KeyT × Unit)) : Prop where
  fin : ∀ b ∈ F, b < w.heap.size
  blk : Blk w p [.map (some pb), .map (some tb), .map (some sb)]
  inF : p ∈ F ∧ pb ∈ F ∧ tb ∈ F ∧ sb ∈ F
  ne : pb ≠ tb ∧ pb ≠ sb ∧ tb ≠ sb
  places : GM keyV placeV w pb D
  twins : GM sumV numV w tb T
  shelves : GM i64V mapV w sb Sh
  row : ∀ d r, aget T d = some r → ownNums w r ∧ ∀ a, r.a = some a → a.block ∈ F ∧ a.block ≠ p
  rowApart : ∀ d e r s a b, aget T d = some r → aget T e = some s → d ≠ e → r.a = some a → s.a = some b → a.block ≠ b.block
  shelf : ∀ s m, aget Sh s = some m → m ∈ F ∧ GM keyV unitV w m (L m) ∧ m ≠ pb ∧ m ≠ tb ∧ m ≠ sb
  shelfApart : ∀ s t m, aget Sh s = some m → aget Sh t = some m → s = t
section
variable {w w' w1 w2 : World} {F S : List Nat} {p pb tb sb : Nat} {D : List (KeyT × PlaceT)} {T : List (SumT × NumRow)} {Sh : List (I64 × Nat)} {L : Nat → List (KeyT × Unit)}
theorem _root_.Go.XR.GM.ne_cells {κ ν : Type} {kv : κ → Value} {vv : ν → Value} {m b : Nat} {E : List (κ × ν)} (h : GM kv vv w m E) {cs : Array Value} {t : TypeId} {f : Nat × Nat} (hb : w.heap[b]? = some (.cells cs t f)) : m ≠ b := by
  rintro rfl
  obtain ⟨es, clock, h1, _⟩ := h
  rw [hb] at h1; cases h1
theorem own_cells {r : NumRow} (h : ownNums w r) {a : Addr} (ha : r.a = some a) : (∃ cs, w.heap[a.block]? = some (.cells cs 27 (0, 0))) ∧ a = ⟨a.block, 0, none⟩ := by
  rcases h.2 with ⟨h2, _⟩ | ⟨g, cap, cur, h1, _, h3, _⟩
  · rw [ha] at h2; cases h2
  · rw [ha] at h1
    injection h1 with h5
    injection h5 with h6
    subst h6
    exact ⟨⟨cur, h3⟩, rfl⟩
theorem own_heap {r : NumRow} (h : ownNums w r) (hb : ∀ a, r.a = some a → w'.heap[a.block]? = w.heap[a.block]?) : ownNums w' r := by
  refine ⟨h.1, ?_⟩
  rcases h.2 with h2 | ⟨g, cap, cur, h1, h2, h3, h4⟩
  · exact .inl h2
  · have h1' := h1
    injection h1' with h5
    exact .inr ⟨g, cap, cur, h1, h2, (hb _ h5).trans h3, h4⟩
theorem IxC.ne_p (h : IxC w F p pb tb sb D T Sh L) : pb ≠ p ∧ tb ≠ p ∧ sb ≠ p ∧ ∀ s m, aget Sh s = some m → m ≠ p := by
  obtain ⟨t, hp⟩ := h.blk
  exact ⟨h.places.ne_cells hp, h.twins.ne_cells hp, h.shelves.ne_cells hp, fun s m hm => (h.shelf s m hm).2.1.ne_cells hp⟩
theorem IxC.row_ne (h : IxC w F p pb tb sb D T Sh L) {d : SumT} {r : NumRow} (hr : aget T d = some r) {a : Addr} (ha : r.a = some a) : pb ≠ a.block ∧ tb ≠ a.block ∧ sb ≠ a.block ∧ ∀ s m, aget Sh s = some m → m ≠ a.block := by
  obtain ⟨⟨cs, hc⟩, _⟩ := own_cells (h.row d r hr).1 ha
  exact ⟨h.places.ne_cells hc, h.twins.ne_cells hc, h.shelves.ne_cells hc, fun s m hm => (h.shelf s m hm).2.1.ne_cells hc⟩
/-- what is not of the index may be written -/
theorem IxC.but (h : IxC w F p pb tb sb D T Sh L) (hb : But S w w') (hS : ∀ b ∈ F, b ∉ S) : IxC w' F p pb tb sb D T Sh L where
  fin b hf := Nat.lt_of_lt_of_le (h.fin b hf) hb.size
  blk := h.blk.but hb (hS _ h.inF.1)
  inF := h.inF
  ne := h.ne
  places := h.places.but hb (hS _ h.inF.2.1)
  twins := h.twins.but hb (hS _ h.inF.2.2.1)
  shelves := h.shelves.but hb (hS _ h.inF.2.2.2)
  row d r hr := ⟨own_heap (h.row d r hr).1 fun a ha => hb.block _ (h.fin _ ((h.row d r hr).2 a ha).1) (hS _ ((h.row d r hr).2 a ha).1), (h.row d r hr).2⟩
  rowApart := h.rowApart
  shelf s m hm := ⟨(h.shelf s m hm).1, (h.shelf s m hm).2.1.but hb (hS _ (h.shelf s m hm).1), (h.shelf s m hm).2.2⟩
  shelfApart := h.shelfApart
theorem IxC.below (h : IxC w F p pb tb sb D T Sh L) (hb : Below w.heap.size w w') : IxC w' F p pb tb sb D T Sh L := h.but (But.of_below (S := []) hb) (fun _ _ => by simp)
/-- the map of places is written -/
theorem IxC.places_to (h : IxC w F p pb tb sb D T Sh L) {D' : List (KeyT × PlaceT)} (hb : But [pb] w w') (hG : GM keyV placeV w' pb D') : IxC w' F p pb tb sb D' T Sh L where
  fin b hf := Nat.lt_of_lt_of_le (h.fin b hf) hb.size
  blk := h.blk.but hb (by simpa using h.ne_p.1.symm)
  inF := h.inF
  ne := h.ne
  places := hG
  twins := h.twins.but hb (by simpa using h.ne.1.symm)
  shelves := h.shelves.but hb (by simpa using h.ne.2.1.symm)
  row d r hr := ⟨own_heap (h.row d r hr).1 fun a ha => hb.block _ (h.fin _ ((h.row d r hr).2 a ha).1) (by simpa using (h.row_ne hr ha).1.symm), (h.row d r hr).2⟩
  rowApart := h.rowApart
  shelf s m hm := ⟨(h.shelf s m hm).1, (h.shelf s m hm).2.1.but hb (by simpa using (h.shelf s m hm).2.2.1), (h.shelf s m hm).2.2⟩
  shelfApart := h.shelfApart
/-- the map of the shelves is written: some of what it had -/
theorem IxC.shelves_to (h : IxC w F p pb tb sb D T Sh L) {Sh' : List (I64 × Nat)} (hb : But [sb] w w') (hG : GM i64V mapV w' sb Sh') (hsub : ∀ s m, aget Sh' s = some m → aget Sh s = some m) : IxC w' F p pb tb sb D T Sh' L where
  fin b hf := Nat.lt_of_lt_of_le (h.fin b hf) hb.size
  blk := h.blk.but hb (by simpa using h.ne_p.2.2.1.symm)
  inF := h.inF
  ne := h.ne
  places := h.places.but hb (by simpa using h.ne.2.1)
  twins := h.twins.but hb (by simpa using h.ne.2.2)
  shelves := hG
  row d r hr := ⟨own_heap (h.row d r hr).1 fun a ha => hb.block _ (h.fin _ ((h.row d r hr).2 a ha).1) (by simpa using (h.row_ne hr ha).2.2.1.symm), (h.row d r hr).2⟩
  rowApart := h.rowApart
  shelf s m hm := ⟨(h.shelf s m (hsub s m hm)).1, (h.shelf s m (hsub s m hm)).2.1.but hb (by simpa using (h.shelf s m (hsub s m hm)).2.2.2.2), (h.shelf s m (hsub s m hm)).2.2⟩
  shelfApart s t m h1 h2 := h.shelfApart s t m (hsub s m h1) (hsub t m h2)
/-- a new map of a shelf -/
theorem IxC.shelf_new (h : IxC w F p pb tb sb D T Sh L) {s : I64} {m : Nat} (_hs : aget Sh s = none) (hb1 : But [] w w1) (hm : w.heap.size ≤ m) (hm1 : m < w1.heap.size) (hG1 : GM keyV unitV w1 m []) (hb : But [sb] w1 w') (hG : GM i64V mapV w' sb (aput Sh s m)) :
    IxC w' (m :: F) p pb tb sb D T (aput Sh s m) (fun i => if i = m then [] else L i) := by
  have h1 := h.but hb1 (fun _ _ => by simp)
  have hmF : m ∉ F := fun hf => by have := h.fin m hf; omega
  have hne : ∀ b ∈ F, b ≠ m := fun b hf e => hmF (e ▸ hf)
  exact {
    fin := fun b hf => by
      rcases List.mem_cons.1 hf with rfl | hf
      · exact Nat.lt_of_lt_of_le hm1 hb.size
      · exact Nat.lt_of_lt_of_le (h1.fin b hf) hb.size
    blk := h1.blk.but hb (by simpa using h1.ne_p.2.2.1.symm)
    inF := ⟨.tail _ h.inF.1, .tail _ h.inF.2.1, .tail _ h.inF.2.2.1, .tail _ h.inF.2.2.2⟩
    ne := h.ne
    places := h1.places.but hb (by simpa using h1.ne.2.1)
    twins := h1.twins.but hb (by simpa using h1.ne.2.2)
    shelves := hG
    row := fun d r hr => ⟨own_heap (h1.row d r hr).1 fun a ha => hb.block _ (h1.fin _ ((h1.row d r hr).2 a ha).1) (by simpa using (h1.row_ne hr ha).2.2.1.symm), fun a ha => ⟨.tail _ ((h1.row d r hr).2 a ha).1, ((h1.row d r hr).2 a ha).2⟩⟩
    rowApart := h.rowApart
    shelf := fun t n ht => by
      rw [aget_put] at ht
      by_cases e : t = s
      · rw [if_pos e] at ht
        injection ht with ht
        subst ht
        rw [if_pos rfl]
        exact ⟨.head _, hG1.but hb (by simpa using (hne _ h.inF.2.2.2).symm), (hne _ h.inF.2.1).symm, (hne _ h.inF.2.2.1).symm, (hne _ h.inF.2.2.2).symm⟩
      · rw [if_neg e] at ht
        have h2 := h1.shelf t n ht
        rw [if_neg (hne n h2.1)]
        exact ⟨.tail _ h2.1, h2.2.1.but hb (by simpa using h2.2.2.2.2), h2.2.2⟩
    shelfApart := fun t u n ht hu => by
      rw [aget_put] at ht hu
      by_cases e : t = s
      · rw [if_pos e] at ht
        injection ht with ht
        subst ht
        by_cases e2 : u = s
        · rw [e, e2]
        · rw [if_neg e2] at hu
          exact absurd (h.shelf u m hu).1 hmF
      · rw [if_neg e] at ht
        by_cases e2 : u = s
        · rw [if_pos e2] at hu
          injection hu with hu
          subst hu
          exact absurd (h.shelf t m ht).1 hmF
        · rw [if_neg e2] at hu
          exact h.shelfApart t u n ht hu }
/-- a shelf's own map is written -/
theorem IxC.shelf_to (h : IxC w F p pb tb sb D T Sh L) {s : I64} {m : Nat} (hs : aget Sh s = some m) {l : List (KeyT × Unit)} (hb : But [m] w w') (hG : GM keyV unitV w' m l) : IxC w' F p pb tb sb D T Sh (fun i => if i = m then l else L i) := by
  have hm := h.shelf s m hs
  exact {
    fin := fun b hf => Nat.lt_of_lt_of_le (h.fin b hf) hb.size
    blk := h.blk.but hb (by simpa using (h.ne_p.2.2.2 s m hs).symm)
    inF := h.inF
    ne := h.ne
    places := h.places.but hb (by simpa using hm.2.2.1.symm)
    twins := h.twins.but hb (by simpa using hm.2.2.2.1.symm)
    shelves := h.shelves.but hb (by simpa using hm.2.2.2.2.symm)
    row := fun d r hr => ⟨own_heap (h.row d r hr).1 fun a ha => hb.block _ (h.fin _ ((h.row d r hr).2 a ha).1) (by simpa using ((h.row_ne hr ha).2.2.2 s m hs).symm), (h.row d r hr).2⟩
    rowApart := h.rowApart
    shelf := fun t n ht => by
      by_cases e : n = m
      · subst e
        rw [if_pos rfl]
        exact ⟨hm.1, hG, hm.2.2⟩
      · rw [if_neg e]
        exact ⟨(h.shelf t n ht).1, (h.shelf t n ht).2.1.but hb (by simpa using e), (h.shelf t n ht).2.2⟩
    shelfApart := h.shelfApart }
/-- a row of numbers is written, in place or anew -/
theorem IxC.row_to (h : IxC w F p pb tb sb D T Sh L) {d : SumT} {r : NumRow} (hg : w.grownBy w1 (Value.ownBlock (.slice (rowOf T d).a (rowOf T d).l.length (rowOf T d).c))) (hsn : SameOrNew w w1 (rowOf T d).a r.a) (ho : ownNums w1 r) (hb : But [tb] w1 w') (hG : GM sumV numV w' tb (aput T d r)) :
    ∃ F', IxC w' F' p pb tb sb D (aput T d r) Sh L ∧ Grew w F F' := by
  have hold : ∀ b, b < w.heap.size → (∀ a, (rowOf T d).a = some a → b ≠ a.block) → w1.heap[b]? = w.heap[b]? := fun b hbs hne => hg.block b hbs (fun e => by
    cases ha : (rowOf T d).a with
    | none => rw [ha] at e; cases e
    | some a =>
      rw [ha] at e
      exact hne a ha (by simpa [Value.ownBlock] using e))
  have hra : ∀ a, (rowOf T d).a = some a → ∃ r0, aget T d = some r0 ∧ r0.a = some a := fun a ha => by
    unfold rowOf at ha
    cases e : aget T d with
    | none => rw [e] at ha; cases ha
    | some r0 => rw [e] at ha; exact ⟨r0, rfl, ha⟩
  have hrow : ∀ {b}, (∀ d r a, aget T d = some r → r.a = some a → b ≠ a.block) → ∀ a, (rowOf T d).a = some a → b ≠ a.block := fun hh a ha => by
    obtain ⟨r0, h1, h2⟩ := hra a ha
    exact hh d r0 a h1 h2
  have hnew : ∀ a, r.a = some a → (a.block ∈ F ∧ a.block ≠ p ∧ ∃ r0, aget T d = some r0 ∧ r0.a = some a) ∨ (w.heap.size ≤ a.block ∧ a.block < w1.heap.size) := fun a ha => by
    rcases hsn with e | ⟨g, e, h1, h2⟩
    · left
      obtain ⟨r0, h3, h4⟩ := hra a (by rw [← e]; exact ha)
      exact ⟨((h.row d r0 h3).2 a h4).1, ((h.row d r0 h3).2 a h4).2, r0, h3, h4⟩
    · right
      rw [ha] at e
      injection e with e
      subst e
      exact ⟨h1, h2⟩
  have hw1 : w.heap.size ≤ w1.heap.size := hg.size
  have gmk : ∀ {κ ν : Type} {kv : κ → Value} {vv : ν → Value} {m : Nat} {E : List (κ × ν)}, GM kv vv w m E → m ≠ tb → GM kv vv w' m E := fun {κ ν kv vv m E} hm hne =>
    (hm.block (hold m hm.lt (hrow fun d r a h1 h2 => by
      obtain ⟨⟨cs, hc⟩, _⟩ := own_cells (h.row d r h1).1 h2
      exact hm.ne_cells hc))).but hb (by simpa using hne)
  have hF : ∀ b ∈ F, b < w1.heap.size := fun b hf => Nat.lt_of_lt_of_le (h.fin b hf) hw1
  refine ⟨(match r.a with | some a => [a.block] | none => []) ++ F, ?_, fun b hb2 => ?_⟩
  · exact {
      fin := fun b hf => by
        rcases List.mem_append.1 hf with h2 | h2
        · cases ha : r.a with
          | none => rw [ha] at h2; cases h2
          | some a =>
            rw [ha] at h2
            simp at h2
            subst h2
            rcases hnew a ha with h3 | h3
            · exact Nat.lt_of_lt_of_le (hF _ h3.1) hb.size
            · exact Nat.lt_of_lt_of_le h3.2 hb.size
        · exact Nat.lt_of_lt_of_le (hF b h2) hb.size
      blk := (h.blk.heap (hold p h.blk.lt (hrow fun d r a h1 h2 => ((h.row d r h1).2 a h2).2.symm))).but hb (by simpa using h.ne_p.2.1.symm)
      inF := ⟨List.mem_append_right _ h.inF.1, List.mem_append_right _ h.inF.2.1, List.mem_append_right _ h.inF.2.2.1, List.mem_append_right _ h.inF.2.2.2⟩
      ne := h.ne
      places := gmk h.places h.ne.1
      twins := hG
      shelves := gmk h.shelves h.ne.2.2.symm
      row := fun e s hs => by
        rw [aget_put] at hs
        by_cases he : e = d
        · rw [if_pos he] at hs
          injection hs with hs
          subst hs
          refine ⟨own_heap ho fun a ha => ?_, fun a ha => ?_⟩
          · obtain ⟨⟨cs, hc⟩, _⟩ := own_cells ho ha
            refine hb.block _ (Array.getElem?_eq_some_iff.1 hc).1 ?_
            have : GM sumV numV w1 tb T := h.twins.block (hold tb h.twins.lt (hrow fun d r a h1 h2 => (h.row_ne h1 h2).2.1))
            simpa using (this.ne_cells hc).symm
          · refine ⟨List.mem_append_left _ (by rw [ha]; simp), ?_⟩
            rcases hnew a ha with h3 | h3
            · exact h3.2.1
            · have := h.blk.lt
              omega
        · rw [if_neg he] at hs
          refine ⟨own_heap (h.row e s hs).1 fun a ha => ?_, fun a ha => ⟨List.mem_append_right _ ((h.row e s hs).2 a ha).1, ((h.row e s hs).2 a ha).2⟩⟩
          have hlt := h.fin _ ((h.row e s hs).2 a ha).1
          rw [hb.block _ (Nat.lt_of_lt_of_le hlt hw1) (by simpa using (h.row_ne hs ha).2.1.symm)]
          refine hold _ hlt fun c hc => ?_
          obtain ⟨r0, h1, h2⟩ := hra c hc
          exact h.rowApart e d s r0 a c hs h1 he ha h2
      rowApart := fun e f s t a b hs ht hef ha hb3 => by
        rw [aget_put] at hs ht
        have key : ∀ e s a b, aget T e = some s → e ≠ d → s.a = some a → r.a = some b → a.block ≠ b.block := fun e s a b hs he ha hb3 => by
          rcases hnew b hb3 with ⟨_, _, r0, h3, h4⟩ | h3
          · exact h.rowApart e d s r0 a b hs h3 he ha h4
          · have := h.fin _ ((h.row e s hs).2 a ha).1
            omega
        by_cases he : e = d
        · rw [if_pos he] at hs
          injection hs with hs
          subst hs
          rw [if_neg (fun e2 => hef (he.trans e2.symm))] at ht
          exact (key f t b a ht (fun e2 => hef (he.trans e2.symm)) hb3 ha).symm
        · rw [if_neg he] at hs
          by_cases hf : f = d
          · rw [if_pos hf] at ht
            injection ht with ht
            subst ht
            exact key e s a b hs he ha hb3
          · rw [if_neg hf] at ht
            exact h.rowApart e f s t a b hs ht hef ha hb3
      shelf := fun s m hm => ⟨List.mem_append_right _ (h.shelf s m hm).1, gmk (h.shelf s m hm).2.1 (h.shelf s m hm).2.2.2.1, (h.shelf s m hm).2.2⟩
      shelfApart := h.shelfApart }
  · rcases List.mem_append.1 hb2 with h2 | h2
    · cases ha : r.a with
      | none => rw [ha] at h2; cases h2
      | some a =>
        rw [ha] at h2
        simp at h2
        subst h2
        rcases hnew a ha with h3 | h3
        · exact .inl h3.1
        · exact .inr h3.1
    · exact .inl h2
/-- a fingerprint goes -/
theorem IxC.twins_less (h : IxC w F p pb tb sb D T Sh L) {T' : List (SumT × NumRow)} (hb : But [tb] w w') (hG : GM sumV numV w' tb T') (hsub : ∀ d r, aget T' d = some r → aget T d = some r) : IxC w' F p pb tb sb D T' Sh L where
  fin b hf := Nat.lt_of_lt_of_le (h.fin b hf) hb.size
  blk := h.blk.but hb (by simpa using h.ne_p.2.1.symm)
  inF := h.inF
  ne := h.ne
  places := h.places.but hb (by simpa using h.ne.1)
  twins := hG
  shelves := h.shelves.but hb (by simpa using h.ne.2.2.symm)
  row d r hr := ⟨own_heap (h.row d r (hsub d r hr)).1 fun a ha => hb.block _ (h.fin _ ((h.row d r (hsub d r hr)).2 a ha).1) (by simpa using (h.row_ne (hsub d r hr) ha).2.1.symm), (h.row d r (hsub d r hr)).2⟩
  rowApart d e r s a b h1 h2 := h.rowApart d e r s a b (hsub d r h1) (hsub e s h2)
  shelf s m hm := ⟨(h.shelf s m hm).1, (h.shelf s m hm).2.1.but hb (by simpa using (h.shelf s m hm).2.2.2.1), (h.shelf s m hm).2.2⟩
  shelfApart := h.shelfApart
end
end Go.Proofs.YtnfbchhbcinloaaGreat

/- A cache: tables of shelves in the order in which they came: plain. -/
namespace Go.CachePure
open Go Go.XR Go.IndexPure
abbrev TabT := List (KeyT × PlaceT)
abbrev CchT := List (I64 × TabT)
def cGet (C : CchT) (k : KeyT) : Option PlaceT := C.findSome? fun t => aget t.2 k
def tabStep (t : TabT) (r : KeyT × PlaceT) : TabT := if (aget t r.1).isSome then t else aput t r.1 r.2
def tabOf (l : List (KeyT × PlaceT)) : TabT := l.foldl tabStep []
def cEvict (room : Nat) (C : CchT) (draw : Nat) : CchT :=
  if C.length = room then (match C[draw % C.length]? with | some x => adel C x.1 | none => C) else C
def cLoad (room : Nat) (C : CchT) (s : I64) (l : List (KeyT × PlaceT)) (draw : Nat) : CchT :=
  if room = 0 ∨ (aget C s).isSome = true then C else cEvict room C draw ++ [(s, tabOf l)]
theorem tabOf_snoc (l : List (KeyT × PlaceT)) (r : KeyT × PlaceT) : tabOf (l ++ [r]) = tabStep (tabOf l) r := by unfold tabOf; rw [List.foldl_append]; rfl
theorem aget_tabStep (t : TabT) (r : KeyT × PlaceT) (k : KeyT) : aget (tabStep t r) k = (aget t k).or (if k = r.1 then some r.2 else none) := by
  unfold tabStep
  by_cases h : (aget t r.1).isSome = true
  · rw [if_pos h]
    by_cases e : k = r.1
    · subst e; cases hh : aget t r.1 with
      | none => rw [hh] at h; cases h
      | some v => rfl
    · rw [if_neg e, Option.or_none]
  · rw [if_neg h, aget_put]
    by_cases e : k = r.1
    · subst e
      rw [if_pos rfl, if_pos rfl]
      cases hh : aget t r.1 with
      | none => rfl
      | some v => rw [hh] at h; exact absurd rfl h
    · rw [if_neg e, if_neg e, Option.or_none]
theorem aget_cons' (r : KeyT × PlaceT) (l : List (KeyT × PlaceT)) (k : KeyT) : aget (r :: l) k = (if k = r.1 then some r.2 else none).or (aget l k) := by
  rw [aget_cons]
  by_cases e : r.1 = k
  · rw [if_pos e, if_pos e.symm]; rfl
  · rw [if_neg e, if_neg (fun h => e h.symm)]; rfl
theorem aget_tabOf (l : List (KeyT × PlaceT)) (k : KeyT) : aget (tabOf l) k = aget l k := by
  have gen : ∀ (l : List (KeyT × PlaceT)) (t : TabT), aget (l.foldl tabStep t) k = (aget t k).or (aget l k) := by
    intro l
    induction l with
    | nil => intro t; rw [List.foldl_nil, aget_nil, Option.or_none]
    | cons r l ih => intro t; rw [List.foldl_cons, ih, aget_tabStep, Option.or_assoc, ← aget_cons']
  rw [tabOf, gen, aget_nil]; rfl
theorem cEvict_sub (room : Nat) (C : CchT) (draw : Nat) : (cEvict room C draw).Sublist C := by
  unfold cEvict
  split
  · split
    · exact List.filter_sublist
    · exact List.Sublist.refl _
  · exact List.Sublist.refl _
theorem cEvict_nodup {room : Nat} {C : CchT} (h : (C.map (·.1)).Nodup) (draw : Nat) : ((cEvict room C draw).map (·.1)).Nodup := h.sublist ((cEvict_sub room C draw).map _)
theorem cEvict_lt {room : Nat} {C : CchT} (h : (C.map (·.1)).Nodup) (hr : C.length ≤ room) (h0 : room ≠ 0) (draw : Nat) : (cEvict room C draw).length < room := by
  unfold cEvict
  split
  · rename_i e
    have hl : draw % C.length < C.length := Nat.mod_lt _ (by omega)
    rw [List.getElem?_eq_getElem hl]
    show (adel C C[draw % C.length].1).length < room
    have := erase_adel h (j := draw % C.length) (a := C[draw % C.length].1) (b := C[draw % C.length].2) (List.getElem?_eq_getElem hl)
    rw [← this, List.length_eraseIdx_of_lt hl]; omega
  · omega
theorem mem_aget {C : CchT} (h : (C.map (·.1)).Nodup) {s : I64} : (aget C s).isSome = true ↔ s ∈ C.map (·.1) := by
  constructor
  · intro h1
    obtain ⟨t, ht⟩ := Option.isSome_iff_exists.1 h1
    exact List.mem_map.2 ⟨(s, t), (aget_mem h).1 ht, rfl⟩
  · intro h1
    obtain ⟨x, hx, rfl⟩ := List.mem_map.1 h1
    rw [(aget_mem h).2 (show (x.1, x.2) ∈ C from hx)]; rfl
end Go.CachePure

/- A summary's bytes as bits, and a key's places in it: plain. -/
namespace Go.FindPure
open Go Go.XR
def sb (s : Vector UInt8 32) (i : Nat) : Nat := (s.toList.getD i 0).toNat
def w4 (s : Vector UInt8 32) (o : Nat) : Nat := sb s o * 16777216 + sb s (o + 1) * 65536 + sb s (o + 2) * 256 + sb s (o + 3)
theorem sb_lt (s : Vector UInt8 32) (i : Nat) : sb s i < 256 := UInt8.toNat_lt _
def byV (y : Nat) : Value := .int .u8 (y : Int)
theorem w4_lt (s : Vector UInt8 32) (o : Nat) : w4 s o < 4294967296 := by
  have h0 := sb_lt s o
  have h1 := sb_lt s (o + 1)
  have h2 := sb_lt s (o + 2)
  have h3 := sb_lt s (o + 3)
  unfold w4; omega
def stp (k : KeyT) : Nat := w4 k.sum 4 ||| 1
theorem stp_lt (k : KeyT) : stp k < 4294967296 := Nat.or_lt_two_pow (n := 32) (w4_lt _ _) (by decide)
def xat (k : KeyT) (i : Nat) : Nat := (w4 k.sum 0 + k.n.toNat + i * stp k) % 4294967296
theorem xat_lt (k : KeyT) (i : Nat) : xat k i < 4294967296 := Nat.mod_lt _ (by decide)
theorem xat_zero (k : KeyT) : xat k 0 = (w4 k.sum 0 + k.n.toNat) % 4294967296 := by unfold xat; rw [Nat.zero_mul, Nat.add_zero]
theorem xat_succ (k : KeyT) (i : Nat) : xat k (i + 1) = (xat k i + stp k) % 4294967296 := by
  unfold xat; rw [Nat.add_mul, Nat.one_mul, Nat.mod_add_mod, Nat.add_assoc (w4 k.sum 0 + k.n.toNat)]
def placesN (bits n : Nat) (k : KeyT) : List Nat := (List.range n).map fun i => xat k i % bits
def places (bits probes : Nat) (k : KeyT) : List Nat := if bits = 0 then [] else placesN bits probes k
theorem placesN_succ (bits n : Nat) (k : KeyT) : placesN bits (n + 1) k = placesN bits n k ++ [xat k n % bits] := by
  unfold placesN; rw [List.range_succ, List.map_append]; rfl
theorem places_lt {bits probes : Nat} {k : KeyT} {p : Nat} (h : p ∈ places bits probes k) : p < bits := by
  unfold places at h
  split at h
  · cases h
  · obtain ⟨i, _, rfl⟩ := List.mem_map.1 h
    exact Nat.mod_lt _ (by omega)
def bitAt (Y : List Nat) (p : Nat) : Bool := (Y.getD (p / 8) 0).testBit (p % 8)
def setB (Y : List Nat) (p : Nat) : List Nat := Y.set (p / 8) (Y.getD (p / 8) 0 ||| 2 ^ (p % 8))
theorem setB_length (Y : List Nat) (p : Nat) : (setB Y p).length = Y.length := by unfold setB; rw [List.length_set]
theorem bitAt_setB {Y : List Nat} {p : Nat} (h : p / 8 < Y.length) (i : Nat) : bitAt (setB Y p) i = (bitAt Y i || decide (i = p)) := by
  unfold bitAt setB
  by_cases e : i / 8 = p / 8
  · rw [e]
    have h1 : (Y.set (p / 8) (Y.getD (p / 8) 0 ||| 2 ^ (p % 8))).getD (p / 8) 0 = Y.getD (p / 8) 0 ||| 2 ^ (p % 8) := by
      rw [List.getD_eq_getElem?_getD, List.getElem?_set_self h]; rfl
    rw [h1, Nat.testBit_or, Nat.testBit_two_pow]
    congr 1
    by_cases e2 : i = p
    · subst e2; simp
    · have : ¬ p % 8 = i % 8 := fun e3 => e2 (by omega)
      simp [e2, this]
  · have h1 : (Y.set (p / 8) (Y.getD (p / 8) 0 ||| 2 ^ (p % 8))).getD (i / 8) 0 = Y.getD (i / 8) 0 := by
      rw [List.getD_eq_getElem?_getD, List.getElem?_set_ne (fun h => e h.symm), ← List.getD_eq_getElem?_getD]
    have e2 : ¬ i = p := fun e2 => e (by rw [e2])
    rw [h1]; simp [e2]
def bytesOk (Y : List Nat) : Prop := ∀ y ∈ Y, y < 256
theorem bytesOk.get {Y : List Nat} (h : bytesOk Y) (i : Nat) : Y.getD i 0 < 256 := by
  rw [List.getD_eq_getElem?_getD]
  cases e : Y[i]? with
  | none => decide
  | some y => exact h y (List.mem_of_getElem? e)
theorem bytesOk.set {Y : List Nat} (h : bytesOk Y) (i : Nat) {y : Nat} (hy : y < 256) : bytesOk (Y.set i y) := fun z hz => by
  rcases List.mem_or_eq_of_mem_set hz with h1 | h1
  · exact h z h1
  · rw [h1]; exact hy
theorem or_lt {a : Nat} (h : a < 256) (p : Nat) : (a ||| 2 ^ (p % 8)) < 256 := Nat.or_lt_two_pow (n := 8) h (Nat.pow_lt_pow_right (by decide) (Nat.mod_lt _ (by decide)))
theorem bytesOk.setB {Y : List Nat} (h : bytesOk Y) (p : Nat) : bytesOk (setB Y p) := h.set _ (or_lt (h.get _) p)
theorem foldl_length (l : List Nat) : ∀ Y : List Nat, (l.foldl setB Y).length = Y.length := by
  induction l with
  | nil => intro Y; rfl
  | cons p l ih => intro Y; rw [List.foldl_cons, ih, setB_length]
theorem foldl_ok (l : List Nat) : ∀ {Y : List Nat}, bytesOk Y → bytesOk (l.foldl setB Y) := by
  induction l with
  | nil => intro Y h; exact h
  | cons p l ih => intro Y h; exact ih (h.setB p)
theorem bitAt_foldl (l : List Nat) : ∀ {Y : List Nat}, (∀ p ∈ l, p / 8 < Y.length) → ∀ i, bitAt (l.foldl setB Y) i = (bitAt Y i || decide (i ∈ l)) := by
  induction l with
  | nil => intro Y _ i; simp
  | cons p l ih =>
    intro Y h i
    rw [List.foldl_cons, ih (fun q hq => by rw [setB_length]; exact h q (List.mem_cons_of_mem _ hq)), bitAt_setB (h p (by simp))]
    by_cases e : i = p <;> by_cases e2 : i ∈ l <;> simp [e, e2]
def addB (bits probes : Nat) (Y : List Nat) (k : KeyT) : List Nat := (places bits probes k).foldl setB Y
def mayB (bits probes : Nat) (Y : List Nat) (k : KeyT) : Bool := (places bits probes k).all (bitAt Y)
/-- what a summary's bytes are -/
structure SumOk (bits : Nat) (Y : List Nat) : Prop where
  len : Y.length = (bits + 7) / 8
  ok : bytesOk Y
theorem SumOk.at_ {bits : Nat} {Y : List Nat} (h : SumOk bits Y) {p : Nat} (hp : p < bits) : p / 8 < Y.length := by rw [h.len]; omega
theorem SumOk.add {bits : Nat} {Y : List Nat} (h : SumOk bits Y) (probes : Nat) (k : KeyT) : SumOk bits (addB bits probes Y k) := ⟨(foldl_length _ _).trans h.len, foldl_ok _ h.ok⟩
theorem SumOk.bit_add {bits : Nat} {Y : List Nat} (h : SumOk bits Y) (probes : Nat) (k : KeyT) (i : Nat) : bitAt (addB bits probes Y k) i = (bitAt Y i || decide (i ∈ places bits probes k)) :=
  bitAt_foldl _ (fun _ hp => h.at_ (places_lt hp)) i
theorem SumOk.zero (bits : Nat) : SumOk bits (List.replicate ((bits + 7) / 8) 0) := ⟨List.length_replicate, fun y hy => by rw [(List.mem_replicate.1 hy).2]; decide⟩
/-- the bits of bytes, too; what lies behind the last bit goes -/
def orB (Y b : List Nat) : List Nat := Y.mapIdx fun i y => y ||| b.getD i 0
def cutB (bits : Nat) (Y : List Nat) : List Nat := if bits % 8 = 0 then Y else Y.set (Y.length - 1) (Y.getD (Y.length - 1) 0 % 2 ^ (bits % 8))
def blurB (bits : Nat) (Y b : List Nat) : List Nat := cutB bits (orB Y b)
theorem orB_length (Y b : List Nat) : (orB Y b).length = Y.length := by unfold orB; rw [List.length_mapIdx]
theorem orB_get (Y b : List Nat) {i : Nat} (h : i < Y.length) : (orB Y b).getD i 0 = Y.getD i 0 ||| b.getD i 0 := by
  unfold orB
  simp [List.getD_eq_getElem?_getD, h]
theorem orB_ok {Y b : List Nat} (hY : bytesOk Y) (hb : bytesOk b) : bytesOk (orB Y b) := fun z hz => by
  unfold orB at hz
  rw [List.mem_mapIdx] at hz
  obtain ⟨i, hi, rfl⟩ := hz
  exact Nat.or_lt_two_pow (n := 8) (hY _ (List.getElem_mem _)) (hb.get i)
theorem SumOk.blur {bits : Nat} {Y b : List Nat} (h : SumOk bits Y) (hb : bytesOk b) : SumOk bits (blurB bits Y b) := by
  unfold blurB cutB
  split
  · exact ⟨(orB_length Y b).trans h.len, orB_ok h.ok hb⟩
  · refine ⟨by rw [List.length_set]; exact (orB_length Y b).trans h.len, (orB_ok h.ok hb).set _ ?_⟩
    exact Nat.lt_of_le_of_lt (Nat.mod_le _ _) ((orB_ok h.ok hb).get _)
theorem SumOk.bit_blur {bits : Nat} {Y b : List Nat} (h : SumOk bits Y) {i : Nat} (hi : i < bits) : bitAt (blurB bits Y b) i = (bitAt Y i || bitAt b i) := by
  have h8 := h.at_ hi
  have e1 : bitAt (orB Y b) i = (bitAt Y i || bitAt b i) := by unfold bitAt; rw [orB_get Y b h8, Nat.testBit_or]
  unfold blurB cutB
  split
  · exact e1
  · rename_i hm
    rw [← e1]
    unfold bitAt
    by_cases e : i / 8 = (orB Y b).length - 1
    · have hlt : i / 8 < (orB Y b).length := by rw [orB_length]; exact h8
      rw [← e, List.getD_eq_getElem?_getD, List.getElem?_set_self hlt]
      show Nat.testBit (_ % 2 ^ (bits % 8)) (i % 8) = _
      rw [Nat.testBit_mod_two_pow]
      have : i % 8 < bits % 8 := by
        rw [orB_length, h.len] at e
        omega
      simp [this]
    · rw [List.getD_eq_getElem?_getD, List.getElem?_set_ne (fun h => e h.symm), ← List.getD_eq_getElem?_getD]
theorem may_mono {bits probes : Nat} {Y Z : List Nat} {k : KeyT} (h : ∀ i, i < bits → bitAt Y i = true → bitAt Z i = true) (hm : mayB bits probes Y k = true) : mayB bits probes Z k = true := by
  unfold mayB at *
  rw [List.all_eq_true] at *
  exact fun p hp => h p (places_lt hp) (hm p hp)
theorem SumOk.may_add {bits : Nat} {Y : List Nat} (h : SumOk bits Y) (probes : Nat) (k : KeyT) : mayB bits probes (addB bits probes Y k) k = true := by
  unfold mayB
  rw [List.all_eq_true]
  intro p hp
  rw [h.bit_add]; simp [hp]
theorem or_join {i x y : Nat} (hx : x % 2 ^ i = 0) (hy : y < 2 ^ i) (h1 : x < 4294967296) (h2 : y < 4294967296) : bits .or .u32 (x : Int) (y : Int) = ((x + y : Nat) : Int) := by
  rw [u32_or_nat x y h1 h2, nat_join i x y hx hy]
theorem word_or {b0 b1 b2 b3 : Nat} (g0 : b0 < 256) (g1 : b1 < 256) (g2 : b2 < 256) (g3 : b3 < 256) :
    bits .or .u32 (bits .or .u32 (bits .or .u32 ((b0 : Int) * 16777216) ((b1 : Int) * 65536)) ((b2 : Int) * 256)) (b3 : Int) = ((b0 * 16777216 + b1 * 65536 + b2 * 256 + b3 : Nat) : Int) := by
  have e1 := or_join (i := 24) (x := b0 * 16777216) (y := b1 * 65536) (by omega) (by omega) (by omega) (by omega)
  have e2 := or_join (i := 16) (x := b0 * 16777216 + b1 * 65536) (y := b2 * 256) (by omega) (by omega) (by omega) (by omega)
  have e3 := or_join (i := 8) (x := b0 * 16777216 + b1 * 65536 + b2 * 256) (y := b3) (by omega) (by omega) (by omega) (by omega)
  rw [show ((b0 : Int) * 16777216) = ((b0 * 16777216 : Nat) : Int) by omega, show ((b1 : Int) * 65536) = ((b1 * 65536 : Nat) : Int) by omega, show ((b2 : Int) * 256) = ((b2 * 256 : Nat) : Int) by omega, e1, e2, e3]
theorem and7 {x : Nat} (h : x < 4294967296) : bits .and .u32 (x : Int) 7 = ((x % 8 : Nat) : Int) := by
  rw [show (7 : Int) = ((7 : Nat) : Int) from rfl, u32_and_nat x 7 h (by decide), nat_mask3]
theorem or_pow {y m : Nat} (hy : y < 256) (hm : m < 8) : bits .or .u8 (y : Int) (2 ^ m % 256) = ((y ||| 2 ^ m : Nat) : Int) := by
  have h2 : 2 ^ m < 256 := Nat.pow_lt_pow_right (n := 8) (by decide) hm
  have e : ((2 : Int) ^ m % 256) = ((2 ^ m : Nat) : Int) := by
    have h3 : ((2 : Int) ^ m) = ((2 ^ m : Nat) : Int) := by simp
    rw [h3]
    generalize 2 ^ m = z at h2 ⊢
    omega
  rw [e, u8_or_nat y _ hy h2]
theorem and_bit {y m : Nat} (hy : y < 256) : bits .and .u8 ((y : Int) / 2 ^ m) 1 = if y.testBit m then 1 else 0 := by
  have h3 : ((2 : Int) ^ m) = ((2 ^ m : Nat) : Int) := by simp
  have h4 : y / 2 ^ m < 256 := Nat.lt_of_le_of_lt (Nat.div_le_self _ _) hy
  rw [h3, show ((y : Int) / ((2 ^ m : Nat) : Int)) = ((y / 2 ^ m : Nat) : Int) from rfl, show (1 : Int) = ((1 : Nat) : Int) from rfl, u8_and_nat _ _ h4 (by decide), nat_mask1]
  rw [Nat.testBit_eq_decide_div_mod_eq]
  have := Nat.mod_two_eq_zero_or_one (y / 2 ^ m)
  rcases this with h | h <;> simp [h]
theorem map_setB {Y : List Nat} {p : Nat} : (Y.map byV).set (p / 8) (byV (Y.getD (p / 8) 0 ||| 2 ^ (p % 8))) = (setB Y p).map byV := by
  unfold setB; rw [List.map_set]
theorem stp_or (k : KeyT) : bits .or .u32 (w4 k.sum 4 : Int) 1 = (stp k : Int) := by
  rw [show (1 : Int) = ((1 : Nat) : Int) from rfl, u32_or_nat _ 1 (w4_lt _ _) (by decide)]; rfl
theorem add_u32 (a b : Nat) : IntKind.u32.wrap ((a : Int) + (b : Int)) = (((a + b) % 4294967296 : Nat) : Int) := by
  rw [IntKind.wrap_u32']; omega
theorem and7_i {x : Nat} (h : x ≤ 1048576) : bits .and .i64 (x : Int) 7 = ((x % 8 : Nat) : Int) := by
  have := bits_mask .i64 63 (by decide) (fun n h0 h1 => by rw [IntKind.wrap_i64]; omega) 3 (by decide) (x : Int) (by omega) (by omega)
  exact this
theorem mask_u8 {y m : Nat} (hy : y < 256) (hm : m < 8) : bits .and .u8 (y : Int) ((2 ^ m - 1) % 256) = (y : Int) % 2 ^ m := by
  have h2 : 2 ^ m < 256 := Nat.pow_lt_pow_right (n := 8) (by decide) hm
  have h1 : 1 ≤ 2 ^ m := Nat.one_le_two_pow
  have h3 : ((2 : Int) ^ m) = ((2 ^ m : Nat) : Int) := by simp
  have e : ((2 : Int) ^ m - 1) % 256 = ((2 ^ m - 1 : Nat) : Int) := by
    rw [h3]
    generalize 2 ^ m = z at h1 h2 ⊢
    omega
  rw [e, u8_and_nat y _ hy (by omega), Nat.and_two_pow_sub_one_eq_mod, h3]; rfl
theorem pow_mod_cast (y m : Nat) : (y : Int) % 2 ^ m = ((y % 2 ^ m : Nat) : Int) := by
  have h3 : ((2 : Int) ^ m) = ((2 ^ m : Nat) : Int) := by simp
  rw [h3]; rfl
/-- the bytes when so many of the others' have come -/
def orN (Y b : List Nat) (j : Nat) : List Nat := Y.mapIdx fun i y => if i < j then y ||| b.getD i 0 else y
theorem orN_zero (Y b : List Nat) : orN Y b 0 = Y := by
  unfold orN
  refine List.ext_getElem? fun i => ?_
  rw [List.getElem?_mapIdx]
  cases Y[i]? <;> simp
theorem orN_length (Y b : List Nat) (j : Nat) : (orN Y b j).length = Y.length := by unfold orN; rw [List.length_mapIdx]
theorem orN_get (Y b : List Nat) {j : Nat} (h : j < Y.length) : (orN Y b j).getD j 0 = Y.getD j 0 := by
  unfold orN; simp [List.getD_eq_getElem?_getD, h]
theorem orN_succ (Y b : List Nat) {j : Nat} : (orN Y b j).set j (Y.getD j 0 ||| b.getD j 0) = orN Y b (j + 1) := by
  refine List.ext_getElem? fun i => ?_
  rw [List.getElem?_set]
  by_cases e : j = i
  · subst e
    rw [if_pos rfl, orN_length]
    by_cases h : j < Y.length
    · rw [if_pos h]
      unfold orN
      rw [List.getElem?_mapIdx, List.getElem?_eq_getElem h, List.getD_eq_getElem?_getD, List.getElem?_eq_getElem h]
      simp
    · rw [if_neg h, List.getElem?_eq_none (by rw [orN_length]; omega)]
  · rw [if_neg e]
    unfold orN
    rw [List.getElem?_mapIdx, List.getElem?_mapIdx]
    cases Y[i]? with
    | none => rfl
    | some y =>
      have : (i < j) = (i < j + 1) := by rw [eq_iff_iff]; omega
      simp only [this]
theorem orN_end (Y b : List Nat) {j : Nat} (h : j = min b.length Y.length) : orN Y b j = orB Y b := by
  unfold orN orB
  refine List.ext_getElem? fun i => ?_
  rw [List.getElem?_mapIdx, List.getElem?_mapIdx]
  by_cases hi : i < Y.length
  · rw [List.getElem?_eq_getElem hi]
    by_cases c : i < j
    · simp [c]
    · have : b.getD i 0 = 0 := by rw [List.getD_eq_getElem?_getD, List.getElem?_eq_none (by omega)]; rfl
      simp only [Option.map_some, if_neg c, this, Nat.or_zero]
  · rw [List.getElem?_eq_none (by omega)]; rfl
theorem orN_ok {Y b : List Nat} (hY : bytesOk Y) (hb : bytesOk b) (j : Nat) : bytesOk (orN Y b j) := fun z hz => by
  unfold orN at hz
  rw [List.mem_mapIdx] at hz
  obtain ⟨i, hi, rfl⟩ := hz
  split
  · exact Nat.or_lt_two_pow (n := 8) (hY _ (List.getElem_mem _)) (hb.get i)
  · exact hY _ (List.getElem_mem _)
theorem bits_or8 {x y : Nat} (hx : x < 256) (hy : y < 256) : bits .or .u8 (x : Int) (y : Int) = ((x ||| y : Nat) : Int) := u8_or_nat x y hx hy
end Go.FindPure

/- A finder: plain. -/
namespace Go.FindPure
open Go Go.XR Go.IndexPure Go.CachePure
structure FinT where
  bits : Nat
  probes : Nat
  room : Nat
  Y : List Nat
  C : CchT
  D : List (KeyT × PlaceT)
  asked : Nat
  loaded : Nat
/-- the tables without a shelf's -/
def delS (C : CchT) (s : Int) : CchT := C.filter fun t => decide (t.1.1 ≠ s)
theorem delS_adel (C : CchT) (s : I64) : delS C s.1 = adel C s := by
  unfold delS adel
  congr 1
  funext t
  have : t.1.1 ≠ s.1 ↔ t.1 ≠ s := ⟨fun h e => h (by rw [e]), fun h e => h (Subtype.ext e)⟩
  simp only [this]
def cForget (C : CchT) (D : List (KeyT × PlaceT)) (k : KeyT) : CchT := match aget D k with
  | some v => delS C v.shelf
  | none => C
def fPut (M : FinT) (k : KeyT) (v : PlaceT) : FinT :=
  { M with C := delS (cForget M.C M.D k) v.shelf, Y := addB M.bits M.probes M.Y k, D := aput (adel M.D k) k v }
def fDrop (M : FinT) (k : KeyT) : FinT := { M with C := cForget M.C M.D k, D := adel M.D k }
def mkI (z : Int) : I64 := if h : -9223372036854775808 ≤ z ∧ z ≤ 9223372036854775807 then ⟨z, h⟩ else ⟨0, by decide⟩
theorem mkI_val (s : I64) : mkI s.1 = s := by
  unfold mkI
  exact dif_pos s.2
/-- what is found, and what the finder is then; L: the rows of the shelf on which the key lies -/
def fFind (M : FinT) (k : KeyT) (draw : Nat) (L : List (KeyT × PlaceT)) : Option PlaceT × FinT :=
  if mayB M.bits M.probes M.Y k = true then
    match cGet M.C k with
    | some v => (some v, M)
    | none => match aget M.D k with
      | none => (none, { M with asked := M.asked + 1 })
      | some v => (some v, { M with asked := M.asked + 1, loaded := M.loaded + 1, C := cLoad M.room M.C (mkI v.shelf) L draw })
  else (none, M)
end Go.FindPure
