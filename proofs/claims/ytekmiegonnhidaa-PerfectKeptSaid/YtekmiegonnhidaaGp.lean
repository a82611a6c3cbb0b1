/- Groups of keys: plain, and how they lie. -/
import Derived.Test.YtekmiegonnhidaaDf
import Derived.Test.YtekmiegonnhidaaAp2
import Derived.Test.YtekmiegonnhidaaSort
namespace Go.PerfPure
open Go.XR Go.RowKit
def keysOf (l : List KeyT) (many i : Nat) : List KeyT := l.filter fun k => pos 0 many k == i
theorem keysOf_snoc (l : List KeyT) (many i : Nat) (k : KeyT) : keysOf (l ++ [k]) many i = if i = pos 0 many k then keysOf l many i ++ [k] else keysOf l many i := by
  unfold keysOf
  rw [List.filter_append, List.filter_cons]
  by_cases h : i = pos 0 many k
  · rw [if_pos h, if_pos (by simp [h])]; rfl
  · rw [if_neg h, if_neg (by simpa using fun e => h e.symm)]; simp
theorem eq_of_strict {α : Type} {r : α → α → Prop} (asymm : ∀ a b, r a b → ¬ r b a) : ∀ (l m : List α), l.Pairwise r → m.Pairwise r → (∀ x, x ∈ l ↔ x ∈ m) → l = m
  | [], [], _, _, _ => rfl
  | [], b :: m, _, _, h => absurd ((h b).2 (by simp)) (by simp)
  | a :: l, [], _, _, h => absurd ((h a).1 (by simp)) (by simp)
  | a :: l, b :: m, h1, h2, h => by
    rw [List.pairwise_cons] at h1 h2
    have hab : a = b := Classical.byContradiction fun hne => by
      have ha : a ∈ m := by
        rcases List.mem_cons.1 ((h a).1 (by simp)) with e | e
        · exact absurd e hne
        · exact e
      have hb : b ∈ l := by
        rcases List.mem_cons.1 ((h b).2 (by simp)) with e | e
        · exact absurd e.symm hne
        · exact e
      exact asymm _ _ (h1.1 b hb) (h2.1 a ha)
    subst hab
    have irr : ∀ x, ¬ r x x := fun x hx => asymm x x hx hx
    rw [eq_of_strict asymm l m h1.2 h2.2 fun x => ?_]
    constructor
    · intro hx
      rcases List.mem_cons.1 ((h x).1 (List.mem_cons_of_mem _ hx)) with e | e
      · subst e; exact absurd (h1.1 _ hx) (irr _)
      · exact e
    · intro hx
      rcases List.mem_cons.1 ((h x).2 (List.mem_cons_of_mem _ hx)) with e | e
      · subst e; exact absurd (h2.1 _ hx) (irr _)
      · exact e
/-- the order of groups: the greater first, alike ones by number -/
def ltC (c : Nat → Nat) (i j : Nat) : Prop := c j < c i ∨ (c i = c j ∧ i < j)
theorem ltC_asymm (c : Nat → Nat) (i j : Nat) (h : ltC c i j) : ¬ ltC c j i := by unfold ltC at *; omega

/-- the groups, how they lie -/
structure Gs (w : World) (B : Nat) (T : TypeId) (gs : List GrpT) (ks : Nat → List KeyT) : Prop where
  num : ∀ i (h : i < gs.length), gs[i].at_ = i
  len : ∀ i (h : i < gs.length), gs[i].len = (ks i).length
  own : ∀ i (h : i < gs.length), w.ownsRow B T 33 (.slice gs[i].sl gs[i].len gs[i].cap) gs[i].len ((ks i).flatMap keyL)
  apart : ∀ i j (hi : i < gs.length) (hj : j < gs.length), i ≠ j → ∀ a b, gs[i].sl = some a → gs[j].sl = some b → a.block ≠ b.block

theorem owns_heap {w w' : World} {base : Nat} {e : TypeId} {size : Nat} {a : Option Addr} {n c : Nat} {xs : List Value} (h : w.ownsRow base e size (.slice a n c) n xs) (hb : ∀ x, a = some x → w'.heap[x.block]? = w.heap[x.block]?) : w'.ownsRow base e size (.slice a n c) n xs := by
  refine ⟨h.1, ?_⟩
  rcases h.2 with h2 | ⟨g, cap, cur, h1, h2, h3, h4⟩
  · exact .inl h2
  · injection h1 with h5
    exact .inr ⟨g, cap, cur, by rw [h5]; congr, h2, (hb _ h5).trans h3, h4⟩
theorem owns_lt {w : World} {base : Nat} {e : TypeId} {size : Nat} {a : Addr} {n c : Nat} {xs : List Value} (h : w.ownsRow base e size (.slice (some a) n c) n xs) : base ≤ a.block ∧ a.block < w.heap.size := by
  rcases h.2 with ⟨h2, _⟩ | ⟨g, cap, cur, h1, h2, h3, h4⟩
  · cases h2
  · injection h1 with h5
    injection h5 with h6
    subst h6
    exact ⟨h2, (Array.getElem?_eq_some_iff.1 h3).1⟩
theorem Gs.below {w w' : World} {B : Nat} {T : TypeId} {gs : List GrpT} {ks : Nat → List KeyT} (h : Gs w B T gs ks) (hb : Below w.heap.size w w') : Gs w' B T gs ks :=
  ⟨h.num, h.len, fun i hi => owns_below (h.own i hi) hb, h.apart⟩
theorem Gs.but {w w' : World} {B : Nat} {T : TypeId} {gs : List GrpT} {ks : Nat → List KeyT} (h : Gs w B T gs ks) {S : List Nat} (hb : But S w w') (hS : ∀ s ∈ S, s < B) : Gs w' B T gs ks :=
  ⟨h.num, h.len, fun i hi => owns_heap (h.own i hi) fun x hx => by
    have h1 := h.own i hi
    rw [hx] at h1
    obtain ⟨h2, h3⟩ := owns_lt h1
    exact hb.block _ h3 fun hm => by have := hS _ hm; omega, h.apart⟩
theorem Gs.push {w w' : World} {B : Nat} {T : TypeId} {gs : List GrpT} {ks : Nat → List KeyT} (h : Gs w B T gs ks) {g : Nat} (hg : g < gs.length) {k : KeyT} {a' : Option Addr} {c' : Nat}
    (ho : w'.ownsRow B T 33 (.slice a' (ks g ++ [k]).length c') (ks g ++ [k]).length ((ks g ++ [k]).flatMap keyL)) (hgr : w.grownBy w' (Value.ownBlock (.slice gs[g].sl gs[g].len gs[g].cap))) (hsn : SameOrNew w w' gs[g].sl a') :
    Gs w' B T (gs.set g ⟨g, a', (ks g ++ [k]).length, c'⟩) (fun i => if i = g then ks i ++ [k] else ks i) := by
  have hblk : ∀ i (hi : i < gs.length) (hne : i ≠ g) x, gs[i].sl = some x → w'.heap[x.block]? = w.heap[x.block]? := fun i hi hne x hx => by
    have h1 := h.own i hi
    rw [hx] at h1
    obtain ⟨h2, h3⟩ := owns_lt h1
    refine hgr.block _ h3 fun e => ?_
    cases hs : gs[g].sl with
    | none => rw [hs] at e; cases e
    | some y =>
      rw [hs] at e
      have : x.block = y.block := by simpa [Value.ownBlock] using e
      exact h.apart i g hi hg hne x y hx hs this
  have hother : ∀ i (hi : i < gs.length) (hne : i ≠ g) x y, gs[i].sl = some x → a' = some y → x.block ≠ y.block := fun i hi hne x y hx hy => by
    rcases hsn with e | ⟨g', e, h1, h2⟩
    · exact h.apart i g hi hg hne x y hx (by rw [← e]; exact hy)
    · have h1' := h.own i hi
      rw [hx] at h1'
      obtain ⟨_, h3⟩ := owns_lt h1'
      rw [e] at hy
      injection hy with hy
      subst hy
      show x.block ≠ g'
      omega
  refine ⟨fun i hi => ?_, fun i hi => ?_, fun i hi => ?_, fun i j hi hj hne a b ha hb => ?_⟩
  · rw [List.length_set] at hi
    rw [List.getElem_set]
    split
    · rename_i e; exact e
    · exact h.num i hi
  · rw [List.length_set] at hi
    rw [List.getElem_set]
    split
    · rename_i e; subst e; simp
    · rename_i e; rw [if_neg (fun e' => e e'.symm)]; exact h.len i hi
  · rw [List.length_set] at hi
    rw [List.getElem_set]
    split
    · rename_i e
      subst e
      rw [if_pos rfl]
      exact ho
    · rename_i e
      rw [if_neg (fun e' => e e'.symm)]
      exact owns_heap (h.own i hi) (hblk i hi fun e' => e e'.symm)
  · rw [List.length_set] at hi hj
    rw [List.getElem_set] at ha hb
    by_cases e1 : g = i
    · rw [if_pos e1] at ha
      have e2 : ¬ g = j := fun e2 => hne (e1.symm.trans e2)
      rw [if_neg e2] at hb
      exact fun e => hother j hj (fun e3 => e2 e3.symm) b a hb ha e.symm
    · rw [if_neg e1] at ha
      by_cases e2 : g = j
      · rw [if_pos e2] at hb
        exact hother i hi (fun e3 => e1 e3.symm) a b ha hb
      · rw [if_neg e2] at hb
        exact h.apart i j hi hj hne a b ha hb
end Go.PerfPure
