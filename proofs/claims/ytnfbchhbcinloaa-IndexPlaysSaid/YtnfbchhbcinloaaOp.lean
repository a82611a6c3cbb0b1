/- The order of keys, plain. -/
import Derived.Test.YtnfbchhbcinloaaTn
import Derived.Lib.Bytealg
import Derived.Lib.Small
import Derived.Sort.Statements
import Derived.Shelf.SlSortCmp.Insertion
namespace Go.IndexPure
open Go.XR Go.Lib
theorem cb_self : ∀ a : List UInt8, compareBytes a a = 0
  | [] => rfl
  | x :: a => by unfold compareBytes; rw [if_neg (UInt8.lt_irrefl x), if_neg (UInt8.lt_irrefl x)]; exact cb_self a
theorem cb_zero : ∀ a b : List UInt8, compareBytes a b = 0 → a = b
  | [], [], _ => rfl
  | [], _ :: _, h => by simp [compareBytes] at h
  | _ :: _, [], h => by simp [compareBytes] at h
  | x :: a, y :: b, h => by
    unfold compareBytes at h
    split at h
    · omega
    · split at h
      · omega
      · rename_i h1 h2
        rw [cb_zero a b h, UInt8.le_antisymm (UInt8.not_lt.1 h2) (UInt8.not_lt.1 h1)]
theorem cb_swap : ∀ a b : List UInt8, compareBytes b a = - compareBytes a b
  | [], [] => rfl
  | [], _ :: _ => rfl
  | _ :: _, [] => rfl
  | x :: a, y :: b => by
    unfold compareBytes
    by_cases h1 : x < y
    · have h2 : ¬ y < x := UInt8.lt_asymm h1
      simp [h1, h2]
    · by_cases h2 : y < x
      · simp [h1, h2]
      · simp only [h1, h2, if_false]
        exact cb_swap a b
theorem cb_trans : ∀ a b c : List UInt8, compareBytes a b < 0 → compareBytes b c < 0 → compareBytes a c < 0
  | [], [], _, h, _ => by simp [compareBytes] at h
  | [], _ :: _, [], _, h => by simp [compareBytes] at h
  | [], _ :: _, _ :: _, _, _ => by simp [compareBytes]
  | _ :: _, [], _, h, _ => by simp [compareBytes] at h
  | _ :: _, _ :: _, [], _, h => by simp [compareBytes] at h
  | x :: a, y :: b, z :: c, h1, h2 => by
    unfold compareBytes at h1 h2 ⊢
    simp only [UInt8.lt_iff_toNat_lt] at *
    by_cases c1 : x.toNat < y.toNat
    · by_cases c2 : y.toNat < z.toNat
      · rw [if_pos (by omega)]; decide
      · by_cases c3 : z.toNat < y.toNat
        · rw [if_neg c2, if_pos c3] at h2; omega
        · rw [if_pos (by omega)]; decide
    · by_cases c4 : y.toNat < x.toNat
      · rw [if_neg c1, if_pos c4] at h1; omega
      · rw [if_neg c1, if_neg c4] at h1
        by_cases c2 : y.toNat < z.toNat
        · rw [if_pos (by omega)]; decide
        · by_cases c3 : z.toNat < y.toNat
          · rw [if_neg c2, if_pos c3] at h2; omega
          · rw [if_neg c2, if_neg c3] at h2
            rw [if_neg (by omega), if_neg (by omega)]
            exact cb_trans a b c h1 h2
theorem less_cb : ∀ a b : List UInt8, Op.bytesLess a b = decide (compareBytes a b < 0)
  | [], [] => by simp [Op.bytesLess, compareBytes]
  | [], _ :: _ => by simp [Op.bytesLess, compareBytes]
  | _ :: _, [] => by simp [Op.bytesLess, compareBytes]
  | x :: a, y :: b => by
    have ih := less_cb a b
    unfold Op.bytesLess compareBytes
    by_cases h1 : x < y
    · have h2 : ¬ x = y := fun e => UInt8.lt_irrefl x (e ▸ h1)
      simp [h1]
    · by_cases h2 : y < x
      · have h3 : ¬ x = y := fun e => UInt8.lt_irrefl x (e ▸ h2)
        simp [h1, h2, h3]
      · have h3 : x = y := UInt8.le_antisymm (UInt8.not_lt.1 h2) (UInt8.not_lt.1 h1)
        simp [h1, h2, h3, ih]
def sumB (s : Vector UInt8 32) : List UInt8 := s.toList
/-- how keys compare -/
def cfK (a b : KeyT) : Int := or2 (compareBytes (sumB a.sum) (sumB b.sum)) (compareInt (a.n.toNat : Int) (b.n.toNat : Int))
theorem ci_lt (x y : Int) : compareInt x y < 0 ↔ x < y := by unfold compareInt; split <;> (try split) <;> omega
theorem ci_zero (x y : Int) : compareInt x y = 0 ↔ x = y := by unfold compareInt; split <;> (try split) <;> omega
theorem ci_swap (x y : Int) : compareInt y x = - compareInt x y := by unfold compareInt; split <;> split <;> (try split) <;> (try split) <;> omega
theorem or2_swap (a b : Int) : or2 (-a) (-b) = - or2 a b := by unfold or2; split <;> split <;> omega
theorem cfK_swap (a b : KeyT) : cfK b a = - cfK a b := by unfold cfK; rw [cb_swap, ci_swap, or2_swap]
theorem cfK_zero (a b : KeyT) : cfK a b = 0 ↔ a = b := by
  unfold cfK or2
  constructor
  · intro h
    split at h
    · rename_i h1
      have h2 := cb_zero _ _ h1
      have h3 : a.sum = b.sum := Vector.toList_inj.1 h2
      have h4 := (ci_zero _ _).1 h
      have h5 : a.n = b.n := UInt32.toNat_inj.1 (by omega)
      cases a; cases b; simp_all
    · rename_i h1; exact absurd h h1
  · rintro rfl
    rw [if_pos (cb_self _)]
    exact (ci_zero _ _).2 rfl
theorem cfK_trans (a b c : KeyT) (h1 : cfK a b < 0) (h2 : cfK b c < 0) : cfK a c < 0 := by
  unfold cfK or2 at *
  by_cases e1 : compareBytes (sumB a.sum) (sumB b.sum) = 0
  · rw [if_pos e1] at h1
    rw [cb_zero _ _ e1]
    by_cases e2 : compareBytes (sumB b.sum) (sumB c.sum) = 0
    · rw [if_pos e2] at h2 ⊢
      rw [ci_lt] at *
      omega
    · rw [if_neg e2] at h2 ⊢
      exact h2
  · rw [if_neg e1] at h1
    by_cases e2 : compareBytes (sumB b.sum) (sumB c.sum) = 0
    · rw [← cb_zero _ _ e2, if_neg e1]
      exact h1
    · rw [if_neg e2] at h2
      have h3 := cb_trans _ _ _ h1 h2
      rw [if_neg (by omega)]
      exact h3
/-- how rows compare in a whole index, and on a shelf -/
def cfA (x y : KeyT × PlaceT) : Int := cfK x.1 y.1
def cfS (x y : KeyT × PlaceT) : Int := or2 (compareInt x.2.slot y.2.slot) (cfK x.1 y.1)
theorem cfS_swap (x y : KeyT × PlaceT) : cfS y x = - cfS x y := by unfold cfS; rw [ci_swap, cfK_swap, or2_swap]
theorem cfS_neg (x y : KeyT × PlaceT) : cfS x y < 0 ↔ x.2.slot < y.2.slot ∨ (x.2.slot = y.2.slot ∧ cfK x.1 y.1 < 0) := by
  unfold cfS or2
  have h1 := ci_lt x.2.slot y.2.slot
  have h2 := ci_zero x.2.slot y.2.slot
  split <;> omega
theorem cfS_trans (x y z : KeyT × PlaceT) (h1 : cfS x y < 0) (h2 : cfS y z < 0) : cfS x z < 0 := by
  rw [cfS_neg] at *
  rcases h1 with h1 | ⟨h1, h3⟩ <;> rcases h2 with h2 | ⟨h2, h4⟩
  · exact .inl (by omega)
  · exact .inl (by omega)
  · exact .inl (by omega)
  · exact .inr ⟨by omega, cfK_trans _ _ _ h3 h4⟩
theorem cfS_zero (x y : KeyT × PlaceT) : cfS x y = 0 ↔ x.2.slot = y.2.slot ∧ x.1 = y.1 := by
  unfold cfS or2
  have h2 := ci_zero x.2.slot y.2.slot
  have h3 := cfK_zero x.1 y.1
  split
  · rename_i h; rw [h3]; exact ⟨fun e => ⟨h2.1 h, e⟩, fun e => e.2⟩
  · rename_i h; exact ⟨fun e => absurd e h, fun e => absurd (h2.2 e.1) h⟩
theorem swo_of {α : Type} (cf : α → α → Int) (hs : ∀ x y, cf y x = - cf x y) (ht : ∀ x y z, cf x y < 0 → cf y z < 0 → cf x z < 0) (h0 : ∀ x y z, cf x y = 0 → cf y z = cf x z) : Sort.SWO (Go.Proofs.ltOf cf) where
  irrefl x := by unfold Go.Proofs.ltOf; rw [decide_eq_false_iff_not]; have := hs x x; omega
  trans x y z h1 h2 := by
    unfold Go.Proofs.ltOf at *
    rw [decide_eq_true_iff] at *
    exact ht x y z h1 h2
  ntrans x y z h1 h2 := by
    unfold Go.Proofs.ltOf at *
    rw [decide_eq_false_iff_not] at *
    intro h3
    by_cases e : cf x y = 0
    · rw [h0 x y z e] at h2; omega
    · have h4 : cf y x < 0 := by have := hs x y; omega
      have h5 := ht _ _ _ h4 h3
      omega
theorem swoA : Sort.SWO (Go.Proofs.ltOf cfA) := swo_of cfA (fun x y => cfK_swap x.1 y.1) (fun x y z => cfK_trans x.1 y.1 z.1) (fun x y z h => by
  unfold cfA at *
  rw [(cfK_zero _ _).1 h])
theorem swoS : Sort.SWO (Go.Proofs.ltOf cfS) := swo_of cfS cfS_swap cfS_trans (fun x y z h => by
  obtain ⟨h1, h2⟩ := (cfS_zero _ _).1 h
  unfold cfS
  rw [h1, h2])
/-- a strictly rising list is known by what is in it -/
theorem eq_of_strict {α : Type} {r : α → α → Prop} (asymm : ∀ a b, r a b → ¬ r b a) : ∀ (l m : List α), l.Pairwise r → m.Pairwise r → (∀ x, x ∈ l ↔ x ∈ m) → l = m
  | [], [], _, _, _ => rfl
  | [], b :: m, _, _, h => absurd ((h b).2 (by simp)) (by simp)
  | a :: l, [], _, _, h => absurd ((h a).1 (by simp)) (by simp)
  | a :: l, b :: m, h1, h2, h => by
    rw [List.pairwise_cons] at h1 h2
    have hab : a = b := Classical.byContradiction fun hne => by
      have ha : a ∈ m := by
        rcases List.mem_cons.1 ((h a).1 (by simp)) with e | e
        · exact absurd e hne
        · exact e
      have hb : b ∈ l := by
        rcases List.mem_cons.1 ((h b).2 (by simp)) with e | e
        · exact absurd e.symm hne
        · exact e
      exact asymm _ _ (h1.1 b hb) (h2.1 a ha)
    subst hab
    have irr : ∀ x, ¬ r x x := fun x hx => asymm x x hx hx
    rw [eq_of_strict asymm l m h1.2 h2.2 fun x => ?_]
    constructor
    · intro hx
      rcases List.mem_cons.1 ((h x).1 (List.mem_cons_of_mem _ hx)) with e | e
      · subst e; exact absurd (h1.1 _ hx) (irr _)
      · exact e
    · intro hx
      rcases List.mem_cons.1 ((h x).2 (List.mem_cons_of_mem _ hx)) with e | e
      · subst e; exact absurd (h2.1 _ hx) (irr _)
      · exact e
/-- a list that is sorted, whose keys are unlike, is strictly so -/
theorem strict_of {α κ : Type} (key : α → κ) (cf : α → α → Int) (hs : ∀ x y, cf y x = - cf x y) (h0 : ∀ x y, cf x y = 0 → key x = key y) {l : List α} (hnd : (l.map key).Nodup) (h : l.Pairwise (fun x y => ¬ cf y x < 0)) : l.Pairwise (fun x y => cf x y < 0) := by
  have h1 : l.Pairwise (fun x y => key x ≠ key y) := by
    unfold List.Nodup at hnd
    rwa [List.pairwise_map] at hnd
  refine (h1.and h).imp fun {x y} ⟨hk, hn⟩ => ?_
  have := hs x y
  have h2 : cf x y ≠ 0 := fun e => hk (h0 x y e)
  omega
end Go.IndexPure
