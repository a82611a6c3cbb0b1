/- What several statements need: all pairs, slices of rows. -/
import Derived.Test.YtfblpabkkahmeaaH
namespace Go.Proofs.Ytfblpabkkahmeaa
open Go.RowKit Go.TreePure Go.XR

/-- From the empty key with room enough: all pairs -/
theorem all_pairs {t : PT} (h : Srt t.list) (hs : t.size ≤ 2^40) : (PT.fromL ⟨#[]⟩ t).take (4611686018427387904 : Int).toNat = t.list := by
  rw [PT.fromL_all h, List.take_of_length_le]
  rw [PT.list_length]
  have : (4611686018427387904 : Int).toNat = 4611686018427387904 := rfl
  omega


theorem from_big {t : PT} (key : ByteArray) (hs : t.size ≤ 2^40) : (PT.fromL key t).take (4611686018427387904 : Int).toNat = PT.fromL key t := by
  rw [List.take_of_length_le]
  have := PT.fromL_le key t
  have : (4611686018427387904 : Int).toNat = 4611686018427387904 := rfl
  omega

theorem owns_cap {w : World} {base : Nat} {e : TypeId} {size : Nat} {a : Option Addr} {n c : Nat} {xs : List Value} (h : w.ownsRow base e size (.slice a n c) n xs) : n ≤ c ∧ c ≤ maxLen := by
  rcases h.2 with ⟨h1, h2⟩ | ⟨g, cap, cur, h1, h2, h3, h4, h5, _⟩
  · cases h1; exact ⟨by omega, Nat.zero_le _⟩
  · cases h1; exact ⟨h4, h5⟩

theorem cellsOf_take (L : List (ByteArray × ByteArray)) : ∀ m, cellsOf (L.take m) = (cellsOf L).take (m * 2) := by
  induction L with
  | nil => intro m; simp [cellsOf]
  | cons p L ih =>
    intro m
    cases m with
    | zero => simp [cellsOf]
    | succ m =>
      rw [List.take_succ_cons, show (m + 1) * 2 = m * 2 + 1 + 1 from by omega, show cellsOf (p :: L) = .string p.1 :: .string p.2 :: cellsOf L from rfl, List.take_succ_cons, List.take_succ_cons, ← ih]
      rfl
theorem cellsOf_drop (L : List (ByteArray × ByteArray)) : ∀ m, cellsOf (L.drop m) = (cellsOf L).drop (m * 2) := by
  induction L with
  | nil => intro m; simp [cellsOf]
  | cons p L ih =>
    intro m
    cases m with
    | zero => simp [cellsOf]
    | succ m =>
      rw [List.drop_succ_cons, show (m + 1) * 2 = m * 2 + 1 + 1 from by omega, show cellsOf (p :: L) = .string p.1 :: .string p.2 :: cellsOf L from rfl, List.drop_succ_cons, List.drop_succ_cons, ← ih]

theorem row_drop {w : World} {g o : Nat} {xs : List Value} (h : Row w (some ⟨g, o, none⟩) xs) (n : Nat) : Row w (some ⟨g, o + n, none⟩) (xs.drop n) := by
  rcases h with rfl | ⟨g', o', ha, h⟩
  · left; simp
  · cases ha
    refine .inr ⟨g, o + n, rfl, fun j u hj => ?_⟩
    rw [List.getElem?_drop] at hj
    rw [Nat.add_assoc]
    exact h _ u hj
end Go.Proofs.Ytfblpabkkahmeaa
