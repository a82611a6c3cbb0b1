/- A key's number: plain. -/
import Derived.Test.YtekmiegonnhidaaKp
import Derived.Laws.Bits64
import Derived.IntWalk
namespace Go.PerfPure
open Go.XR
def stepH (H : Int) (b : Nat) : Int := IntKind.u64.wrap (bits .xor .u64 H (b : Int) * 1099511628211)
def nb (n : Nat) : List Nat := [n / 16777216, n / 65536 % 256, n / 256 % 256, n % 256]
def keyB (k : KeyT) : List Nat := k.sum.toList.map (·.toNat) ++ nb k.n.toNat
def hash0 (s : Int) : Int := bits .xor .u64 14695981039346656037 s
def hashI (s : Int) (k : KeyT) : Int := (keyB k).foldl stepH (hash0 s)
def hashF (s : Int) (k : KeyT) : Int := bits .xor .u64 (hashI s k) (hashI s k / 4294967296)
theorem bits_b (op : BinOp) (x y : Int) : 0 ≤ bits op .u64 x y ∧ bits op .u64 x y < 18446744073709551616 := by
  unfold bits
  dsimp only
  rw [IntKind.wrap_u64]
  omega
theorem stepH_b (H : Int) (b : Nat) : 0 ≤ stepH H b ∧ stepH H b < 18446744073709551616 := by
  unfold stepH
  rw [IntKind.wrap_u64]
  omega
theorem fold_b : ∀ (l : List Nat) (H : Int), 0 ≤ H ∧ H < 18446744073709551616 → 0 ≤ l.foldl stepH H ∧ l.foldl stepH H < 18446744073709551616
  | [], _, h => h
  | b :: l, H, _ => fold_b l _ (stepH_b H b)
theorem hash0_b (s : Int) : 0 ≤ hash0 s ∧ hash0 s < 18446744073709551616 := bits_b _ _ _
theorem hashF_b (s : Int) (k : KeyT) : 0 ≤ hashF s k ∧ hashF s k < 18446744073709551616 := bits_b _ _ _
theorem sum_take (s : Vector UInt8 32) {j : Nat} (h : j < 32) : (s.toList.map (·.toNat)).take (j + 1) = (s.toList.map (·.toNat)).take j ++ [s[j].toNat] := by
  rw [List.take_succ_eq_append_getElem (by simpa using h)]
  simp
theorem nb_take (n : Nat) {j : Nat} (h : j < 4) : (nb n).take (j + 1) = (nb n).take j ++ [(nb n).getD j 0] := by
  rcases (show j = 0 ∨ j = 1 ∨ j = 2 ∨ j = 3 by omega) with rfl | rfl | rfl | rfl <;> rfl
end Go.PerfPure
