/- The walks over Low, does with marked trees, and the statement TreeLow. -/
import Derived.Test.YtfblpabkkahmeaaTg
import Derived.Test.YtfblpabkkahmeaaTb
import Derived.Test.YtfblpabkkahmeaaLc
namespace Go.Proofs.Ytfblpabkkahmeaa
open Go.RowKit Go.TreePure Go.XR

set_option maxHeartbeats 1000000 in
theorem low_any (w : World) (h n : Nat) (hh : h < 16) (hn : n ≤ 200) (hl : 2 ^ h ≤ (n + 1) * (n + 1)) :
    Calls Try.prog 24 #[.int .i64 h, .int .i64 n] w fun e w' => e = .returned (.bool true) ∧ w = w' := by
  have h1 : (n + 1) * (n + 1) ≤ 201 * 201 := Nat.mul_le_mul (by omega) (by omega)
  have Hl := Lib.hid hl
  clear hl
  go_enter Try.func24, Try.ntmps24
  go_wp2
  go_ret
  refine ⟨congrArg (fun b => Ending.returned (.bool b)) (decide_eq_true (?_ : IntKind.u64.wrap ((2 : Int) ^ h) ≤ IntKind.u64.wrap (((n : Int) + 1) * ((n : Int) + 1)))), rfl⟩
  have e1 : ((n : Int) + 1) * ((n : Int) + 1) = (((n + 1) * (n + 1) : Nat) : Int) := by push_cast; rfl
  have e2 : (2 : Int) ^ h = ((2 ^ h : Nat) : Int) := by push_cast; rfl
  have h2 := Hl.out
  rw [e1, e2]
  generalize (n + 1) * (n + 1) = b at *
  generalize 2 ^ h = a at *
  have wr : ∀ n : Nat, n ≤ 40401 → IntKind.u64.wrap (n : Int) = n := fun n h => by simp [IntKind.wrap, IntKind.bits, IntKind.signed]; omega
  rw [wr a (by omega), wr b (by omega)]
  omega

section
variable {S : Nat → Bool}
set_option maxHeartbeats 1000000 in
theorem does_marked (w : World) (p : Option Addr) (t : FT) (a : Deed) (hp : RepM S w p t) (hs : t.size < 2^58) :
    Calls Try.prog 22 #[.pointer p, .agg #[.bool a.gone, .string a.k, .string a.x]] w (RetTreeM S w (FT.does t a)) := by
  have Hp := Lib.hid hp
  clear hp
  obtain ⟨g, k, x⟩ := a
  cases g with
  | true =>
    go_enter Try.func22, Try.ntmps22
    go_wp2_with fail
    refine (Drop_marked k t _ p (Hp.out.alloc _) (by omega)).mono ?_
    rintro e w1 ⟨q, rfl, hq, hb⟩
    go_wp2
    go_ret
    exact RetTreeM.of ((Below.refl _ _).alloc (Nat.le_refl _) _) hq hb
  | false =>
    go_enter Try.func22, Try.ntmps22
    go_wp2_with fail
    refine (put_marked k x t _ p (Hp.out.alloc _) (by omega)).mono ?_
    rintro e w1 ⟨q, rfl, hq, hb⟩
    go_wp2
    go_ret
    exact RetTreeM.of ((Below.refl _ _).alloc (Nat.le_refl _) _) hq hb
end
end Go.Proofs.Ytfblpabkkahmeaa
