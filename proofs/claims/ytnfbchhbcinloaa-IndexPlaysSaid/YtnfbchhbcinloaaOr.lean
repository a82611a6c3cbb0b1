/- The walk over cmp.Or at two whole numbers. -/
import Derived.Test.YtnfbchhbcinloaaProg
import Derived.Test.YtnfbchhbcinloaaLaws
import Derived.Test.YtnfbchhbcinloaaReg
import Derived.Deep.LoopGhost
import Derived.Sort.Grow
namespace Go.XR
def or2 (x y : Int) : Int := if x = 0 then y else x
theorem or2_zero (y : Int) : or2 0 y = y := rfl
theorem or2_ne {x : Int} (y : Int) (h : x ≠ 0) : or2 x y = x := if_neg h
end Go.XR
namespace Go.Proofs.Ytnfbchhbcinloaa
open Go.RowKit Go.XR
theorem Try.mixed : Try.prog.follows .mixedOrders = true := by kernel_rfl
set_option maxHeartbeats 1000000 in
theorem or_any (w : World) (b n : Nat) (x y : Int) (cx : w.cell? ⟨b, 0, none⟩ = some (.int .i64 x)) (cy : w.cell? ⟨b, 1, none⟩ = some (.int .i64 y)) :
    Calls Try.prog 52 #[.slice (some ⟨b, 0, none⟩) 2 n] w fun e w' => e = .returned (.int .i64 (or2 x y)) ∧ w' = w := by
  by_cases hx : x = 0
  · subst hx
    rw [or2_zero]
    by_cases hy : y = 0
    · subst hy
      go_enter Try.func52, Try.ntmps52
      go_wp2
      go_loopg [8] 2 (fun n i wr => wr = w ∧ ∃ j : Nat, j ≤ 2 ∧ i = .int .i64 j ∧ n = 2 - j)
      case atStart => exact ⟨rfl, 0, by omega, rfl, rfl⟩
      case round =>
        obtain ⟨rfl, j, hj, rfl, hn⟩ := hrel
        rcases (show j = 0 ∨ j = 1 ∨ j = 2 by omega) with rfl | rfl | rfl
        · have Hn := Lib.hid hn; clear hn
          go_wp2
          go_roundg 1
          case measure => have := Hn.out; omega
          case rel => exact ⟨rfl, 1, by omega, by go_num, rfl⟩
        · have Hn := Lib.hid hn; clear hn
          go_wp2
          go_roundg 0
          case measure => have := Hn.out; omega
          case rel => exact ⟨rfl, 2, by omega, by go_num, rfl⟩
        · go_wp2
          go_ret
          exact ⟨rfl, rfl⟩
    · have hy2 : (y != 0) = true := by simpa using hy
      go_enter Try.func52, Try.ntmps52
      go_wp2
      go_loopg [8] 2 (fun n i wr => wr = w ∧ ∃ j : Nat, j ≤ 1 ∧ i = .int .i64 j ∧ n = 2 - j)
      case atStart => exact ⟨rfl, 0, by omega, rfl, rfl⟩
      case round =>
        obtain ⟨rfl, j, hj, rfl, hn⟩ := hrel
        rcases (show j = 0 ∨ j = 1 by omega) with rfl | rfl
        · have Hn := Lib.hid hn; clear hn
          go_wp2
          go_roundg 1
          case measure => have := Hn.out; omega
          case rel => exact ⟨rfl, 1, by omega, by go_num, rfl⟩
        · have Hn := Lib.hid hn; clear hn
          go_wp2
          go_ret
          exact ⟨rfl, rfl⟩
  · have hx2 : (x != 0) = true := by simpa using hx
    rw [or2_ne y hx]
    go_enter Try.func52, Try.ntmps52
    go_wp2
    go_loopg [8] 2 (fun n i wr => wr = w ∧ ∃ j : Nat, j ≤ 0 ∧ i = .int .i64 j ∧ n = 2 - j)
    case atStart => exact ⟨rfl, 0, by omega, rfl, rfl⟩
    case round =>
      obtain ⟨rfl, j, hj, rfl, hn⟩ := hrel
      obtain rfl : j = 0 := by omega
      have Hn := Lib.hid hn; clear hn
      go_wp2
      go_ret
      exact ⟨rfl, rfl⟩
end Go.Proofs.Ytnfbchhbcinloaa
