/- The walks over the statements PathTexts, PathWithins, PathOrder. -/
import Derived.Test.YtdillaedlpplhaaDoorQa
namespace Go.Proofs.YtdillaedlpplhaaDoor
open Go.RowKit Go.PathPure Go.XR

set_option maxHeartbeats 2000000 in
set_option maxRecDepth 100000 in
theorem texts_walk (w : World) (hE : Env w) (a : Option Addr) (c : Nat) (l : List ByteArray) (hL : Row w a (strs l)) (hc : l.length ≤ c) (hl : l.length ≤ maxLen) :
    Calls Tryd.prog 6 #[.slice a l.length c] w fun e w' => e = .returned (.bool true) ∧ Below w.heap.size w w' := by
  have HE := Lib.hid hE
  have HL := Lib.hid hL
  clear hE hL
  unfold maxLen at hl
  go_enter Tryd.func6, Tryd.ntmps6
  go_wp2_with fail
  refine (shown_any _ HE.out).mono ?_
  rintro e w1 ⟨rfl, hb1⟩
  have Hb1 := Lib.hid hb1
  clear hb1
  go_wp2
  go_loopg [12, 4] l.length (fun n i _ wr => Below w.heap.size w wr ∧ ∃ k : Nat, k ≤ l.length ∧ k ≤ 100 ∧ i = .int .i64 k ∧ n = l.length - k)
  case atStart => exact ⟨Hb1.out, 0, Nat.zero_le _, by omega, rfl, by omega⟩
  case round =>
    obtain ⟨hb, k, hk, hk2, rfl, hn⟩ := hrel
    have Hb := Lib.hid hb
    have Hn := Lib.hid hn
    clear hb hn
    by_cases hlt : k < l.length
    · obtain ⟨g, o, rfl, c0⟩ := str_at (Row.below Hb.out HL.out) hlt
      have hi1 : (k : Int) < (l.length : Int) := by omega
      by_cases h100 : k = 100
      · have hge : (100 : Int) ≤ (k : Int) := by omega
        have hge2 : decide (100 ≤ k) = true := decide_eq_true (by omega)
        clear h100
        go_wp2
        go_ret
        exact ⟨rfl, Hb.out⟩
      · have hge : ¬ (100 : Int) ≤ (k : Int) := by omega
        have hge2 : decide (100 ≤ k) = false := decide_eq_false (by omega)
        by_cases hz : 1000 < l[k].size
        · have hz2 : decide (1000 < l[k].size) = true := decide_eq_true hz
          go_wp2
          go_ret
          exact ⟨rfl, Hb.out⟩
        · have hz2 : decide (1000 < l[k].size) = false := decide_eq_false hz
          go_wp2
          go_roundg (l.length - (k + 1))
          case measure => have := Hn.out; omega
          case rel => exact ⟨Hb.out, k + 1, by omega, by omega, by go_num, rfl⟩
    · have hge : ¬ (k : Int) < (l.length : Int) := by omega
      have hlen : l.length ≤ 100 := by omega
      go_wp2_with fail
      refine (text_any _ (HE.out.below Hb.out) a c l (Row.below Hb.out HL.out) hc (by omega)).mono ?_
      rintro e w2 ⟨rfl, hb2⟩
      have Hb2 := Lib.hid (Hb.out.trans (hb2.mono Hb.out.size))
      clear hb2
      go_wp2_with fail
      refine (reftext_any _ a c l (Row.below Hb2.out HL.out)).mono ?_
      rintro e w3 ⟨rfl, hb3⟩
      have Hb3 := Lib.hid (Hb2.out.trans (hb3.mono Hb2.out.size))
      clear hb3
      generalize textB l = tb at *
      generalize textE l = te at *
      have e1 := self_eq tb
      go_wp2
      go_ret
      exact ⟨rfl, Hb3.out⟩

set_option maxHeartbeats 2000000 in
set_option maxRecDepth 100000 in
theorem withins_walk (w : World) (hE : Env w) (s dir : ByteArray) :
    Calls Tryd.prog 5 #[.string s, .string dir] w fun e w' => e = .returned (.bool true) ∧ Below w.heap.size w w' := by
  have HE := Lib.hid hE
  clear hE
  by_cases hs : s.size ≤ 10000
  · have hs2 : ¬ 10000 < s.size := by omega
    have hs4 : decide (10000 < s.size) = false := decide_eq_false hs2
    have hs3 : s.size ≤ 2^30 := by omega
    by_cases hd : dir.size ≤ 10000
    · have hd2 : ¬ 10000 < dir.size := by omega
      have hd4 : decide (10000 < dir.size) = false := decide_eq_false hd2
      have hd3 : dir.size ≤ 2^30 := by omega
      go_enter Tryd.func5, Tryd.ntmps5
      go_wp2_with fail
      refine (shown_any _ HE.out).mono ?_
      rintro e w1 ⟨rfl, hb1⟩
      have Hb1 := Lib.hid hb1
      clear hb1
      go_wp2_with fail
      refine (child_any _ (HE.out.below Hb1.out) s dir hs3 hd3).mono ?_
      rintro e w2 ⟨rfl, hb2⟩
      have Hb2 := Lib.hid (Hb1.out.trans (hb2.mono Hb1.out.size))
      clear hb2
      go_wp2_with fail
      refine (refchild_any _ s dir hs3 hd3).mono ?_
      rintro e w3 ⟨rfl, hb3⟩
      have Hb3 := Lib.hid (Hb2.out.trans (hb3.mono Hb2.out.size))
      clear hb3
      generalize (childP s dir).getD ⟨#[]⟩ = cb at *
      generalize (childP s dir).isSome = ci at *
      have e1 := self_eq cb
      go_wp2_with fail
      refine (within_any _ (HE.out.below Hb3.out) s dir hs3 hd3).mono ?_
      rintro e w4 ⟨rfl, hb4⟩
      have Hb4 := Lib.hid (Hb3.out.trans (hb4.mono Hb3.out.size))
      clear hb4
      go_wp2_with fail
      refine (refwithin_any _ s dir hs3 hd3).mono ?_
      rintro e w5 ⟨rfl, hb5⟩
      have Hb5 := Lib.hid (Hb4.out.trans (hb5.mono Hb4.out.size))
      clear hb5
      generalize (behindP s dir).isSome = bi at *
      cases bi <;> cases ci
      all_goals
        go_wp2
        go_ret
        exact ⟨rfl, Hb5.out⟩
    · have hd2 : 10000 < dir.size := by omega
      have hd4 : decide (10000 < dir.size) = true := decide_eq_true hd2
      go_enter Tryd.func5, Tryd.ntmps5
      go_wp2_with fail
      refine (shown_any _ HE.out).mono ?_
      rintro e w1 ⟨rfl, hb1⟩
      have Hb1 := Lib.hid hb1
      clear hb1
      go_wp2
      go_ret
      exact ⟨rfl, Hb1.out⟩
  · have hs2 : 10000 < s.size := by omega
    have hs4 : decide (10000 < s.size) = true := decide_eq_true hs2
    go_enter Tryd.func5, Tryd.ntmps5
    go_wp2_with fail
    refine (shown_any _ HE.out).mono ?_
    rintro e w1 ⟨rfl, hb1⟩
    have Hb1 := Lib.hid hb1
    clear hb1
    go_wp2
    go_ret
    exact ⟨rfl, Hb1.out⟩
end Go.Proofs.YtdillaedlpplhaaDoor
