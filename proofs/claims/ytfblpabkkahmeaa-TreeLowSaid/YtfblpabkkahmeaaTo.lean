/- The walk over the statement TreeLow. -/
import Derived.Test.YtfblpabkkahmeaaTl
namespace Go.Proofs.Ytfblpabkkahmeaa
open Go.RowKit Go.TreePure Go.XR

set_option maxHeartbeats 8000000 in
set_option maxRecDepth 100000 in
theorem tree_low_walk (w : World) (a : Option Addr) (c : Nat) (L : List Deed) (hL : Row w a (cellsA L)) (hl : L.length ≤ maxLen) (hc : L.length ≤ c) :
    Calls Try.prog 8 #[.slice a L.length c] w fun e w' => e = .returned (.bool true) ∧ Below w.heap.size w w' := by
  have HL := Lib.hid hL
  clear hL
  go_enter Try.func8, Try.ntmps8
  go_wp2_with fail
  refine (shown_any _).mono ?_
  rintro e w1 ⟨rfl, hb1⟩
  go_wp2_with fail
  refine (few_any _ a c L (HL.out.below hb1) hl hc).mono ?_
  rintro e w2 ⟨m, hm1, hm2, rfl, hb2⟩
  have Hb2 := Lib.hid (hb1.trans (hb2.mono hb1.size))
  clear hb1 hb2
  have Hl := Lib.hid hl
  clear hl
  go_wp2_with fail
  go_loopg [12, 4] m (fun n i p wr => Below w.heap.size w wr ∧ ∃ (k : Nat) (q : Option Addr) (T : PT), k ≤ m ∧ i = .int .i64 k ∧ p = .pointer q ∧ Hid (n = m - k ∧ Rep wr q T ∧ Srt T.list ∧ T.Bal ∧ T.size ≤ k))
  case atStart => exact ⟨Hb2.out, 0, none, .nil, Nat.zero_le _, rfl, rfl, rfl, rfl, srt_nil, trivial, Nat.le_refl _⟩
  case round =>
    obtain ⟨hb, k, q, T, hk, rfl, rfl, hT⟩ := hrel
    have hsz : T.size ≤ k := hT.out.2.2.2.2
    obtain ⟨bt, hbt⟩ := Blk.of hT.out.2.1
    have Hbt := Lib.hid hbt
    have Hsr := Lib.hid hT.out.2.2.1
    have Hba := Lib.hid hT.out.2.2.2.1
    have Hn := Lib.hid hT.out.1
    clear hbt hT
    by_cases hlt : k < m
    · have hltL : k < L.length := by omega
      obtain ⟨g, o, rfl, c0, c1, c2⟩ := act_at (HL.out.below hb) hltL
      have Hb := Lib.hid hb
      have hi1 : (k : Int) < (m : Int) := by omega
      clear hb
      go_wp2_with fail
      refine (does_marked (S := fun b => decide (b ∈ bt)) _ q (FT.old T) L[k] ((Hbt.out.old (fun b hb => decide_eq_true hb)).alloc _) (by rw [← FT.er_size, FT.er_old]; omega)).mono ?_
      rintro e w3 ⟨p3, rfl, hp3, hb3⟩
      obtain ⟨bu, hbu, hnu⟩ := Blk.marked hp3
      rw [FT.er_does, FT.er_old] at hbu
      have hmk := FT.does_marks (FT.old T) L[k]
      rw [FT.marks_old, ← FT.er_ht, FT.er_old] at hmk
      have Hbt3 := Lib.hid (Hbt.out.below (((Below.refl _ _).alloc (Nat.le_refl _) _).trans (hb3.mono (by simp))))
      have Hb3 := Lib.hid ((Hb.out.alloc Hb.out.size _).trans (hb3.mono (by have := Hb.out.size; simp; omega)))
      have Hbu := Lib.hid hbu
      have hc1 : cnt bt 0 bu ≤ 3 * T.ht + 1 := by unfold cnt; omega
      have hc2 : cnt bu 0 bu = 0 := by
        unfold cnt
        have : (bu.filter fun b => !decide (b ∈ bu)) = [] := List.filter_eq_nil_iff.2 fun b hb => by simp [hb]
        rw [this]; rfl
      have Hc2 := Lib.hid hc2
      have HsU := Lib.hid (PT.does_srt Hsr.out L[k])
      have HbU := Lib.hid (PT.does_bal Hba.out L[k])
      have hus : (PT.does T L[k]).size ≤ k + 1 := by have := PT.does_size T L[k]; omega
      clear hp3 hb3 hbu hnu hmk hc2 c0 c1 c2
      generalize PT.does T L[k] = U at *
      have hht := PT.low16 HbU.out (by omega)
      have hht2 := PT.low16 Hba.out (by omega)
      have hz := PT.size_ht U
      have hd : decide (0 < U.size) = decide (0 < U.ht) := decide_eq_decide.2 hz
      clear hz
      go_wp2_with fail
      refine (height_any _ p3 U Hbu.out.rep).mono ?_
      rintro e w4 ⟨rfl, rfl⟩
      go_wp2_with fail
      refine (len_any _ p3 U Hbu.out.rep).mono ?_
      rintro e w4 ⟨rfl, rfl⟩
      go_wp2_with fail
      refine (low_any _ U.ht U.size hht (by omega) (PT.low HbU.out)).mono ?_
      rintro e w4 ⟨rfl, rfl⟩
      go_wp2_with fail
      refine (len_any _ p3 U Hbu.out.rep).mono ?_
      rintro e w4 ⟨rfl, rfl⟩
      go_wp2_with fail
      refine (height_any _ p3 U Hbu.out.rep).mono ?_
      rintro e w4 ⟨rfl, rfl⟩
      go_wp2_with fail
      refine (fresh_any _ p3 q U T bu bt Hbu.out Hbt3.out HsU.out Hsr.out (by omega)).mono ?_
      rintro e w4 ⟨rfl, hb4⟩
      have Hbu4 := Lib.hid (Hbu.out.below hb4)
      have Hbt4 := Lib.hid (Hbt3.out.below hb4)
      have Hb4 := Lib.hid (Hb3.out.trans (hb4.mono Hb3.out.size))
      clear hb4
      have g0 : ¬ ((cnt bt 0 bu : Nat) : Int) < 0 := by omega
      go_wp2_with fail
      refine (fresh_any _ p3 q U T bu bt Hbu4.out Hbt4.out HsU.out Hsr.out (by omega)).mono ?_
      rintro e w5 ⟨rfl, hb5⟩
      have Hbu5 := Lib.hid (Hbu4.out.below hb5)
      have Hbt5 := Lib.hid (Hbt4.out.below hb5)
      have Hb5 := Lib.hid (Hb4.out.trans (hb5.mono Hb4.out.size))
      clear hb5
      go_wp2_with fail
      refine (height_any _ q T Hbt5.out.rep).mono ?_
      rintro e w6 ⟨rfl, rfl⟩
      have g1 : ¬ 3 * ((T.ht : Int) + 2) < ((cnt bt 0 bu : Nat) : Int) := by omega
      go_wp2_with fail
      refine (fresh_any _ p3 p3 U U bu bu Hbu5.out Hbu5.out HsU.out HsU.out (by omega)).mono ?_
      rintro e w6 ⟨rfl, hb6⟩
      rw [Hc2.out]
      have Hbu6 := Lib.hid (Hbu5.out.below hb6)
      have Hb6 := Lib.hid (Hb5.out.trans (hb6.mono Hb5.out.size))
      clear hb6
      go_wp2
      go_roundg (m - (k + 1))
      case measure => have := Hn.out; omega
      case rel => exact ⟨Hb6.out, k + 1, p3, U, by omega, by go_num, rfl, rfl, Hbu6.out.rep, HsU.out, HbU.out, hus⟩
    · have hge : ¬ (k : Int) < (m : Int) := by omega
      have Hb := Lib.hid hb
      clear hb
      go_wp2
      go_ret
      exact ⟨rfl, Hb.out⟩
end Go.Proofs.Ytfblpabkkahmeaa
