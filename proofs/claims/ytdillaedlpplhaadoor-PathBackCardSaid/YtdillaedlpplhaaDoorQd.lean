/- The walk over the statement PathBack. -/
import Derived.Test.YtdillaedlpplhaaDoorQb
namespace Go.Proofs.YtdillaedlpplhaaDoor
open Go.RowKit Go.PathPure Go.XR

set_option maxHeartbeats 4000000 in
set_option maxRecDepth 100000 in
theorem back_walk (w : World) (hE : Env w) (s : ByteArray) (a : Option Addr) (c : Nat) (l : List ByteArray) (hL : Row w a (strs l)) (hc : l.length ≤ c) (hl : l.length ≤ maxLen) :
    Calls Tryd.prog 7 #[.string s, .slice a l.length c] w fun e w' => e = .returned (.bool true) ∧ Below w.heap.size w w' := by
  have HE := Lib.hid hE
  have HL := Lib.hid hL
  clear hE hL
  unfold maxLen at hl
  by_cases hs : s.size ≤ 10000
  · have hs4 : decide (10000 < s.size) = false := decide_eq_false (by omega)
    have hs3 : s.size ≤ 2^30 := by omega
    by_cases h1 : l.length ≤ 100
    · have hl4 : decide (100 < l.length) = false := decide_eq_false (by omega)
      cases hp : parse s with
      | some m =>
        have hm := parse_len hp
        have Hp := Lib.hid hp
        have Hm := Lib.hid (parse_some hp)
        clear hp
        have es := self_eq s
        go_enter Tryd.func7, Tryd.ntmps7
        go_wp2_with fail
        refine (shown_any _ HE.out).mono ?_
        rintro e w1 ⟨rfl, hb1⟩
        have Hb := Lib.hid hb1
        clear hb1
        go_wp2_with fail
        refine (parse_any _ (HE.out.below Hb.out) s hs3).mono ?_
        rintro e w2 h2
        obtain ⟨a2, c2, rfl, hr2, hc2, _, hb2⟩ := h2.yes Hp.out
        have Hr2 := Lib.hid hr2
        clear h2 hr2
        have Hb2 := Lib.hid (Hb.out.trans (hb2.mono Hb.out.size))
        clear hb2 Hb
        have Hb := Hb2
        clear Hb2
        go_wp2_with fail
        refine (text_any _ (HE.out.below Hb.out) a2 c2 m Hr2.out hc2 (by omega)).mono ?_
        rintro e w2 ⟨rfl, hb2⟩
        rw [textB_ok Hm.out.1, textE_ok Hm.out.1, ← Hm.out.2]
        have Hb2 := Lib.hid (Hb.out.trans (hb2.mono Hb.out.size))
        clear hb2 Hb
        have Hb := Hb2
        clear Hb2
        cases ho : okNames l with
        | true =>
          have Ho := Lib.hid ho
          have Hsz : Hid ((B (tx l)).size ≤ 2^30) := by
            obtain ⟨h1, h2⟩ := ok_all ho
            have h3 : (B (tx l)).size = (tx l).length := rfl
            have h4 := fl_le h2
            unfold Hid
            rw [h3]; unfold tx
            split
            · simp
            · omega
          clear ho
          go_wp2_with fail
          refine (text_any _ (HE.out.below Hb.out) a c l (Row.below Hb.out HL.out) hc (by omega)).mono ?_
          rintro e w2 ⟨rfl, hb2⟩
          rw [textB_ok Ho.out, textE_ok Ho.out]
          have Hb2 := Lib.hid (Hb.out.trans (hb2.mono Hb.out.size))
          clear hb2 Hb
          have Hb := Hb2
          clear Hb2
          obtain ⟨t, ht⟩ : ∃ t, B (tx l) = t := ⟨_, rfl⟩
          have Ht := Lib.hid ht
          have Hpt : Hid (parse t = some l) := by unfold Hid; rw [← ht]; exact parse_tx Ho.out
          have Hsz2 : Hid (t.size ≤ 2^30) := by unfold Hid; rw [← ht]; exact Hsz.out
          rw [ht]
          clear ht Hsz
          go_wp2_with fail
          refine (parse_any _ (HE.out.below Hb.out) t Hsz2.out).mono ?_
          rintro e w2 h2
          obtain ⟨a3, c3, rfl, hr3, _, _, hb2⟩ := h2.yes Hpt.out
          have Hr3 := Lib.hid hr3
          clear h2 hr3
          have Hb2 := Lib.hid (Hb.out.trans (hb2.mono Hb.out.size))
          clear hb2 Hb
          have Hb := Hb2
          clear Hb2
          go_wp2_with fail
          refine (texts_any _ a3 a c3 c l l Hr3.out (Row.below Hb.out HL.out) (by omega)).mono ?_
          rintro e w2 ⟨rfl, hb2⟩
          rw [show decide (l = l) = true from decide_eq_true rfl]
          have Hb2 := Lib.hid (Hb.out.trans (hb2.mono Hb.out.size))
          clear hb2 Hb
          have Hb := Hb2
          clear Hb2
          go_wp2
          go_ret
          exact ⟨rfl, Hb.out⟩
        | false =>
          have Ho := Lib.hid ho
          clear ho
          go_wp2_with fail
          refine (text_any _ (HE.out.below Hb.out) a c l (Row.below Hb.out HL.out) hc (by omega)).mono ?_
          rintro e w2 ⟨rfl, hb2⟩
          rw [textB_no Ho.out, textE_no Ho.out]
          have Hb2 := Lib.hid (Hb.out.trans (hb2.mono Hb.out.size))
          clear hb2 Hb
          have Hb := Hb2
          clear Hb2
          go_wp2_with fail
          refine (parse_any _ (HE.out.below Hb.out) ⟨#[]⟩ (by decide)).mono ?_
          rintro e w2 h2
          obtain ⟨a3, c3, rfl, hb2⟩ := h2.no parse_empty
          clear h2
          have Hb2 := Lib.hid (Hb.out.trans (hb2.mono Hb.out.size))
          clear hb2 Hb
          have Hb := Hb2
          clear Hb2
          go_wp2
          go_ret
          exact ⟨rfl, Hb.out⟩
      | none =>
        have Hp := Lib.hid hp
        clear hp
        go_enter Tryd.func7, Tryd.ntmps7
        go_wp2_with fail
        refine (shown_any _ HE.out).mono ?_
        rintro e w1 ⟨rfl, hb1⟩
        have Hb := Lib.hid hb1
        clear hb1
        go_wp2_with fail
        refine (parse_any _ (HE.out.below Hb.out) s hs3).mono ?_
        rintro e w2 h2
        obtain ⟨a2, c2, rfl, hb2⟩ := h2.no Hp.out
        clear h2
        have Hb2 := Lib.hid (Hb.out.trans (hb2.mono Hb.out.size))
        clear hb2 Hb
        have Hb := Hb2
        clear Hb2
        go_wp2_with fail
        refine (text_any _ (HE.out.below Hb.out) a2 c2 [] (.inl rfl) (Nat.zero_le _) (by decide)).mono ?_
        rintro e w2 ⟨rfl, hb2⟩
        rw [textB_ok (l := []) rfl, textE_ok (l := []) rfl]
        generalize B (tx []) = t0
        have Hb2 := Lib.hid (Hb.out.trans (hb2.mono Hb.out.size))
        clear hb2 Hb
        have Hb := Hb2
        clear Hb2
        cases ho : okNames l with
        | true =>
          have Ho := Lib.hid ho
          have Hsz : Hid ((B (tx l)).size ≤ 2^30) := by
            obtain ⟨h1, h2⟩ := ok_all ho
            have h3 : (B (tx l)).size = (tx l).length := rfl
            have h4 := fl_le h2
            unfold Hid
            rw [h3]; unfold tx
            split
            · simp
            · omega
          clear ho
          go_wp2_with fail
          refine (text_any _ (HE.out.below Hb.out) a c l (Row.below Hb.out HL.out) hc (by omega)).mono ?_
          rintro e w2 ⟨rfl, hb2⟩
          rw [textB_ok Ho.out, textE_ok Ho.out]
          have Hb2 := Lib.hid (Hb.out.trans (hb2.mono Hb.out.size))
          clear hb2 Hb
          have Hb := Hb2
          clear Hb2
          obtain ⟨t, ht⟩ : ∃ t, B (tx l) = t := ⟨_, rfl⟩
          have Ht := Lib.hid ht
          have Hpt : Hid (parse t = some l) := by unfold Hid; rw [← ht]; exact parse_tx Ho.out
          have Hsz2 : Hid (t.size ≤ 2^30) := by unfold Hid; rw [← ht]; exact Hsz.out
          rw [ht]
          clear ht Hsz
          go_wp2_with fail
          refine (parse_any _ (HE.out.below Hb.out) t Hsz2.out).mono ?_
          rintro e w2 h2
          obtain ⟨a3, c3, rfl, hr3, _, _, hb2⟩ := h2.yes Hpt.out
          have Hr3 := Lib.hid hr3
          clear h2 hr3
          have Hb2 := Lib.hid (Hb.out.trans (hb2.mono Hb.out.size))
          clear hb2 Hb
          have Hb := Hb2
          clear Hb2
          go_wp2_with fail
          refine (texts_any _ a3 a c3 c l l Hr3.out (Row.below Hb.out HL.out) (by omega)).mono ?_
          rintro e w2 ⟨rfl, hb2⟩
          rw [show decide (l = l) = true from decide_eq_true rfl]
          have Hb2 := Lib.hid (Hb.out.trans (hb2.mono Hb.out.size))
          clear hb2 Hb
          have Hb := Hb2
          clear Hb2
          go_wp2
          go_ret
          exact ⟨rfl, Hb.out⟩
        | false =>
          have Ho := Lib.hid ho
          clear ho
          go_wp2_with fail
          refine (text_any _ (HE.out.below Hb.out) a c l (Row.below Hb.out HL.out) hc (by omega)).mono ?_
          rintro e w2 ⟨rfl, hb2⟩
          rw [textB_no Ho.out, textE_no Ho.out]
          have Hb2 := Lib.hid (Hb.out.trans (hb2.mono Hb.out.size))
          clear hb2 Hb
          have Hb := Hb2
          clear Hb2
          go_wp2_with fail
          refine (parse_any _ (HE.out.below Hb.out) ⟨#[]⟩ (by decide)).mono ?_
          rintro e w2 h2
          obtain ⟨a3, c3, rfl, hb2⟩ := h2.no parse_empty
          clear h2
          have Hb2 := Lib.hid (Hb.out.trans (hb2.mono Hb.out.size))
          clear hb2 Hb
          have Hb := Hb2
          clear Hb2
          go_wp2
          go_ret
          exact ⟨rfl, Hb.out⟩
    · have hl4 : decide (100 < l.length) = true := decide_eq_true (by omega)
      go_enter Tryd.func7, Tryd.ntmps7
      go_wp2_with fail
      refine (shown_any _ HE.out).mono ?_
      rintro e w1 ⟨rfl, hb1⟩
      have Hb := Lib.hid hb1
      clear hb1
      go_wp2
      go_ret
      exact ⟨rfl, Hb.out⟩
  · have hs4 : decide (10000 < s.size) = true := decide_eq_true (by omega)
    go_enter Tryd.func7, Tryd.ntmps7
    go_wp2_with fail
    refine (shown_any _ HE.out).mono ?_
    rintro e w1 ⟨rfl, hb1⟩
    have Hb := Lib.hid hb1
    clear hb1
    go_wp2
    go_ret
    exact ⟨rfl, Hb.out⟩
end Go.Proofs.YtdillaedlpplhaaDoor
