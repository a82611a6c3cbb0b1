/- The walks over the statements PathOrder, PathBack. -/
import Derived.Test.YtdillaedlpplhaaDoorQb
namespace Go.Proofs.YtdillaedlpplhaaDoor
open Go.RowKit Go.PathPure Go.XR

set_option maxHeartbeats 4000000 in
set_option maxRecDepth 100000 in
theorem order_walk (w : World) (hE : Env w) (a b c : ByteArray) :
    Calls Tryd.prog 4 #[.string a, .string b, .string c] w fun e w' => e = .returned (.bool true) ∧ Below w.heap.size w w' := by
  have HE := Lib.hid hE
  clear hE
  by_cases ha : a.size ≤ 10000
  · have ha4 : decide (10000 < a.size) = false := decide_eq_false (by omega)
    have ha3 : a.size ≤ 2^30 := by omega
    by_cases hb : b.size ≤ 10000
    · have hb4 : decide (10000 < b.size) = false := decide_eq_false (by omega)
      have hb3 : b.size ≤ 2^30 := by omega
      by_cases hc : c.size ≤ 10000
      · have hc4 : decide (10000 < c.size) = false := decide_eq_false (by omega)
        have hc3 : c.size ≤ 2^30 := by omega
        obtain ⟨L, hL⟩ : ∃ L, (parse a).getD [] = L := ⟨_, rfl⟩
        obtain ⟨v, hv⟩ : ∃ v : Int, (if (parse a).isSome then (0 : Int) else 170) = v := ⟨_, rfl⟩
        have HL := Lib.hid (And.intro hL hv)
        have hvv : Hid ((v == 0) = (behindP a a).isSome) := by
          unfold Hid; rw [within_refl, ← hv]; cases (parse a).isSome <;> rfl
        clear hL hv
        obtain ⟨aa, haa⟩ : ∃ x, (behindP a a).isSome = x := ⟨_, rfl⟩
        obtain ⟨ab, hab⟩ : ∃ x, (behindP a b).isSome = x := ⟨_, rfl⟩
        obtain ⟨ba, hba⟩ : ∃ x, (behindP b a).isSome = x := ⟨_, rfl⟩
        obtain ⟨bc, hbc⟩ : ∃ x, (behindP b c).isSome = x := ⟨_, rfl⟩
        obtain ⟨ac, hac⟩ : ∃ x, (behindP a c).isSome = x := ⟨_, rfl⟩
        have htr : ab = true → bc = true → ac = true := fun h1 h2 => by rw [← hac]; exact within_trans (hab.trans h1) (hbc.trans h2)
        have han : ab = true → ba = true → (a.toList == b.toList) = true := fun h1 h2 => by rw [within_anti (hab.trans h1) (hba.trans h2)]; exact self_eq b
        rw [haa] at hvv
        have Haa := Lib.hid haa
        have Hab := Lib.hid hab
        have Hba := Lib.hid hba
        have Hbc := Lib.hid hbc
        have Hac := Lib.hid hac
        clear haa hab hba hbc hac
        have hv0 := hvv.out
        clear hvv
        cases ab with
        | false =>
          clear htr han
          cases aa
          all_goals
            go_enter Tryd.func4, Tryd.ntmps4
            go_wp2_with fail
            refine (shown_any _ HE.out).mono ?_
            rintro e w1 ⟨rfl, hb1⟩
            have Hb := Lib.hid hb1
            clear hb1
            go_wp2_with fail
            refine (parse_any _ (HE.out.below Hb.out) a ha3).mono ?_
            rintro e w2 h2
            obtain ⟨a2, c2, rfl, hr2, _, hb2⟩ := h2.toP HL.out.1 HL.out.2
            have Hb2 := Lib.hid (Hb.out.trans (hb2.mono Hb.out.size))
            clear hr2 hb2 h2 Hb
            have Hb := Hb2; clear Hb2
            go_wp2_with fail
            refine (within_any _ (HE.out.below Hb.out) a a ha3 ha3).mono ?_
            rintro e w2 ⟨rfl, hb2⟩
            have Hb2 := Lib.hid (Hb.out.trans (hb2.mono Hb.out.size))
            clear hb2 Hb
            have Hb := Hb2; clear Hb2
            rw [Haa.out]
            go_wp2_with fail
            refine (within_any _ (HE.out.below Hb.out) a b ha3 hb3).mono ?_
            rintro e w2 ⟨rfl, hb2⟩
            have Hb2 := Lib.hid (Hb.out.trans (hb2.mono Hb.out.size))
            clear hb2 Hb
            have Hb := Hb2; clear Hb2
            rw [Hab.out]
            go_wp2_with fail
            refine (within_any _ (HE.out.below Hb.out) a b ha3 hb3).mono ?_
            rintro e w2 ⟨rfl, hb2⟩
            have Hb2 := Lib.hid (Hb.out.trans (hb2.mono Hb.out.size))
            clear hb2 Hb
            have Hb := Hb2; clear Hb2
            rw [Hab.out]
            go_wp2
            go_ret
            exact ⟨rfl, Hb.out⟩
        | true =>
          have htr := htr rfl
          have han := han rfl
          cases bc with
          | false =>
            clear htr
            cases ba with
            | false =>
              clear han
              cases aa
              all_goals
                go_enter Tryd.func4, Tryd.ntmps4
                go_wp2_with fail
                refine (shown_any _ HE.out).mono ?_
                rintro e w1 ⟨rfl, hb1⟩
                have Hb := Lib.hid hb1
                clear hb1
                go_wp2_with fail
                refine (parse_any _ (HE.out.below Hb.out) a ha3).mono ?_
                rintro e w2 h2
                obtain ⟨a2, c2, rfl, hr2, _, hb2⟩ := h2.toP HL.out.1 HL.out.2
                have Hb2 := Lib.hid (Hb.out.trans (hb2.mono Hb.out.size))
                clear hr2 hb2 h2 Hb
                have Hb := Hb2; clear Hb2
                go_wp2_with fail
                refine (within_any _ (HE.out.below Hb.out) a a ha3 ha3).mono ?_
                rintro e w2 ⟨rfl, hb2⟩
                have Hb2 := Lib.hid (Hb.out.trans (hb2.mono Hb.out.size))
                clear hb2 Hb
                have Hb := Hb2; clear Hb2
                rw [Haa.out]
                go_wp2_with fail
                refine (within_any _ (HE.out.below Hb.out) a b ha3 hb3).mono ?_
                rintro e w2 ⟨rfl, hb2⟩
                have Hb2 := Lib.hid (Hb.out.trans (hb2.mono Hb.out.size))
                clear hb2 Hb
                have Hb := Hb2; clear Hb2
                rw [Hab.out]
                go_wp2_with fail
                refine (within_any _ (HE.out.below Hb.out) b c hb3 hc3).mono ?_
                rintro e w2 ⟨rfl, hb2⟩
                have Hb2 := Lib.hid (Hb.out.trans (hb2.mono Hb.out.size))
                clear hb2 Hb
                have Hb := Hb2; clear Hb2
                rw [Hbc.out]
                go_wp2_with fail
                refine (within_any _ (HE.out.below Hb.out) a b ha3 hb3).mono ?_
                rintro e w2 ⟨rfl, hb2⟩
                have Hb2 := Lib.hid (Hb.out.trans (hb2.mono Hb.out.size))
                clear hb2 Hb
                have Hb := Hb2; clear Hb2
                rw [Hab.out]
                go_wp2_with fail
                refine (within_any _ (HE.out.below Hb.out) b a hb3 ha3).mono ?_
                rintro e w2 ⟨rfl, hb2⟩
                have Hb2 := Lib.hid (Hb.out.trans (hb2.mono Hb.out.size))
                clear hb2 Hb
                have Hb := Hb2; clear Hb2
                rw [Hba.out]
                go_wp2
                go_ret
                exact ⟨rfl, Hb.out⟩
            | true =>
              have han := han rfl
              cases aa
              all_goals
                go_enter Tryd.func4, Tryd.ntmps4
                go_wp2_with fail
                refine (shown_any _ HE.out).mono ?_
                rintro e w1 ⟨rfl, hb1⟩
                have Hb := Lib.hid hb1
                clear hb1
                go_wp2_with fail
                refine (parse_any _ (HE.out.below Hb.out) a ha3).mono ?_
                rintro e w2 h2
                obtain ⟨a2, c2, rfl, hr2, _, hb2⟩ := h2.toP HL.out.1 HL.out.2
                have Hb2 := Lib.hid (Hb.out.trans (hb2.mono Hb.out.size))
                clear hr2 hb2 h2 Hb
                have Hb := Hb2; clear Hb2
                go_wp2_with fail
                refine (within_any _ (HE.out.below Hb.out) a a ha3 ha3).mono ?_
                rintro e w2 ⟨rfl, hb2⟩
                have Hb2 := Lib.hid (Hb.out.trans (hb2.mono Hb.out.size))
                clear hb2 Hb
                have Hb := Hb2; clear Hb2
                rw [Haa.out]
                go_wp2_with fail
                refine (within_any _ (HE.out.below Hb.out) a b ha3 hb3).mono ?_
                rintro e w2 ⟨rfl, hb2⟩
                have Hb2 := Lib.hid (Hb.out.trans (hb2.mono Hb.out.size))
                clear hb2 Hb
                have Hb := Hb2; clear Hb2
                rw [Hab.out]
                go_wp2_with fail
                refine (within_any _ (HE.out.below Hb.out) b c hb3 hc3).mono ?_
                rintro e w2 ⟨rfl, hb2⟩
                have Hb2 := Lib.hid (Hb.out.trans (hb2.mono Hb.out.size))
                clear hb2 Hb
                have Hb := Hb2; clear Hb2
                rw [Hbc.out]
                go_wp2_with fail
                refine (within_any _ (HE.out.below Hb.out) a b ha3 hb3).mono ?_
                rintro e w2 ⟨rfl, hb2⟩
                have Hb2 := Lib.hid (Hb.out.trans (hb2.mono Hb.out.size))
                clear hb2 Hb
                have Hb := Hb2; clear Hb2
                rw [Hab.out]
                go_wp2_with fail
                refine (within_any _ (HE.out.below Hb.out) b a hb3 ha3).mono ?_
                rintro e w2 ⟨rfl, hb2⟩
                have Hb2 := Lib.hid (Hb.out.trans (hb2.mono Hb.out.size))
                clear hb2 Hb
                have Hb := Hb2; clear Hb2
                rw [Hba.out]
                go_wp2
                go_ret
                exact ⟨rfl, Hb.out⟩
          | true =>
            have htr := htr rfl
            subst htr
            cases ba with
            | false =>
              clear han
              cases aa
              all_goals
                go_enter Tryd.func4, Tryd.ntmps4
                go_wp2_with fail
                refine (shown_any _ HE.out).mono ?_
                rintro e w1 ⟨rfl, hb1⟩
                have Hb := Lib.hid hb1
                clear hb1
                go_wp2_with fail
                refine (parse_any _ (HE.out.below Hb.out) a ha3).mono ?_
                rintro e w2 h2
                obtain ⟨a2, c2, rfl, hr2, _, hb2⟩ := h2.toP HL.out.1 HL.out.2
                have Hb2 := Lib.hid (Hb.out.trans (hb2.mono Hb.out.size))
                clear hr2 hb2 h2 Hb
                have Hb := Hb2; clear Hb2
                go_wp2_with fail
                refine (within_any _ (HE.out.below Hb.out) a a ha3 ha3).mono ?_
                rintro e w2 ⟨rfl, hb2⟩
                have Hb2 := Lib.hid (Hb.out.trans (hb2.mono Hb.out.size))
                clear hb2 Hb
                have Hb := Hb2; clear Hb2
                rw [Haa.out]
                go_wp2_with fail
                refine (within_any _ (HE.out.below Hb.out) a b ha3 hb3).mono ?_
                rintro e w2 ⟨rfl, hb2⟩
                have Hb2 := Lib.hid (Hb.out.trans (hb2.mono Hb.out.size))
                clear hb2 Hb
                have Hb := Hb2; clear Hb2
                rw [Hab.out]
                go_wp2_with fail
                refine (within_any _ (HE.out.below Hb.out) b c hb3 hc3).mono ?_
                rintro e w2 ⟨rfl, hb2⟩
                have Hb2 := Lib.hid (Hb.out.trans (hb2.mono Hb.out.size))
                clear hb2 Hb
                have Hb := Hb2; clear Hb2
                rw [Hbc.out]
                go_wp2_with fail
                refine (within_any _ (HE.out.below Hb.out) a c ha3 hc3).mono ?_
                rintro e w2 ⟨rfl, hb2⟩
                have Hb2 := Lib.hid (Hb.out.trans (hb2.mono Hb.out.size))
                clear hb2 Hb
                have Hb := Hb2; clear Hb2
                rw [Hac.out]
                go_wp2_with fail
                refine (within_any _ (HE.out.below Hb.out) a b ha3 hb3).mono ?_
                rintro e w2 ⟨rfl, hb2⟩
                have Hb2 := Lib.hid (Hb.out.trans (hb2.mono Hb.out.size))
                clear hb2 Hb
                have Hb := Hb2; clear Hb2
                rw [Hab.out]
                go_wp2_with fail
                refine (within_any _ (HE.out.below Hb.out) b a hb3 ha3).mono ?_
                rintro e w2 ⟨rfl, hb2⟩
                have Hb2 := Lib.hid (Hb.out.trans (hb2.mono Hb.out.size))
                clear hb2 Hb
                have Hb := Hb2; clear Hb2
                rw [Hba.out]
                go_wp2
                go_ret
                exact ⟨rfl, Hb.out⟩
            | true =>
              have han := han rfl
              cases aa
              all_goals
                go_enter Tryd.func4, Tryd.ntmps4
                go_wp2_with fail
                refine (shown_any _ HE.out).mono ?_
                rintro e w1 ⟨rfl, hb1⟩
                have Hb := Lib.hid hb1
                clear hb1
                go_wp2_with fail
                refine (parse_any _ (HE.out.below Hb.out) a ha3).mono ?_
                rintro e w2 h2
                obtain ⟨a2, c2, rfl, hr2, _, hb2⟩ := h2.toP HL.out.1 HL.out.2
                have Hb2 := Lib.hid (Hb.out.trans (hb2.mono Hb.out.size))
                clear hr2 hb2 h2 Hb
                have Hb := Hb2; clear Hb2
                go_wp2_with fail
                refine (within_any _ (HE.out.below Hb.out) a a ha3 ha3).mono ?_
                rintro e w2 ⟨rfl, hb2⟩
                have Hb2 := Lib.hid (Hb.out.trans (hb2.mono Hb.out.size))
                clear hb2 Hb
                have Hb := Hb2; clear Hb2
                rw [Haa.out]
                go_wp2_with fail
                refine (within_any _ (HE.out.below Hb.out) a b ha3 hb3).mono ?_
                rintro e w2 ⟨rfl, hb2⟩
                have Hb2 := Lib.hid (Hb.out.trans (hb2.mono Hb.out.size))
                clear hb2 Hb
                have Hb := Hb2; clear Hb2
                rw [Hab.out]
                go_wp2_with fail
                refine (within_any _ (HE.out.below Hb.out) b c hb3 hc3).mono ?_
                rintro e w2 ⟨rfl, hb2⟩
                have Hb2 := Lib.hid (Hb.out.trans (hb2.mono Hb.out.size))
                clear hb2 Hb
                have Hb := Hb2; clear Hb2
                rw [Hbc.out]
                go_wp2_with fail
                refine (within_any _ (HE.out.below Hb.out) a c ha3 hc3).mono ?_
                rintro e w2 ⟨rfl, hb2⟩
                have Hb2 := Lib.hid (Hb.out.trans (hb2.mono Hb.out.size))
                clear hb2 Hb
                have Hb := Hb2; clear Hb2
                rw [Hac.out]
                go_wp2_with fail
                refine (within_any _ (HE.out.below Hb.out) a b ha3 hb3).mono ?_
                rintro e w2 ⟨rfl, hb2⟩
                have Hb2 := Lib.hid (Hb.out.trans (hb2.mono Hb.out.size))
                clear hb2 Hb
                have Hb := Hb2; clear Hb2
                rw [Hab.out]
                go_wp2_with fail
                refine (within_any _ (HE.out.below Hb.out) b a hb3 ha3).mono ?_
                rintro e w2 ⟨rfl, hb2⟩
                have Hb2 := Lib.hid (Hb.out.trans (hb2.mono Hb.out.size))
                clear hb2 Hb
                have Hb := Hb2; clear Hb2
                rw [Hba.out]
                go_wp2
                go_ret
                exact ⟨rfl, Hb.out⟩
      · have hc4 : decide (10000 < c.size) = true := decide_eq_true (by omega)
        go_enter Tryd.func4, Tryd.ntmps4
        go_wp2_with fail
        refine (shown_any _ HE.out).mono ?_
        rintro e w1 ⟨rfl, hb1⟩
        have Hb := Lib.hid hb1
        clear hb1
        go_wp2
        go_ret
        exact ⟨rfl, Hb.out⟩
    · have hb4 : decide (10000 < b.size) = true := decide_eq_true (by omega)
      go_enter Tryd.func4, Tryd.ntmps4
      go_wp2_with fail
      refine (shown_any _ HE.out).mono ?_
      rintro e w1 ⟨rfl, hb1⟩
      have Hb := Lib.hid hb1
      clear hb1
      go_wp2
      go_ret
      exact ⟨rfl, Hb.out⟩
  · have ha4 : decide (10000 < a.size) = true := decide_eq_true (by omega)
    go_enter Tryd.func4, Tryd.ntmps4
    go_wp2_with fail
    refine (shown_any _ HE.out).mono ?_
    rintro e w1 ⟨rfl, hb1⟩
    have Hb := Lib.hid hb1
    clear hb1
    go_wp2
    go_ret
    exact ⟨rfl, Hb.out⟩

end Go.Proofs.YtdillaedlpplhaaDoor
