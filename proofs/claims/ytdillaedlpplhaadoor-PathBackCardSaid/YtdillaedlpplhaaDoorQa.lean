/- The walk over the statement PathParses. -/
import Derived.Test.YtdillaedlpplhaaDoorPn
namespace Go.Proofs.YtdillaedlpplhaaDoor
open Go.RowKit Go.PathPure Go.XR

theorem self_eq (s : ByteArray) : (s.toList == s.toList) = true := beq_self_eq_true _

def RetP (w : World) (L : List ByteArray) (v : Int) (e : Ending) (w' : World) : Prop := ∃ a c, e = .returned (.tuple #[.slice a L.length c, .int .i64 v]) ∧ Row w' a (strs L) ∧ L.length ≤ c ∧ Below w.heap.size w w'
theorem RetParse.toP {w : World} {s : ByteArray} {e : Ending} {w' : World} (h : RetParse w s e w') {L : List ByteArray} {v : Int} (hL : (parse s).getD [] = L) (hv : (if (parse s).isSome then (0 : Int) else 170) = v) : RetP w L v e w' := by
  obtain ⟨a, c, h1, h2, h3, _, h4⟩ := h
  subst hL hv
  exact ⟨a, c, h1, h2, h3, h4⟩

set_option maxHeartbeats 2000000 in
set_option maxRecDepth 100000 in
theorem parses_walk (w : World) (hE : Env w) (s : ByteArray) :
    Calls Tryd.prog 3 #[.string s] w fun e w' => e = .returned (.bool true) ∧ Below w.heap.size w w' := by
  have HE := Lib.hid hE
  clear hE
  by_cases hs : s.size ≤ 10000
  · have hs2 : ¬ 10000 < s.size := by omega
    have hs3 : s.size ≤ 2^30 := by omega
    have hl : ((parse s).getD []).length ≤ 16 := by
      cases hp : parse s with
      | none => simp
      | some l => exact parse_len hp
    obtain ⟨L, hL⟩ : ∃ L, (parse s).getD [] = L := ⟨_, rfl⟩
    obtain ⟨v, hv⟩ : ∃ v : Int, (if (parse s).isSome then (0 : Int) else 170) = v := ⟨_, rfl⟩
    rw [hL] at hl
    have HL := Lib.hid (And.intro hL hv)
    clear hL hv
    go_enter Tryd.func3, Tryd.ntmps3
    go_wp2_with fail
    refine (shown_any _ HE.out).mono ?_
    rintro e w1 ⟨rfl, hb1⟩
    have Hb1 := Lib.hid hb1
    clear hb1
    go_wp2_with fail
    refine (parse_any _ (HE.out.below Hb1.out) s hs3).mono ?_
    rintro e w2 h2
    obtain ⟨a2, c2, rfl, hr2, _, hb2⟩ := h2.toP HL.out.1 HL.out.2
    have Hb2 := Lib.hid (Hb1.out.trans (hb2.mono Hb1.out.size))
    have Hr2 := Lib.hid hr2
    clear hr2 hb2 h2
    go_wp2_with fail
    refine (refparse_any _ s hs3).mono ?_
    rintro e w3 h3
    obtain ⟨a3, c3, rfl, hr3, _, hb3⟩ := h3.toP HL.out.1 HL.out.2
    have Hb3 := Lib.hid (Hb2.out.trans (hb3.mono Hb2.out.size))
    have Hr23 := Lib.hid (Row.below hb3 Hr2.out)
    have Hr3 := Lib.hid hr3
    clear hr3 hb3 h3
    go_wp2_with fail
    refine (parent_any _ (HE.out.below Hb3.out) s hs3).mono ?_
    rintro e w4 ⟨rfl, hb4⟩
    have Hb4 := Lib.hid (Hb3.out.trans (hb4.mono Hb3.out.size))
    have Hr24 := Lib.hid (Row.below hb4 Hr23.out)
    have Hr34 := Lib.hid (Row.below hb4 Hr3.out)
    clear hb4
    go_wp2_with fail
    refine (refparent_any _ s hs3).mono ?_
    rintro e w5 ⟨rfl, hb5⟩
    have Hb5 := Lib.hid (Hb4.out.trans (hb5.mono Hb4.out.size))
    have Hr25 := Lib.hid (Row.below hb5 Hr24.out)
    have Hr35 := Lib.hid (Row.below hb5 Hr34.out)
    clear hb5
    generalize parB s = pb at *
    generalize parN s = pn at *
    generalize parE s = pe at *
    have e1 := self_eq pb
    have e2 := self_eq pn
    go_wp2_with fail
    refine (texts_any _ a2 a3 c2 c3 L L Hr25.out Hr35.out (by omega)).mono ?_
    rintro e w6 ⟨rfl, hb6⟩
    rw [show decide (L = L) = true from decide_eq_true rfl]
    have Hb6 := Lib.hid (Hb5.out.trans (hb6.mono Hb5.out.size))
    clear hb6
    go_wp2_with fail
    refine (name_any _ (HE.out.below Hb6.out).tabs s).mono ?_
    rintro e w7 ⟨rfl, hb7⟩
    have Hb7 := Lib.hid (Hb6.out.trans (hb7.mono Hb6.out.size))
    clear hb7
    go_wp2_with fail
    refine (refname_any _ s).mono ?_
    rintro e w8 ⟨rfl, hb8⟩
    have Hb8 := Lib.hid (Hb7.out.trans (hb8.mono Hb7.out.size))
    clear hb8
    generalize isName s = nm at *
    cases nm
    all_goals
      go_wp2
      go_ret
      exact ⟨rfl, Hb8.out⟩
  · have hs2 : 10000 < s.size := by omega
    go_enter Tryd.func3, Tryd.ntmps3
    go_wp2_with fail
    refine (shown_any _ HE.out).mono ?_
    rintro e w1 ⟨rfl, hb1⟩
    have Hb1 := Lib.hid hb1
    clear hb1
    go_wp2
    go_ret
    exact ⟨rfl, Hb1.out⟩
end Go.Proofs.YtdillaedlpplhaaDoor
