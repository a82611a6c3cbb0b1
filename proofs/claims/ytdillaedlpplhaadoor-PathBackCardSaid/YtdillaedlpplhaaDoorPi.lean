/- The walk over the reference's Child. -/
import Derived.Test.YtdillaedlpplhaaDoorPh
namespace Go.Proofs.YtdillaedlpplhaaDoor
open Go.RowKit Go.PathPure Go.XR

set_option maxHeartbeats 2000000 in
set_option maxRecDepth 100000 in
theorem refchild_any (w : World) (s dir : ByteArray) (hs : s.size ≤ 2^30) (hd : dir.size ≤ 2^30) : Calls Tryd.prog 19 #[.string s, .string dir] w fun e w' => e = .returned (.tuple #[.string ((childP s dir).getD ⟨#[]⟩), .bool (childP s dir).isSome]) ∧ Below w.heap.size w w' := by
  cases hb : behindP s dir with
  | none =>
    have E : Hid (childP s dir = none) := by unfold Hid childP; rw [hb]
    have Hp := Lib.hid hb
    clear hb
    go_enter Tryd.func19, Tryd.ntmps19
    go_wp2_with fail
    refine (refparse_any _ s hs).mono ?_
    rintro e w1 ⟨a1, c1, rfl, _, _, _, hb1⟩
    generalize (Value.int .i64 (if (parse s).isSome = true then 0 else 170)) = v1
    generalize ((parse s).getD []).length = n1
    have Hb1 := Lib.hid hb1
    clear hb1
    go_wp2_with fail
    refine (refparse_any _ dir hd).mono ?_
    rintro e w2 ⟨a2, c2, rfl, _, _, _, hb2⟩
    generalize (Value.int .i64 (if (parse dir).isSome = true then 0 else 170)) = v2
    generalize ((parse dir).getD []).length = n2
    have Hb2 := Lib.hid (Hb1.out.trans (hb2.mono Hb1.out.size))
    clear hb2
    go_wp2_with fail
    refine (refwithin_any _ s dir hs hd).mono ?_
    rintro e w3 ⟨rfl, hb3⟩
    rw [Hp.out]
    have Hb3 := Lib.hid (Hb2.out.trans (hb3.mono Hb2.out.size))
    clear hb3
    go_wp2
    go_ret2
    exact ⟨by rw [E.out]; rfl, Hb3.out⟩
  | some r =>
    obtain ⟨l, m, hp, hq, hle, hr⟩ : ∃ l m, parse s = some l ∧ parse dir = some m ∧ m.length ≤ l.length ∧ r = l.drop m.length := by
      unfold behindP at hb
      cases hp : parse s with
      | none => rw [hp] at hb; cases hb
      | some l =>
        cases hq : parse dir with
        | none => rw [hp, hq] at hb; cases hb
        | some m =>
          rw [hp, hq] at hb
          simp only [] at hb
          split at hb
          · rename_i h; cases hb; exact ⟨l, m, rfl, rfl, h.1, rfl⟩
          · cases hb
    have hl := parse_len hp
    have Hw : Hid ((behindP s dir).isSome = true) := by unfold Hid; rw [hb]; rfl
    have Hp := Lib.hid hp
    have Hq := Lib.hid hq
    have HC : Hid (childP s dir = l[m.length]?) := by
      unfold Hid childP
      rw [hb, hr]
      cases hd : l.drop m.length with
      | nil =>
        have := List.drop_eq_nil_iff.1 hd
        rw [List.getElem?_eq_none this]
      | cons n t =>
        have h1 : (l.drop m.length)[0]? = some n := by rw [hd]; rfl
        rw [List.getElem?_drop, Nat.add_zero] at h1
        rw [h1]
    clear hp hq hb hr
    go_enter Tryd.func19, Tryd.ntmps19
    go_wp2_with fail
    refine (refparse_any _ s hs).mono ?_
    rintro e w1 h1
    obtain ⟨a1, c1, rfl, hr1, hc1, _, hb1⟩ := h1.yes Hp.out
    have Hb1 := Lib.hid hb1
    have Hr1 := Lib.hid hr1
    clear h1 hb1 hr1
    go_wp2_with fail
    refine (refparse_any _ dir hd).mono ?_
    rintro e w2 h2
    obtain ⟨a2, c2, rfl, _, _, _, hb2⟩ := h2.yes Hq.out
    have Hb2 := Lib.hid (Hb1.out.trans (hb2.mono Hb1.out.size))
    have Hr12 := Lib.hid (Row.below hb2 Hr1.out)
    clear h2 hb2
    go_wp2_with fail
    refine (refwithin_any _ s dir hs hd).mono ?_
    rintro e w3 ⟨rfl, hb3⟩
    rw [Hw.out]
    have Hb3 := Lib.hid (Hb2.out.trans (hb3.mono Hb2.out.size))
    have Hr3 := Lib.hid (Row.below hb3 Hr12.out)
    clear hb3
    by_cases heq : l.length = m.length
    · have c1' : ((l.length : Int) == (m.length : Int)) = true := by rw [beq_iff_eq]; omega
      have c2' : (l.length == m.length) = true := by rw [beq_iff_eq]; exact heq
      have E : Hid (childP s dir = none) := by unfold Hid; rw [HC.out, List.getElem?_eq_none (by omega)]
      clear heq
      go_wp2
      go_ret2
      exact ⟨by rw [E.out]; rfl, Hb3.out⟩
    · have c1' : ((l.length : Int) == (m.length : Int)) = false := by rw [beq_eq_false_iff_ne]; omega
      have c2' : (l.length == m.length) = false := by rw [beq_eq_false_iff_ne]; exact heq
      have hlt : m.length < l.length := by omega
      have hlt2 : (m.length : Int) < (l.length : Int) := by omega
      obtain ⟨g, o, rfl, c0⟩ := str_at Hr3.out hlt
      have E : Hid (childP s dir = some l[m.length]) := by unfold Hid; rw [HC.out, List.getElem?_eq_getElem hlt]
      clear heq
      go_wp2
      go_ret2
      exact ⟨by rw [E.out]; rfl, Hb3.out⟩
end Go.Proofs.YtdillaedlpplhaaDoor
