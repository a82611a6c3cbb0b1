/- The walks over the reference's Within. -/
import Derived.Test.YtdillaedlpplhaaDoorPg
namespace Go.Proofs.YtdillaedlpplhaaDoor
open Go.RowKit Go.PathPure Go.XR

set_option maxHeartbeats 4000000 in
set_option maxRecDepth 100000 in
theorem refwithin_any (w : World) (s dir : ByteArray) (hs : s.size ≤ 2^30) (hd : dir.size ≤ 2^30) : Calls Tryd.prog 20 #[.string s, .string dir] w fun e w' => e = .returned (.bool (behindP s dir).isSome) ∧ Below w.heap.size w w' := by
  cases hp : parse s with
  | none =>
    have E : Hid ((behindP s dir).isSome = false) := by unfold Hid behindP; rw [hp]; rfl
    have Hp := Lib.hid hp
    clear hp
    go_enter Tryd.func20, Tryd.ntmps20
    go_wp2_with fail
    refine (refparse_any _ s hs).mono ?_
    rintro e w1 h1
    obtain ⟨a1, c1, rfl, hb1⟩ := h1.no Hp.out
    have Hb1 := Lib.hid hb1
    clear h1 hb1
    go_wp2_with fail
    refine (refparse_any _ dir hd).mono ?_
    rintro e w2 ⟨a2, c2, rfl, _, _, _, hb2⟩
    have Hb2 := Lib.hid (Hb1.out.trans (hb2.mono Hb1.out.size))
    clear hb2
    generalize (Value.int .i64 (if (parse dir).isSome = true then 0 else 170)) = v2
    go_wp2
    go_ret
    exact ⟨by rw [E.out]; rfl, Hb2.out⟩
  | some l =>
    have hl := parse_len hp
    have Hp := Lib.hid hp
    cases hq : parse dir with
    | none =>
      have E : Hid ((behindP s dir).isSome = false) := by unfold Hid behindP; rw [hp, hq]; rfl
      have Hq := Lib.hid hq
      clear hp hq
      go_enter Tryd.func20, Tryd.ntmps20
      go_wp2_with fail
      refine (refparse_any _ s hs).mono ?_
      rintro e w1 h1
      obtain ⟨a1, c1, rfl, hr1, hc1, _, hb1⟩ := h1.yes Hp.out
      have Hb1 := Lib.hid hb1
      clear h1 hb1 hr1
      go_wp2_with fail
      refine (refparse_any _ dir hd).mono ?_
      rintro e w2 h2
      obtain ⟨a2, c2, rfl, hb2⟩ := h2.no Hq.out
      have Hb2 := Lib.hid (Hb1.out.trans (hb2.mono Hb1.out.size))
      clear h2 hb2
      go_wp2
      go_ret
      exact ⟨by rw [E.out]; rfl, Hb2.out⟩
    | some m =>
      have hm := parse_len hq
      have E0 : Hid (behindP s dir = if m.length ≤ l.length ∧ l.take m.length = m then some (l.drop m.length) else none) := by unfold Hid behindP; rw [hp, hq]
      have Hq := Lib.hid hq
      clear hp hq
      go_enter Tryd.func20, Tryd.ntmps20
      go_wp2_with fail
      refine (refparse_any _ s hs).mono ?_
      rintro e w1 h1
      obtain ⟨a1, c1, rfl, hr1, hc1, _, hb1⟩ := h1.yes Hp.out
      have Hb1 := Lib.hid hb1
      have Hr1 := Lib.hid hr1
      clear h1 hb1 hr1
      go_wp2_with fail
      refine (refparse_any _ dir hd).mono ?_
      rintro e w2 h2
      obtain ⟨a2, c2, rfl, hr2, hc2, _, hb2⟩ := h2.yes Hq.out
      have Hb2 := Lib.hid (Hb1.out.trans (hb2.mono Hb1.out.size))
      have Hr12 := Lib.hid (Row.below hb2 Hr1.out)
      have Hr2 := Lib.hid hr2
      clear h2 hb2 hr2
      by_cases hle : m.length ≤ l.length
      · have hle2 : ¬ (l.length : Int) < (m.length : Int) := by omega
        have hle3 : decide (l.length < m.length) = false := decide_eq_false (by omega)
        go_wp2
        go_loopg [9] m.length (fun n i wr => Below w.heap.size w wr ∧ Below w2.heap.size w2 wr ∧ ∃ k : Nat, k ≤ m.length ∧ i = .int .i64 k ∧ Hid (n = m.length - k) ∧ Hid (l.take k = m.take k))
        case atStart => exact ⟨Hb2.out, Below.refl _ _, 0, Nat.zero_le _, rfl, rfl, rfl⟩
        case round =>
          obtain ⟨hb, hb', k, hk, rfl, hn, ht⟩ := hrel
          by_cases hlt : k < m.length
          · have hltL : k < l.length := by omega
            obtain ⟨g, o, rfl, c3⟩ := str_at (Hr12.out.below hb') hltL
            obtain ⟨g', o', rfl, c5⟩ := str_at (Hr2.out.below hb') hlt
            have hi1 : (k : Int) < (l.length : Int) := by omega
            have hi2 : (k : Int) < (m.length : Int) := by omega
            have Hb := Lib.hid hb
            have Hb' := Lib.hid hb'
            clear hb hb'
            by_cases he : l[k] = m[k]
            · have hs : (l[k].toList == m[k].toList) = true := (keq_iff _ _).2 he
              have He := Lib.hid he
              clear he
              go_wp2
              go_quiet (fail)
              go_wp2
              go_roundg (m.length - (k + 1))
              case measure => have := hn.out; omega
              case rel => exact ⟨below_drewN Hb.out _, below_drewN Hb'.out _, k + 1, by omega, by go_num, rfl, by unfold Hid; rw [List.take_succ_eq_append_getElem hlt, List.take_succ_eq_append_getElem hltL, ht.out, He.out]⟩
            · have hs : (l[k].toList == m[k].toList) = false := by rw [Bool.eq_false_iff]; intro h; exact he ((keq_iff _ _).1 h)
              have E : Hid ((behindP s dir).isSome = false) := by
                unfold Hid; rw [E0.out, if_neg (fun h => ?_)]; rfl
                apply he
                have h1 : (l.take m.length)[k]? = m[k]? := by rw [h.2]
                rw [List.getElem?_take, if_pos hlt, List.getElem?_eq_getElem hltL, List.getElem?_eq_getElem hlt] at h1
                exact Option.some.inj h1
              clear he
              go_wp2
              go_quiet (fail)
              go_wp2
              go_ret
              exact ⟨by rw [E.out]; rfl, below_drewN Hb.out _⟩
          · have hge : ¬ (k : Int) < (m.length : Int) := by omega
            have E : Hid ((behindP s dir).isSome = true) := by
              have h := ht.out
              rw [show k = m.length by omega, List.take_length] at h
              unfold Hid
              rw [E0.out, if_pos ⟨hle, h⟩]
              rfl
            have Hb := Lib.hid hb
            clear hb hb'
            go_wp2
            go_ret
            exact ⟨by rw [E.out]; rfl, Hb.out⟩
      · have hle2 : (l.length : Int) < (m.length : Int) := by omega
        have hle3 : decide (l.length < m.length) = true := decide_eq_true (by omega)
        have E : Hid ((behindP s dir).isSome = false) := by unfold Hid; rw [E0.out, if_neg (fun h => hle h.1)]; rfl
        go_wp2
        go_ret
        exact ⟨by rw [E.out]; rfl, Hb2.out⟩
end Go.Proofs.YtdillaedlpplhaaDoor
