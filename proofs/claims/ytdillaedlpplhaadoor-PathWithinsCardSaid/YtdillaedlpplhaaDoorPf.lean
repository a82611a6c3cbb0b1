/- The walks over slices.Equal at rows of texts, behind, Within. -/
import Derived.Test.YtdillaedlpplhaaDoorPe
namespace Go.Proofs.YtdillaedlpplhaaDoor
open Go.RowKit Go.PathPure Go.XR

theorem row_cells {w : World} {a : Option Addr} {L : List ByteArray} (h : Row w a (strs L)) (hne : L ≠ []) : ∃ g o, a = some ⟨g, o, none⟩ ∧ ∀ j, j < L.length → w.cell? ⟨g, o + j, none⟩ = some (.string (L.getD j ByteArray.empty)) := by
  rcases h with h | ⟨g, o, ha, h⟩
  · exact absurd (by simpa [strs] using h) hne
  · refine ⟨g, o, ha, fun j hj => h j _ ?_⟩
    rw [strs_get hj, List.getD_eq_getElem?_getD, List.getElem?_eq_getElem hj]; rfl

theorem equal_any (w : World) (a b : Option Addr) (c d : Nat) (L M : List ByteArray) (hL : Row w a (strs L)) (hM : Row w b (strs M)) (hl : L.length < 2^40) (hm : M.length < 2^40) :
    Calls Tryd.prog 35 #[.slice a L.length c, .slice b M.length d] w fun e w' => e = .returned (.bool (decide (L = M))) ∧ Below w.heap.size w w' := by
  by_cases hlen : L.length = M.length
  · by_cases h0 : L = []
    · have hM0 : M = [] := List.eq_nil_of_length_eq_zero (by rw [← hlen, h0]; rfl)
      subst h0 hM0
      refine (Tryd.slices_Equal_string_empty a b c 0 d w (by omega)).mono ?_
      rintro e w' ⟨rfl, rfl⟩
      exact ⟨rfl, Below.refl _ _⟩
    · have hM0 : M ≠ [] := fun e => h0 (List.eq_nil_of_length_eq_zero (by rw [hlen, e]; rfl))
      obtain ⟨g, o, rfl, h1⟩ := row_cells hL h0
      obtain ⟨g', o', rfl, h2⟩ := row_cells hM hM0
      refine (Tryd.slices_Equal_string g o L.length c g' o' M.length d L M w (Nat.le_refl _) (Nat.le_refl _) (by omega) (by omega) h1 h2).mono ?_
      rintro e w' ⟨rfl, q, rfl⟩
      refine ⟨?_, below_drewN (Below.refl _ _) q⟩
      rw [List.take_length, List.take_length]
  · refine (Tryd.slices_Equal_string_lens a b L.length c M.length d w hlen).mono ?_
    rintro e w' ⟨rfl, rfl⟩
    exact ⟨ret_bool (decide_eq_false (fun e => hlen (by rw [e]))).symm, Below.refl _ _⟩

/-- the names behind a directory's -/
def behindP (s dir : ByteArray) : Option (List ByteArray) := match parse s, parse dir with
  | some l, some m => if m.length ≤ l.length ∧ l.take m.length = m then some (l.drop m.length) else none
  | _, _ => none
def RetBehind (w : World) (r : Option (List ByteArray)) (e : Ending) (w' : World) : Prop := ∃ a c, e = .returned (.tuple #[.slice a (r.getD []).length c, .bool r.isSome]) ∧ Row w' a (strs (r.getD [])) ∧ Below w.heap.size w w'

theorem parse_len {s : ByteArray} {l : List ByteArray} (h : parse s = some l) : l.length ≤ 16 := by
  unfold parse at h
  split at h
  · split at h
    · cases h; simp
    · split at h
      · rename_i ho
        cases h
        unfold okNames at ho
        rw [Bool.and_eq_true] at ho
        exact of_decide_eq_true ho.1
      · cases h
  · cases h

def RetNo (w : World) (e : Ending) (w' : World) : Prop := ∃ a c, e = .returned (.tuple #[.slice a 0 c, .int .i64 170]) ∧ Below w.heap.size w w'
def RetSome (w : World) (l : List ByteArray) (e : Ending) (w' : World) : Prop := ∃ a c, e = .returned (.tuple #[.slice a l.length c, .int .i64 0]) ∧ Row w' a (strs l) ∧ l.length ≤ c ∧ (c ≠ 0 → ∃ g o, a = some ⟨g, o, none⟩) ∧ Below w.heap.size w w'
theorem RetParse.no {w : World} {s : ByteArray} {e : Ending} {w' : World} (h : RetParse w s e w') (hp : parse s = none) : RetNo w e w' := by
  unfold RetParse at h
  rw [hp] at h
  obtain ⟨a, c, h1, h2, h3, _, h4⟩ := h
  exact ⟨a, c, h1, h4⟩
theorem RetParse.yes {w : World} {s : ByteArray} {e : Ending} {w' : World} {l : List ByteArray} (h : RetParse w s e w') (hp : parse s = some l) : RetSome w l e w' := by
  unfold RetParse at h
  rw [hp] at h
  exact h

set_option maxHeartbeats 2000000 in
theorem behind_any (w : World) (hE : Env w) (s dir : ByteArray) (hs : s.size ≤ 2^30) (hd : dir.size ≤ 2^30) : Calls Tryd.prog 28 #[.string s, .string dir] w (RetBehind w (behindP s dir)) := by
  have HE := Lib.hid hE
  clear hE
  cases hp : parse s with
  | none =>
    have E : Hid (behindP s dir = none) := by unfold Hid behindP; rw [hp]
    have Hp := Lib.hid hp
    clear hp
    cases hq : parse dir with
    | none =>
      have Hq := Lib.hid hq
      clear hq
      go_enter Tryd.func28, Tryd.ntmps28
      go_wp2_with fail
      refine (parse_any _ HE.out s hs).mono ?_
      rintro e w1 h1
      obtain ⟨a1, c1, rfl, hb1⟩ := h1.no Hp.out
      have Hb1 := Lib.hid hb1
      clear h1 hb1
      go_wp2_with fail
      refine (parse_any _ (HE.out.below Hb1.out) dir hd).mono ?_
      rintro e w2 h2
      obtain ⟨a2, c2, rfl, hb2⟩ := h2.no Hq.out
      have Hb2 := Lib.hid (Hb1.out.trans (hb2.mono Hb1.out.size))
      clear h2 hb2
      go_wp2
      go_ret2
      unfold RetBehind
      rw [E.out]
      exact ⟨none, 0, rfl, .inl rfl, Hb2.out⟩
    | some m =>
      have Hq := Lib.hid hq
      clear hq
      go_enter Tryd.func28, Tryd.ntmps28
      go_wp2_with fail
      refine (parse_any _ HE.out s hs).mono ?_
      rintro e w1 h1
      obtain ⟨a1, c1, rfl, hb1⟩ := h1.no Hp.out
      have Hb1 := Lib.hid hb1
      clear h1 hb1
      go_wp2_with fail
      refine (parse_any _ (HE.out.below Hb1.out) dir hd).mono ?_
      rintro e w2 h2
      obtain ⟨a2, c2, rfl, hr2, hc2, _, hb2⟩ := h2.yes Hq.out
      have Hb2 := Lib.hid (Hb1.out.trans (hb2.mono Hb1.out.size))
      clear h2 hb2 hr2
      go_wp2
      go_ret2
      unfold RetBehind
      rw [E.out]
      exact ⟨none, 0, rfl, .inl rfl, Hb2.out⟩
  | some l =>
    have hl := parse_len hp
    have Hp := Lib.hid hp
    cases hq : parse dir with
    | none =>
      have E : Hid (behindP s dir = none) := by unfold Hid behindP; rw [hp, hq]
      have Hq := Lib.hid hq
      clear hp hq
      go_enter Tryd.func28, Tryd.ntmps28
      go_wp2_with fail
      refine (parse_any _ HE.out s hs).mono ?_
      rintro e w1 h1
      obtain ⟨a1, c1, rfl, hr1, hc1, hsh, hb1⟩ := h1.yes Hp.out
      have Hb1 := Lib.hid hb1
      clear h1 hb1 hr1
      go_wp2_with fail
      refine (parse_any _ (HE.out.below Hb1.out) dir hd).mono ?_
      rintro e w2 h2
      obtain ⟨a2, c2, rfl, hb2⟩ := h2.no Hq.out
      have Hb2 := Lib.hid (Hb1.out.trans (hb2.mono Hb1.out.size))
      clear h2 hb2
      go_wp2
      go_ret2
      unfold RetBehind
      rw [E.out]
      exact ⟨none, 0, rfl, .inl rfl, Hb2.out⟩
    | some m =>
      have hm := parse_len hq
      have E : Hid (behindP s dir = if m.length ≤ l.length ∧ l.take m.length = m then some (l.drop m.length) else none) := by unfold Hid behindP; rw [hp, hq]
      have Hq := Lib.hid hq
      clear hp hq
      go_enter Tryd.func28, Tryd.ntmps28
      go_wp2_with fail
      refine (parse_any _ HE.out s hs).mono ?_
      rintro e w1 h1
      obtain ⟨a1, c1, rfl, hr1, hc1, hsh, hb1⟩ := h1.yes Hp.out
      have Hb1 := Lib.hid hb1
      have Hr1 := Lib.hid hr1
      have Hsh := Lib.hid hsh
      clear h1 hb1 hr1 hsh
      go_wp2_with fail
      refine (parse_any _ (HE.out.below Hb1.out) dir hd).mono ?_
      rintro e w2 h2
      obtain ⟨a2, c2, rfl, hr2, hc2, _, hb2⟩ := h2.yes Hq.out
      have Hb2 := Lib.hid (Hb1.out.trans (hb2.mono Hb1.out.size))
      have Hr12 := Lib.hid (Row.below hb2 Hr1.out)
      have Hr2 := Lib.hid hr2
      clear h2 hb2 hr2
      by_cases hle : m.length ≤ l.length
      · have hle2 : ¬ (l.length : Int) < (m.length : Int) := by omega
        have hle3 : decide (l.length < m.length) = false := decide_eq_false (by omega)
        have hcm : m.length ≤ c1 := by omega
        have htl : (l.take m.length).length = m.length := by rw [List.length_take]; omega
        have hrt : Row w2 a1 (strs (l.take m.length)) := by
          have := Hr12.out.take m.length
          rw [show strs (l.take m.length) = (strs l).take m.length from List.map_take]
          exact this
        have heq := equal_any w2 a1 a2 c1 c2 (l.take m.length) m hrt Hr2.out (by omega) (by omega)
        rw [htl] at heq
        have Heq := Lib.hid heq
        clear heq htl hrt
        go_wp2_with fail
        refine Heq.out.mono ?_
        rintro e w3 ⟨rfl, hb3⟩
        have Hb3 := Lib.hid (Hb2.out.trans (hb3.mono Hb2.out.size))
        have Hr3 := Lib.hid (Row.below hb3 Hr12.out)
        clear hb3
        cases ht : decide (l.take m.length = m) with
        | false =>
          have E2 : Hid (behindP s dir = none) := by unfold Hid; rw [E.out, if_neg (fun h => of_decide_eq_false ht h.2)]
          clear ht
          go_wp2
          go_ret2
          unfold RetBehind
          rw [E2.out]
          exact ⟨none, 0, rfl, .inl rfl, Hb3.out⟩
        | true =>
          have E2 : Hid (behindP s dir = some (l.drop m.length)) := by unfold Hid; rw [E.out, if_pos ⟨hle, of_decide_eq_true ht⟩]
          have hdl : (l.drop m.length).length = l.length - m.length := List.length_drop
          have Hdl := Lib.hid hdl
          clear ht hdl
          by_cases hcj : c1 = m.length
          · have hll : l.length - m.length = 0 := by omega
            have hnil : l.drop m.length = [] := List.drop_eq_nil_of_le (by omega)
            have Hnil := Lib.hid hnil
            clear hnil
            have Hll := Lib.hid hll
            clear hll
            go_wp2
            go_ret2
            unfold RetBehind
            rw [E2.out, show ((some (l.drop m.length)).getD []) = [] from Hnil.out]
            refine ⟨a1, 0, ?_, .inl rfl, Hb3.out⟩
            show Ending.returned (.tuple #[.slice a1 (l.length - m.length) 0, .bool true]) = _
            rw [Hll.out]; rfl
          · have hcne : c1 ≠ 0 := by omega
            obtain ⟨g, o, rfl⟩ := Hsh.out hcne
            · have Hrd : Hid (Row w3 (some ⟨g, o + m.length, none⟩) (strs (l.drop m.length))) := by
                unfold Hid
                rcases Hr3.out with h | ⟨g', o', ha, h⟩
                · left; rw [show strs (l.drop m.length) = (strs l).drop m.length from List.map_drop, h, List.drop_nil]
                cases ha
                refine .inr ⟨g, o + m.length, rfl, fun j u hj => ?_⟩
                rw [show strs (l.drop m.length) = (strs l).drop m.length from List.map_drop, List.getElem?_drop] at hj
                rw [Nat.add_assoc]
                exact h _ u hj
              go_wp2
              go_ret2
              unfold RetBehind
              rw [E2.out]
              refine ⟨some ⟨g, o + m.length, none⟩, c1 - m.length, ?_, Hrd.out, Hb3.out⟩
              show Ending.returned (.tuple #[.slice (some ⟨g, o + m.length, none⟩) (l.length - m.length) (c1 - m.length), .bool true]) = Ending.returned (.tuple #[.slice (some ⟨g, o + m.length, none⟩) (l.drop m.length).length (c1 - m.length), .bool true])
              rw [Hdl.out]
      · have hle2 : (l.length : Int) < (m.length : Int) := by omega
        have hle3 : decide (l.length < m.length) = true := decide_eq_true (by omega)
        have E2 : Hid (behindP s dir = none) := by unfold Hid; rw [E.out, if_neg (fun h => hle h.1)]
        go_wp2
        go_ret2
        unfold RetBehind
        rw [E2.out]
        exact ⟨none, 0, rfl, .inl rfl, Hb2.out⟩
end Go.Proofs.YtdillaedlpplhaaDoor
