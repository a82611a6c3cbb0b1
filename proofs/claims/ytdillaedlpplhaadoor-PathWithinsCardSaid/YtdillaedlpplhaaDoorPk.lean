/- The walks over Text and the reference's Text. -/
import Derived.Test.YtdillaedlpplhaaDoorPj
import Derived.Outline
namespace Go.Proofs.YtdillaedlpplhaaDoor
open Go.RowKit Go.PathPure Go.XR

def textB (l : List ByteArray) : ByteArray := if okNames l then B (tx l) else ⟨#[]⟩
def textE (l : List ByteArray) : Int := if okNames l then 0 else 1
theorem textB_ok {l : List ByteArray} (h : okNames l = true) : textB l = B (tx l) := by unfold textB; rw [if_pos h]
theorem textE_ok {l : List ByteArray} (h : okNames l = true) : textE l = 0 := by unfold textE; rw [if_pos h]
theorem textB_no {l : List ByteArray} (h : okNames l = false) : textB l = ⟨#[]⟩ := by unfold textB; rw [h]; rfl
theorem textE_no {l : List ByteArray} (h : okNames l = false) : textE l = 1 := by unfold textE; rw [h]; rfl

theorem join_any (w : World) (a : Option Addr) (c : Nat) (l : List ByteArray) (hL : Row w a (strs l)) (hc : l.length ≤ c) (ho : okNames l = true) :
    Calls Tryd.prog 29 #[.slice a l.length c, .string ⟨#[47]⟩] w fun e w' => e = .returned (.string (B (Lib.join (l.map (·.data.toList)) [47]))) ∧ Below w.heap.size w w' := by
  obtain ⟨h1, h2⟩ := ok_all ho
  by_cases h0 : l = []
  · subst h0
    refine (Tryd.strings_Join_none a c ⟨#[47]⟩ w).mono ?_
    rintro e w' ⟨rfl, rfl⟩
    exact ⟨rfl, Below.refl _ _⟩
  · obtain ⟨g, o, rfl, h3⟩ := row_cells hL h0
    have h4 := fl_le h2
    rw [fl_join l h0, List.length_cons] at h4
    have hpos : 0 < l.length := List.length_pos_iff.2 h0
    have hj : (Lib.join (l.map (·.data.toList)) (⟨#[47]⟩ : ByteArray).data.toList).length ≤ 140737488355328 := by
      show (Lib.join (l.map (·.data.toList)) [47]).length ≤ _
      omega
    refine Tryd.strings_Join g o c l ⟨#[47]⟩ w (fun j x hx => ?_) (cell_lt (h3 0 hpos)) (by omega) hc hj
    have hj := (List.getElem?_eq_some_iff.1 hx).1
    rw [h3 j hj, List.getD_eq_getElem?_getD, hx]; rfl

theorem add_stroke (l : List ByteArray) : (⟨#[47]⟩ : ByteArray) ++ B (Lib.join (l.map (·.data.toList)) [47]) = B (tx l) := by
  rw [tx_join, ← B_eta (_ ++ _)]
  rw [ByteArray.data_append, Array.toList_append, B_data]; rfl

set_option maxHeartbeats 1000000 in
theorem text_any (w : World) (hE : Env w) (a : Option Addr) (c : Nat) (l : List ByteArray) (hL : Row w a (strs l)) (hc : l.length ≤ c) (hl : l.length < 2^40) :
    Calls Tryd.prog 21 #[.slice a l.length c] w fun e w' => e = .returned (.tuple #[.string (textB l), .int .i64 (textE l)]) ∧ Below w.heap.size w w' := by
  have HE := Lib.hid hE
  have HL := Lib.hid hL
  clear hE hL
  cases ho : okNames l with
  | false =>
    have E := Lib.hid (And.intro (textB_no ho) (textE_no ho))
    have Ho := Lib.hid ho
    clear ho
    go_enter Tryd.func21, Tryd.ntmps21
    go_wp2_with fail
    refine (names_any _ HE.out.tabs a c l HL.out hl).mono ?_
    rintro e w1 ⟨rfl, hb⟩
    rw [Ho.out]
    go_wp2
    go_ret2
    exact ⟨by rw [E.out.1, E.out.2]; rfl, hb⟩
  | true =>
    have E := Lib.hid (And.intro (textB_ok ho) (textE_ok ho))
    have Ho := Lib.hid ho
    clear ho
    go_enter Tryd.func21, Tryd.ntmps21
    go_wp2_with fail
    refine (names_any _ HE.out.tabs a c l HL.out hl).mono ?_
    rintro e w1 ⟨rfl, hb⟩
    rw [Ho.out]
    have HL1 := Lib.hid (Row.below hb HL.out)
    have Hb := Lib.hid hb
    clear hb
    go_wp2_with fail
    refine (join_any _ a c l HL1.out hc Ho.out).mono ?_
    rintro e w2 ⟨rfl, hb2⟩
    have Hb2 := Lib.hid (Hb.out.trans (hb2.mono Hb.out.size))
    have HS := Lib.hid (add_stroke l)
    have hJ : (B (Lib.join (l.map (·.data.toList)) [47])).size ≤ 2000 := by
      obtain ⟨h1, h2⟩ := ok_all Ho.out
      have h3 : (B (Lib.join (l.map (·.data.toList)) [47])).size = (Lib.join (l.map (·.data.toList)) [47]).length := rfl
      by_cases h0 : l = []
      · subst h0; exact Nat.zero_le _
      · have h4 := fl_le h2
        rw [fl_join l h0, List.length_cons] at h4
        omega
    clear hb2
    generalize B (Lib.join (l.map (·.data.toList)) [47]) = J at *
    go_wp2
    go_ret2
    exact ⟨by rw [E.out.1, E.out.2, ← HS.out]; rfl, Hb2.out⟩

theorem fl_take {l : List ByteArray} {k : Nat} (h : k < l.length) : (B (fl (l.take k)) ++ ⟨#[47]⟩) ++ l[k] = B (fl (l.take (k + 1))) := by
  rw [List.take_succ_eq_append_getElem h, fl_append, ← B_eta (_ ++ _)]
  congr 1
  rw [ByteArray.data_append, Array.toList_append, ByteArray.data_append, Array.toList_append, B_data]
  simp [fl]
theorem okNames_pos {l : List ByteArray} (h1 : l.length ≤ 16) (h2 : l.all isName = true) : okNames l = true := by
  unfold okNames; rw [decide_eq_true h1, h2]; rfl

set_option maxHeartbeats 2000000 in
set_option maxRecDepth 100000 in
theorem reftext_any (w : World) (a : Option Addr) (c : Nat) (l : List ByteArray) (hL : Row w a (strs l)) :
    Calls Tryd.prog 22 #[.slice a l.length c] w fun e w' => e = .returned (.tuple #[.string (textB l), .int .i64 (textE l)]) ∧ Below w.heap.size w w' := by
  have HL := Lib.hid hL
  clear hL
  by_cases h16 : l.length ≤ 16
  · have hge : ¬ (16 : Int) < (l.length : Int) := by omega
    go_enter Tryd.func22, Tryd.ntmps22
    go_wp2
    go_loopg [5, 4] l.length (fun n i s wr => Below w.heap.size w wr ∧ ∃ (k : Nat) (S : ByteArray), k ≤ l.length ∧ i = .int .i64 k ∧ s = .string S ∧ S.size ≤ 101 * k ∧ Hid (n = l.length - k ∧ (l.take k).all isName = true ∧ S = B (fl (l.take k))))
    case atStart => exact ⟨Below.refl _ _, 0, ⟨#[]⟩, Nat.zero_le _, rfl, rfl, Nat.le_refl _, rfl, rfl, rfl⟩
    case round =>
      obtain ⟨hb, k, S, hk, rfl, rfl, hS, hn⟩ := hrel
      have Hb := Lib.hid hb
      clear hb
      by_cases hlt : k < l.length
      · obtain ⟨g, o, rfl, c0⟩ := str_at (HL.out.below Hb.out) hlt
        have hi1 : (k : Int) < (l.length : Int) := by omega
        go_wp2_with fail
        refine (refname_any _ l[k]).mono ?_
        rintro e w1 ⟨rfl, hb1⟩
        obtain ⟨g', o', he, c1⟩ := str_at (HL.out.below (Hb.out.trans (hb1.mono Hb.out.size))) hlt
        cases he
        have Hb1 := Lib.hid (Hb.out.trans (hb1.mono Hb.out.size))
        clear hb1 c0
        cases hv : isName l[k] with
        | false =>
          have E : Hid (okNames l = false) := by
            unfold Hid okNames
            have : l.all isName = false := by
              rw [Bool.eq_false_iff]; intro h
              have := List.all_eq_true.1 h l[k] (List.getElem_mem hlt)
              rw [hv] at this; cases this
            rw [this, Bool.and_false]
          clear hv
          go_wp2
          go_ret2
          exact ⟨by rw [textB_no E.out, textE_no E.out]; rfl, Hb1.out⟩
        | true =>
          have hsz := isName_size hv
          have Hv := Lib.hid hv
          clear hv
          go_wp2
          go_roundg (l.length - (k + 1))
          case measure => have := hn.out.1; omega
          case rel =>
            refine ⟨Hb1.out, k + 1, _, by omega, by go_num, rfl, ?_, rfl, ?_, ?_⟩
            · simp only [ByteArray.size_append]; show S.size + 1 + l[k].size ≤ _; omega
            · rw [List.take_succ_eq_append_getElem hlt, List.all_append, hn.out.2.1]; simp [Hv.out]
            · rw [hn.out.2.2]; exact fl_take hlt
      · have hge : ¬ (k : Int) < (l.length : Int) := by omega
        have E : Hid (okNames l = true) := by
          have := hn.out.2.1
          rw [List.take_of_length_le (by omega)] at this
          exact okNames_pos h16 this
        have ES : Hid (S = B (fl l)) := by
          have := hn.out.2.2
          rw [List.take_of_length_le (by omega)] at this
          exact this
        by_cases h0 : l = []
        · have e0 : (S.toList == []) = true := by rw [ES.out, h0, ByteArray.toList_eq, B_data]; rfl
          have E2 : Hid (textB l = ⟨#[47]⟩) := by unfold Hid; rw [textB_ok E.out, h0]; rfl
          clear h0
          go_wp2
          go_ret2
          exact ⟨by rw [E2.out, textE_ok E.out]; rfl, Hb.out⟩
        · have e0 : (S.toList == []) = false := by
            rw [ES.out, ByteArray.toList_eq, B_data, beq_eq_false_iff_ne]; exact fl_ne h0
          have E2 : Hid (textB l = S) := by
            unfold Hid; rw [textB_ok E.out, ES.out]; unfold tx; rw [if_neg h0]
          clear h0
          go_wp2
          go_ret2
          exact ⟨by rw [E2.out, textE_ok E.out]; rfl, Hb.out⟩
  · have hge : (16 : Int) < (l.length : Int) := by omega
    have E : Hid (okNames l = false) := by unfold Hid okNames; rw [decide_eq_false h16]; rfl
    go_enter Tryd.func22, Tryd.ntmps22
    go_wp2
    go_ret2
    exact ⟨by rw [textB_no E.out, textE_no E.out]; rfl, Below.refl _ _⟩
end Go.Proofs.YtdillaedlpplhaaDoor
