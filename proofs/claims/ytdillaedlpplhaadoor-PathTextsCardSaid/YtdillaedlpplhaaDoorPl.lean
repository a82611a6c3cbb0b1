/- The walks over Parent and the reference's Parent. -/
import Derived.Test.YtdillaedlpplhaaDoorPk
namespace Go.Proofs.YtdillaedlpplhaaDoor
open Go.RowKit Go.PathPure Go.XR

/-- the parent's text, the last name, the error -/
def parB (s : ByteArray) : ByteArray := match parse s with
  | some l => if l = [] then ⟨#[]⟩ else B (tx l.dropLast)
  | none => ⟨#[]⟩
def parN (s : ByteArray) : ByteArray := match parse s with
  | some l => l.getLast?.getD ⟨#[]⟩
  | none => ⟨#[]⟩
def parE (s : ByteArray) : Int := match parse s with
  | some l => if l = [] then 2 else 0
  | none => 170
theorem par_none {s : ByteArray} (h : parse s = none) : parB s = ⟨#[]⟩ ∧ parN s = ⟨#[]⟩ ∧ parE s = 170 := by unfold parB parN parE; rw [h]; exact ⟨rfl, rfl, rfl⟩
theorem par_nil {s : ByteArray} (h : parse s = some []) : parB s = ⟨#[]⟩ ∧ parN s = ⟨#[]⟩ ∧ parE s = 2 := by unfold parB parN parE; rw [h]; exact ⟨rfl, rfl, rfl⟩
theorem par_some {s : ByteArray} {l : List ByteArray} {n : ByteArray} (h : parse s = some (l ++ [n])) : parB s = B (tx l) ∧ parN s = n ∧ parE s = 0 := by
  unfold parB parN parE; rw [h]
  refine ⟨?_, ?_, ?_⟩
  · show (if l ++ [n] = [] then _ else _) = _
    rw [if_neg (by simp), List.dropLast_concat]
  · simp
  · simp

set_option maxHeartbeats 2000000 in
theorem parent_any (w : World) (hE : Env w) (s : ByteArray) (hs : s.size ≤ 2^30) :
    Calls Tryd.prog 12 #[.string s] w fun e w' => e = .returned (.tuple #[.string (parB s), .string (parN s), .int .i64 (parE s)]) ∧ Below w.heap.size w w' := by
  have HE := Lib.hid hE
  clear hE
  cases hp : parse s with
  | none =>
    have E := Lib.hid (par_none hp)
    have Hp := Lib.hid hp
    clear hp
    go_enter Tryd.func12, Tryd.ntmps12
    go_wp2_with fail
    refine (parse_any _ HE.out s hs).mono ?_
    rintro e w1 h1
    obtain ⟨a1, c1, rfl, hb1⟩ := h1.no Hp.out
    clear h1
    go_wp2
    go_ret3
    exact ⟨by rw [E.out.1, E.out.2.1, E.out.2.2]; rfl, hb1⟩
  | some l =>
    have hl := parse_len hp
    have Hp := Lib.hid hp
    by_cases h0 : l = []
    · subst h0
      have E := Lib.hid (par_nil hp)
      clear hp
      go_enter Tryd.func12, Tryd.ntmps12
      go_wp2_with fail
      refine (parse_any _ HE.out s hs).mono ?_
      rintro e w1 h1
      obtain ⟨a1, c1, rfl, hr1, hc1, _, hb1⟩ := h1.yes Hp.out
      clear h1 hr1
      go_wp2
      go_ret3
      exact ⟨by rw [E.out.1, E.out.2.1, E.out.2.2]; rfl, hb1⟩
    · obtain ⟨l, n, rfl⟩ : ∃ l' n, l = l' ++ [n] := ⟨_, _, (List.dropLast_concat_getLast h0).symm⟩
      have E := Lib.hid (par_some hp)
      have ET := Lib.hid (parent_tx hp)
      have hnz := (parent_tx hp).2
      have hnn : 0 < n.size := by
        have h1 := isName_ne ((ok_all (parse_some hp).1).2 n (by simp))
        have h2 : n.data.toList.length = n.size := Array.length_toList
        have := List.length_pos_iff.2 h1
        omega
      have hl15 : l.length ≤ 15 := by rw [List.length_append] at hl; simp at hl; omega
      have hlen : (l ++ [n]).length = l.length + 1 := by simp
      have Hlen := Lib.hid hlen
      clear hp h0 hl hlen
      go_enter Tryd.func12, Tryd.ntmps12
      go_wp2_with fail
      refine (parse_any _ HE.out s hs).mono ?_
      rintro e w1 h1
      obtain ⟨a1, c1, rfl, hr1, hc1, _, hb1⟩ := h1.yes Hp.out
      have hlt : l.length < (l ++ [n]).length := by simp
      obtain ⟨g, o, rfl, c0⟩ := str_at hr1 hlt
      rw [List.getElem_append_right (Nat.le_refl _)] at c0
      simp only [Nat.sub_self, List.getElem_cons_zero] at c0
      rw [Hlen.out] at hc1 ⊢
      have Hb := Lib.hid hb1
      have hz : (((l.length + 1 : Nat) : Int) == 0) = false := by rw [beq_eq_false_iff_ne]; omega
      have hmx : max (1 : Int) ((s.size : Int) - (n.size : Int) - 1) = ((max 1 (s.size - n.size - 1) : Nat) : Int) := by omega
      have Hmx := Lib.hid hmx
      clear h1 hr1 hlt hb1 hmx
      go_wp2
      go_ret3
      refine ⟨?_, Hb.out⟩
      rw [E.out.1, E.out.2.1, E.out.2.2, ← ET.out.1]
      show Ending.returned (.tuple #[.string (s.extract 0 (max (1 : Int) ((s.size : Int) - (n.size : Int) - 1)).toNat), .string n, .int .i64 0]) = _
      rw [Hmx.out]; rfl

set_option maxHeartbeats 2000000 in
set_option maxRecDepth 100000 in
theorem refparent_any (w : World) (s : ByteArray) (hs : s.size ≤ 2^30) :
    Calls Tryd.prog 13 #[.string s] w fun e w' => e = .returned (.tuple #[.string (parB s), .string (parN s), .int .i64 (parE s)]) ∧ Below w.heap.size w w' := by
  cases hp : parse s with
  | none =>
    have E := Lib.hid (par_none hp)
    have Hp := Lib.hid hp
    clear hp
    go_enter Tryd.func13, Tryd.ntmps13
    go_wp2_with fail
    refine (refparse_any _ s hs).mono ?_
    rintro e w1 h1
    obtain ⟨a1, c1, rfl, hb1⟩ := h1.no Hp.out
    clear h1
    go_wp2
    go_ret3
    exact ⟨by rw [E.out.1, E.out.2.1, E.out.2.2]; rfl, hb1⟩
  | some l =>
    have hl := parse_len hp
    have Hp := Lib.hid hp
    by_cases h0 : l = []
    · subst h0
      have E := Lib.hid (par_nil hp)
      clear hp
      go_enter Tryd.func13, Tryd.ntmps13
      go_wp2_with fail
      refine (refparse_any _ s hs).mono ?_
      rintro e w1 h1
      obtain ⟨a1, c1, rfl, hr1, hc1, _, hb1⟩ := h1.yes Hp.out
      clear h1 hr1
      go_wp2
      go_ret3
      exact ⟨by rw [E.out.1, E.out.2.1, E.out.2.2]; rfl, hb1⟩
    · obtain ⟨l, n, rfl⟩ : ∃ l' n, l = l' ++ [n] := ⟨_, _, (List.dropLast_concat_getLast h0).symm⟩
      have E := Lib.hid (par_some hp)
      have Hok : Hid (okNames l = true) := by
        have := ok_take (parse_some hp).1 l.length
        rwa [List.take_left'] at this
        rfl
      have hl15 : l.length ≤ 15 := by rw [List.length_append] at hl; simp at hl; omega
      have hlen : (l ++ [n]).length = l.length + 1 := by simp
      have Hlen := Lib.hid hlen
      clear hp h0 hl hlen
      go_enter Tryd.func13, Tryd.ntmps13
      go_wp2_with fail
      refine (refparse_any _ s hs).mono ?_
      rintro e w1 h1
      obtain ⟨a1, c1, rfl, hr1, hc1, _, hb1⟩ := h1.yes Hp.out
      have hlt : l.length < (l ++ [n]).length := by simp
      have Hr1 := Lib.hid hr1
      obtain ⟨g, o, rfl, c0⟩ := str_at hr1 hlt
      have Hrl : Hid (Row w1 (some ⟨g, o, none⟩) (strs l)) := by
        have := hr1.take l.length
        unfold Hid
        rw [show strs l = (strs (l ++ [n])).take l.length from ?_]
        · exact this
        · unfold strs; rw [← List.map_take, List.take_left']; rfl
      rw [Hlen.out] at hc1 ⊢
      have Hb := Lib.hid hb1
      have hz : (((l.length + 1 : Nat) : Int) == 0) = false := by rw [beq_eq_false_iff_ne]; omega
      clear h1 hr1 hlt hb1 c0
      go_wp2_with fail
      refine (reftext_any _ (some ⟨g, o, none⟩) c1 l Hrl.out).mono ?_
      rintro e w2 ⟨rfl, hb2⟩
      obtain ⟨g', o', he, c0⟩ := str_at (Row.below hb2 Hr1.out) (show l.length < (l ++ [n]).length by simp)
      cases he
      rw [List.getElem_append_right (Nat.le_refl _)] at c0
      simp only [Nat.sub_self, List.getElem_cons_zero] at c0
      rw [textB_ok Hok.out, textE_ok Hok.out]
      have Hb2 := Lib.hid (Hb.out.trans (hb2.mono Hb.out.size))
      clear hb2
      go_wp2
      go_quiet (fail)
      go_wp2
      go_ret3
      exact ⟨by rw [E.out.1, E.out.2.1, E.out.2.2]; rfl, below_drewN Hb2.out _⟩
end Go.Proofs.YtdillaedlpplhaaDoor
