/- The walk over shown: the document's examples. -/
import Derived.Test.YtdillaedlpplhaaDoorPl
namespace Go.Proofs.YtdillaedlpplhaaDoor
open Go.RowKit Go.PathPure Go.XR

theorem isName_eq (s : ByteArray) : isName s = (!(s.data.toList == []) && (!(s.data.toList == [46]) && (!(s.data.toList == [46, 46]) && (decide (s.size ≤ 100) && (Lib.validD s.data.toList && scan s s.size 0))))) := by
  unfold isName; rw [ByteArray.toList_eq]
theorem name_a : isName ⟨#[97]⟩ = true := by rw [isName_eq]; kernel_rfl
theorem name_b : isName ⟨#[98]⟩ = true := by rw [isName_eq]; kernel_rfl
theorem name_bc : isName ⟨#[98, 99]⟩ = true := by rw [isName_eq]; kernel_rfl
theorem name_ab : isName ⟨#[97, 98]⟩ = true := by rw [isName_eq]; kernel_rfl
theorem parse_a_bc : parse ⟨#[47, 97, 47, 98, 99]⟩ = some [⟨#[97]⟩, ⟨#[98, 99]⟩] :=
  parse_tx (l := [⟨#[97]⟩, ⟨#[98, 99]⟩]) (by unfold okNames; simp [name_a, name_bc])
theorem parse_a_b : parse ⟨#[47, 97, 47, 98]⟩ = some [⟨#[97]⟩, ⟨#[98]⟩] :=
  parse_tx (l := [⟨#[97]⟩, ⟨#[98]⟩]) (by unfold okNames; simp [name_a, name_b])
theorem parse_ab : parse ⟨#[47, 97, 98]⟩ = some [⟨#[97, 98]⟩] :=
  parse_tx (l := [⟨#[97, 98]⟩]) (by unfold okNames; simp [name_ab])
theorem parse_a : parse ⟨#[47, 97]⟩ = some [⟨#[97]⟩] :=
  parse_tx (l := [⟨#[97]⟩]) (by unfold okNames; simp [name_a])
theorem parse_empty : parse ⟨#[]⟩ = none := by unfold parse isP; rfl
theorem parse_a_ : parse ⟨#[47, 97, 47]⟩ = none := by
  cases h : parse ⟨#[47, 97, 47]⟩ with
  | none => rfl
  | some l =>
    exfalso
    unfold parse at h
    rw [if_pos (by kernel_rfl)] at h
    have hr : rest ⟨#[47, 97, 47]⟩ = B [97, 47] := rfl
    rw [hr, ByteArray.toList_eq, B_data, if_neg (by decide)] at h
    have hn : names (B [97, 47]) = [B [97], B []] := by unfold names; rw [B_data]; simp [pieces]
    rw [hn, if_neg] at h
    · cases h
    · intro ho
      have := (ok_all ho).2 (B []) (by simp)
      exact isName_ne this rfl
theorem within_yes : (behindP ⟨#[47, 97, 47, 98]⟩ ⟨#[47, 97]⟩).isSome = true := behindP_some.2 ⟨_, _, parse_a_b, parse_a, ⟨[⟨#[98]⟩], rfl⟩⟩
theorem within_no : (behindP ⟨#[47, 97, 98]⟩ ⟨#[47, 97]⟩).isSome = false := by
  rw [Bool.eq_false_iff]
  intro h
  obtain ⟨l, m, h1, h2, h3⟩ := behindP_some.1 h
  rw [parse_ab] at h1; rw [parse_a] at h2
  cases h1; cases h2
  obtain ⟨t, ht⟩ := h3
  cases t with
  | nil => simp at ht
  | cons b t => simp at ht

set_option maxHeartbeats 4000000 in
set_option maxRecDepth 100000 in
theorem shown_any (w : World) (hE : Env w) : Calls Tryd.prog 9 #[] w fun e w' => e = .returned (.bool true) ∧ Below w.heap.size w w' := by
  have HE := Lib.hid hE
  clear hE
  have Hp := Lib.hid (par_some (l := [⟨#[97]⟩]) (n := ⟨#[98, 99]⟩) parse_a_bc)
  go_enter Tryd.func9, Tryd.ntmps9
  go_wp2_with fail
  refine (parse_any _ HE.out ⟨#[47, 97, 47, 98, 99]⟩ (by decide)).mono ?_
  rintro e w1 h1
  obtain ⟨a1, c1, rfl, hr1, hc1, _, hb1⟩ := h1.yes parse_a_bc
  have Hb1 := Lib.hid hb1
  have Hr1 := Lib.hid hr1
  clear h1 hr1 hb1
  go_wp2_with fail
  refine (parse_any _ (HE.out.below Hb1.out) ⟨#[47, 97, 47]⟩ (by decide)).mono ?_
  rintro e w2 h2
  obtain ⟨a2, c2, rfl, hb2⟩ := h2.no parse_a_
  have Hb2 := Lib.hid (Hb1.out.trans (hb2.mono Hb1.out.size))
  have Hr2 := Lib.hid (Row.below hb2 Hr1.out)
  clear h2 hb2
  go_wp2_with fail
  refine (parse_any _ (HE.out.below Hb2.out) ⟨#[]⟩ (by decide)).mono ?_
  rintro e w3 h3
  obtain ⟨a3, c3, rfl, hb3⟩ := h3.no parse_empty
  have Hb3 := Lib.hid (Hb2.out.trans (hb3.mono Hb2.out.size))
  have Hr3 := Lib.hid (Row.below hb3 Hr2.out)
  clear h3 hb3
  go_wp2_with fail
  refine (parent_any _ (HE.out.below Hb3.out) ⟨#[47, 97, 47, 98, 99]⟩ (by decide)).mono ?_
  rintro e w4 ⟨rfl, hb4⟩
  rw [Hp.out.1, Hp.out.2.1, Hp.out.2.2, show B (tx [⟨#[97]⟩]) = ⟨#[47, 97]⟩ from rfl]
  have Hb4 := Lib.hid (Hb3.out.trans (hb4.mono Hb3.out.size))
  have Hr4 := Lib.hid (Row.below hb4 Hr3.out)
  clear hb4
  go_wp2_with fail
  refine (texts_any _ a1 (some ⟨w4.heap.size, 0, none⟩) c1 2 [⟨#[97]⟩, ⟨#[98, 99]⟩] [⟨#[97]⟩, ⟨#[98, 99]⟩] (Row.below ((Below.refl _ _).alloc (Nat.le_refl _) _) Hr4.out) (Row.new _ _ _) (by decide)).mono ?_
  rintro e w5 ⟨rfl, hb5⟩
  have Hb5 := Lib.hid (Hb4.out.trans ((((Below.refl _ _).alloc (Nat.le_refl _) _).trans (hb5.mono (by simp))).mono Hb4.out.size))
  clear hb5
  go_wp2_with fail
  refine (within_any _ (HE.out.below Hb5.out) ⟨#[47, 97, 47, 98]⟩ ⟨#[47, 97]⟩ (by decide) (by decide)).mono ?_
  rintro e w6 ⟨rfl, hb6⟩
  rw [within_yes]
  have Hb6 := Lib.hid (Hb5.out.trans (hb6.mono Hb5.out.size))
  clear hb6
  go_wp2_with fail
  refine (within_any _ (HE.out.below Hb6.out) ⟨#[47, 97, 98]⟩ ⟨#[47, 97]⟩ (by decide) (by decide)).mono ?_
  rintro e w7 ⟨rfl, hb7⟩
  rw [within_no]
  have Hb7 := Lib.hid (Hb6.out.trans (hb7.mono Hb6.out.size))
  clear hb7
  go_wp2
  go_ret
  exact ⟨rfl, Hb7.out⟩
end Go.Proofs.YtdillaedlpplhaaDoor
