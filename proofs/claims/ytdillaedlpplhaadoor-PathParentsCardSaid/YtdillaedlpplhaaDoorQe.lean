/- The walk over the statement PathParents. -/
import Derived.Test.YtdillaedlpplhaaDoorQb
namespace Go.Proofs.YtdillaedlpplhaaDoor
open Go.RowKit Go.PathPure Go.XR

theorem stroke_nil : parse ⟨#[47]⟩ = some [] := parse_tx (l := []) rfl

theorem child_last {s : ByteArray} {l : List ByteArray} {n : ByteArray} (h : parse s = some (l ++ [n])) : parse (B (tx l)) = some l ∧ childP s (B (tx l)) = some n ∧ isName n = true ∧ (behindP s (B (tx l))).isSome = true ∧ (behindP (B (tx l)) s).isSome = false ∧ s = B (tx (l ++ [n])) ∧ okNames (l ++ [n]) = true := by
  obtain ⟨ho, hs⟩ := parse_some h
  have hol : okNames l = true := by
    have := ok_take ho l.length
    rwa [List.take_left'] at this
    rfl
  have hp := parse_tx hol
  have hb : behindP s (B (tx l)) = some [n] := by
    unfold behindP
    rw [h, hp]
    dsimp only
    rw [if_pos ⟨by simp, List.take_left' rfl⟩, List.drop_left' rfl]
  refine ⟨hp, ?_, (ok_all ho).2 n (by simp), by rw [hb]; rfl, ?_, hs, ho⟩
  · unfold childP; rw [hb]
  · rw [Bool.eq_false_iff]
    intro h2
    obtain ⟨l', m', h3, h4, h5⟩ := behindP_some.1 h2
    rw [hp] at h3; rw [h] at h4
    cases h3; cases h4
    have := h5.length_le
    rw [List.length_append, List.length_cons, List.length_nil] at this
    omega

set_option maxHeartbeats 4000000 in
set_option maxRecDepth 100000 in
theorem parents_walk (w : World) (hE : Env w) (s : ByteArray) :
    Calls Tryd.prog 8 #[.string s] w fun e w' => e = .returned (.bool true) ∧ Below w.heap.size w w' := by
  have HE := Lib.hid hE
  clear hE
  by_cases hs : s.size ≤ 10000
  · have hs2 : ¬ 10000 < s.size := by omega
    have hs3 : s.size ≤ 2^30 := by omega
    cases hp : parse s with
    | none =>
      have Hp := Lib.hid (par_none hp)
      have c0 : (s.toList == [47]) = false := by
        rw [beq_eq_false_iff_ne, ByteArray.toList_eq]
        intro e
        have : s = ⟨#[47]⟩ := by rw [← B_eta s, e]; rfl
        rw [this, stroke_nil] at hp; cases hp
      clear hp
      go_enter Tryd.func8, Tryd.ntmps8
      go_wp2_with fail
      refine (shown_any _ HE.out).mono ?_
      rintro e w1 ⟨rfl, hb1⟩
      have Hb := Lib.hid hb1
      clear hb1
      go_wp2_with fail
      refine (parent_any _ (HE.out.below Hb.out) s hs3).mono ?_
      rintro e w2 ⟨rfl, hb2⟩
      rw [Hp.out.1, Hp.out.2.1, Hp.out.2.2]
      have Hb2 := Lib.hid (Hb.out.trans (hb2.mono Hb.out.size))
      clear hb2 Hb
      have Hb := Hb2
      clear Hb2
      go_wp2
      go_ret
      exact ⟨rfl, Hb.out⟩
    | some l =>
      by_cases h0 : l = []
      · subst h0
        have Hp := Lib.hid (par_nil hp)
        have c0 : (s.toList == [47]) = true := by rw [(parse_some hp).2, ByteArray.toList_eq, B_data]; rfl
        clear hp
        go_enter Tryd.func8, Tryd.ntmps8
        go_wp2_with fail
        refine (shown_any _ HE.out).mono ?_
        rintro e w1 ⟨rfl, hb1⟩
        have Hb := Lib.hid hb1
        clear hb1
        go_wp2_with fail
        refine (parent_any _ (HE.out.below Hb.out) s hs3).mono ?_
        rintro e w2 ⟨rfl, hb2⟩
        rw [Hp.out.1, Hp.out.2.1, Hp.out.2.2]
        have Hb2 := Lib.hid (Hb.out.trans (hb2.mono Hb.out.size))
        clear hb2 Hb
        have Hb := Hb2
        clear Hb2
        go_wp2
        go_ret
        exact ⟨rfl, Hb.out⟩
      · obtain ⟨l, n, rfl⟩ : ∃ l' n, l = l' ++ [n] := ⟨_, _, (List.dropLast_concat_getLast h0).symm⟩
        have hln := parse_len hp
        rw [List.length_append, List.length_cons, List.length_nil] at hln
        have Hp := Lib.hid (par_some hp)
        have HC := Lib.hid (child_last hp)
        have Hps := Lib.hid hp
        have Hsz : Hid ((B (tx l)).size ≤ 2^30) := by
          obtain ⟨h1, h2⟩ := ok_all (parse_some (child_last hp).1).1
          have h3 : (B (tx l)).size = (tx l).length := rfl
          have h4 := fl_le h2
          unfold Hid
          rw [h3]; unfold tx
          split
          · simp
          · omega
        generalize B (tx l) = p at *
        clear hp h0
        obtain ⟨i0, hi, hz0', hz1, hz2⟩ := info_parts Tryd.info9p
        have Hi := Lib.hid (And.intro hi (And.intro hz0' (And.intro hz1 hz2)))
        clear hi hz0' hz1 hz2
        have es := self_eq s
        have en := self_eq n
        go_enter Tryd.func8, Tryd.ntmps8
        go_wp2_with fail
        refine (shown_any _ HE.out).mono ?_
        rintro e w1 ⟨rfl, hb1⟩
        have Hb := Lib.hid hb1
        clear hb1
        go_wp2_with fail
        refine (parent_any _ (HE.out.below Hb.out) s hs3).mono ?_
        rintro e w2 ⟨rfl, hb2⟩
        rw [Hp.out.1, Hp.out.2.1, Hp.out.2.2]
        have Hb2 := Lib.hid (Hb.out.trans (hb2.mono Hb.out.size))
        clear hb2 Hb
        have Hb := Hb2
        clear Hb2
        go_wp2_with fail
        refine (child_any _ (HE.out.below Hb.out) s p hs3 Hsz.out).mono ?_
        rintro e w2 ⟨rfl, hb2⟩
        rw [HC.out.2.1]
        rw [show (some n).getD ⟨#[]⟩ = n from rfl, show (some n).isSome = true from rfl]
        have Hb2 := Lib.hid (Hb.out.trans (hb2.mono Hb.out.size))
        clear hb2 Hb
        have Hb := Hb2
        clear Hb2
        go_wp2_with fail
        refine (parse_any _ (HE.out.below Hb.out) p Hsz.out).mono ?_
        rintro e w3 h2
        obtain ⟨a2, c2, rfl, hr2, hc2, hsm, hb2⟩ := h2.yes HC.out.1
        have Hr2 := Lib.hid hr2
        have Hsm : Hid (a2 = none → l.length = 0 ∧ c2 = 0) := fun e => by
          have : c2 = 0 := Classical.byContradiction fun h => by
            obtain ⟨g, o, h⟩ := hsm h
            rw [e] at h; cases h
          exact ⟨by omega, this⟩
        clear h2 hr2 hsm
        have Hb2 := Lib.hid (Hb.out.trans (hb2.mono Hb.out.size))
        clear hb2 Hb
        have Hb := Hb2
        clear Hb2
        have hz3 := Hb.out.size
        go_wp2_with (at_builtin; refine Go.XR.stop (fun X hX => ?_))
        refine hX.out ?_
        clear hX X
        refine wpList_plain rfl (fun K hK => ?_)
        refine append_strs w3.heap.size (some ⟨w3.heap.size, 0, none⟩) 0 [] rfl (World.ownsRow_lit w3 #[] 0 (Nat.le_refl _) (by decide) rfl) a2 c2 l rfl (Row.below ((Below.refl _ _).alloc (Nat.le_refl _) _) Hr2.out) Hsm.out (by simp; omega) (by simp) ?_
        intro a4 c4 w4 ho4 hb4
        rw [List.nil_append] at ho4 ⊢
        have Ho4 := Lib.hid ho4
        have Hb4 := Lib.hid (((Below.refl w3.heap.size w3).alloc (Nat.le_refl _) _).trans hb4)
        have hz4 := Hb4.out.size
        clear ho4 hb4
        go_step
        refine hK _ _ ?_
        clear hK K
        go_wp2_with (at_builtin; refine Go.XR.stop (fun X hX => ?_))
        refine hX.out ?_
        clear hX X
        refine wpList_plain rfl (fun K hK => ?_)
        refine append_strs w3.heap.size a4 c4 l rfl (Ho4.out.alloc _) (some ⟨w4.heap.size, 0, none⟩) 1 [n] rfl (Row.new _ _ _) (fun e => by cases e) (by simp; omega) (by simp; omega) ?_
        intro a5 c5 w5 ho5 hb5
        have HC5 := Lib.hid HC.out.2.2.2.2.2
        have hln5 : (l ++ [n]).length ≤ 16 := by rw [List.length_append, List.length_cons, List.length_nil]; omega
        generalize l ++ [n] = L2 at ho5 HC5 hln5 ⊢
        have Ho5 := Lib.hid ho5
        have Hb5 := Lib.hid ((Hb4.out.alloc hz4 _).trans hb5)
        have Hb := Lib.hid (Hb.out.trans (Hb5.out.mono hz3))
        clear ho5 hb5
        go_step
        refine hK _ _ ?_
        clear hK K
        go_wp2_with fail
        refine (text_any _ (HE.out.below Hb.out) a5 c5 L2 (Row.owned Ho5.out) (owns_le Ho5.out) (by omega)).mono ?_
        rintro e w6 ⟨rfl, hb2⟩
        rw [textB_ok HC5.out.2, textE_ok HC5.out.2, ← HC5.out.1]
        have Hb2 := Lib.hid (Hb.out.trans (hb2.mono Hb.out.size))
        clear hb2 Hb
        have Hb := Hb2
        clear Hb2
        go_wp2_with fail
        refine (name_any _ (HE.out.below Hb.out).tabs n).mono ?_
        rintro e w7 ⟨rfl, hb2⟩
        rw [HC.out.2.2.1]
        have Hb2 := Lib.hid (Hb.out.trans (hb2.mono Hb.out.size))
        clear hb2 Hb
        have Hb := Hb2
        clear Hb2
        go_wp2_with fail
        refine (within_any _ (HE.out.below Hb.out) s p hs3 Hsz.out).mono ?_
        rintro e w8 ⟨rfl, hb2⟩
        rw [HC.out.2.2.2.1]
        have Hb2 := Lib.hid (Hb.out.trans (hb2.mono Hb.out.size))
        clear hb2 Hb
        have Hb := Hb2
        clear Hb2
        go_wp2_with fail
        refine (within_any _ (HE.out.below Hb.out) p s Hsz.out hs3).mono ?_
        rintro e w9 ⟨rfl, hb2⟩
        rw [HC.out.2.2.2.2.1]
        have Hb2 := Lib.hid (Hb.out.trans (hb2.mono Hb.out.size))
        clear hb2 Hb
        have Hb := Hb2
        clear Hb2
        go_wp2
        go_ret
        exact ⟨rfl, Hb.out⟩
  · have hs2 : 10000 < s.size := by omega
    go_enter Tryd.func8, Tryd.ntmps8
    go_wp2_with fail
    refine (shown_any _ HE.out).mono ?_
    rintro e w1 ⟨rfl, hb1⟩
    have Hb := Lib.hid hb1
    clear hb1
    go_wp2
    go_ret
    exact ⟨rfl, Hb.out⟩
end Go.Proofs.YtdillaedlpplhaaDoor
