/- The walk over the reference's Drop. -/
import Derived.Test.YtnfbchhbcinloaaRu
namespace Go.Proofs.Ytnfbchhbcinloaa
open Go.RowKit Go.XR Go.IndexPure
def RetRDrop (w : World) (b : Nat) (R : List RowT) (F : List Nat) (k : KeyT) (e : Ending) (w' : World) : Prop :=
  e = .returned (.bool (decide (k ∈ R.map (·.1)))) ∧ ∃ i, LowK R k i ∧ RefIx w' b (if k ∈ R.map (·.1) then R.take i ++ R.drop (behind R k i) else R) F ∧ But [b] w w'
set_option maxHeartbeats 2000000 in
set_option maxRecDepth 100000 in
theorem refdrop_any (w : World) (b : Nat) (R : List RowT) (F : List Nat) (h : RefIx w b R F) (hF : ∀ i ∈ F, i < w.heap.size) (hs : SrtA R) (hlen : R.length ≤ 2^20) (k : KeyT) :
    Calls Try.prog 24 #[.pointer (some ⟨b, 0, none⟩), keyV k] w (RetRDrop w b R F k) := by
  obtain ⟨zr, hzr, hzr2⟩ := zero_row
  have Hzr := Lib.hid hzr2
  clear hzr2
  obtain ⟨a, c, hB, hR, hc, hcm, hbF, hnil, hx⟩ := h
  obtain ⟨W0, hW0⟩ : ∃ W0, w.alloc (.cells (keyC k) 27) = W0 := ⟨_, rfl⟩
  have hb0 : Below w.heap.size w W0 := by rw [← hW0]; exact (Below.refl _ _).alloc (Nat.le_refl _) _
  have HK : Hid (At W0 w.heap.size 0 (keyC k)) := by unfold Hid; rw [← hW0]; exact At.new _ _ _
  have HB := Lib.hid (hB.below hb0)
  have HR := Lib.hid (hR.below hb0)
  have Hb0 := Lib.hid hb0
  have hbl := hB.lt
  clear hB hR hb0
  obtain ⟨kb, hkb⟩ : ∃ kb, w.heap.size = kb := ⟨_, rfl⟩
  have Hkb := Lib.hid hkb
  rw [hkb] at HK
  go_enter Try.func24, Try.ntmps24
  go_wp2_with (first | (refine wpList_load_at rfl 27 (.tmp 3) rfl kb 0 (by kernel_rfl) (keyC k) HK.out _ Try.underlying27 rfl (keySize k) ?_) | fail)
  refine (refat_any W0 b a c R HB.out HR.out hs (by omega) k).mono ?_
  rintro e w1 ⟨i, hL, rfl, hb1⟩
  have HK1 := Lib.hid (HK.out.below (by rw [keyC_size]; omega) hb1)
  have HB1 := Lib.hid (HB.out.below hb1)
  have HR1 := Lib.hid (HR.out.below hb1)
  have Hb1 := Lib.hid (Hb0.out.trans (hb1.mono Hb0.out.size))
  have HL := Lib.hid hL
  have hi := hL.1
  have hic : (i : Int) ≤ (c : Int) := by omega
  have c0 := HB1.out.cell (i := 0) rfl
  clear hkb hW0 hb1 hL HK HB HR
  by_cases hk : k ∈ R.map (·.1)
  · have Hbh : Hid (behind R k i = i + 1) := if_pos hk
    have hil : i + 1 ≤ R.length := by
      obtain ⟨h1, _⟩ := (low_mem hs HL.out).1 hk
      omega
    have Hk : Hid (decide (k ∈ R.map (·.1)) = true) := decide_eq_true hk
    rw [Hk.out]
    clear hk hs
    have hbl1 : b < w1.heap.size := HB1.out.lt
    have hti : (R.take i).length = i := by rw [List.length_take]; omega
    have Hti := Lib.hid hti
    have HRt : Hid (Row w1 a ((R.take i).flatMap rowL)) := by
      have h1 := HR1.out.take (i * 35)
      rwa [flat_take rowL_length R hi] at h1
    clear hti
    go_wp2_with (at_builtin; refine Go.XR.stop (fun X hX => ?_))
    refine hX.out ?_
    clear hX X
    obtain ⟨T1, hT1⟩ : ∃ T1, R.take i = T1 := ⟨_, rfl⟩
    have HT1 := Lib.hid hT1
    rw [hT1] at HRt Hti
    clear hT1
    obtain ⟨nb, hnb⟩ : ∃ nb, w1.heap.size = nb := ⟨_, rfl⟩
    have Hnb := Lib.hid hnb
    obtain ⟨w2, hw2⟩ : ∃ w2, w1.alloc (.cells #[] 35) = w2 := ⟨_, rfl⟩
    have hb2 : Below nb w1 w2 := by rw [← hw2, ← hnb]; exact (Below.refl _ _).alloc (Nat.le_refl _) _
    have ho2 : w2.ownsRow nb 35 35 (.slice (some ⟨nb, 0, none⟩) ([] : List RowT).length 0) ([] : List RowT).length (([] : List RowT).flatMap rowL) := by
      rw [← hw2, ← hnb]
      exact ⟨rfl, .inr ⟨w1.heap.size, 0, #[], rfl, Nat.le_refl _, (MapKept.heap_alloc w1 _).1, Nat.le_refl _, by unfold maxLen; omega, rfl, rfl⟩⟩
    have hs2 : nb ≤ w2.heap.size := by rw [← hw2, ← hnb]; simp
    rw [hw2, hnb]
    have Ho2 := Lib.hid ho2
    have HR2 := Lib.hid (HRt.out.below (by rw [hnb]; exact hb2))
    have Hb2 := Lib.hid hb2
    clear hw2 ho2 hb2 HRt hnb c0
    refine wpList_plain rfl (fun K hK => ?_)
    refine append_enc (P := Try.prog) rowL 35 56 rowL_length one_rowL 35 Try.underlying46 (by kernel_rfl) (by decide) nb (some ⟨nb, 0, none⟩) 0 [] rfl Ho2.out a c T1 (by rw [Hti.out]; rfl) HR2.out (fun e => by
      have h1 := hnil e
      have := Hti.out
      omega) (by have := Hti.out; simp; omega) (by have := Hti.out; unfold maxLen; simp; omega) hs2 ?_
    intro a3 c3 w3 ho3 hb3 _ _
    rw [List.nil_append] at ho3 ⊢
    have Ho3 := Lib.hid ho3
    have Hb3 := Lib.hid (Hb2.out.trans hb3)
    have hs3n : nb ≤ w3.heap.size := Nat.le_trans hs2 hb3.size
    have Ht1 : Hid (T1.length ≤ R.length) := by unfold Hid; have := Hti.out; omega
    clear ho3 hb3 Ho2 HR2 Hb2 HK1 hs2
    have HB3 := Lib.hid (HB1.out.below (by rw [Hnb.out]; exact Hb3.out))
    have HR3 := Lib.hid (HR1.out.below (by rw [Hnb.out]; exact Hb3.out))
    have c0 := HB3.out.cell (i := 0) rfl
    have f0 := HB3.out.free 0
    have Hx := Lib.hid hx
    clear HB1 HR1 hx
    obtain ⟨j, hj⟩ : ∃ j, i + 1 = j := ⟨_, rfl⟩
    have hjI : (i : Int) + 1 = (j : Int) := by omega
    rw [hj] at Hbh hil
    clear hj
    have hjc : (j : Int) ≤ (c : Int) := by omega
    have hjl : (j : Int) ≤ (R.length : Int) := by omega
    have hdl : (R.drop j).length = R.length - j := List.length_drop
    by_cases hcj : c = j
    · have hd0 : R.drop j = [] := List.drop_eq_nil_of_le (by omega)
      have Hdr : Hid (Row w3 a ((R.drop j).flatMap rowL)) := .inl (by rw [hd0]; rfl)
      have Hdl : Hid (R.length - j = (R.drop j).length ∧ c - j = 0) := ⟨hdl.symm, by omega⟩
      clear hd0 hdl
      go_wp2_with (at_builtin; refine Go.XR.stop (fun X hX => ?_))
      refine hX.out ?_
      clear hX X
      refine wpList_plain rfl (fun K hK => ?_)
      refine append_encN (P := Try.prog) rowL 35 56 rowL_length one_rowL 35 Try.underlying46 (by kernel_rfl) (by decide) nb a3 c3 T1 rfl Ho3.out _ _ _ (R.drop j) rfl Hdl.out.1 Hdr.out (fun _ => ⟨(by have := Hdl.out; omega), (by have := Hdl.out; omega)⟩) (by have := Ht1.out; rw [List.length_drop]; omega) (by have := Ht1.out; unfold maxLen; rw [List.length_drop]; omega) hs3n ?_
      intro a5 c5 w5 ho5 hb5
      obtain ⟨hs1, hs2, hs3, hs4'⟩ := own_shape ho5
      have hT : T1 ++ R.drop j = R.take i ++ R.drop (behind R k i) := by rw [← HT1.out, Hbh.out]
      rw [hT] at ho5 hs1 ⊢
      have HRow5 := Lib.hid (Row.owned ho5)
      have HB5 := Lib.hid (HB3.out.heap (hb5.block b (by have := Hnb.out; omega)))
      have Hown := Lib.hid ho5
      have HbE := Lib.hid (Hb1.out.trans ((Hb3.out.trans hb5).mono (by rw [← Hnb.out]; exact Hb1.out.size)))
      have HX5 : Hid (∀ x, a5 = some x → x.block ≠ b ∧ x.block ∉ F ∧ x.block < w5.heap.size ∧ x = ⟨x.block, 0, none⟩) := fun x hx => by
        obtain ⟨h1, h2, h3⟩ := hs4' x hx
        refine ⟨?_, fun h => ?_, h2, h3⟩
        · have := Hnb.out; omega
        · have := hF _ h; have := Hnb.out; have := Hb1.out.size; omega
      have hbl5 : b < w5.heap.size := HB5.out.lt
      have f5 := HB5.out.free 0
      have c5' := HB5.out.cell (i := 0) rfl
      clear ho5 hb5 hT hs4' c0 f0
      obtain ⟨R', hR'⟩ : ∃ R', R.take i ++ R.drop (behind R k i) = R' := ⟨_, rfl⟩
      have HR' := Lib.hid hR'
      rw [hR'] at HRow5 Hown hs1 ⊢
      clear hR'
      go_wp2
      go_ret
      refine ⟨by rw [Hk.out]; rfl, i, HL.out, ?_, ?_⟩
      · rw [if_pos (by have := Hk.out; simpa using this), HR'.out]
        have hb6 : But [b] w5 (w5.setCell ⟨b, 0, none⟩ (.slice a5 R'.length c5)) := (But.refl [b] w5).setCell (.inl (by simp)) _
        exact ⟨a5, c5, HB5.out.set 0 _, HRow5.out.but hb6 (fun g o e => by have := (HX5.out _ e).1; simpa using this), hs1, hs2, hbF, hs3, fun x hx => ⟨(HX5.out x hx).1, (HX5.out x hx).2.1, Nat.lt_of_lt_of_le (HX5.out x hx).2.2.1 hb6.size, (HX5.out x hx).2.2.2⟩⟩
      · exact (But.of_below HbE.out).trans ((But.refl [b] w5).setCell (.inl (by simp)) _)
    · obtain ⟨g, hag⟩ : ∃ g, a = some ⟨g, 0, none⟩ := by
        cases ha : a with
        | none => have := hnil ha; omega
        | some x => exact ⟨x.block, by rw [← (Hx.out x ha).2.2.2]⟩
      have Hdr : Hid (Row w3 (some ⟨g, j * 35, none⟩) ((R.drop j).flatMap rowL)) := by
        rcases HR3.out with h1 | ⟨g', o', he, h1⟩
        · have := flat_len rowL_length R
          rw [h1] at this
          have h2 : R = [] := List.eq_nil_of_length_eq_zero (by rw [List.length_nil] at this; omega)
          rw [h2]; exact .inl (by simp)
        · rw [hag] at he
          injection he with he
          injection he with e1 e2
          subst e1 e2
          refine .inr ⟨g, j * 35, rfl, fun q u hq => ?_⟩
          have h3 := flat_drop rowL_length R hil
          rw [← h3, List.getElem?_drop] at hq
          have := h1 _ u hq
          rwa [Nat.zero_add] at this
      have Hag := Lib.hid hag
      subst hag
      go_wp2_with (at_builtin; refine Go.XR.stop (fun X hX => ?_))
      refine hX.out ?_
      clear hX X
      refine wpList_plain rfl (fun K hK => ?_)
      refine append_encN (P := Try.prog) rowL 35 56 rowL_length one_rowL 35 Try.underlying46 (by kernel_rfl) (by decide) nb a3 c3 T1 rfl Ho3.out _ _ _ (R.drop j) rfl hdl.symm Hdr.out (fun e => by cases e) (by have := Ht1.out; rw [List.length_drop]; omega) (by have := Ht1.out; unfold maxLen; rw [List.length_drop]; omega) hs3n ?_
      intro a5 c5 w5 ho5 hb5
      obtain ⟨hs1, hs2, hs3, hs4'⟩ := own_shape ho5
      have hT : T1 ++ R.drop j = R.take i ++ R.drop (behind R k i) := by rw [← HT1.out, Hbh.out]
      rw [hT] at ho5 hs1 ⊢
      have HRow5 := Lib.hid (Row.owned ho5)
      have HB5 := Lib.hid (HB3.out.heap (hb5.block b (by have := Hnb.out; omega)))
      have Hown := Lib.hid ho5
      have HbE := Lib.hid (Hb1.out.trans ((Hb3.out.trans hb5).mono (by rw [← Hnb.out]; exact Hb1.out.size)))
      have HX5 : Hid (∀ x, a5 = some x → x.block ≠ b ∧ x.block ∉ F ∧ x.block < w5.heap.size ∧ x = ⟨x.block, 0, none⟩) := fun x hx => by
        obtain ⟨h1, h2, h3⟩ := hs4' x hx
        refine ⟨?_, fun h => ?_, h2, h3⟩
        · have := Hnb.out; omega
        · have := hF _ h; have := Hnb.out; have := Hb1.out.size; omega
      have hbl5 : b < w5.heap.size := HB5.out.lt
      have f5 := HB5.out.free 0
      have c5' := HB5.out.cell (i := 0) rfl
      clear ho5 hb5 hT hs4' c0 f0
      obtain ⟨R', hR'⟩ : ∃ R', R.take i ++ R.drop (behind R k i) = R' := ⟨_, rfl⟩
      have HR' := Lib.hid hR'
      rw [hR'] at HRow5 Hown hs1 ⊢
      clear hR'
      go_wp2
      go_ret
      refine ⟨by rw [Hk.out]; rfl, i, HL.out, ?_, ?_⟩
      · rw [if_pos (by have := Hk.out; simpa using this), HR'.out]
        have hb6 : But [b] w5 (w5.setCell ⟨b, 0, none⟩ (.slice a5 R'.length c5)) := (But.refl [b] w5).setCell (.inl (by simp)) _
        exact ⟨a5, c5, HB5.out.set 0 _, HRow5.out.but hb6 (fun g o e => by have := (HX5.out _ e).1; simpa using this), hs1, hs2, hbF, hs3, fun x hx => ⟨(HX5.out x hx).1, (HX5.out x hx).2.1, Nat.lt_of_lt_of_le (HX5.out x hx).2.2.1 hb6.size, (HX5.out x hx).2.2.2⟩⟩
      · exact (But.of_below HbE.out).trans ((But.refl [b] w5).setCell (.inl (by simp)) _)
  · have Hk : Hid (decide (k ∈ R.map (·.1)) = false) := decide_eq_false hk
    rw [Hk.out]
    clear hk hs
    go_wp2
    go_ret
    exact ⟨by rw [Hk.out]; rfl, i, HL.out, by rw [if_neg (by have := Hk.out; simpa using this)]; exact ⟨a, c, HB1.out, HR1.out, hc, hcm, hbF, hnil, fun x hx2 => ⟨(hx x hx2).1, (hx x hx2).2.1, Nat.lt_of_lt_of_le (hx x hx2).2.2.1 Hb1.out.size, (hx x hx2).2.2.2⟩⟩, But.of_below Hb1.out⟩
end Go.Proofs.Ytnfbchhbcinloaa
