/- The walks over the reference's Put and Drop. -/
import Derived.Test.YtnfbchhbcinloaaRp
namespace Go.Proofs.Ytnfbchhbcinloaa
open Go.RowKit Go.XR Go.IndexPure
theorem append_encN {α : Type} (enc : α → List Value) (k bytes : Nat) (hk : ∀ x, (enc x).length = k) (hone : ∀ x, ∀ v ∈ enc x, v.oneCell' = true)
    {P : Program} {w : World} {A : Act} {K : Act → World → Prop} {Q : Exit → Act → World → Prop} {dst : Option Tmp} {s x : Operand} {t ty : TypeId} {pos : String} {after : Array Edge} {guard : Option (Nat × Bool)}
    (e : TypeId) (ht : P.underlying t = some (.slice e)) (hinfo : (P.info? e).map (fun i => (i.size, i.bytes, i.zero.isSome, (i.zero.map (·.cells.size)))) = some (k, bytes, true, some k)) (hk0 : 0 < k)
    (base : Nat) (so : Option Addr) (sc : Nat) (l : List α) (hs : A.eval s = .slice so l.length sc) (hown : w.ownsRow base e k (.slice so l.length sc) l.length (l.flatMap enc))
    (xo : Option Addr) (n c : Nat) (m : List α) (hx : A.eval x = .slice xo n c) (hn : n = m.length) (hrow : Row w xo (m.flatMap enc)) (hnil : xo = none → m.length = 0 ∧ c = 0)
    (hlen : (l.length + m.length) * bytes ≤ 140737488355328) (hlen2 : l.length + m.length ≤ maxLen) (hbase : base ≤ w.heap.size)
    (h : ∀ a' c' w', w'.ownsRow base e k (.slice a' (l ++ m).length c') (l ++ m).length ((l ++ m).flatMap enc) → Below base w w' →
      Oper.wp P ⟨dst, .move (.const (.slice a' (l ++ m).length c')), ty, "", #[], none⟩ A w' K (fun _ _ _ => False)) :
    Oper.wp P ⟨dst, .call { callee := .builtin .append, args := #[s, x], argTypes := #[t, t] }, ty, pos, after, guard⟩ A w K Q := by
  subst hn
  exact append_enc enc k bytes hk hone e ht hinfo hk0 base so sc l hs hown xo c m hx hrow hnil hlen hlen2 hbase (fun a' c' w' h1 h2 _ _ => h a' c' w' h1 h2)
theorem own_shape {w : World} {B : Nat} {a : Option Addr} {n c : Nat} {xs : List Value} (h : w.ownsRow B 35 35 (.slice a n c) n xs) : n ≤ c ∧ c ≤ maxLen ∧ (a = none → c = 0) ∧ ∀ x, a = some x → B ≤ x.block ∧ x.block < w.heap.size ∧ x = ⟨x.block, 0, none⟩ := by
  rcases h.2 with ⟨h1, h2⟩ | ⟨g, cap, cur, h1, h2, h3, h4, h5, _⟩
  · injection h1 with e1 e2 e3
    exact ⟨by omega, by unfold maxLen; omega, fun _ => e3, (fun x hx => by rw [e1] at hx; cases hx)⟩
  · injection h1 with e1 e2 e3
    subst e3
    refine ⟨h4, h5, (fun e => by rw [e] at e1; cases e1), fun x hx => ?_⟩
    rw [hx] at e1
    injection e1 with e1
    subst e1
    exact ⟨h2, (Array.getElem?_eq_some_iff.1 h3).1, rfl⟩
def RetRPut (w : World) (b : Nat) (R : List RowT) (F : List Nat) (k : KeyT) (v : PlaceT) (e : Ending) (w' : World) : Prop :=
  ∃ i, LowK R k i ∧ e = .returned (.bool (decide (k ∈ R.map (·.1)))) ∧ RefIx w' b (R.take i ++ (k, v) :: R.drop (behind R k i)) F ∧ But [b] w w'
set_option maxHeartbeats 2000000 in
set_option maxRecDepth 100000 in
theorem refput_any (w : World) (b : Nat) (R : List RowT) (F : List Nat) (h : RefIx w b R F) (hF : ∀ i ∈ F, i < w.heap.size) (hs : SrtA R) (hlen : R.length ≤ 2^20) (k : KeyT) (v : PlaceT) :
    Calls Try.prog 25 #[.pointer (some ⟨b, 0, none⟩), keyV k, placeV v] w (RetRPut w b R F k v) := by
  obtain ⟨zr, hzr, hzr2⟩ := zero_row
  have Hzr := Lib.hid hzr2
  clear hzr2
  obtain ⟨a, c, hB, hR, hc, hcm, hbF, hnil, hx⟩ := h
  obtain ⟨W0, hW0⟩ : ∃ W0, (w.alloc (.cells (keyC k) 27)).alloc (.cells (placeC v) 33) = W0 := ⟨_, rfl⟩
  have hb0 : Below w.heap.size w W0 := by rw [← hW0]; exact ((Below.refl _ _).alloc (Nat.le_refl _) _).alloc (by simp) _
  have HK : Hid (At W0 w.heap.size 0 (keyC k)) := by unfold Hid; rw [← hW0]; exact (At.new _ _ _).alloc _
  have HP : Hid (Blk W0 (w.heap.size + 1) (placeL v)) := by
    unfold Hid; rw [← hW0]
    have h := Blk.new (w.alloc (.cells (keyC k) 27)) (placeC v) 33
    rwa [show (w.alloc (.cells (keyC k) 27)).heap.size = w.heap.size + 1 by simp] at h
  have HB := Lib.hid (hB.below hb0)
  have HR := Lib.hid (hR.below hb0)
  have Hb0 := Lib.hid hb0
  have hbl := hB.lt
  clear hB hR hb0
  obtain ⟨kb, hkb⟩ : ∃ kb, w.heap.size = kb := ⟨_, rfl⟩
  obtain ⟨vb, hvb⟩ : ∃ vb, kb + 1 = vb := ⟨_, rfl⟩
  have Hkb := Lib.hid hkb
  rw [hkb] at HK HP
  rw [hvb] at HP
  go_enter Try.func25, Try.ntmps25
  go_wp2_with (first | (refine wpList_load_at rfl 27 (.tmp 4) rfl kb 0 (by kernel_rfl) (keyC k) HK.out _ Try.underlying27 rfl (keySize k) ?_) | fail)
  refine (refat_any W0 b a c R HB.out HR.out hs (by omega) k).mono ?_
  rintro e w1 ⟨i, hL, rfl, hb1⟩
  have HK1 := Lib.hid (HK.out.below (by rw [keyC_size]; omega) hb1)
  have HP1 := Lib.hid (HP.out.below hb1)
  have HB1 := Lib.hid (HB.out.below hb1)
  have HR1 := Lib.hid (HR.out.below hb1)
  have Hb1 := Lib.hid (Hb0.out.trans (hb1.mono Hb0.out.size))
  have HL := Lib.hid hL
  have hi := hL.1
  have hic : (i : Int) ≤ (c : Int) := by omega
  have c0 := HB1.out.cell (i := 0) rfl
  have hvl : vb < w1.heap.size := HP1.out.lt
  clear hkb hvb hW0 hb1 hL HK HP HB HR
  have hbl1 : b < w1.heap.size := HB1.out.lt
  have hti : (R.take i).length = i := by rw [List.length_take]; omega
  have Hti := Lib.hid hti
  have HRt : Hid (Row w1 a ((R.take i).flatMap rowL)) := by
    have h1 := HR1.out.take (i * 35)
    rwa [flat_take rowL_length R hi] at h1
  clear hti
  go_wp2_with (at_builtin; refine Go.XR.stop (fun X hX => ?_))
  refine hX.out ?_
  clear hX X
  obtain ⟨T1, hT1⟩ : ∃ T1, R.take i = T1 := ⟨_, rfl⟩
  have HT1 := Lib.hid hT1
  rw [hT1] at HRt Hti
  clear hT1
  obtain ⟨nb, hnb⟩ : ∃ nb, w1.heap.size = nb := ⟨_, rfl⟩
  have Hnb := Lib.hid hnb
  obtain ⟨w2, hw2⟩ : ∃ w2, w1.alloc (.cells #[] 35) = w2 := ⟨_, rfl⟩
  have hb2 : Below nb w1 w2 := by rw [← hw2, ← hnb]; exact (Below.refl _ _).alloc (Nat.le_refl _) _
  have ho2 : w2.ownsRow nb 35 35 (.slice (some ⟨nb, 0, none⟩) ([] : List RowT).length 0) ([] : List RowT).length (([] : List RowT).flatMap rowL) := by
    rw [← hw2, ← hnb]
    exact ⟨rfl, .inr ⟨w1.heap.size, 0, #[], rfl, Nat.le_refl _, (MapKept.heap_alloc w1 _).1, Nat.le_refl _, by unfold maxLen; omega, rfl, rfl⟩⟩
  have hs2 : nb ≤ w2.heap.size := by rw [← hw2, ← hnb]; simp
  rw [hw2, hnb]
  have Ho2 := Lib.hid ho2
  have HR2 := Lib.hid (HRt.out.below (by rw [hnb]; exact hb2))
  have Hb2 := Lib.hid hb2
  clear hw2 ho2 hb2 HRt hnb c0
  refine wpList_plain rfl (fun K hK => ?_)
  refine append_enc (P := Try.prog) rowL 35 56 rowL_length one_rowL 35 Try.underlying46 (by kernel_rfl) (by decide) nb (some ⟨nb, 0, none⟩) 0 [] rfl Ho2.out a c T1 (by rw [Hti.out]; rfl) HR2.out (fun e => by
    have h1 := hnil e
    have := Hti.out
    omega) (by have := Hti.out; simp; omega) (by have := Hti.out; unfold maxLen; simp; omega) hs2 ?_
  intro a3 c3 w3 ho3 hb3 _ _
  rw [List.nil_append] at ho3 ⊢
  have Ho3 := Lib.hid ho3
  have Hb3 := Lib.hid (Hb2.out.trans hb3)
  have hs3 : nb ≤ w3.heap.size := Nat.le_trans hs2 hb3.size
  have HK3 := Lib.hid (HK1.out.below (by rw [keyC_size]; omega) (by rw [Hnb.out]; exact Hb3.out))
  have HP3 := Lib.hid ((HP1.out.below (by rw [Hnb.out]; exact Hb3.out)).toAt)
  clear ho3 hb3 Ho2 HR2 Hb2 HK1 HP1 hs2
  go_wp2_with (first | (refine wpList_load_at rfl 27 (.tmp 4) rfl kb 0 (by kernel_rfl) (keyC k) HK3.out _ Try.underlying27 rfl (keySize k) ?_) | (refine wpList_load_at rfl 33 (.tmp 5) rfl vb 0 (by kernel_rfl) (placeC v) HP3.out _ Try.underlying33 rfl (placeSize v) ?_) | (refine wpList_build_row rfl (.tmp 25) (.tmp 26) rfl k v rfl rfl ?_) | (refine wpList_build_one rfl 46 (.tmp 27) rfl 35 35 Try.underlying46 (by kernel_rfl) (by omega) (by omega) _ (Hzr.out _) (rowC (k, v)) rfl (rowC_size _) ?_) | (at_builtin; refine Go.XR.stop (fun X hX => ?_)))
  refine hX.out ?_
  clear hX X
  refine wpList_plain rfl (fun K hK => ?_)
  refine append_enc (P := Try.prog) rowL 35 56 rowL_length one_rowL 35 Try.underlying46 (by kernel_rfl) (by decide) nb a3 c3 T1 rfl (Ho3.out.alloc _) (some ⟨w3.heap.size, 0, none⟩) 1 [(k, v)] rfl (by rw [List.flatMap_cons, List.flatMap_nil, List.append_nil]; exact Row.new _ _ _) (fun e => by cases e) (by have := Hti.out; simp; omega) (by have := Hti.out; unfold maxLen; simp; omega) (by simp; omega) ?_
  intro a4 c4 w4 ho4 hb4 _ _
  have Ho4 := Lib.hid ho4
  have Hb4 := Lib.hid (Hb3.out.trans (((Below.refl nb w3).alloc hs3 _).trans hb4))
  have hs4 : nb ≤ w4.heap.size := Nat.le_trans hs3 (Nat.le_trans (by simp) hb4.size)
  clear ho4 hb4 Ho3 Hb3 HK3 HP3 hs3
  obtain ⟨T2, hT2⟩ : ∃ T2, T1 ++ [(k, v)] = T2 := ⟨_, rfl⟩
  have HT2 := Lib.hid hT2
  have Ht2 : Hid (T2.length ≤ R.length + 1) := by unfold Hid; rw [← hT2, List.length_append]; have := Hti.out; simp; omega
  rw [hT2] at Ho4 ⊢
  clear hT2
  have HB4 := Lib.hid (HB1.out.below (by rw [Hnb.out]; exact Hb4.out))
  have HR4 := Lib.hid (HR1.out.below (by rw [Hnb.out]; exact Hb4.out))
  have c0 := HB4.out.cell (i := 0) rfl
  have f0 := HB4.out.free 0
  have Hx := Lib.hid hx
  clear HB1 HR1 hx
  by_cases hk : k ∈ R.map (·.1)
  · have Hbh : Hid (behind R k i = i + 1) := if_pos hk
    have hil : i + 1 ≤ R.length := by
      obtain ⟨h1, _⟩ := (low_mem hs HL.out).1 hk
      omega
    have Hk : Hid (decide (k ∈ R.map (·.1)) = true) := decide_eq_true hk
    rw [Hk.out]
    clear hk hs
    obtain ⟨j, hj⟩ : ∃ j, i + 1 = j := ⟨_, rfl⟩
    have hjI : (i : Int) + 1 = (j : Int) := by omega
    rw [hj] at Hbh hil
    clear hj
    have hjc : (j : Int) ≤ (c : Int) := by omega
    have hjl : (j : Int) ≤ (R.length : Int) := by omega
    have hdl : (R.drop j).length = R.length - j := List.length_drop
    by_cases hcj : c = j
    · have hd0 : R.drop j = [] := List.drop_eq_nil_of_le (by omega)
      have Hdr : Hid (Row w4 a ((R.drop j).flatMap rowL)) := .inl (by rw [hd0]; rfl)
      have Hdl : Hid (R.length - j = (R.drop j).length ∧ c - j = 0) := ⟨hdl.symm, by omega⟩
      clear hd0 hdl
      go_wp2_with (at_builtin; refine Go.XR.stop (fun X hX => ?_))
      refine hX.out ?_
      clear hX X
      refine wpList_plain rfl (fun K hK => ?_)
      refine append_encN (P := Try.prog) rowL 35 56 rowL_length one_rowL 35 Try.underlying46 (by kernel_rfl) (by decide) nb a4 c4 T2 rfl Ho4.out _ _ _ (R.drop j) rfl Hdl.out.1 Hdr.out (fun _ => ⟨(by have := Hdl.out; omega), (by have := Hdl.out; omega)⟩) (by have := Ht2.out; rw [List.length_drop]; omega) (by have := Ht2.out; unfold maxLen; rw [List.length_drop]; omega) hs4 ?_
      intro a5 c5 w5 ho5 hb5
      obtain ⟨hs1, hs2, hs3, hs4'⟩ := own_shape ho5
      have hT : T2 ++ R.drop j = R.take i ++ (k, v) :: R.drop (behind R k i) := by rw [← HT2.out, ← HT1.out, Hbh.out, List.append_assoc]; rfl
      rw [hT] at ho5 hs1 ⊢
      have HRow5 := Lib.hid (Row.owned ho5)
      have HB5 := Lib.hid (HB4.out.heap (hb5.block b (by have := Hnb.out; omega)))
      have Hown := Lib.hid ho5
      have HbE := Lib.hid (Hb1.out.trans ((Hb4.out.trans hb5).mono (by rw [← Hnb.out]; exact Hb1.out.size)))
      have HX5 : Hid (∀ x, a5 = some x → x.block ≠ b ∧ x.block ∉ F ∧ x.block < w5.heap.size ∧ x = ⟨x.block, 0, none⟩) := fun x hx => by
        obtain ⟨h1, h2, h3⟩ := hs4' x hx
        refine ⟨?_, fun h => ?_, h2, h3⟩
        · have := Hnb.out; omega
        · have := hF _ h; have := Hnb.out; have := Hb1.out.size; omega
      have hbl5 : b < w5.heap.size := HB5.out.lt
      have f5 := HB5.out.free 0
      have c5' := HB5.out.cell (i := 0) rfl
      clear ho5 hb5 hT hs4' c0 f0
      obtain ⟨R', hR'⟩ : ∃ R', R.take i ++ (k, v) :: R.drop (behind R k i) = R' := ⟨_, rfl⟩
      have HR' := Lib.hid hR'
      rw [hR'] at HRow5 Hown hs1 ⊢
      clear hR'
      go_wp2
      go_ret
      refine ⟨i, HL.out, by rw [Hk.out]; rfl, ?_, ?_⟩
      · rw [HR'.out]
        have hb6 : But [b] w5 (w5.setCell ⟨b, 0, none⟩ (.slice a5 R'.length c5)) := (But.refl [b] w5).setCell (.inl (by simp)) _
        exact ⟨a5, c5, HB5.out.set 0 _, HRow5.out.but hb6 (fun g o e => by have := (HX5.out _ e).1; simpa using this), hs1, hs2, hbF, hs3, fun x hx => ⟨(HX5.out x hx).1, (HX5.out x hx).2.1, Nat.lt_of_lt_of_le (HX5.out x hx).2.2.1 hb6.size, (HX5.out x hx).2.2.2⟩⟩
      · exact (But.of_below HbE.out).trans ((But.refl [b] w5).setCell (.inl (by simp)) _)
    · obtain ⟨g, hag⟩ : ∃ g, a = some ⟨g, 0, none⟩ := by
        cases ha : a with
        | none => have := hnil ha; omega
        | some x => exact ⟨x.block, by rw [← (Hx.out x ha).2.2.2]⟩
      have Hdr : Hid (Row w4 (some ⟨g, j * 35, none⟩) ((R.drop j).flatMap rowL)) := by
        rcases HR4.out with h1 | ⟨g', o', he, h1⟩
        · have := flat_len rowL_length R
          rw [h1] at this
          have h2 : R = [] := List.eq_nil_of_length_eq_zero (by rw [List.length_nil] at this; omega)
          rw [h2]; exact .inl (by simp)
        · rw [hag] at he
          injection he with he
          injection he with e1 e2
          subst e1 e2
          refine .inr ⟨g, j * 35, rfl, fun q u hq => ?_⟩
          have h3 := flat_drop rowL_length R hil
          rw [← h3, List.getElem?_drop] at hq
          have := h1 _ u hq
          rwa [Nat.zero_add] at this
      have Hag := Lib.hid hag
      subst hag
      go_wp2_with (at_builtin; refine Go.XR.stop (fun X hX => ?_))
      refine hX.out ?_
      clear hX X
      refine wpList_plain rfl (fun K hK => ?_)
      refine append_encN (P := Try.prog) rowL 35 56 rowL_length one_rowL 35 Try.underlying46 (by kernel_rfl) (by decide) nb a4 c4 T2 rfl Ho4.out _ _ _ (R.drop j) rfl hdl.symm Hdr.out (fun e => by cases e) (by have := Ht2.out; rw [List.length_drop]; omega) (by have := Ht2.out; unfold maxLen; rw [List.length_drop]; omega) hs4 ?_
      intro a5 c5 w5 ho5 hb5
      obtain ⟨hs1, hs2, hs3, hs4'⟩ := own_shape ho5
      have hT : T2 ++ R.drop j = R.take i ++ (k, v) :: R.drop (behind R k i) := by rw [← HT2.out, ← HT1.out, Hbh.out, List.append_assoc]; rfl
      rw [hT] at ho5 hs1 ⊢
      have HRow5 := Lib.hid (Row.owned ho5)
      have HB5 := Lib.hid (HB4.out.heap (hb5.block b (by have := Hnb.out; omega)))
      have Hown := Lib.hid ho5
      have HbE := Lib.hid (Hb1.out.trans ((Hb4.out.trans hb5).mono (by rw [← Hnb.out]; exact Hb1.out.size)))
      have HX5 : Hid (∀ x, a5 = some x → x.block ≠ b ∧ x.block ∉ F ∧ x.block < w5.heap.size ∧ x = ⟨x.block, 0, none⟩) := fun x hx => by
        obtain ⟨h1, h2, h3⟩ := hs4' x hx
        refine ⟨?_, fun h => ?_, h2, h3⟩
        · have := Hnb.out; omega
        · have := hF _ h; have := Hnb.out; have := Hb1.out.size; omega
      have hbl5 : b < w5.heap.size := HB5.out.lt
      have f5 := HB5.out.free 0
      have c5' := HB5.out.cell (i := 0) rfl
      clear ho5 hb5 hT hs4' c0 f0
      obtain ⟨R', hR'⟩ : ∃ R', R.take i ++ (k, v) :: R.drop (behind R k i) = R' := ⟨_, rfl⟩
      have HR' := Lib.hid hR'
      rw [hR'] at HRow5 Hown hs1 ⊢
      clear hR'
      go_wp2
      go_ret
      refine ⟨i, HL.out, by rw [Hk.out]; rfl, ?_, ?_⟩
      · rw [HR'.out]
        have hb6 : But [b] w5 (w5.setCell ⟨b, 0, none⟩ (.slice a5 R'.length c5)) := (But.refl [b] w5).setCell (.inl (by simp)) _
        exact ⟨a5, c5, HB5.out.set 0 _, HRow5.out.but hb6 (fun g o e => by have := (HX5.out _ e).1; simpa using this), hs1, hs2, hbF, hs3, fun x hx => ⟨(HX5.out x hx).1, (HX5.out x hx).2.1, Nat.lt_of_lt_of_le (HX5.out x hx).2.2.1 hb6.size, (HX5.out x hx).2.2.2⟩⟩
      · exact (But.of_below HbE.out).trans ((But.refl [b] w5).setCell (.inl (by simp)) _)
  · have hbh : behind R k i = i := if_neg hk
    have Hk : Hid (decide (k ∈ R.map (·.1)) = false) := decide_eq_false hk
    rw [Hk.out]
    clear hk hs
    obtain ⟨j, hj⟩ : ∃ j, i = j := ⟨_, rfl⟩
    have hil : j ≤ R.length := by omega
    have hjI : (i : Int) = (j : Int) := by omega
    have Hbh : Hid (behind R k i = j) := hbh.trans hj
    clear hj hbh
    have hjc : (j : Int) ≤ (c : Int) := by omega
    have hjl : (j : Int) ≤ (R.length : Int) := by omega
    have hdl : (R.drop j).length = R.length - j := List.length_drop
    by_cases hcj : c = j
    · have hd0 : R.drop j = [] := List.drop_eq_nil_of_le (by omega)
      have Hdr : Hid (Row w4 a ((R.drop j).flatMap rowL)) := .inl (by rw [hd0]; rfl)
      have Hdl : Hid (R.length - j = (R.drop j).length ∧ c - j = 0) := ⟨hdl.symm, by omega⟩
      clear hd0 hdl
      go_wp2_with (at_builtin; refine Go.XR.stop (fun X hX => ?_))
      refine hX.out ?_
      clear hX X
      refine wpList_plain rfl (fun K hK => ?_)
      refine append_encN (P := Try.prog) rowL 35 56 rowL_length one_rowL 35 Try.underlying46 (by kernel_rfl) (by decide) nb a4 c4 T2 rfl Ho4.out _ _ _ (R.drop j) rfl Hdl.out.1 Hdr.out (fun _ => ⟨(by have := Hdl.out; omega), (by have := Hdl.out; omega)⟩) (by have := Ht2.out; rw [List.length_drop]; omega) (by have := Ht2.out; unfold maxLen; rw [List.length_drop]; omega) hs4 ?_
      intro a5 c5 w5 ho5 hb5
      obtain ⟨hs1, hs2, hs3, hs4'⟩ := own_shape ho5
      have hT : T2 ++ R.drop j = R.take i ++ (k, v) :: R.drop (behind R k i) := by rw [← HT2.out, ← HT1.out, Hbh.out, List.append_assoc]; rfl
      rw [hT] at ho5 hs1 ⊢
      have HRow5 := Lib.hid (Row.owned ho5)
      have HB5 := Lib.hid (HB4.out.heap (hb5.block b (by have := Hnb.out; omega)))
      have Hown := Lib.hid ho5
      have HbE := Lib.hid (Hb1.out.trans ((Hb4.out.trans hb5).mono (by rw [← Hnb.out]; exact Hb1.out.size)))
      have HX5 : Hid (∀ x, a5 = some x → x.block ≠ b ∧ x.block ∉ F ∧ x.block < w5.heap.size ∧ x = ⟨x.block, 0, none⟩) := fun x hx => by
        obtain ⟨h1, h2, h3⟩ := hs4' x hx
        refine ⟨?_, fun h => ?_, h2, h3⟩
        · have := Hnb.out; omega
        · have := hF _ h; have := Hnb.out; have := Hb1.out.size; omega
      have hbl5 : b < w5.heap.size := HB5.out.lt
      have f5 := HB5.out.free 0
      have c5' := HB5.out.cell (i := 0) rfl
      clear ho5 hb5 hT hs4' c0 f0
      obtain ⟨R', hR'⟩ : ∃ R', R.take i ++ (k, v) :: R.drop (behind R k i) = R' := ⟨_, rfl⟩
      have HR' := Lib.hid hR'
      rw [hR'] at HRow5 Hown hs1 ⊢
      clear hR'
      go_wp2
      go_ret
      refine ⟨i, HL.out, by rw [Hk.out]; rfl, ?_, ?_⟩
      · rw [HR'.out]
        have hb6 : But [b] w5 (w5.setCell ⟨b, 0, none⟩ (.slice a5 R'.length c5)) := (But.refl [b] w5).setCell (.inl (by simp)) _
        exact ⟨a5, c5, HB5.out.set 0 _, HRow5.out.but hb6 (fun g o e => by have := (HX5.out _ e).1; simpa using this), hs1, hs2, hbF, hs3, fun x hx => ⟨(HX5.out x hx).1, (HX5.out x hx).2.1, Nat.lt_of_lt_of_le (HX5.out x hx).2.2.1 hb6.size, (HX5.out x hx).2.2.2⟩⟩
      · exact (But.of_below HbE.out).trans ((But.refl [b] w5).setCell (.inl (by simp)) _)
    · obtain ⟨g, hag⟩ : ∃ g, a = some ⟨g, 0, none⟩ := by
        cases ha : a with
        | none => have := hnil ha; omega
        | some x => exact ⟨x.block, by rw [← (Hx.out x ha).2.2.2]⟩
      have Hdr : Hid (Row w4 (some ⟨g, j * 35, none⟩) ((R.drop j).flatMap rowL)) := by
        rcases HR4.out with h1 | ⟨g', o', he, h1⟩
        · have := flat_len rowL_length R
          rw [h1] at this
          have h2 : R = [] := List.eq_nil_of_length_eq_zero (by rw [List.length_nil] at this; omega)
          rw [h2]; exact .inl (by simp)
        · rw [hag] at he
          injection he with he
          injection he with e1 e2
          subst e1 e2
          refine .inr ⟨g, j * 35, rfl, fun q u hq => ?_⟩
          have h3 := flat_drop rowL_length R hil
          rw [← h3, List.getElem?_drop] at hq
          have := h1 _ u hq
          rwa [Nat.zero_add] at this
      have Hag := Lib.hid hag
      subst hag
      go_wp2_with (at_builtin; refine Go.XR.stop (fun X hX => ?_))
      refine hX.out ?_
      clear hX X
      refine wpList_plain rfl (fun K hK => ?_)
      refine append_encN (P := Try.prog) rowL 35 56 rowL_length one_rowL 35 Try.underlying46 (by kernel_rfl) (by decide) nb a4 c4 T2 rfl Ho4.out _ _ _ (R.drop j) rfl hdl.symm Hdr.out (fun e => by cases e) (by have := Ht2.out; rw [List.length_drop]; omega) (by have := Ht2.out; unfold maxLen; rw [List.length_drop]; omega) hs4 ?_
      intro a5 c5 w5 ho5 hb5
      obtain ⟨hs1, hs2, hs3, hs4'⟩ := own_shape ho5
      have hT : T2 ++ R.drop j = R.take i ++ (k, v) :: R.drop (behind R k i) := by rw [← HT2.out, ← HT1.out, Hbh.out, List.append_assoc]; rfl
      rw [hT] at ho5 hs1 ⊢
      have HRow5 := Lib.hid (Row.owned ho5)
      have HB5 := Lib.hid (HB4.out.heap (hb5.block b (by have := Hnb.out; omega)))
      have Hown := Lib.hid ho5
      have HbE := Lib.hid (Hb1.out.trans ((Hb4.out.trans hb5).mono (by rw [← Hnb.out]; exact Hb1.out.size)))
      have HX5 : Hid (∀ x, a5 = some x → x.block ≠ b ∧ x.block ∉ F ∧ x.block < w5.heap.size ∧ x = ⟨x.block, 0, none⟩) := fun x hx => by
        obtain ⟨h1, h2, h3⟩ := hs4' x hx
        refine ⟨?_, fun h => ?_, h2, h3⟩
        · have := Hnb.out; omega
        · have := hF _ h; have := Hnb.out; have := Hb1.out.size; omega
      have hbl5 : b < w5.heap.size := HB5.out.lt
      have f5 := HB5.out.free 0
      have c5' := HB5.out.cell (i := 0) rfl
      clear ho5 hb5 hT hs4' c0 f0
      obtain ⟨R', hR'⟩ : ∃ R', R.take i ++ (k, v) :: R.drop (behind R k i) = R' := ⟨_, rfl⟩
      have HR' := Lib.hid hR'
      rw [hR'] at HRow5 Hown hs1 ⊢
      clear hR'
      go_wp2
      go_ret
      refine ⟨i, HL.out, by rw [Hk.out]; rfl, ?_, ?_⟩
      · rw [HR'.out]
        have hb6 : But [b] w5 (w5.setCell ⟨b, 0, none⟩ (.slice a5 R'.length c5)) := (But.refl [b] w5).setCell (.inl (by simp)) _
        exact ⟨a5, c5, HB5.out.set 0 _, HRow5.out.but hb6 (fun g o e => by have := (HX5.out _ e).1; simpa using this), hs1, hs2, hbF, hs3, fun x hx => ⟨(HX5.out x hx).1, (HX5.out x hx).2.1, Nat.lt_of_lt_of_le (HX5.out x hx).2.2.1 hb6.size, (HX5.out x hx).2.2.2⟩⟩
      · exact (But.of_below HbE.out).trans ((But.refl [b] w5).setCell (.inl (by simp)) _)
end Go.Proofs.Ytnfbchhbcinloaa
