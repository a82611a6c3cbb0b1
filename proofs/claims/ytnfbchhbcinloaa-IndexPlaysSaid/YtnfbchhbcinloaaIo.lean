/- The walk over the statement IndexOrder. -/
import Derived.Test.YtnfbchhbcinloaaIp
namespace Go.Proofs.Ytnfbchhbcinloaa
open Go.RowKit Go.XR Go.IndexPure
/-- a step at one of two indexes that stand apart -/
theorem two_step {B : Nat} {w w' : World} {px py : Nat} {Dy Dx' : List RowT} {Fx Fx' Fy : List Nat} (_ : Ix w' Fx' px Dx') (hb : But Fx w w') (hg : Grew w Fx Fx') (hy : Ix w Fy py Dy) (hd : ∀ b ∈ Fx, b ∉ Fy) (hBx : ∀ b ∈ Fx, B ≤ b) (hB : B ≤ w.heap.size) :
    Ix w' Fy py Dy ∧ (∀ b ∈ Fx', b ∉ Fy) ∧ (∀ b ∈ Fx', B ≤ b) ∧ Below B w w' := by
  refine ⟨hy.but hb fun b h1 h2 => hd b h2 h1, fun b h1 h2 => ?_, fun b h1 => ?_, hb.below hB hBx⟩
  · rcases hg b h1 with h3 | h3
    · exact hd b h3 h2
    · have := hy.fin b h2; omega
  · rcases hg b h1 with h3 | h3
    · exact hBx b h3
    · omega
theorem keepRow {w w' : World} {S : List Nat} {a : Option Addr} {L : List RowT} (h : Row w a (L.flatMap rowL)) (hb : But S w w') (hn : ∀ x, a = some x → L ≠ [] → x.block ∉ S) : Row w' a (L.flatMap rowL) := by
  by_cases hL : L = []
  · subst hL; exact .inl rfl
  · exact h.but hb fun g o ha => hn _ ha hL
theorem place_sh {v : PlaceT} (h : PlaceOk v) : -9223372036854775808 ≤ v.shelf ∧ v.shelf ≤ 9223372036854775807 := h.1
/-- the same pairs -/
def SameD (D E : List RowT) : Prop := ∀ k, aget E k = aget D k
theorem SameD.mem {D E : List RowT} (h : SameD D E) (hD : (D.map (·.1)).Nodup) (hE : (E.map (·.1)).Nodup) (r : RowT) : r ∈ E ↔ r ∈ D := by
  rw [show r = (r.1, r.2) from rfl, ← aget_mem hD, ← aget_mem hE, h r.1]
theorem AllOf.same {D E L M : List RowT} (hL : AllOf D L) (hM : AllOf E M) (h : SameD D E) (hD : (D.map (·.1)).Nodup) (hE : (E.map (·.1)).Nodup) : M = L :=
  eq_of_strict (r := fun x y => cfA x y < 0) (fun x y h1 h2 => by have := cfK_swap x.1 y.1; unfold cfA at *; omega) M L hM.2 hL.2 fun r => by
    rw [hM.1.mem_iff, hL.1.mem_iff, h.mem hD hE]
theorem ShelfOf.same {D E L M : List RowT} {s : Int} (hL : ShelfOf D s L) (hM : ShelfOf E s M) (h : SameD D E) (hD : (D.map (·.1)).Nodup) (hE : (E.map (·.1)).Nodup) : L = M :=
  eq_of_strict (r := fun x y => cfS x y < 0) (fun x y h1 h2 => by have := cfS_swap x y; omega) L M hL.2 hM.2 fun r => by
    rw [hM.1.mem_iff, hL.1.mem_iff, List.mem_filter, List.mem_filter, h.mem hD hE]
theorem SameD.len {D E : List RowT} (h : SameD D E) (hD : (D.map (·.1)).Nodup) (hE : (E.map (·.1)).Nodup) : E.length = D.length := by
  have hn1 : D.Nodup := List.Pairwise.of_map (·.1) (fun a b h e => h (by rw [e])) hD
  have hn2 : E.Nodup := List.Pairwise.of_map (·.1) (fun a b h e => h (by rw [e])) hE
  exact Nat.le_antisymm (hn2.length_le_of_subset fun r hr => (h.mem hD hE r).1 hr) (hn1.length_le_of_subset fun r hr => (h.mem hD hE r).2 hr)
/-- pairs whose keys are of a list are not more than these -/
theorem len_keys {D : List RowT} {K : List KeyT} (hD : (D.map (·.1)).Nodup) (h : ∀ k, (aget D k).isSome = true → k ∈ K) : D.length ≤ K.length := by
  have := hD.length_le_of_subset (l₂ := K) fun k hk => by
    obtain ⟨⟨k', v⟩, h1, rfl⟩ := List.mem_map.1 hk
    exact h k' (by rw [(aget_mem hD).2 h1]; rfl)
  simpa using this
theorem put_isSome (D : List RowT) (k c : KeyT) (v : PlaceT) : (aget (aput (adel D k) k v) c).isSome = true ↔ c = k ∨ (aget D c).isSome = true := by
  rw [aget_put]
  by_cases h : c = k
  · rw [if_pos h]; simp [h]
  · rw [if_neg h, aget_del, if_neg h]; simp [h]
theorem put_get (D : List RowT) (k c : KeyT) (v : PlaceT) : aget (aput (adel D k) k v) c = if c = k then some v else aget D c := by
  rw [aget_put]
  by_cases h : c = k
  · rw [if_pos h, if_pos h]
  · rw [if_neg h, if_neg h, aget_del, if_neg h]
set_option maxHeartbeats 8000000 in
set_option maxRecDepth 100000 in
theorem order_walk (w : World) (a : Option Addr) (c : Nat) (l : List ActT) (hR : Row w a (l.flatMap actL)) (hl : l.length ≤ maxLen) (hc : l.length ≤ c) :
    Calls Try.prog 4 #[.slice a l.length c] w (RetBool w true) := by
  obtain ⟨zs, hzs, hz⟩ := zero_act
  have Hz := Lib.hid hz
  clear hz
  have HR := Lib.hid hR
  clear hR
  go_enter Try.func4, Try.ntmps4
  go_wp2_with fail
  refine (shown_any w).mono ?_
  rintro e w1 ⟨rfl, hb1⟩
  have Hb1 := Lib.hid hb1
  clear hb1
  go_wp2_with fail
  refine (new_any w1).mono ?_
  intro e w2 h2
  obtain ⟨p, Fx, rfl, hI, hF, hb2⟩ := h2.ix
  clear h2
  have HI2 := Lib.hid hI
  have HF := Lib.hid hF
  have Hb2 := Lib.hid hb2
  clear hI hF hb2
  go_wp2_with fail
  refine (new_any w2).mono ?_
  intro e w3 h3
  obtain ⟨py, Fy, rfl, hIy, hFy, hb3⟩ := h3.ix
  clear h3
  have HI := Lib.hid (HI2.out.below hb3)
  have HIy := Lib.hid hIy
  have HFy : Hid (∀ b ∈ Fy, w1.heap.size ≤ b) := fun b h => Nat.le_trans Hb2.out.size (hFy b h)
  have HD : Hid (∀ b ∈ Fx, b ∉ Fy) := fun b h1 h2 => by have := HI2.out.fin b h1; have := hFy b h2; omega
  have Hb3 : Hid (Below w1.heap.size w1 w3) := Hb2.out.trans (hb3.mono Hb2.out.size)
  clear hIy hFy hb3 HI2 Hb2
  go_wp2_with fail
  refine (few_any w3 a c l hl hc).mono ?_
  rintro e w4 ⟨rfl, hw4⟩
  rw [hw4]
  clear hw4 w4
  obtain ⟨l', hl'⟩ : ∃ l', l.take 200 = l' := ⟨_, rfl⟩
  have hll : l'.length ≤ 200 := by rw [← hl', List.length_take]; omega
  have HR' : Hid (Row w a (l'.flatMap actL)) := by
    unfold Hid
    rw [← hl']
    have h1 := HR.out.take ((min 200 l.length) * 36)
    rw [flat_take actL_length l (Nat.min_le_right _ _)] at h1
    rwa [show l.take (min 200 l.length) = l.take 200 by rw [List.take_eq_take_iff]; omega] at h1
  rw [hl']
  clear hl' HR hl hc
  obtain ⟨B, hB⟩ : ∃ B, w1.heap.size = B := ⟨_, rfl⟩
  have HBw := Lib.hid hB
  rw [hB] at HF HFy Hb3
  clear hB
  go_wp2
  go_loopg [24] l'.length (fun m x wr => ∃ (j : Nat) (Fx : List Nat) (D : List RowT), x = .int .i64 j ∧ j ≤ l'.length ∧ Hid (m = l'.length - j ∧ Below B w1 wr ∧ Ix wr Fx p D ∧ (∀ b ∈ Fx, B ≤ b) ∧ D.length ≤ j ∧ Ix wr Fy py [] ∧ (∀ b ∈ Fx, b ∉ Fy)))
  case atStart => exact ⟨0, Fx, [], rfl, by omega, rfl, Hb3.out, HI.out, HF.out, Nat.le_refl _, HIy.out, HD.out⟩
  case round =>
    clear HI HF Hb3 HIy HD
    obtain ⟨j, F, D, rfl, hj, hr⟩ := hrel
    have hgn := hr.out.1
    have Hb := Lib.hid hr.out.2.1
    have HI := Lib.hid hr.out.2.2.1
    have HF := Lib.hid hr.out.2.2.2.1
    have hDj := hr.out.2.2.2.2.1
    have HIy := Lib.hid hr.out.2.2.2.2.2.1
    have HD := Lib.hid hr.out.2.2.2.2.2.2
    clear hr
    have hBr : B ≤ wr.heap.size := by have := Hb.out.size; rw [HBw.out] at this; exact this
    have HW := Lib.hid (Hb1.out.trans (Hb.out.mono (by rw [← HBw.out]; exact Hb1.out.size)))
    by_cases hlt : j < l'.length
    · have hlt2 : (j : Int) < (l'.length : Int) := by omega
      obtain ⟨g, o, rfl, hX⟩ := row_at actL_length (HR'.out.below HW.out) hlt (by omega)
      have HX : Hid (At wr g (o + j * 36) (actC l'[j])) := hX
      clear hX
      generalize l'[j] = act at *
      have ho := act.ok
      have Hok := Lib.hid ho
      clear ho
      go_wp2_with (first | (refine wpList_load_at rfl 37 (.tmp 26) rfl g (o + j * 36) (by kernel_rfl) (actC act) HX.out _ Try.underlying37 rfl (actSize act) ?_) | (refine wpList_alloc_new rfl 37 rfl zs (Hz.out _) ?_) | (refine opIs (X := .store 37 (.tmp 7) (.tmp 27)) rfl ?_; refine wpList_store_new rfl 37 (.tmp 7) (.tmp 27) rfl zs (actC act) 37 (by kernel_rfl) (by kernel_rfl) (by rw [hzs, actC_size]) (one_actL act) (actSize act) ?_) | (refine wpList_load_at rfl 27 (.tmp 30) rfl wr.heap.size 1 (by kernel_rfl) (keyC act.key) (by have := act_at_key (At.new wr (actC act) 37); rwa [Nat.zero_add] at this) _ Try.underlying27 rfl (keySize act.key) ?_) | (refine wpList_load_at rfl 33 (.tmp 33) rfl wr.heap.size 34 (by kernel_rfl) (placeC act.place) (by have := act_at_place (At.new wr (actC act) 37); rwa [Nat.zero_add] at this) _ Try.underlying33 rfl (placeSize act.place) ?_) | fail)
      have hbA : Below wr.heap.size wr (wr.alloc (.cells (actC act) 37)) := (Below.refl _ _).alloc (Nat.le_refl _) _
      have hbA2 : Below B wr (wr.alloc (.cells (actC act) 37)) := (Below.refl _ _).alloc hBr _
      refine (put_any _ F p D (HI.out.below hbA) (by omega) act.key act.place Hok.out).mono ?_
      rintro e w5 ⟨rfl, F5, hI5, hb5, hg5⟩
      have hle5 := aput_le (adel D act.key) act.key act.place
      have hle6 := adel_len D act.key
      have hD5j : (aput (adel D act.key) act.key act.place).length ≤ j + 1 := by omega
      clear hle5 hle6
      generalize (aget D act.key).isSome = was
      generalize aput (adel D act.key) act.key act.place = D5 at *
      have hab : wr.heap.size ∉ F := fun h => by have := HI.out.fin _ h; omega
      have HA5 := Lib.hid ((At.new wr (actC act) 37).but hb5 hab)
      obtain ⟨hy5, hd5, hf5, hbb5⟩ := two_step hI5 hb5 hg5 (HIy.out.below hbA) HD.out HF.out (Nat.le_trans hBr hbA2.size)
      have Hb5 := Lib.hid ((Hb.out.trans hbA2).trans hbb5)
      have HF5 := Lib.hid hf5
      have HI5 := Lib.hid hI5
      have HIy5 := Lib.hid hy5
      have HD5 := Lib.hid hd5
      have hB5 : B ≤ w5.heap.size := by have := Hb5.out.size; rw [HBw.out] at this; exact this
      clear hb5 hg5 hbA hbA2 hI5 hab HX hy5 hd5 hf5 hbb5
      obtain ⟨ab, hab⟩ : ∃ ab, wr.heap.size = ab := ⟨_, rfl⟩
      rw [hab] at HA5 ⊢
      clear hab
      cases hgo : act.gone with
      | true =>
        have ha0 : w5.cell? ⟨ab, 0, none⟩ = some (.bool true) := by rw [← hgo]; exact act_at_gone HA5.out
        go_wp2_with (first | (refine wpList_load_at rfl 27 (.tmp 40) rfl ab 1 (by kernel_rfl) (keyC act.key) (by have := act_at_key HA5.out; rwa [Nat.zero_add] at this) _ Try.underlying27 rfl (keySize act.key) ?_) | fail)
        refine (drop_any w5 F5 p D5 HI5.out (by omega) act.key).mono ?_
        rintro e w6 ⟨rfl, F6, hI6, hb6, hg6⟩
        have hle7 := adel_len D5 act.key
        obtain ⟨hy6, hd6, hf6, hbb6⟩ := two_step hI6 hb6 hg6 HIy5.out HD5.out HF5.out hB5
        have Hb6 := Lib.hid (Hb5.out.trans hbb6)
        have HI6 := Lib.hid hI6
        have HF6 := Lib.hid hf6
        have HIy6 := Lib.hid hy6
        have HD6 := Lib.hid hd6
        clear hb6 hg6 hI6 hy6 hd6 hf6 hbb6
        go_wp2
        go_roundg (l'.length - (j + 1))
        case measure => omega
        case rel => exact ⟨j + 1, F6, adel D5 act.key, by go_num, by omega, rfl, Hb6.out, HI6.out, HF6.out, by omega, HIy6.out, HD6.out⟩
      | false =>
        have ha0 : w5.cell? ⟨ab, 0, none⟩ = some (.bool false) := by rw [← hgo]; exact act_at_gone HA5.out
        go_wp2
        go_roundg (l'.length - (j + 1))
        case measure => omega
        case rel => exact ⟨j + 1, F5, D5, by go_num, by omega, rfl, Hb5.out, HI5.out, HF5.out, hD5j, HIy5.out, HD5.out⟩
    · have hge : ¬ (j : Int) < (l'.length : Int) := by omega
      have hD20 : D.length ≤ 200 := by omega
      clear hj hlt HR'
      go_wp2_with fail
      refine (own_all (B := B) ⟨F, HI.out, HF.out⟩ (by omega)).mono ?_
      rintro e w7 ⟨L, hL, a7, c7, rfl, hr7, ha7, hb7⟩
      have HL := Lib.hid hL
      have HI7 := Lib.hid (HI.out.below hb7)
      have HIy7 := Lib.hid (HIy.out.below hb7)
      have Hb7 := Lib.hid (Hb.out.trans (hb7.mono hBr))
      have hLD : L.length = D.length := hL.1.length_eq
      have HA7 : Hid (∀ x, a7 = some x → L ≠ [] → x.block ∉ Fy ∧ x.block ∉ F ∧ x.block < w7.heap.size) := fun x hx hne => by
        have h1 := ha7 x hx
        refine ⟨fun h => by have := HIy.out.fin _ h; omega, fun h => by have := HI.out.fin _ h; omega, ?_⟩
        obtain ⟨g, o, he, hX⟩ := row_at rowL_length hr7 (i := 0) (List.length_pos_iff.2 hne) (by omega)
        rw [hx] at he
        injection he with he
        rw [he]
        exact hX.lt (by rw [List.size_toArray, rowL_length]; omega)
      have HR7 := Lib.hid hr7
      have Hx : Hid (∀ r ∈ L, aget D r.1 = some r.2 ∧ PlaceOk r.2) := fun r hr => by
        have h1 := (aget_mem HI.out.nd).2 (hL.1.mem_iff.1 hr)
        exact ⟨h1, Own.rng (B := B) ⟨F, HI.out, HF.out⟩ _ _ h1⟩
      have hB7 : B ≤ w7.heap.size := by have := Hb7.out.size; rw [HBw.out] at this; exact this
      have hLl : L.length ≤ 200 := by omega
      clear hL hr7 ha7 hb7 HI HIy Hb HW hge hgn hDj hBr hLD
      go_wp2
      go_loopg [48] L.length (fun m x wr => ∃ (i : Nat) (Fy : List Nat) (E : List RowT), x = .int .i64 i ∧ i ≤ L.length ∧ Hid (m = L.length - i ∧ Below B w1 wr ∧ Ix wr F p D ∧ Ix wr Fy py E ∧ (∀ b ∈ Fy, B ≤ b) ∧ (∀ b ∈ F, b ∉ Fy) ∧ (∀ k, (aget E k).isSome = true ↔ k ∈ (L.drop (L.length - i)).map (·.1)) ∧ Row wr a7 (L.flatMap rowL) ∧ (∀ x, a7 = some x → L ≠ [] → x.block ∉ Fy ∧ x.block < wr.heap.size)))
      case atStart => exact ⟨0, Fy, [], rfl, Nat.zero_le _, rfl, Hb7.out, HI7.out, HIy7.out, HFy.out, HD.out, (fun k => by rw [Nat.sub_zero, List.drop_length]; constructor <;> (intro h; cases h)), HR7.out, fun x hx hne => ⟨(HA7.out x hx hne).1, (HA7.out x hx hne).2.2⟩⟩
      case round =>
        clear HI7 HIy7 Hb7 HR7 HFy HD hB7
        obtain ⟨i, Fy, E, rfl, hi, hr⟩ := hrel
        have hgn := hr.out.1
        have Hb := Lib.hid hr.out.2.1
        have HI := Lib.hid hr.out.2.2.1
        have HIy := Lib.hid hr.out.2.2.2.1
        have HFy := Lib.hid hr.out.2.2.2.2.1
        have HD := Lib.hid hr.out.2.2.2.2.2.1
        have HK := Lib.hid hr.out.2.2.2.2.2.2.1
        have HRw := Lib.hid hr.out.2.2.2.2.2.2.2.1
        have HAw := Lib.hid hr.out.2.2.2.2.2.2.2.2
        clear hr
        have hBr : B ≤ wr.heap.size := by have := Hb.out.size; rw [HBw.out] at this; exact this
        have hEl : E.length ≤ L.length := by
          have := len_keys (K := L.map (·.1)) HIy.out.nd fun k hk => by
            obtain ⟨r, hr, he⟩ := List.mem_map.1 ((HK.out k).1 hk)
            exact List.mem_map.2 ⟨r, List.mem_of_mem_drop hr, he⟩
          rwa [List.length_map] at this
        by_cases hlt : i < L.length
        · have hlt2 : (i : Int) < (L.length : Int) := by omega
          obtain ⟨ix, hix⟩ : ∃ ix, L.length - 1 - i = ix := ⟨_, rfl⟩
          have hixl : ix < L.length := by omega
          have hixI : (L.length : Int) - 1 - (i : Int) = (ix : Int) := by omega
          have hixl2 : (ix : Int) < (L.length : Int) := by omega
          obtain ⟨g, o, rfl, hX⟩ := row_at rowL_length HRw.out hixl (by omega)
          have HX : Hid (At wr g (o + ix * 35) (rowC L[ix])) := hX
          have Hdrop : Hid (L.drop (L.length - (i + 1)) = L[ix] :: L.drop (L.length - i)) := by
            unfold Hid
            rw [show L.length - (i + 1) = ix by omega, List.drop_eq_getElem_cons hixl, show ix + 1 = L.length - i by omega]
          have hne : L ≠ [] := by rintro rfl; simp at hixl
          have HAx := Lib.hid (HAw.out _ rfl hne)
          clear hX hix hne
          generalize L[ix] = r at *
          have Hpo : Hid (PlaceOk ⟨(i : Int), 0⟩) := by unfold Hid PlaceOk; dsimp only; omega
          go_wp2_with (first | (refine wpList_load_at rfl 27 (.tmp 59) rfl g (o + ix * 35) (by kernel_rfl) (keyC r.1) (row_at_key HX.out) _ Try.underlying27 rfl (keySize r.1) ?_) | fail)
          refine (put_any wr Fy py E HIy.out (by omega) r.1 ⟨(i : Int), 0⟩ Hpo.out).mono ?_
          rintro e w8 ⟨rfl, Fy8, hIy8, hb8, hg8⟩
          obtain ⟨hx8, hd8, hf8, hbb8⟩ := two_step hIy8 hb8 hg8 HI.out (fun b h1 h2 => HD.out b h2 h1) HFy.out hBr
          have HI8 := Lib.hid hx8
          have HIy8 := Lib.hid hIy8
          have HD8 : Hid (∀ b ∈ F, b ∉ Fy8) := fun b h1 h2 => hd8 b h2 h1
          have HFy8 := Lib.hid hf8
          have Hb8 := Lib.hid (Hb.out.trans hbb8)
          have HR8 := Lib.hid (keepRow HRw.out hb8 (fun x hx hne => (HAw.out x hx hne).1))
          have HA8 : Hid (∀ x, (some (⟨g, o, none⟩ : Addr)) = some x → L ≠ [] → x.block ∉ Fy8 ∧ x.block < w8.heap.size) := fun x hx hne => by
            have h1 := HAw.out x hx hne
            refine ⟨fun h => ?_, Nat.lt_of_lt_of_le h1.2 hb8.size⟩
            rcases hg8 _ h with h2 | h2
            · exact h1.1 h2
            · omega
          have HK8 : Hid (∀ k, (aget (aput (adel E r.1) r.1 ⟨(i : Int), 0⟩) k).isSome = true ↔ k ∈ (L.drop (L.length - (i + 1))).map (·.1)) := fun k => by
            rw [put_isSome, Hdrop.out, List.map_cons, List.mem_cons, HK.out]
          clear hx8 hIy8 hd8 hf8 hbb8 hb8 hg8
          generalize (aget E r.1).isSome = was
          generalize aput (adel E r.1) r.1 ⟨(i : Int), 0⟩ = E8 at *
          go_wp2
          go_roundg (L.length - (i + 1))
          case measure => omega
          case rel => exact ⟨i + 1, Fy8, E8, by go_num, by omega, rfl, Hb8.out, HI8.out, HIy8.out, HFy8.out, HD8.out, HK8.out, HR8.out, HA8.out⟩
        · have hge : ¬ (i : Int) < (L.length : Int) := by omega
          have HK2 : Hid (∀ k, (aget E k).isSome = true ↔ k ∈ L.map (·.1)) := fun k => by
            have := HK.out k
            rwa [show L.length - i = 0 by omega, List.drop_zero] at this
          clear hlt hi HK hgn
          go_wp2
          go_loopg [67] L.length (fun m x wr => ∃ (i : Nat) (Fy : List Nat) (E : List RowT), x = .int .i64 i ∧ i ≤ L.length ∧ Hid (m = L.length - i ∧ Below B w1 wr ∧ Ix wr F p D ∧ Ix wr Fy py E ∧ (∀ b ∈ Fy, B ≤ b) ∧ (∀ b ∈ F, b ∉ Fy) ∧ ((∀ k, (aget E k).isSome = true ↔ k ∈ L.map (·.1)) ∧ ∀ q (h : q < L.length), q < i → aget E L[q].1 = some L[q].2) ∧ Row wr a7 (L.flatMap rowL) ∧ (∀ x, a7 = some x → L ≠ [] → x.block ∉ Fy ∧ x.block < wr.heap.size)))
          case atStart => exact ⟨0, Fy, E, rfl, Nat.zero_le _, rfl, Hb.out, HI.out, HIy.out, HFy.out, HD.out, ⟨HK2.out, fun q h h2 => by omega⟩, HRw.out, HAw.out⟩
          case round =>
            clear HI HIy Hb HRw HAw HFy HD HK2 hBr hEl
            obtain ⟨i, Fy, E, rfl, hi, hr⟩ := hrel
            have hgn := hr.out.1
            have Hb := Lib.hid hr.out.2.1
            have HI := Lib.hid hr.out.2.2.1
            have HIy := Lib.hid hr.out.2.2.2.1
            have HFy := Lib.hid hr.out.2.2.2.2.1
            have HD := Lib.hid hr.out.2.2.2.2.2.1
            have HK := Lib.hid hr.out.2.2.2.2.2.2.1.1
            have HV := Lib.hid hr.out.2.2.2.2.2.2.1.2
            have HRw := Lib.hid hr.out.2.2.2.2.2.2.2.1
            have HAw := Lib.hid hr.out.2.2.2.2.2.2.2.2
            clear hr
            have hBr : B ≤ wr.heap.size := by have := Hb.out.size; rw [HBw.out] at this; exact this
            have hEl : E.length ≤ L.length := by
              have := len_keys (K := L.map (·.1)) HIy.out.nd fun k hk => (HK.out k).1 hk
              rwa [List.length_map] at this
            by_cases hlt : i < L.length
            · have hlt2 : (i : Int) < (L.length : Int) := by omega
              obtain ⟨g, o, rfl, hX⟩ := row_at rowL_length HRw.out hlt (by omega)
              have HX : Hid (At wr g (o + i * 35) (rowC L[i])) := hX
              have Hm := Lib.hid (List.getElem_mem hlt)
              have Hun : Hid (∀ q (h : q < L.length), q ≠ i → L[q].1 ≠ L[i].1) := fun q h hne e => by
                have HP := List.pairwise_iff_getElem.1 HL.out.2
                rcases Nat.lt_or_gt_of_ne hne with h1 | h1
                · have h2 := HP q i h hlt h1
                  unfold cfA at h2; rw [e] at h2
                  have := cfK_swap L[i].1 L[i].1; omega
                · have h2 := HP i q hlt h h1
                  unfold cfA at h2; rw [e] at h2
                  have := cfK_swap L[i].1 L[i].1; omega
              have HV8 : Hid (∀ q (h : q < L.length), q < i + 1 → aget (aput (adel E L[i].1) L[i].1 L[i].2) L[q].1 = some L[q].2) := fun q h hq => by
                rw [put_get]
                by_cases e : q = i
                · subst e; rw [if_pos rfl]
                · rw [if_neg (Hun.out q h e)]
                  exact HV.out q h (by omega)
              clear hX Hun
              generalize L[i] = r at *
              have Hpo := Lib.hid (Hx.out r Hm.out).2
              have hwas : (aget E r.1).isSome = true := (HK.out r.1).2 (List.mem_map.2 ⟨r, Hm.out, rfl⟩)
              have Hwas := Lib.hid hwas
              clear hwas
              go_wp2
              refine Go.XR.region_sched ((· = wr.drew)) [(0, true), (1, true), (2, true), (3, true), (4, true), (5, true), (6, true), (7, true), (8, true), (9, true), (10, true), (11, false), (12, false)] [11, 12] Try.mixed (by kernel_rfl) (by kernel_rfl) (by kernel_rfl) ?_
              simp only [List.map_cons, List.map_nil, List.getElem?_cons_succ, List.getElem?_cons_zero]
              repeat (first | (refine Go.XR.S_light rfl rfl rfl ?_ (fun w' hS K hK => ?_) (fun K hK => ?_); rotate_left 1; (cases hS; (first | (first | (refine Go.XR.wp_load_at 27 (.tmp 74) rfl g (o + i * 35) rfl (keyC r.1) (At.drew (row_at_key HX.out)) _ Try.underlying27 rfl (keySize r.1) ?_) | (refine Go.XR.wp_load_at 33 (.tmp 79) rfl g (o + i * 35 + 33) rfl (placeC r.2) (At.drew (row_at_place HX.out)) _ Try.underlying33 rfl (placeSize r.2) ?_)) | go_step); exact hK); go_step; refine hK _ ?_; clear hK K))
              refine Go.XR.S_heavy (fun K hK => ?_)
              go_step
              have hbd : Below wr.heap.size wr wr.drew := (Below.refl _ _).drew
              ((with_reducible refine (put_any wr.drew Fy py E (HIy.out.below hbd) (by omega) r.1 r.2 Hpo.out).mono ?_); rintro e w8 ⟨rfl, Fy8, hIy8, hb8, hg8⟩)
              obtain ⟨hx8, hd8, hf8, hbb8⟩ := two_step hIy8 hb8 hg8 (HI.out.below hbd) (fun b h1 h2 => HD.out b h2 h1) HFy.out hBr
              have HI8 := Lib.hid hx8
              have HIy8 := Lib.hid hIy8
              have HD8 : Hid (∀ b ∈ F, b ∉ Fy8) := fun b h1 h2 => hd8 b h2 h1
              have HFy8 := Lib.hid hf8
              have Hb8 := Lib.hid (Hb.out.drew.trans hbb8)
              have HR8 := Lib.hid (keepRow (HRw.out.below hbd) hb8 (fun x hx hne => (HAw.out x hx hne).1))
              have HA8 : Hid (∀ x, (some (⟨g, o, none⟩ : Addr)) = some x → L ≠ [] → x.block ∉ Fy8 ∧ x.block < w8.heap.size) := fun x hx hne => by
                have h1 := HAw.out x hx hne
                refine ⟨fun h => ?_, Nat.lt_of_lt_of_le h1.2 hb8.size⟩
                rcases hg8 _ h with h2 | h2
                · exact h1.1 h2
                · exact absurd h1.2 (by have h3 : wr.drew.heap.size = wr.heap.size := rfl; omega)
              have HK8 : Hid (∀ k, (aget (aput (adel E r.1) r.1 r.2) k).isSome = true ↔ k ∈ L.map (·.1)) := fun k => by
                rw [put_isSome, HK.out]
                constructor
                · rintro (h | h)
                  · rw [h]; exact List.mem_map.2 ⟨r, Hm.out, rfl⟩
                  · exact h
                · exact .inr
              clear hx8 hIy8 hd8 hf8 hbb8 hb8 hg8
              rw [Hwas.out]
              generalize aput (adel E r.1) r.1 r.2 = E8 at *
              refine hK _ _ ⟨fun h => by simp at h, ?_⟩
              clear hK K
              repeat (first | (refine Go.XR.S_heavy (fun K hK => ?_); go_step; refine hK _ _ ⟨fun h => by simp at h, ?_⟩; clear hK K))
              refine Go.XR.S_nil ?_
              go_wp2
              go_roundg (L.length - (i + 1))
              case measure => omega
              case rel => exact ⟨i + 1, Fy8, E8, by go_num, by omega, rfl, Hb8.out, HI8.out, HIy8.out, HFy8.out, HD8.out, ⟨HK8.out, HV8.out⟩, HR8.out, HA8.out⟩
            · have hge : ¬ (i : Int) < (L.length : Int) := by omega
              have HSm : Hid (SameD D E) := fun k => by
                by_cases hk : k ∈ L.map (·.1)
                · obtain ⟨r, hr, rfl⟩ := List.mem_map.1 hk
                  obtain ⟨q, hq, rfl⟩ := List.getElem_of_mem hr
                  rw [HV.out q hq (by omega), (Hx.out _ hr).1]
                · have h1 : aget E k = none := by
                    cases h : aget E k with
                    | none => rfl
                    | some v => exact absurd ((HK.out k).1 (by rw [h]; rfl)) hk
                  have h2 : aget D k = none := by
                    cases h : aget D k with
                    | none => rfl
                    | some v =>
                      have h3 := HL.out.1.mem_iff.2 ((aget_mem HI.out.nd).1 h)
                      exact absurd (List.mem_map.2 ⟨_, h3, rfl⟩) hk
                  rw [h1, h2]
              have HOx : Hid (Own B wr p D) := ⟨F, HI.out, HF.out⟩
              have HOy : Hid (Own B wr py E) := ⟨Fy, HIy.out, HFy.out⟩
              have HW := Lib.hid (Hb1.out.trans (Hb.out.mono (by rw [← HBw.out]; exact Hb1.out.size)))
              clear hlt hi HK HV hgn HI HIy HF HFy HD HAw Hb HA7
              clear hBr
              go_wp2
              go_loopg [86] L.length (fun m x wr => ∃ i : Nat, x = .int .i64 i ∧ i ≤ L.length ∧ Hid (m = L.length - i ∧ Below w.heap.size w wr ∧ Own B wr p D ∧ Own B wr py E ∧ Row wr a7 (L.flatMap rowL)))
              case atStart => exact ⟨0, rfl, Nat.zero_le _, rfl, HW.out, HOx.out, HOy.out, HRw.out⟩
              case round =>
                clear HW HOx HOy HRw
                obtain ⟨i, rfl, hi, hr⟩ := hrel
                have hgn := hr.out.1
                have HW := Lib.hid hr.out.2.1
                have HOx := Lib.hid hr.out.2.2.1
                have HOy := Lib.hid hr.out.2.2.2.1
                have HRw := Lib.hid hr.out.2.2.2.2
                clear hr
                by_cases hlt : i < L.length
                · have hlt2 : (i : Int) < (L.length : Int) := by omega
                  have hprev : ∀ q (h : q < L.length), q + 1 = i → cfK L[q].1 L[i].1 < 0 := fun q h e => by
                    have := List.pairwise_iff_getElem.1 HL.out.2 q i h hlt (by omega)
                    exact this
                  have Hprev := Lib.hid hprev
                  obtain ⟨g, o, hga, hX⟩ := row_at rowL_length HRw.out hlt (by omega)
                  have HX : Hid (At wr g (o + i * 35) (rowC L[i])) := hX
                  have Hq : Hid (∀ q (h : q < L.length), At wr g (o + q * 35) (rowC L[q])) := fun q h => by
                    obtain ⟨g', o', he, hX'⟩ := row_at rowL_length HRw.out h (by omega)
                    rw [hga] at he
                    injection he with he
                    injection he with h1 h2
                    subst h1 h2
                    exact hX'
                  have hrok := (Hx.out L[i] (List.getElem_mem hlt)).2
                  have Hrok := Lib.hid hrok
                  have sh33 : wr.cell? ⟨g, o + i * 35 + 33, none⟩ = some (.int .i64 L[i].2.shelf) := row_at_shelf hX
                  have hgl : g < wr.heap.size := hX.lt (by rw [List.size_toArray, rowL_length]; omega)
                  subst hga
                  clear hX hprev hrok
                  have hS0 : Below wr.heap.size wr wr.drew := (Below.refl _ _).drew
                  rcases Nat.eq_zero_or_pos i with hi0 | hi0
                  · have hqz : ¬ (0 : Int) < (i : Int) := by omega
                    have hqn : ¬ 0 < i := by omega
                    have Hi0 := Lib.hid hi0
                    clear hi0
                    generalize L[i] = r at *
                    go_wp2
                    refine Go.XR.region_sched ((Below wr.heap.size wr)) [(0, true), (1, true), (2, true), (3, true), (4, true), (5, true), (6, true), (7, true), (8, true), (9, true), (10, true), (11, true), (12, true), (13, true), (14, false), (15, true), (16, true), (17, true), (18, true), (19, true), (20, true), (21, true), (22, true), (23, true), (24, true), (26, true), (27, true), (28, true), (29, true), (30, true), (31, true), (32, true), (25, false), (33, false), (34, false), (35, false), (36, false)] [33, 34, 35, 36] Try.mixed (by kernel_rfl) (by kernel_rfl) (by kernel_rfl) ?_
                    simp only [List.map_cons, List.map_nil, List.getElem?_cons_succ, List.getElem?_cons_zero]
                    repeat (first | (refine Go.XR.S_light rfl rfl (by assumption) ?_ (fun w' hS K hK => ?_) (fun K hK => ?_); rotate_left 1; (have hS1 := bcell hS; (first | (first | (refine Go.XR.wp_load_at 27 (.tmp 101) rfl g (o + i * 35) rfl (keyC r.1) ((row_at_key HX.out).below (by rw [keyC_size]; omega) hS) _ Try.underlying27 rfl (keySize r.1) ?_)) | go_step); exact hK); go_step; refine hK _ ?_; clear hK K) | (refine Go.XR.S_light_off rfl (by assumption) (fun K hK => ?_); go_step; refine hK _ ?_; clear hK K) | (refine Go.XR.S_light_on rfl rfl rfl (by assumption) ?_ (fun w' hS K hK => ?_) (fun K hK => ?_); rotate_left 1; (have hS1 := bcell hS; (first | (first | (refine Go.XR.wp_load_at 27 (.tmp 101) rfl g (o + i * 35) rfl (keyC r.1) ((row_at_key HX.out).below (by rw [keyC_size]; omega) hS) _ Try.underlying27 rfl (keySize r.1) ?_)) | go_step); exact hK); go_step; refine hK _ ?_; clear hK K))
                    refine Go.XR.S_heavy_off rfl (fun _ => hS0) (fun K hK => ?_)
                    go_step
                    refine hK _ ?_
                    clear hK K
                    repeat (first | (refine Go.XR.S_light rfl rfl (by assumption) ?_ (fun w' hS K hK => ?_) (fun K hK => ?_); rotate_left 1; (have hS1 := bcell hS; (first | (first | (refine Go.XR.wp_load_at 27 (.tmp 101) rfl g (o + i * 35) rfl (keyC r.1) ((row_at_key HX.out).below (by rw [keyC_size]; omega) hS) _ Try.underlying27 rfl (keySize r.1) ?_)) | go_step); exact hK); go_step; refine hK _ ?_; clear hK K) | (refine Go.XR.S_light_off rfl (by assumption) (fun K hK => ?_); go_step; refine hK _ ?_; clear hK K) | (refine Go.XR.S_light_on rfl rfl rfl (by assumption) ?_ (fun w' hS K hK => ?_) (fun K hK => ?_); rotate_left 1; (have hS1 := bcell hS; (first | (first | (refine Go.XR.wp_load_at 27 (.tmp 101) rfl g (o + i * 35) rfl (keyC r.1) ((row_at_key HX.out).below (by rw [keyC_size]; omega) hS) _ Try.underlying27 rfl (keySize r.1) ?_)) | go_step); exact hK); go_step; refine hK _ ?_; clear hK K))
                    obtain ⟨w14, hw14⟩ : ∃ w14, wr.drew = w14 := ⟨_, rfl⟩
                    rw [hw14] at hS0 ⊢
                    clear hw14
                    refine Go.XR.S_heavy_on rfl (fun K hK => ?_)
                    go_step
                    ((with_reducible refine (own_shelf (HOx.out.below hS0) (by omega) r.2.shelf (place_sh Hrok.out)).mono ?_); rintro e w15 ⟨R1, hR1, a15, c15, rfl, hr15, _, hb15⟩)
                    have hS2 : Below wr.heap.size wr w15 := hS0.trans (hb15.mono hS0.size)
                    have HR15 := Lib.hid hr15
                    refine hK _ _ ⟨fun _ => hS2, ?_⟩
                    clear hK K hb15 hr15
                    refine Go.XR.S_heavy_on rfl (fun K hK => ?_)
                    go_step
                    ((with_reducible refine (own_shelf (HOy.out.below hS2) (by omega) r.2.shelf (place_sh Hrok.out)).mono ?_); rintro e w16 ⟨R2, hR2, a16, c16, rfl, hr16, _, hb16⟩)
                    have hS3 : Below wr.heap.size wr w16 := hS2.trans (hb16.mono hS2.size)
                    have HR16 := Lib.hid hr16
                    have HR15b := Lib.hid (HR15.out.below hb16)
                    have hRR : R1 = R2 := ShelfOf.same hR1 hR2 HSm.out HOx.out.nd HOy.out.nd
                    have hR1l : R1.length ≤ 200 := Nat.le_trans (ShelfOf.len hR1) hD20
                    have Hok1 : Hid (RowsOk R1) := ShelfOf.ok hR1 HOx.out.nd HOx.out.rng
                    clear hR1 hR2
                    subst hRR
                    refine hK _ _ ⟨fun h => by simp at h, ?_⟩
                    clear hK K hb16 hr16
                    refine Go.XR.S_heavy_on rfl (fun K hK => ?_)
                    go_step
                    ((with_reducible refine (same_any w16 a15 a16 c15 c16 R1 R1 HR15b.out HR16.out (by omega) (by omega) Hok1.out Hok1.out).mono ?_); rintro e w17 ⟨rfl, hb17⟩)
                    rw [decide_eq_true (show R1 = R1 from rfl)]
                    have HS4 := Lib.hid (hS3.trans (hb17.mono hS3.size))
                    refine hK _ _ ⟨fun h => by simp at h, ?_⟩
                    clear hK K hb17 hS0 hS2 hS3
                    repeat (first | (refine Go.XR.S_heavy (fun K hK => ?_); go_step; refine hK _ _ ⟨fun h => by simp at h, ?_⟩; clear hK K) | (refine Go.XR.S_heavy_off rfl (fun h => by simp at h) (fun K hK => ?_); go_step; refine hK _ ?_; clear hK K) | (refine Go.XR.S_heavy_on rfl (fun K hK => ?_); go_step; refine hK _ _ ⟨fun h => by simp at h, ?_⟩; clear hK K))
                    refine Go.XR.S_nil ?_
                    go_wp2
                    go_roundg (L.length - (i + 1))
                    case measure => omega
                    case rel => exact ⟨i + 1, by go_num, by omega, rfl, HW.out.trans (HS4.out.mono HW.out.size), HOx.out.below HS4.out, HOy.out.below HS4.out, HRw.out.below HS4.out⟩
                  · obtain ⟨q, hq⟩ : ∃ q, i = q + 1 := ⟨i - 1, by omega⟩
                    have hqz : (0 : Int) < (i : Int) := by omega
                    have hqn : 0 < i := hi0
                    have hqI : (i : Int) - 1 = (q : Int) := by omega
                    have hql : q < L.length := by omega
                    have hql2 : (q : Int) < (L.length : Int) := by omega
                    have HX0 := Lib.hid (Hq.out q hql)
                    have Hlt := Lib.hid (Hprev.out q hql hq.symm)
                    clear hq hi0
                    generalize L[q] = r0 at *
                    generalize L[i] = r at *
                    go_wp2
                    refine Go.XR.region_sched ((Below wr.heap.size wr)) [(0, true), (1, true), (2, true), (3, true), (4, true), (5, true), (6, true), (7, true), (8, true), (9, true), (10, true), (11, true), (12, true), (13, true), (14, false), (15, true), (16, true), (17, true), (18, true), (19, true), (20, true), (21, true), (22, true), (23, true), (24, true), (26, true), (27, true), (28, true), (29, true), (30, true), (31, true), (32, true), (25, false), (33, false), (34, false), (35, false), (36, false)] [33, 34, 35, 36] Try.mixed (by kernel_rfl) (by kernel_rfl) (by kernel_rfl) ?_
                    simp only [List.map_cons, List.map_nil, List.getElem?_cons_succ, List.getElem?_cons_zero]
                    repeat (first | (refine Go.XR.S_light rfl rfl (by assumption) ?_ (fun w' hS K hK => ?_) (fun K hK => ?_); rotate_left 1; (have hS1 := bcell hS; (first | (first | (refine Go.XR.wp_load_at 27 (.tmp 101) rfl g (o + i * 35) rfl (keyC r.1) ((row_at_key HX.out).below (by rw [keyC_size]; omega) hS) _ Try.underlying27 rfl (keySize r.1) ?_) | (refine Go.XR.wp_load_at 27 (.tmp 96) rfl g (o + q * 35) rfl (keyC r0.1) ((row_at_key HX0.out).below (by rw [keyC_size]; omega) hS) _ Try.underlying27 rfl (keySize r0.1) ?_)) | go_step); exact hK); go_step; refine hK _ ?_; clear hK K) | (refine Go.XR.S_light_off rfl (by assumption) (fun K hK => ?_); go_step; refine hK _ ?_; clear hK K) | (refine Go.XR.S_light_on rfl rfl rfl (by assumption) ?_ (fun w' hS K hK => ?_) (fun K hK => ?_); rotate_left 1; (have hS1 := bcell hS; (first | (first | (refine Go.XR.wp_load_at 27 (.tmp 101) rfl g (o + i * 35) rfl (keyC r.1) ((row_at_key HX.out).below (by rw [keyC_size]; omega) hS) _ Try.underlying27 rfl (keySize r.1) ?_) | (refine Go.XR.wp_load_at 27 (.tmp 96) rfl g (o + q * 35) rfl (keyC r0.1) ((row_at_key HX0.out).below (by rw [keyC_size]; omega) hS) _ Try.underlying27 rfl (keySize r0.1) ?_)) | go_step); exact hK); go_step; refine hK _ ?_; clear hK K))
                    refine Go.XR.S_heavy_on rfl (fun K hK => ?_)
                    go_step
                    ((with_reducible refine (less_any wr.drew r0.1 r.1).mono ?_); rintro e w14 ⟨rfl, hb14⟩)
                    rw [decide_eq_true Hlt.out]
                    have hS1 : Below wr.heap.size wr w14 := hS0.trans hb14
                    refine hK _ _ ⟨fun _ => hS1, ?_⟩
                    clear hK K hb14 hS0
                    have hS0 := hS1
                    clear hS1
                    repeat (first | (refine Go.XR.S_light rfl rfl (by assumption) ?_ (fun w' hS K hK => ?_) (fun K hK => ?_); rotate_left 1; (have hS1 := bcell hS; (first | (first | (refine Go.XR.wp_load_at 27 (.tmp 101) rfl g (o + i * 35) rfl (keyC r.1) ((row_at_key HX.out).below (by rw [keyC_size]; omega) hS) _ Try.underlying27 rfl (keySize r.1) ?_) | (refine Go.XR.wp_load_at 27 (.tmp 96) rfl g (o + q * 35) rfl (keyC r0.1) ((row_at_key HX0.out).below (by rw [keyC_size]; omega) hS) _ Try.underlying27 rfl (keySize r0.1) ?_)) | go_step); exact hK); go_step; refine hK _ ?_; clear hK K) | (refine Go.XR.S_light_off rfl (by assumption) (fun K hK => ?_); go_step; refine hK _ ?_; clear hK K) | (refine Go.XR.S_light_on rfl rfl rfl (by assumption) ?_ (fun w' hS K hK => ?_) (fun K hK => ?_); rotate_left 1; (have hS1 := bcell hS; (first | (first | (refine Go.XR.wp_load_at 27 (.tmp 101) rfl g (o + i * 35) rfl (keyC r.1) ((row_at_key HX.out).below (by rw [keyC_size]; omega) hS) _ Try.underlying27 rfl (keySize r.1) ?_) | (refine Go.XR.wp_load_at 27 (.tmp 96) rfl g (o + q * 35) rfl (keyC r0.1) ((row_at_key HX0.out).below (by rw [keyC_size]; omega) hS) _ Try.underlying27 rfl (keySize r0.1) ?_)) | go_step); exact hK); go_step; refine hK _ ?_; clear hK K))
                    refine Go.XR.S_heavy_on rfl (fun K hK => ?_)
                    go_step
                    ((with_reducible refine (own_shelf (HOx.out.below hS0) (by omega) r.2.shelf (place_sh Hrok.out)).mono ?_); rintro e w15 ⟨R1, hR1, a15, c15, rfl, hr15, _, hb15⟩)
                    have hS2 : Below wr.heap.size wr w15 := hS0.trans (hb15.mono hS0.size)
                    have HR15 := Lib.hid hr15
                    refine hK _ _ ⟨fun _ => hS2, ?_⟩
                    clear hK K hb15 hr15
                    refine Go.XR.S_heavy_on rfl (fun K hK => ?_)
                    go_step
                    ((with_reducible refine (own_shelf (HOy.out.below hS2) (by omega) r.2.shelf (place_sh Hrok.out)).mono ?_); rintro e w16 ⟨R2, hR2, a16, c16, rfl, hr16, _, hb16⟩)
                    have hS3 : Below wr.heap.size wr w16 := hS2.trans (hb16.mono hS2.size)
                    have HR16 := Lib.hid hr16
                    have HR15b := Lib.hid (HR15.out.below hb16)
                    have hRR : R1 = R2 := ShelfOf.same hR1 hR2 HSm.out HOx.out.nd HOy.out.nd
                    have hR1l : R1.length ≤ 200 := Nat.le_trans (ShelfOf.len hR1) hD20
                    have Hok1 : Hid (RowsOk R1) := ShelfOf.ok hR1 HOx.out.nd HOx.out.rng
                    clear hR1 hR2
                    subst hRR
                    refine hK _ _ ⟨fun h => by simp at h, ?_⟩
                    clear hK K hb16 hr16
                    refine Go.XR.S_heavy_on rfl (fun K hK => ?_)
                    go_step
                    ((with_reducible refine (same_any w16 a15 a16 c15 c16 R1 R1 HR15b.out HR16.out (by omega) (by omega) Hok1.out Hok1.out).mono ?_); rintro e w17 ⟨rfl, hb17⟩)
                    rw [decide_eq_true (show R1 = R1 from rfl)]
                    have HS4 := Lib.hid (hS3.trans (hb17.mono hS3.size))
                    refine hK _ _ ⟨fun h => by simp at h, ?_⟩
                    clear hK K hb17 hS0 hS2 hS3
                    repeat (first | (refine Go.XR.S_heavy (fun K hK => ?_); go_step; refine hK _ _ ⟨fun h => by simp at h, ?_⟩; clear hK K) | (refine Go.XR.S_heavy_off rfl (fun h => by simp at h) (fun K hK => ?_); go_step; refine hK _ ?_; clear hK K) | (refine Go.XR.S_heavy_on rfl (fun K hK => ?_); go_step; refine hK _ _ ⟨fun h => by simp at h, ?_⟩; clear hK K))
                    refine Go.XR.S_nil ?_
                    go_wp2
                    go_roundg (L.length - (i + 1))
                    case measure => omega
                    case rel => exact ⟨i + 1, by go_num, by omega, rfl, HW.out.trans (HS4.out.mono HW.out.size), HOx.out.below HS4.out, HOy.out.below HS4.out, HRw.out.below HS4.out⟩
                · have hge : ¬ (i : Int) < (L.length : Int) := by omega
                  have hDE : E.length = D.length := HSm.out.len HOx.out.nd HOy.out.nd
                  clear hlt hi hgn
                  go_wp2_with fail
                  refine (own_all HOy.out (by omega)).mono ?_
                  rintro e w18 ⟨M, hM, a18, c18, rfl, hr18, _, hb18⟩
                  have hML : M = L := AllOf.same HL.out hM HSm.out HOx.out.nd HOy.out.nd
                  subst hML
                  have HR18 := Lib.hid hr18
                  have HRl := Lib.hid (HRw.out.below hb18)
                  have Hb18 := Lib.hid (HW.out.trans (hb18.mono HW.out.size))
                  have HOx18 := Lib.hid (HOx.out.below hb18)
                  have HOy18 := Lib.hid (HOy.out.below hb18)
                  have Hrok : Hid (RowsOk M) := AllOf.ok hM HOy.out.nd HOy.out.rng
                  clear hM hr18 hb18
                  go_wp2_with fail
                  refine (same_any w18 a18 a7 c18 c7 M M HR18.out HRl.out (by omega) (by omega) Hrok.out Hrok.out).mono ?_
                  rintro e w19 ⟨rfl, hb19⟩
                  rw [decide_eq_true (show M = M from rfl)]
                  have Hb19 := Lib.hid (Hb18.out.trans (hb19.mono Hb18.out.size))
                  have HOx19 := Lib.hid (HOx18.out.below hb19)
                  have HOy19 := Lib.hid (HOy18.out.below hb19)
                  clear hb19
                  go_wp2_with fail
                  refine (own_len HOx19.out).mono ?_
                  rintro e w20 ⟨rfl, hb20⟩
                  have Hb20 := Lib.hid (Hb19.out.trans (hb20.mono Hb19.out.size))
                  have HOy20 := Lib.hid (HOy19.out.below hb20)
                  clear hb20
                  go_wp2_with fail
                  refine (own_len HOy20.out).mono ?_
                  rintro e w21 ⟨rfl, hb21⟩
                  rw [hDE]
                  have Hb21 := Lib.hid (Hb20.out.trans (hb21.mono Hb20.out.size))
                  clear hb21
                  go_wp2
                  go_ret
                  exact ⟨rfl, Hb21.out⟩
end Go.Proofs.Ytnfbchhbcinloaa
