/- The walk over the statement IndexPlays. -/
import Derived.Test.YtnfbchhbcinloaaRs
namespace Go.Proofs.Ytnfbchhbcinloaa
open Go.RowKit Go.XR Go.IndexPure
theorem twins_same {D R : List RowT} {d : SumT} {ns : List UInt32} (hT : TwinsOf D d ns) (hA : AllOf D R) (hD : (D.map (·.1)).Nodup) : ns.map (fun n => (⟨d, n⟩ : KeyT)) = twinsL R d := by
  refine eq_of_strict (r := fun x y => cfK x y < 0) (fun x y h1 h2 => by have := cfK_swap x y; omega) _ _ ?_ ?_ fun k => ?_
  · rw [List.pairwise_map]
    refine hT.1.imp fun {x y} h => ?_
    unfold cfK
    rw [cb_self, or2_zero, ci_lt]
    show (x.toNat : Int) < (y.toNat : Int)
    omega
  · unfold twinsL
    rw [List.pairwise_map]
    exact (hA.2.sublist List.filter_sublist).imp fun h => h
  · unfold twinsL
    rw [List.mem_map, List.mem_map]
    constructor
    · rintro ⟨n, hn, rfl⟩
      have h1 := (hT.2.1 n).1 hn
      obtain ⟨v, hv⟩ := Option.isSome_iff_exists.1 h1
      exact ⟨(⟨d, n⟩, v), List.mem_filter.2 ⟨hA.1.mem_iff.2 ((aget_mem hD).1 hv), decide_eq_true rfl⟩, rfl⟩
    · rintro ⟨r, hr, rfl⟩
      obtain ⟨h1, h2⟩ := List.mem_filter.1 hr
      have h3 : r.1.sum = d := of_decide_eq_true h2
      refine ⟨r.1.n, (hT.2.1 _).2 ?_, by rw [← h3, key_eta]⟩
      rw [← h3, key_eta, (aget_mem hD).2 (show (r.1, r.2) ∈ D from hA.1.mem_iff.1 h1)]; rfl
theorem own_shelfI {B : Nat} {w : World} {p : Nat} {D : List RowT} (h : Own B w p D) (hlen : D.length ≤ 2^20) (s : I64) :
    Calls Try.prog 23 #[.pointer (some ⟨p, 0, none⟩), .int .i64 s.1] w fun e w' => ∃ L, ShelfOf D s.1 L ∧ RetRows w L e w' := own_shelf h hlen s.1 s.2
theorem allof_srt {D R : List RowT} (h : AllOf D R) : SrtA R := h.2
theorem RefIx.step {w w' : World} {b : Nat} {R : List RowT} {F F' : List Nat} (h : RefIx w b R F) (hb : But F w w') (hg : Grew w F F') : RefIx w' b R F' := by
  obtain ⟨a, c, h1, h2, h3, h4, h5, h7', h6⟩ := h
  have hn : ∀ i, i < w.heap.size → i ∉ F → i ∉ F' := fun i h7 h8 h9 => by
    rcases hg i h9 with h | h
    · exact h8 h
    · omega
  exact ⟨a, c, h1.but hb h5, h2.but hb fun g o ha => (h6 _ ha).2.1, h3, h4, hn b h1.lt h5, h7', fun x hx => ⟨(h6 x hx).1, hn _ (h6 x hx).2.2.1 (h6 x hx).2.1, Nat.lt_of_lt_of_le (h6 x hx).2.2.1 hb.size, (h6 x hx).2.2.2⟩⟩
/-- the reference's put and drop leave the rows of what there is -/
theorem refput_all {w w' : World} {b : Nat} {D R : List RowT} {F : List Nat} {k : KeyT} {v : PlaceT} {e : Ending} (h : RetRPut w b R F k v e w') (hA : AllOf D R) (hD : (D.map (·.1)).Nodup) :
    e = .returned (.bool (aget D k).isSome) ∧ ∃ R', AllOf (aput (adel D k) k v) R' ∧ RefIx w' b R' F ∧ But [b] w w' := by
  obtain ⟨i, hL, rfl, h1, h2⟩ := h
  refine ⟨?_, _, allof_put hA hD hL v, h1, h2⟩
  rw [dec_of (allof_some hA hD k)]
theorem refdrop_all {w w' : World} {b : Nat} {D R : List RowT} {F : List Nat} {k : KeyT} {e : Ending} (h : RetRDrop w b R F k e w') (hA : AllOf D R) (hD : (D.map (·.1)).Nodup) :
    e = .returned (.bool (aget D k).isSome) ∧ ∃ R', AllOf (adel D k) R' ∧ RefIx w' b R' F ∧ But [b] w w' := by
  obtain ⟨rfl, i, hL, h1, h2⟩ := h
  have hd := dec_of (allof_some hA hD k)
  refine ⟨by rw [hd], ?_⟩
  by_cases hk : k ∈ R.map (·.1)
  · rw [if_pos hk] at h1
    exact ⟨_, allof_drop hA hD hL, h1, h2⟩
  · rw [if_neg hk] at h1
    have hn : aget D k = none := by
      cases h : aget D k with
      | none => rfl
      | some v => exact absurd ((allof_some hA hD k).2 (by rw [h]; rfl)) hk
    exact ⟨R, by rw [adel_none D hn]; exact hA, h1, h2⟩
set_option maxHeartbeats 8000000 in
set_option maxRecDepth 100000 in
theorem plays_walk (w : World) (a : Option Addr) (c : Nat) (l : List ActT) (hR : Row w a (l.flatMap actL)) (hl : l.length ≤ maxLen) (hc : l.length ≤ c) (k : KeyT) (sh : I64) :
    Calls Try.prog 5 #[.slice a l.length c, keyV k, .int .i64 sh.1] w (RetBool w true) := by
  obtain ⟨zs, hzs, hz⟩ := zero_act
  have Hz := Lib.hid hz
  obtain ⟨zp, hzp, hzq⟩ : ∃ zp : Array Value, zp.size = 2 ∧ ∀ w, (zeroValue 33).run Try.prog w = .ok (.agg zp) w := ⟨_, rfl, fun w => Try.zeroValue33 w⟩
  have Hzq := Lib.hid hzq
  clear hz hzq
  obtain ⟨W0, hW0⟩ : ∃ W0, w.alloc (.cells (keyC k) 27) = W0 := ⟨_, rfl⟩
  have hb0 : Below w.heap.size w W0 := by rw [← hW0]; exact (Below.refl _ _).alloc (Nat.le_refl _) _
  have hK0 : At W0 w.heap.size 0 (keyC k) := by rw [← hW0]; exact At.new _ _ _
  have Hb0 := Lib.hid hb0
  have HK0 := Lib.hid hK0
  have HR := Lib.hid hR
  clear hb0 hK0 hR
  obtain ⟨kb, hkb⟩ : ∃ kb, w.heap.size = kb := ⟨_, rfl⟩
  have Hkb := Lib.hid hkb
  rw [hkb] at HK0
  go_enter Try.func5, Try.ntmps5
  go_wp2_with fail
  refine (shown_any W0).mono ?_
  rintro e w1 ⟨rfl, hb1⟩
  have Hb1 := Lib.hid (Hb0.out.trans (hb1.mono Hb0.out.size))
  have HK1 := Lib.hid (HK0.out.below (by rw [keyC_size]; omega) hb1)
  clear hb1 Hb0 HK0
  go_wp2_with fail
  refine (new_any w1).mono ?_
  intro e w2 h2
  obtain ⟨p, F, rfl, hI, hF, hb2⟩ := h2.ix
  clear h2
  obtain ⟨B, hB⟩ : ∃ B, w1.heap.size = B := ⟨_, rfl⟩
  have HBw := Lib.hid hB
  have hb3 : Below w2.heap.size w2 (w2.alloc (.cells #[.slice none 0 0] 54)) := (Below.refl _ _).alloc (Nat.le_refl _) _
  have HI := Lib.hid (hI.below hb3)
  have HF : Hid (∀ b ∈ F, B ≤ b) := by rw [← hB]; exact hF
  have Hb2 : Hid (Below B w1 (w2.alloc (.cells #[.slice none 0 0] 54))) := by rw [← hB]; exact hb2.trans (hb3.mono hb2.size)
  have HX : Hid (RefIx (w2.alloc (.cells #[.slice none 0 0] 54)) w2.heap.size [] F) :=
    ⟨none, 0, Blk.new _ _ _, .inl rfl, Nat.le_refl _, by unfold maxLen; omega, fun h => by have := hI.fin _ h; omega, fun _ => rfl, fun x hx => by cases hx⟩
  have hkB : kb < B := by rw [← hB]; exact HK1.out.lt (by rw [keyC_size]; omega)
  have hbB : B ≤ w2.heap.size := by rw [← hB]; exact hb2.size
  clear hI hF hb2 hb3 hB hkb hW0
  go_wp2_with fail
  obtain ⟨b, hbn⟩ : ∃ b, w2.heap.size = b := ⟨_, rfl⟩
  obtain ⟨w3, hw3⟩ : ∃ w3, w2.alloc (.cells #[.slice none 0 0] 54) = w3 := ⟨_, rfl⟩
  rw [hbn, hw3] at HX
  rw [hw3] at HI Hb2 ⊢
  rw [hbn] at hbB ⊢
  clear hw3 hbn
  refine (few_any w3 a c l hl hc).mono ?_
  rintro e w4 ⟨rfl, hw4⟩
  rw [hw4]
  clear hw4 w4
  obtain ⟨l', hl'⟩ : ∃ l', l.take 200 = l' := ⟨_, rfl⟩
  have hll : l'.length ≤ 200 := by rw [← hl', List.length_take]; omega
  have HR' : Hid (Row w a (l'.flatMap actL)) := by
    unfold Hid
    rw [← hl']
    have h1 := HR.out.take ((min 200 l.length) * 36)
    rw [flat_take actL_length l (Nat.min_le_right _ _)] at h1
    rwa [show l.take (min 200 l.length) = l.take 200 by rw [List.take_eq_take_iff]; omega] at h1
  rw [hl']
  clear hl' HR hl hc
  go_wp2
  go_loopg [25] l'.length (fun m x wr => ∃ (j : Nat) (F : List Nat) (D R : List RowT), x = .int .i64 j ∧ j ≤ l'.length ∧ Hid (m = l'.length - j ∧ Below B w1 wr ∧ Ix wr F p D ∧ (∀ b ∈ F, B ≤ b) ∧ D.length ≤ j ∧ AllOf D R ∧ RefIx wr b R F))
  case atStart => exact ⟨0, F, [], [], rfl, by omega, rfl, Hb2.out, HI.out, HF.out, Nat.le_refl _, ⟨List.Perm.refl _, List.Pairwise.nil⟩, HX.out⟩
  case round =>
    clear HI HF Hb2 HX
    obtain ⟨j, F, D, R, rfl, hj, hr⟩ := hrel
    have hgn := hr.out.1
    have Hb := Lib.hid hr.out.2.1
    have HI := Lib.hid hr.out.2.2.1
    have HF := Lib.hid hr.out.2.2.2.1
    have hDj := hr.out.2.2.2.2.1
    have HA := Lib.hid hr.out.2.2.2.2.2.1
    have HX := Lib.hid hr.out.2.2.2.2.2.2
    clear hr
    have hBr : B ≤ wr.heap.size := by have := Hb.out.size; rw [HBw.out] at this; exact this
    have HW := Lib.hid (Hb1.out.trans (Hb.out.mono (by rw [← HBw.out]; exact Hb1.out.size)))
    have HRl : Hid (R.length ≤ 2^20) := by unfold Hid; rw [HA.out.1.length_eq]; omega
    by_cases hlt : j < l'.length
    · have hlt2 : (j : Int) < (l'.length : Int) := by omega
      obtain ⟨g, o, rfl, hY⟩ := row_at actL_length (HR'.out.below HW.out) hlt (by omega)
      have HY : Hid (At wr g (o + j * 36) (actC l'[j])) := hY
      clear hY
      generalize l'[j] = act at *
      have ho := act.ok
      have Hok := Lib.hid ho
      clear ho
      cases hgo : act.gone with
      | true =>
        have hq0 : (actC act)[0]? = some (.bool true) := by rw [← hgo]; rfl
        go_wp2_with (first | (refine wpList_load_at rfl 37 (.tmp 27) rfl g (o + j * 36) (by kernel_rfl) (actC act) HY.out _ Try.underlying37 rfl (actSize act) ?_) | (refine wpList_alloc_new rfl 37 rfl zs (Hz.out _) ?_) | (refine opIs (X := .store 37 (.tmp 11) (.tmp 28)) rfl ?_; refine wpList_store_new rfl 37 (.tmp 11) (.tmp 28) rfl zs (actC act) 37 (by kernel_rfl) (by kernel_rfl) (by rw [hzs, actC_size]) (one_actL act) (actSize act) ?_))
        have hbA : Below wr.heap.size wr (wr.alloc (.cells (actC act) 37)).drew := ((Below.refl _ _).alloc (Nat.le_refl _) _).drew
        have hA5 : At (wr.alloc (.cells (actC act) 37)).drew wr.heap.size 0 (actC act) := At.drew (At.new _ _ _)
        obtain ⟨ab, hab⟩ : ∃ ab, wr.heap.size = ab := ⟨_, rfl⟩
        have habF : ab ∉ F := fun h => by have := HI.out.fin _ h; omega
        rw [hab] at hA5 ⊢
        obtain ⟨W4, hW4⟩ : ∃ W4, wr.alloc (.cells (actC act) 37) = W4 := ⟨_, rfl⟩
        rw [hW4] at hA5 hbA ⊢
        have HA5 := Lib.hid hA5
        have HI5 := Lib.hid (HI.out.below hbA)
        have HX5 := Lib.hid (HX.out.below hbA)
        have HbA := Lib.hid hbA
        have hW5s : wr.heap.size ≤ W4.drew.heap.size := hbA.size
        clear hA5 hbA hab hq0 hW4
        refine Go.XR.region_sched ((fun W => At W ab 0 (actC act))) [(0, true), (1, true), (2, true), (3, true), (5, true), (6, true), (7, true), (8, true), (4, false), (9, false), (10, false)] [9, 10] Try.mixed (by kernel_rfl) (by kernel_rfl) (by kernel_rfl) ?_
        simp only [List.map_cons, List.map_nil, List.getElem?_cons_succ, List.getElem?_cons_zero]
        repeat (first | (refine Go.XR.S_light rfl rfl HA5.out ?_ (fun w' hS K hK => ?_) (fun K hK => ?_); rotate_left 1; (skip; (first | (first | (refine Go.XR.wp_load_at 27 (.tmp 33) rfl ab 1 rfl (keyC act.key) (by have := act_at_key hS; rwa [Nat.zero_add] at this) _ Try.underlying27 rfl (keySize act.key) ?_) | (refine Go.XR.wp_load_at 27 (.tmp 38) rfl ab 1 rfl (keyC act.key) (by have := act_at_key hS; rwa [Nat.zero_add] at this) _ Try.underlying27 rfl (keySize act.key) ?_)) | go_step); exact hK); go_step; refine hK _ ?_; clear hK K))
        refine Go.XR.S_heavy (fun K hK => ?_)
        go_step
        ((with_reducible refine (drop_any W4.drew F p D HI5.out (by omega) act.key).mono ?_); rintro e w6 ⟨rfl, F6, hI6, hb6, hg6⟩)
        have hD6 : (adel D act.key).length ≤ j + 1 := by have := adel_len D act.key; omega
        have HA6 := Lib.hid (HA5.out.but hb6 habF)
        have HX6 := Lib.hid (HX5.out.step hb6 hg6)
        have HI6 := Lib.hid hI6
        have HF6 : Hid (∀ b ∈ F6, B ≤ b) := fun b hbF => by
          rcases hg6 b hbF with h1 | h1
          · exact HF.out b h1
          · omega
        have Hb6 := Lib.hid ((Hb.out.trans (HbA.out.mono hBr)).trans (hb6.below (Nat.le_trans hBr hW5s) HF.out))
        clear hb6 hg6 hI6
        refine hK _ _ ⟨fun _ => HA6.out, ?_⟩
        clear hK K
        refine Go.XR.S_heavy (fun K hK => ?_)
        go_step
        ((with_reducible refine (refdrop_any w6 b R F6 HX6.out HI6.out.fin (allof_srt HA.out) HRl.out act.key).mono ?_); rintro e w7 hret)
        obtain ⟨rfl, R7, hA7, hX7, hb7⟩ := refdrop_all hret HA.out HI.out.nd
        clear hret
        have hbF6 : b ∉ F6 := by obtain ⟨_, _, _, _, _, _, h5, _⟩ := HX6.out; exact h5
        have HI7 := Lib.hid (HI6.out.but hb7 fun i hi hb => by rw [List.mem_singleton] at hb; subst hb; exact hbF6 hi)
        have Hb7 := Lib.hid (Hb6.out.trans (hb7.below (by have := Hb6.out.size; rw [HBw.out] at this; exact this) (by intro i hi; rw [List.mem_singleton] at hi; subst hi; exact hbB)))
        have HA7 := Lib.hid hA7
        have HX7 := Lib.hid hX7
        clear hA7 hX7 hb7 hbF6
        refine hK _ _ ⟨fun h => by simp at h, ?_⟩
        clear hK K
        generalize (aget D act.key).isSome = bb
        repeat (first | (refine Go.XR.S_heavy (fun K hK => ?_); go_step; refine hK _ _ ⟨fun h => by simp at h, ?_⟩; clear hK K))
        refine Go.XR.S_nil ?_
        go_wp2
        go_roundg (l'.length - (j + 1))
        case measure => omega
        case rel => exact ⟨j + 1, F6, adel D act.key, R7, by go_num, by omega, rfl, Hb7.out, HI7.out, HF6.out, hD6, HA7.out, HX7.out⟩
      | false =>
        have hq0 : (actC act)[0]? = some (.bool false) := by rw [← hgo]; rfl
        go_wp2_with (first | (refine wpList_load_at rfl 37 (.tmp 27) rfl g (o + j * 36) (by kernel_rfl) (actC act) HY.out _ Try.underlying37 rfl (actSize act) ?_) | (refine wpList_alloc_new rfl 37 rfl zs (Hz.out _) ?_) | (refine opIs (X := .store 37 (.tmp 11) (.tmp 28)) rfl ?_; refine wpList_store_new rfl 37 (.tmp 11) (.tmp 28) rfl zs (actC act) 37 (by kernel_rfl) (by kernel_rfl) (by rw [hzs, actC_size]) (one_actL act) (actSize act) ?_))
        have hbA : Below wr.heap.size wr (wr.alloc (.cells (actC act) 37)).drew := ((Below.refl _ _).alloc (Nat.le_refl _) _).drew
        have hA5 : At (wr.alloc (.cells (actC act) 37)).drew wr.heap.size 0 (actC act) := At.drew (At.new _ _ _)
        obtain ⟨ab, hab⟩ : ∃ ab, wr.heap.size = ab := ⟨_, rfl⟩
        have habF : ab ∉ F := fun h => by have := HI.out.fin _ h; omega
        rw [hab] at hA5 ⊢
        obtain ⟨W4, hW4⟩ : ∃ W4, wr.alloc (.cells (actC act) 37) = W4 := ⟨_, rfl⟩
        rw [hW4] at hA5 hbA ⊢
        have HA5 := Lib.hid hA5
        have HI5 := Lib.hid (HI.out.below hbA)
        have HX5 := Lib.hid (HX.out.below hbA)
        have HbA := Lib.hid hbA
        have hW5s : wr.heap.size ≤ W4.drew.heap.size := hbA.size
        clear hA5 hbA hab hq0 hW4
        refine Go.XR.region_sched ((fun W => At W ab 0 (actC act))) [(0, true), (1, true), (2, true), (3, true), (4, true), (5, true), (6, true), (8, true), (9, true), (10, true), (11, true), (12, true), (13, true), (14, true), (7, false), (15, false), (16, false)] [15, 16] Try.mixed (by kernel_rfl) (by kernel_rfl) (by kernel_rfl) ?_
        simp only [List.map_cons, List.map_nil, List.getElem?_cons_succ, List.getElem?_cons_zero]
        repeat (first | (refine Go.XR.S_light rfl rfl HA5.out ?_ (fun w' hS K hK => ?_) (fun K hK => ?_); rotate_left 1; (skip; (first | (first | (refine Go.XR.wp_load_at 27 (.tmp 44) rfl ab 1 rfl (keyC act.key) (by have := act_at_key hS; rwa [Nat.zero_add] at this) _ Try.underlying27 rfl (keySize act.key) ?_) | (refine Go.XR.wp_load_at 27 (.tmp 52) rfl ab 1 rfl (keyC act.key) (by have := act_at_key hS; rwa [Nat.zero_add] at this) _ Try.underlying27 rfl (keySize act.key) ?_) | (refine Go.XR.wp_load_at 33 (.tmp 47) rfl ab 34 rfl (placeC act.place) (by have := act_at_place hS; rwa [Nat.zero_add] at this) _ Try.underlying33 rfl (placeSize act.place) ?_) | (refine Go.XR.wp_load_at 33 (.tmp 55) rfl ab 34 rfl (placeC act.place) (by have := act_at_place hS; rwa [Nat.zero_add] at this) _ Try.underlying33 rfl (placeSize act.place) ?_)) | go_step); exact hK); go_step; refine hK _ ?_; clear hK K))
        refine Go.XR.S_heavy (fun K hK => ?_)
        go_step
        ((with_reducible refine (put_any W4.drew F p D HI5.out (by omega) act.key act.place Hok.out).mono ?_); rintro e w6 ⟨rfl, F6, hI6, hb6, hg6⟩)
        have hD6 : (aput (adel D act.key) act.key act.place).length ≤ j + 1 := by have := adel_len D act.key; have := aput_le (adel D act.key) act.key act.place; omega
        have HA6 := Lib.hid (HA5.out.but hb6 habF)
        have HX6 := Lib.hid (HX5.out.step hb6 hg6)
        have HI6 := Lib.hid hI6
        have HF6 : Hid (∀ b ∈ F6, B ≤ b) := fun b hbF => by
          rcases hg6 b hbF with h1 | h1
          · exact HF.out b h1
          · omega
        have Hb6 := Lib.hid ((Hb.out.trans (HbA.out.mono hBr)).trans (hb6.below (Nat.le_trans hBr hW5s) HF.out))
        clear hb6 hg6 hI6
        refine hK _ _ ⟨fun _ => HA6.out, ?_⟩
        clear hK K
        refine Go.XR.S_heavy (fun K hK => ?_)
        go_step
        ((with_reducible refine (refput_any w6 b R F6 HX6.out HI6.out.fin (allof_srt HA.out) HRl.out act.key act.place).mono ?_); rintro e w7 hret)
        obtain ⟨rfl, R7, hA7, hX7, hb7⟩ := refput_all hret HA.out HI.out.nd
        clear hret
        have hbF6 : b ∉ F6 := by obtain ⟨_, _, _, _, _, _, h5, _⟩ := HX6.out; exact h5
        have HI7 := Lib.hid (HI6.out.but hb7 fun i hi hb => by rw [List.mem_singleton] at hb; subst hb; exact hbF6 hi)
        have Hb7 := Lib.hid (Hb6.out.trans (hb7.below (by have := Hb6.out.size; rw [HBw.out] at this; exact this) (by intro i hi; rw [List.mem_singleton] at hi; subst hi; exact hbB)))
        have HA7 := Lib.hid hA7
        have HX7 := Lib.hid hX7
        clear hA7 hX7 hb7 hbF6
        refine hK _ _ ⟨fun h => by simp at h, ?_⟩
        clear hK K
        generalize (aget D act.key).isSome = bb
        repeat (first | (refine Go.XR.S_heavy (fun K hK => ?_); go_step; refine hK _ _ ⟨fun h => by simp at h, ?_⟩; clear hK K))
        refine Go.XR.S_nil ?_
        go_wp2
        go_roundg (l'.length - (j + 1))
        case measure => omega
        case rel => exact ⟨j + 1, F6, _, R7, by go_num, by omega, rfl, Hb7.out, HI7.out, HF6.out, hD6, HA7.out, HX7.out⟩
    · have hge : ¬ (j : Int) < (l'.length : Int) := by omega
      have HO : Hid (Own B wr p D) := ⟨F, HI.out, HF.out⟩
      have HnD := Lib.hid HI.out.nd
      have hD20 : D.length ≤ 200 := by omega
      have HKw := Lib.hid (HK1.out.below (by rw [keyC_size]; omega) (by rw [HBw.out]; exact Hb.out))
      clear HR' hlt hj hgn hDj Hb HI HF
      go_wp2_with (first | (refine wpList_load_at rfl 27 (.tmp 4) rfl kb 0 (by kernel_rfl) (keyC k) HKw.out _ Try.underlying27 rfl (keySize k) ?_) | fail)
      refine (own_get HO.out k).mono ?_
      rintro e w5 ⟨rfl, hb5⟩
      have hvok : PlaceOk ((aget D k).getD place0) := by
        cases h : aget D k with
        | none => unfold PlaceOk; decide
        | some v => exact HO.out.rng k v h
      obtain ⟨v, hv⟩ : ∃ v, (aget D k).getD place0 = v := ⟨_, rfl⟩
      obtain ⟨is, his⟩ : ∃ x, (aget D k).isSome = x := ⟨_, rfl⟩
      rw [hv] at hvok
      rw [hv, his]
      have Hv := Lib.hid hv
      have His := Lib.hid his
      have Hvok := Lib.hid hvok
      clear hv his hvok
      have HO5 := Lib.hid (HO.out.below hb5)
      have HX5 := Lib.hid (HX.out.below hb5)
      have HK5 := Lib.hid (HKw.out.below (by rw [keyC_size]; omega) hb5)
      have HW5 := Lib.hid (HW.out.trans (hb5.mono HW.out.size))
      clear hb5 HO HX HKw HW
      go_wp2_with (first | (refine wpList_alloc_new rfl 33 rfl zp (Hzq.out _) ?_) | (refine opIs (X := .store 33 (.tmp 12) (.tmp 64)) rfl ?_; refine wpList_store_new rfl 33 (.tmp 12) (.tmp 64) rfl zp (placeC v) 33 (by kernel_rfl) (by kernel_rfl) (by rw [hzp]; rfl) (one_placeL v) (placeSize v) ?_) | (refine wpList_load_at rfl 27 (.tmp 4) rfl kb 0 (by kernel_rfl) (keyC k) (HK5.out.alloc _) _ Try.underlying27 rfl (keySize k) ?_) | fail)
      have hb6 : Below w5.heap.size w5 (w5.alloc (.cells (placeC v) 33)) := (Below.refl _ _).alloc (Nat.le_refl _) _
      have hP6 : At (w5.alloc (.cells (placeC v) 33)) w5.heap.size 0 (placeC v) := At.new _ _ _
      obtain ⟨pa, hpa⟩ : ∃ pa, w5.heap.size = pa := ⟨_, rfl⟩
      obtain ⟨w6, hw6⟩ : ∃ w6, w5.alloc (.cells (placeC v) 33) = w6 := ⟨_, rfl⟩
      rw [hw6] at hb6 hP6 ⊢
      rw [hpa] at hP6 ⊢
      have HO6 := Lib.hid (HO5.out.below hb6)
      have HX6 := Lib.hid (HX5.out.below hb6)
      have HK6 := Lib.hid (HK5.out.below (by rw [keyC_size]; omega) hb6)
      have HW6 := Lib.hid (HW5.out.trans (hb6.mono HW5.out.size))
      have HP6 := Lib.hid hP6
      clear hb6 hP6 hw6 hpa HO5 HX5 HK5 HW5
      refine (refget_any w6 b R F D HX6.out HA.out HnD.out HRl.out k).mono ?_
      rintro e w7 ⟨rfl, hb7⟩
      rw [Hv.out, His.out]
      have HO7 := Lib.hid (HO6.out.below hb7)
      have HX7 := Lib.hid (HX6.out.below hb7)
      have HK7 := Lib.hid (HK6.out.below (by rw [keyC_size]; omega) hb7)
      have HW7 := Lib.hid (HW6.out.trans (hb7.mono HW6.out.size))
      have HP7 := Lib.hid (HP6.out.below (by rw [placeC_size]; omega) hb7)
      clear hb7 HO6 HX6 HK6 HW6 HP6
      go_wp2_with (first | (refine wpList_alloc_new rfl 33 rfl zp (Hzq.out _) ?_) | (refine opIs (X := .store 33 (.tmp 14) (.tmp 70)) rfl ?_; refine wpList_store_new rfl 33 (.tmp 14) (.tmp 70) rfl zp (placeC v) 33 (by kernel_rfl) (by kernel_rfl) (by rw [hzp]; rfl) (one_placeL v) (placeSize v) ?_) | fail)
      have hb8 : Below w7.heap.size w7 (w7.alloc (.cells (placeC v) 33)) := (Below.refl _ _).alloc (Nat.le_refl _) _
      have hQ8 : At (w7.alloc (.cells (placeC v) 33)) w7.heap.size 0 (placeC v) := At.new _ _ _
      obtain ⟨pq, hpq⟩ : ∃ pq, w7.heap.size = pq := ⟨_, rfl⟩
      obtain ⟨w8, hw8⟩ : ∃ w8, w7.alloc (.cells (placeC v) 33) = w8 := ⟨_, rfl⟩
      rw [hw8] at hb8 hQ8 ⊢
      rw [hpq] at hQ8 ⊢
      have HO8 := Lib.hid (HO7.out.below hb8)
      have HX8 := Lib.hid (HX7.out.below hb8)
      have HK8 := Lib.hid (HK7.out.below (by rw [keyC_size]; omega) hb8)
      have HW8 := Lib.hid (HW7.out.trans (hb8.mono HW7.out.size))
      have HP8 := Lib.hid (HP7.out.below (by rw [placeC_size]; omega) hb8)
      have HQ8 := Lib.hid hQ8
      clear hb8 hQ8 hw8 hpq HO7 HX7 HK7 HW7 HP7
      have Heq : Hid (∀ w, (Op.equal 33 (placeV v) (placeV v)).run Try.prog w = .ok true w) := fun w => by have h := place_eq v v Hvok.out Hvok.out w; rwa [decide_eq_true rfl] at h
      obtain ⟨xa, xc, hxB, hxR, hxl, hxm, hxF, hxn, hxx⟩ := HX8.out
      have c0 := hxB.cell (i := 0) rfl
      have hbl : b < w8.heap.size := hxB.lt
      have HxR := Lib.hid hxR
      clear hxB hxR hxx hxF hxn
      have hS0 : Below w8.heap.size w8 w8.drew := (Below.refl _ _).drew
      refine Go.XR.region_sched ((Below w8.heap.size w8)) [(0, true), (1, true), (2, true), (3, true), (4, true), (5, true), (6, true), (7, true), (8, true), (9, true), (10, true), (11, true), (12, true), (13, true), (14, true), (16, true), (17, true), (18, true), (15, false), (19, false), (20, false), (21, true), (22, true), (23, true), (24, true), (26, true), (27, true), (25, false), (28, false), (29, false), (30, true), (31, true), (32, true), (34, true), (35, true), (36, true), (37, true), (33, false), (38, false), (39, true), (40, true), (41, true), (43, true), (44, true), (45, true), (46, true), (47, true), (42, false), (48, false), (49, false), (50, false)] [] Try.mixed (by kernel_rfl) (by kernel_rfl) (by kernel_rfl) ?_
      simp only [List.map_cons, List.map_nil, List.getElem?_cons_succ, List.getElem?_cons_zero]
      repeat (first | (refine Go.XR.S_light rfl rfl (by assumption) ?_ (fun w' hS K hK => ?_) (fun K hK => ?_); rotate_left 1; (have hS1 := bcell hS; (first | (first | (refine Go.XR.wp_load_at 33 (.tmp 12) rfl pa 0 rfl (placeC v) (HP8.out.below (by rw [placeC_size]; omega) hS) _ Try.underlying33 rfl (placeSize v) ?_) | (refine Go.XR.wp_load_at 33 (.tmp 14) rfl pq 0 rfl (placeC v) (HQ8.out.below (by rw [placeC_size]; omega) hS) _ Try.underlying33 rfl (placeSize v) ?_) | (refine Go.XR.wp_agg_eql 33 (.tmp 74) (.tmp 75) _ rfl (placeC v) (placeC v) rfl rfl placeGuard _ (Heq.out _) ?_) | (refine Go.XR.wp_load_at 24 (.tmp 85) rfl kb 0 rfl (sumC k.sum) (key_at_sum (HK8.out.below (by rw [keyC_size]; omega) hS)) _ Try.underlying24 rfl (sumSize k.sum) ?_) | (refine Go.XR.wp_load_at 24 (.tmp 89) rfl kb 0 rfl (sumC k.sum) (key_at_sum (HK8.out.below (by rw [keyC_size]; omega) hS)) _ Try.underlying24 rfl (sumSize k.sum) ?_)) | go_step); exact hK); go_step; refine hK _ ?_; clear hK K) | (refine Go.XR.S_light_off rfl (by assumption) (fun K hK => ?_); go_step; refine hK _ ?_; clear hK K) | (refine Go.XR.S_light_on rfl rfl rfl (by assumption) ?_ (fun w' hS K hK => ?_) (fun K hK => ?_); rotate_left 1; (have hS1 := bcell hS; (first | (first | (refine Go.XR.wp_load_at 33 (.tmp 12) rfl pa 0 rfl (placeC v) (HP8.out.below (by rw [placeC_size]; omega) hS) _ Try.underlying33 rfl (placeSize v) ?_) | (refine Go.XR.wp_load_at 33 (.tmp 14) rfl pq 0 rfl (placeC v) (HQ8.out.below (by rw [placeC_size]; omega) hS) _ Try.underlying33 rfl (placeSize v) ?_) | (refine Go.XR.wp_agg_eql 33 (.tmp 74) (.tmp 75) _ rfl (placeC v) (placeC v) rfl rfl placeGuard _ (Heq.out _) ?_) | (refine Go.XR.wp_load_at 24 (.tmp 85) rfl kb 0 rfl (sumC k.sum) (key_at_sum (HK8.out.below (by rw [keyC_size]; omega) hS)) _ Try.underlying24 rfl (sumSize k.sum) ?_) | (refine Go.XR.wp_load_at 24 (.tmp 89) rfl kb 0 rfl (sumC k.sum) (key_at_sum (HK8.out.below (by rw [keyC_size]; omega) hS)) _ Try.underlying24 rfl (sumSize k.sum) ?_)) | go_step); exact hK); go_step; refine hK _ ?_; clear hK K))
      refine Go.XR.S_heavy_on rfl (fun K hK => ?_)
      go_step
      ((with_reducible refine (own_twins (HO8.out.below hS0) (by omega) k.sum).mono ?_); rintro e w9 ⟨ns, hT, a9, c9, rfl, ho9, hb9⟩)
      rw [twins_same hT HA.out HnD.out] at ho9 ⊢
      have hS1 : Below w8.heap.size w8 w9 := hS0.trans (hb9.mono hS0.size)
      refine hK _ _ ⟨fun _ => hS1, ?_⟩
      clear hK K hS0
      refine Go.XR.S_heavy_on rfl (fun K hK => ?_)
      go_step
      ((with_reducible refine (reftwins_any w9 b R F (HX8.out.below hS1) HRl.out k.sum).mono ?_); rintro e w10 ⟨a10, c10, rfl, ho10, hb10⟩)
      have hS2 : Below w8.heap.size w8 w10 := hS1.trans (hb10.mono hS1.size)
      have HT9 := Lib.hid ((Row.owned ho9).below hb10)
      have HT10 := Lib.hid (Row.owned ho10)
      have hTl : (twinsL R k.sum).length ≤ 2^40 := by have := twinsL_len R k.sum; have := HRl.out; omega
      refine hK _ _ ⟨fun _ => hS2, ?_⟩
      clear hK K ho9 ho10 hb9 hb10 hS1
      refine Go.XR.S_heavy_on rfl (fun K hK => ?_)
      go_step
      ((with_reducible refine (samek_any w10 a9 a10 c9 c10 (twinsL R k.sum) (twinsL R k.sum) HT9.out HT10.out hTl hTl).mono ?_); rintro e w11 ⟨rfl, hb11⟩)
      rw [decide_eq_true (show twinsL R k.sum = twinsL R k.sum from rfl)]
      have hS3 : Below w8.heap.size w8 w11 := hS2.trans (hb11.mono hS2.size)
      refine hK _ _ ⟨fun _ => hS3, ?_⟩
      clear hK K hb11 hS2 HT9 HT10
      repeat (first | (refine Go.XR.S_light rfl rfl (by assumption) ?_ (fun w' hS K hK => ?_) (fun K hK => ?_); rotate_left 1; (have hS1 := bcell hS; (first | (first | (refine Go.XR.wp_load_at 33 (.tmp 12) rfl pa 0 rfl (placeC v) (HP8.out.below (by rw [placeC_size]; omega) hS) _ Try.underlying33 rfl (placeSize v) ?_) | (refine Go.XR.wp_load_at 33 (.tmp 14) rfl pq 0 rfl (placeC v) (HQ8.out.below (by rw [placeC_size]; omega) hS) _ Try.underlying33 rfl (placeSize v) ?_) | (refine Go.XR.wp_agg_eql 33 (.tmp 74) (.tmp 75) _ rfl (placeC v) (placeC v) rfl rfl placeGuard _ (Heq.out _) ?_) | (refine Go.XR.wp_load_at 24 (.tmp 85) rfl kb 0 rfl (sumC k.sum) (key_at_sum (HK8.out.below (by rw [keyC_size]; omega) hS)) _ Try.underlying24 rfl (sumSize k.sum) ?_) | (refine Go.XR.wp_load_at 24 (.tmp 89) rfl kb 0 rfl (sumC k.sum) (key_at_sum (HK8.out.below (by rw [keyC_size]; omega) hS)) _ Try.underlying24 rfl (sumSize k.sum) ?_)) | go_step); exact hK); go_step; refine hK _ ?_; clear hK K) | (refine Go.XR.S_light_off rfl (by assumption) (fun K hK => ?_); go_step; refine hK _ ?_; clear hK K) | (refine Go.XR.S_light_on rfl rfl rfl (by assumption) ?_ (fun w' hS K hK => ?_) (fun K hK => ?_); rotate_left 1; (have hS1 := bcell hS; (first | (first | (refine Go.XR.wp_load_at 33 (.tmp 12) rfl pa 0 rfl (placeC v) (HP8.out.below (by rw [placeC_size]; omega) hS) _ Try.underlying33 rfl (placeSize v) ?_) | (refine Go.XR.wp_load_at 33 (.tmp 14) rfl pq 0 rfl (placeC v) (HQ8.out.below (by rw [placeC_size]; omega) hS) _ Try.underlying33 rfl (placeSize v) ?_) | (refine Go.XR.wp_agg_eql 33 (.tmp 74) (.tmp 75) _ rfl (placeC v) (placeC v) rfl rfl placeGuard _ (Heq.out _) ?_) | (refine Go.XR.wp_load_at 24 (.tmp 85) rfl kb 0 rfl (sumC k.sum) (key_at_sum (HK8.out.below (by rw [keyC_size]; omega) hS)) _ Try.underlying24 rfl (sumSize k.sum) ?_) | (refine Go.XR.wp_load_at 24 (.tmp 89) rfl kb 0 rfl (sumC k.sum) (key_at_sum (HK8.out.below (by rw [keyC_size]; omega) hS)) _ Try.underlying24 rfl (sumSize k.sum) ?_)) | go_step); exact hK); go_step; refine hK _ ?_; clear hK K))
      refine Go.XR.S_heavy_on rfl (fun K hK => ?_)
      go_step
      ((with_reducible refine (own_shelfI (HO8.out.below hS3) (by omega) sh).mono ?_); rintro e w12 ⟨R1, hR1, a12, c12, rfl, hr12, _, hb12⟩)
      have hS4 : Below w8.heap.size w8 w12 := hS3.trans (hb12.mono hS3.size)
      refine hK _ _ ⟨fun _ => hS4, ?_⟩
      clear hK K hS3
      refine Go.XR.S_heavy_on rfl (fun K hK => ?_)
      go_step
      ((with_reducible refine (refshelf_any w12 b R F (HX8.out.below hS4) (allof_srt HA.out) HRl.out sh).mono ?_); rintro e w13 ⟨R2, hR2, a13, c13, rfl, hr13, _, hb13⟩)
      have hRR : R1 = R2 := ShelfOf.same hR1 (shelf_done HA.out HnD.out hR2) (fun _ => rfl) HnD.out HnD.out
      have hS5 : Below w8.heap.size w8 w13 := hS4.trans (hb13.mono hS4.size)
      have HS12 := Lib.hid (hr12.below hb13)
      have HS13 := Lib.hid hr13
      have hR1l : R1.length ≤ 2^40 := by have := ShelfOf.len hR1; omega
      have Hok1 : Hid (RowsOk R1) := ShelfOf.ok hR1 HnD.out HO8.out.rng
      clear hR1 hR2 hr12 hr13 hb12 hb13 hS4
      subst hRR
      refine hK _ _ ⟨fun _ => hS5, ?_⟩
      clear hK K
      refine Go.XR.S_heavy_on rfl (fun K hK => ?_)
      go_step
      ((with_reducible refine (same_any w13 a12 a13 c12 c13 R1 R1 HS12.out HS13.out hR1l hR1l Hok1.out Hok1.out).mono ?_); rintro e w14 ⟨rfl, hb14⟩)
      rw [decide_eq_true (show R1 = R1 from rfl)]
      have hS6 : Below w8.heap.size w8 w14 := hS5.trans (hb14.mono hS5.size)
      refine hK _ _ ⟨fun _ => hS6, ?_⟩
      clear hK K hb14 hS5 HS12 HS13 Hok1
      repeat (first | (refine Go.XR.S_light rfl rfl (by assumption) ?_ (fun w' hS K hK => ?_) (fun K hK => ?_); rotate_left 1; (have hS1 := bcell hS; (first | (first | (refine Go.XR.wp_load_at 33 (.tmp 12) rfl pa 0 rfl (placeC v) (HP8.out.below (by rw [placeC_size]; omega) hS) _ Try.underlying33 rfl (placeSize v) ?_) | (refine Go.XR.wp_load_at 33 (.tmp 14) rfl pq 0 rfl (placeC v) (HQ8.out.below (by rw [placeC_size]; omega) hS) _ Try.underlying33 rfl (placeSize v) ?_) | (refine Go.XR.wp_agg_eql 33 (.tmp 74) (.tmp 75) _ rfl (placeC v) (placeC v) rfl rfl placeGuard _ (Heq.out _) ?_) | (refine Go.XR.wp_load_at 24 (.tmp 85) rfl kb 0 rfl (sumC k.sum) (key_at_sum (HK8.out.below (by rw [keyC_size]; omega) hS)) _ Try.underlying24 rfl (sumSize k.sum) ?_) | (refine Go.XR.wp_load_at 24 (.tmp 89) rfl kb 0 rfl (sumC k.sum) (key_at_sum (HK8.out.below (by rw [keyC_size]; omega) hS)) _ Try.underlying24 rfl (sumSize k.sum) ?_)) | go_step); exact hK); go_step; refine hK _ ?_; clear hK K) | (refine Go.XR.S_light_off rfl (by assumption) (fun K hK => ?_); go_step; refine hK _ ?_; clear hK K) | (refine Go.XR.S_light_on rfl rfl rfl (by assumption) ?_ (fun w' hS K hK => ?_) (fun K hK => ?_); rotate_left 1; (have hS1 := bcell hS; (first | (first | (refine Go.XR.wp_load_at 33 (.tmp 12) rfl pa 0 rfl (placeC v) (HP8.out.below (by rw [placeC_size]; omega) hS) _ Try.underlying33 rfl (placeSize v) ?_) | (refine Go.XR.wp_load_at 33 (.tmp 14) rfl pq 0 rfl (placeC v) (HQ8.out.below (by rw [placeC_size]; omega) hS) _ Try.underlying33 rfl (placeSize v) ?_) | (refine Go.XR.wp_agg_eql 33 (.tmp 74) (.tmp 75) _ rfl (placeC v) (placeC v) rfl rfl placeGuard _ (Heq.out _) ?_) | (refine Go.XR.wp_load_at 24 (.tmp 85) rfl kb 0 rfl (sumC k.sum) (key_at_sum (HK8.out.below (by rw [keyC_size]; omega) hS)) _ Try.underlying24 rfl (sumSize k.sum) ?_) | (refine Go.XR.wp_load_at 24 (.tmp 89) rfl kb 0 rfl (sumC k.sum) (key_at_sum (HK8.out.below (by rw [keyC_size]; omega) hS)) _ Try.underlying24 rfl (sumSize k.sum) ?_)) | go_step); exact hK); go_step; refine hK _ ?_; clear hK K))
      refine Go.XR.S_heavy_on rfl (fun K hK => ?_)
      go_step
      ((with_reducible refine (own_all (HO8.out.below hS6) (by omega)).mono ?_); rintro e w15 ⟨M, hM, a15, c15, rfl, hr15, _, hb15⟩)
      have hMR : M = R := AllOf.same HA.out hM (fun _ => rfl) HnD.out HnD.out
      have hS7 : Below w8.heap.size w8 w15 := hS6.trans (hb15.mono hS6.size)
      have HM15 := Lib.hid hr15
      have HR15 := Lib.hid (HxR.out.below hS7)
      have Hok2 : Hid (RowsOk R) := AllOf.ok HA.out HnD.out HO8.out.rng
      have hRl2 : R.length ≤ 2^40 := by have := HRl.out; omega
      clear hM hr15 hb15 hS6
      subst hMR
      refine hK _ _ ⟨fun _ => hS7, ?_⟩
      clear hK K
      refine Go.XR.S_heavy_on rfl (fun K hK => ?_)
      go_step
      ((with_reducible refine (same_any w15 a15 xa c15 xc M M HM15.out HR15.out hRl2 hRl2 Hok2.out Hok2.out).mono ?_); rintro e w16 ⟨rfl, hb16⟩)
      rw [decide_eq_true (show M = M from rfl)]
      have hS8 : Below w8.heap.size w8 w16 := hS7.trans (hb16.mono hS7.size)
      refine hK _ _ ⟨fun _ => hS8, ?_⟩
      clear hK K hb16 hS7 HM15 HR15 Hok2
      repeat (first | (refine Go.XR.S_light rfl rfl (by assumption) ?_ (fun w' hS K hK => ?_) (fun K hK => ?_); rotate_left 1; (have hS1 := bcell hS; (first | (first | (refine Go.XR.wp_load_at 33 (.tmp 12) rfl pa 0 rfl (placeC v) (HP8.out.below (by rw [placeC_size]; omega) hS) _ Try.underlying33 rfl (placeSize v) ?_) | (refine Go.XR.wp_load_at 33 (.tmp 14) rfl pq 0 rfl (placeC v) (HQ8.out.below (by rw [placeC_size]; omega) hS) _ Try.underlying33 rfl (placeSize v) ?_) | (refine Go.XR.wp_agg_eql 33 (.tmp 74) (.tmp 75) _ rfl (placeC v) (placeC v) rfl rfl placeGuard _ (Heq.out _) ?_) | (refine Go.XR.wp_load_at 24 (.tmp 85) rfl kb 0 rfl (sumC k.sum) (key_at_sum (HK8.out.below (by rw [keyC_size]; omega) hS)) _ Try.underlying24 rfl (sumSize k.sum) ?_) | (refine Go.XR.wp_load_at 24 (.tmp 89) rfl kb 0 rfl (sumC k.sum) (key_at_sum (HK8.out.below (by rw [keyC_size]; omega) hS)) _ Try.underlying24 rfl (sumSize k.sum) ?_)) | go_step); exact hK); go_step; refine hK _ ?_; clear hK K) | (refine Go.XR.S_light_off rfl (by assumption) (fun K hK => ?_); go_step; refine hK _ ?_; clear hK K) | (refine Go.XR.S_light_on rfl rfl rfl (by assumption) ?_ (fun w' hS K hK => ?_) (fun K hK => ?_); rotate_left 1; (have hS1 := bcell hS; (first | (first | (refine Go.XR.wp_load_at 33 (.tmp 12) rfl pa 0 rfl (placeC v) (HP8.out.below (by rw [placeC_size]; omega) hS) _ Try.underlying33 rfl (placeSize v) ?_) | (refine Go.XR.wp_load_at 33 (.tmp 14) rfl pq 0 rfl (placeC v) (HQ8.out.below (by rw [placeC_size]; omega) hS) _ Try.underlying33 rfl (placeSize v) ?_) | (refine Go.XR.wp_agg_eql 33 (.tmp 74) (.tmp 75) _ rfl (placeC v) (placeC v) rfl rfl placeGuard _ (Heq.out _) ?_) | (refine Go.XR.wp_load_at 24 (.tmp 85) rfl kb 0 rfl (sumC k.sum) (key_at_sum (HK8.out.below (by rw [keyC_size]; omega) hS)) _ Try.underlying24 rfl (sumSize k.sum) ?_) | (refine Go.XR.wp_load_at 24 (.tmp 89) rfl kb 0 rfl (sumC k.sum) (key_at_sum (HK8.out.below (by rw [keyC_size]; omega) hS)) _ Try.underlying24 rfl (sumSize k.sum) ?_)) | go_step); exact hK); go_step; refine hK _ ?_; clear hK K))
      refine Go.XR.S_heavy_on rfl (fun K hK => ?_)
      go_step
      ((with_reducible refine (own_len (HO8.out.below hS8)).mono ?_); rintro e w17 ⟨rfl, hb17⟩)
      have hMD : M.length = D.length := HA.out.1.length_eq
      rw [← hMD]
      have hS9 : Below w8.heap.size w8 w17 := hS8.trans (hb17.mono hS8.size)
      refine hK _ _ ⟨fun _ => hS9, ?_⟩
      clear hK K hb17 hS8 hMD
      repeat (first | (refine Go.XR.S_heavy_on rfl (fun K hK => ?_); go_step; refine hK _ _ ⟨fun _ => hS9, ?_⟩; clear hK K) | (refine Go.XR.S_heavy (fun K hK => ?_); go_step; refine hK _ _ ⟨fun _ => hS9, ?_⟩; clear hK K))
      refine Go.XR.S_nil ?_
      have HE := Lib.hid (HW8.out.trans (hS9.mono HW8.out.size))
      go_wp2
      go_ret
      exact ⟨rfl, HE.out⟩
end Go.Proofs.Ytnfbchhbcinloaa
