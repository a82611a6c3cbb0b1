/- The walk over the reference's Place. -/
import Derived.Test.YtekmiegonnhidaaRb
namespace Go.Proofs.Ytekmiegonnhidaa
open Go.RowKit Go.XR Go.PerfPure
theorem aget_first {D : List (KeyT × Nat)} {k : KeyT} {i : Nat} (hi : i < D.length) (h1 : ∀ r (h : r < D.length), r < i → D[r].1 ≠ k) (h2 : D[i].1 = k) : aget D k = some D[i].2 := by
  induction D generalizing i with
  | nil => simp at hi
  | cons p D ih =>
    rw [aget_cons]
    cases i with
    | zero => rw [if_pos (by simpa using h2)]; rfl
    | succ i =>
      rw [if_neg (by have := h1 0 (by simp) (by omega); simpa using this)]
      simp only [List.length_cons] at hi
      have := ih (i := i) (by omega) (fun r hr hlt => by have := h1 (r + 1) (by simp; omega) (by omega); simpa using this) (by simpa using h2)
      simpa using this
set_option maxHeartbeats 1000000 in
set_option maxRecDepth 100000 in
theorem refplace_any (w : World) (v : Value) (b : Built) (hM : RefRep w v b) (hok : OkB b) (hsp : b.spill.length ≤ 16384) (k : KeyT) : Calls Try.prog 17 #[v, keyV k] w (RetInt w (placeP b k)) := by
  obtain ⟨db, sa, ta, sc, tc, rfl, h1, h2, h3⟩ := hM
  obtain ⟨ok1, ok2, ok3, ok4⟩ := hok
  have Hn : Hid (b.n = 0 → placeP b k = -1) := fun e => by unfold placeP; rw [if_pos e]
  have Hd : Hid (∀ t, 0 < b.n → b.tries.getD (pos 0 b.tries.length k) 0 = t → 0 < t → placeP b k = (pos (t : Nat) b.n k : Int)) := fun t h0 e h => by
    unfold placeP; rw [if_neg (by omega), e, if_pos h]
  have Hs : Hid (0 < b.n → b.tries.getD (pos 0 b.tries.length k) 0 = 0 → placeP b k = match aget b.spill k with | some p => (p : Int) | none => -1) := fun h0 e => by
    unfold placeP; rw [if_neg (by omega), e, if_neg (by omega)]; cases aget b.spill k <;> rfl
  obtain ⟨z, hz⟩ : ∃ z, placeP b k = z := ⟨_, rfl⟩
  rw [hz] at Hn Hd Hs ⊢
  clear hz
  obtain ⟨n, tr, sp⟩ := b
  dsimp only at *
  obtain ⟨W0, hW0⟩ : ∃ W0, (w.alloc (.cells #[.int .i64 n, .slice (some ⟨db, 0, none⟩) tr.length tr.length, .slice sa sp.length sc, .slice ta sp.length tc] 45)).alloc (.cells (keyC k) 27) = W0 := ⟨_, rfl⟩
  have hB0 : Below w.heap.size w W0 := by rw [← hW0]; exact ((Below.refl _ _).alloc (Nat.le_refl _) _).alloc (by simp) _
  have HM0 : Hid (Blk W0 w.heap.size [.int .i64 n, .slice (some ⟨db, 0, none⟩) tr.length tr.length, .slice sa sp.length sc, .slice ta sp.length tc]) := by unfold Hid; rw [← hW0]; exact (Blk.new _ _ _).below ((Below.refl _ _).alloc (Nat.le_refl _) _)
  have HK0 : Hid (At W0 (w.heap.size + 1) 0 (keyC k)) := by
    unfold Hid; rw [← hW0]
    have h := At.new (w.alloc (.cells #[.int .i64 n, .slice (some ⟨db, 0, none⟩) tr.length tr.length, .slice sa sp.length sc, .slice ta sp.length tc] 45)) (keyC k) 27
    rwa [show (w.alloc (.cells #[.int .i64 n, .slice (some ⟨db, 0, none⟩) tr.length tr.length, .slice sa sp.length sc, .slice ta sp.length tc] 45)).heap.size = w.heap.size + 1 by simp] at h
  have HD0 := Lib.hid (h1.below hB0)
  have HL0 := Lib.hid (h2.below hB0)
  have HT0 := Lib.hid (h3.below hB0)
  have HB0 := Lib.hid hB0
  clear h1 h2 h3 hB0
  obtain ⟨mb, hmb⟩ : ∃ mb, w.heap.size = mb := ⟨_, rfl⟩
  obtain ⟨kb, hkb⟩ : ∃ kb, mb + 1 = kb := ⟨_, rfl⟩
  rw [hmb] at HM0 HK0
  rw [hkb] at HK0
  have hmk : mb < kb := by omega
  by_cases hn0 : n = 0
  · subst hn0
    have c0 := HM0.out.cell (i := 0) rfl
    obtain rfl : z = -1 := Hn.out (by trivial)
    go_enter Try.func17, Try.ntmps17
    go_wp2
    go_ret
    exact ⟨rfl, ((Below.refl _ _).alloc (Nat.le_refl _) _).alloc (by simp) _⟩
  · have hn1 : ¬ (n : Int) = 0 := by omega
    have hbz : ((n : Int) == 0) = false := by rw [beq_eq_false_iff_ne]; exact hn1
    have c0 := HM0.out.cell (i := 0) rfl
    have c1 := HM0.out.cell (i := 1) rfl
    have hpl := pos_lt 0 ok1 k
    obtain ⟨tv, htv⟩ : ∃ tv, tr.getD (pos 0 tr.length k) 0 = tv := ⟨_, rfl⟩
    have Hcr : Hid (W0.cell? ⟨db, pos 0 tr.length k, none⟩ = some (.int .u64 (tv : Int))) := by
      obtain ⟨_, _, he, h3⟩ := HD0.out.get (j := pos 0 tr.length k) (u := .int .u64 (tv : Int)) (by
        have h1 := flat_get (enc := u64L) (k := 1) (fun _ => rfl) tr hpl (j := 0) (by omega)
        rw [Nat.mul_one, Nat.add_zero] at h1
        rw [h1, ← htv, List.getD_eq_getElem?_getD, List.getElem?_eq_getElem hpl]; rfl)
      cases he
      rw [Nat.zero_add] at h3
      exact h3
    have htv2 : tv ≤ 256 := by
      rw [← htv, List.getD_eq_getElem?_getD, List.getElem?_eq_getElem hpl]
      exact ok4 _ (List.getElem_mem hpl)
    have Hd2 := Lib.hid (Hd.out tv (by omega) htv)
    have Hs2 : Hid (tv = 0 → z = match aget sp k with | some p => (p : Int) | none => -1) := fun e => Hs.out (by omega) (by rw [htv, e])
    have Hga := Lib.hid (fun W => group_any W k tr.length ok1 (by omega))
    clear Hd Hs Hn htv ok4
    generalize tr.length = many at *
    generalize pos 0 many k = pp at *
    have hmn : mb < W0.heap.size := HM0.out.lt
    have hkn : kb < W0.heap.size := HK0.out.lt (by rw [keyC_size]; omega)
    have hdn : db < W0.heap.size := cell_lt Hcr.out
    go_enter Try.func17, Try.ntmps17
    go_wp2
    have hS0 : Below W0.heap.size W0 W0.drew := (Below.refl _ _).drew
    refine Go.XR.region_sched ((Below W0.heap.size W0)) [(0, true), (1, true), (2, true), (3, true), (4, true), (5, true), (6, false), (7, false), (8, false), (9, false)] [7, 8, 9] Try.mixed (by kernel_rfl) (by kernel_rfl) (by kernel_rfl) ?_
    simp only [List.map_cons, List.map_nil, List.getElem?_cons_succ, List.getElem?_cons_zero]
    repeat (first | (refine Go.XR.S_light rfl rfl (by assumption) ?_ (fun w' hS K hK => ?_) (fun K hK => ?_); rotate_left 1; (have hS1 := bcell hS; (first | (refine Go.XR.wp_load_at 27 _ rfl kb 0 rfl (keyC k) (At.below HK0.out (by rw [keyC_size]; omega) hS) _ Try.underlying27 rfl (keySize k) ?_) | go_step); exact hK); go_step; refine hK _ ?_; clear hK K))
    refine Go.XR.S_heavy (fun K hK => ?_)
    go_step
    ((with_reducible refine (Hga.out W0.drew).mono ?_); rintro e w' ⟨rfl, hb1⟩)
    have hS1 : Below W0.heap.size W0 w' := hS0.trans hb1
    have HM1 := Lib.hid (HM0.out.below hS1)
    have HL1 := Lib.hid (HL0.out.below hS1)
    have HT1 := Lib.hid (HT0.out.below hS1)
    have HK1 : Hid (At w' kb 0 (keyC k)) := At.below HK0.out (by rw [keyC_size]; omega) hS1
    have HB1 : Hid (Below w.heap.size w w') := HB0.out.trans (hS1.mono HB0.out.size)
    have cr : w'.cell? ⟨db, pp, none⟩ = some (.int .u64 (tv : Int)) := by rw [bcell hS1 _ _ hdn]; exact Hcr.out
    refine hK _ _ ⟨fun _ => hS1, ?_⟩
    clear hK K
    repeat (first | (refine Go.XR.S_light rfl rfl (by assumption) ?_ (fun w' hS K hK => ?_) (fun K hK => ?_); rotate_left 1; (have hS1 := bcell hS; (first | (refine Go.XR.wp_load_at 27 _ rfl kb 0 rfl (keyC k) (At.below HK0.out (by rw [keyC_size]; omega) hS) _ Try.underlying27 rfl (keySize k) ?_) | go_step); exact hK); go_step; refine hK _ ?_; clear hK K))
    repeat (first | (refine Go.XR.S_heavy (fun K hK => ?_); go_step; refine hK _ _ ⟨fun h => by simp at h, ?_⟩; clear hK K))
    refine Go.XR.S_nil ?_
    clear hS0 hS1 hb1 cr hpl Hcr HM0 HK0 HB0 HD0 HL0 HT0 c0 c1 hmn hkn hdn hmb hkb
    obtain ⟨W1, rfl⟩ : ∃ W1, W1 = w' := ⟨_, rfl⟩
    clear hW0
    have hmn : mb < W1.heap.size := HM1.out.lt
    have hkn : kb < W1.heap.size := HK1.out.lt (by rw [keyC_size]; omega)
    by_cases ht : 0 < tv
    · have ht2 : (0 : Int) < (tv : Int) := by omega
      have c0 := HM1.out.cell (i := 0) rfl
      have hn2 : 0 < n := by omega
      have hpc := pos_cast (tv : Int) hn2 k
      have hpl := pos_lt (tv : Int) hn2 k
      have hbd := hashF_b (tv : Int) k
      obtain rfl : z = (pos (tv : Int) n k : Int) := Hd2.out ht
      clear Hd2 Hs2
      generalize pos (tv : Int) n k = pp2 at *
      go_wp2
      have hS0 : Below W1.heap.size W1 W1.drew := (Below.refl _ _).drew
      refine Go.XR.region_sched ((Below W1.heap.size W1)) [(0, true), (1, true), (3, true), (4, true), (5, true), (2, false), (6, false), (7, false), (8, false)] [6, 7, 8] Try.mixed (by kernel_rfl) (by kernel_rfl) (by kernel_rfl) ?_
      simp only [List.map_cons, List.map_nil, List.getElem?_cons_succ, List.getElem?_cons_zero]
      repeat (first | (refine Go.XR.S_light rfl rfl (by assumption) ?_ (fun w' hS K hK => ?_) (fun K hK => ?_); rotate_left 1; (have hS1 := bcell hS; (first | (refine Go.XR.wp_load_at 27 _ rfl kb 0 rfl (keyC k) (At.below HK1.out (by rw [keyC_size]; omega) hS) _ Try.underlying27 rfl (keySize k) ?_) | go_step); exact hK); go_step; refine hK _ ?_; clear hK K))
      refine Go.XR.S_heavy (fun K hK => ?_)
      go_step
      ((with_reducible refine (refhash_any W1.drew (tv : Int) (by omega) k).mono ?_); rintro e w' ⟨rfl, hb2⟩)
      have hS2 : Below W1.heap.size W1 w' := hS0.trans hb2
      have HB2 : Hid (Below w.heap.size w w') := HB1.out.trans (hS2.mono HB1.out.size)
      refine hK _ _ ⟨fun _ => hS2, ?_⟩
      clear hK K
      repeat (first | (refine Go.XR.S_light rfl rfl (by assumption) ?_ (fun w' hS K hK => ?_) (fun K hK => ?_); rotate_left 1; (have hS1 := bcell hS; (first | (refine Go.XR.wp_load_at 27 _ rfl kb 0 rfl (keyC k) (At.below HK1.out (by rw [keyC_size]; omega) hS) _ Try.underlying27 rfl (keySize k) ?_) | go_step); exact hK); go_step; refine hK _ ?_; clear hK K))
      repeat (first | (refine Go.XR.S_heavy (fun K hK => ?_); go_step; refine hK _ _ ⟨fun h => by simp at h, ?_⟩; clear hK K))
      refine Go.XR.S_nil ?_
      go_wp2
      go_ret
      exact ⟨rfl, HB2.out⟩
    · obtain rfl : tv = 0 := by omega
      have Hz2 := Lib.hid (Hs2.out rfl)
      clear Hd2 Hs2 ht htv2
      rw [show ((0 : Nat) : Int) = 0 from rfl]
      go_wp2
      go_loopg [6] sp.length (fun n i w2 => Below W1.heap.size W1 w2 ∧ ∃ j : Nat, j ≤ sp.length ∧ i = .int .i64 j ∧ Hid (n = sp.length - j ∧ ∀ r (h : r < sp.length), r < j → sp[r].1 ≠ k))
      case atStart => exact ⟨Below.refl _ _, 0, by omega, rfl, rfl, fun r _ h => by omega⟩
      case round =>
        obtain ⟨hb, j, hj, rfl, hr⟩ := hrel
        have Hb := Lib.hid hb
        clear hb
        have HM2 := Lib.hid (HM1.out.below Hb.out)
        have HK2 := Lib.hid (At.below HK1.out (by rw [keyC_size]; omega) Hb.out)
        have m2 := HM2.out.cell (i := 2) rfl
        have m3 := HM2.out.cell (i := 3) rfl
        have HB2 := Lib.hid (HB1.out.trans (Hb.out.mono HB1.out.size))
        by_cases hlt : j < sp.length
        · have hlt2 : (j : Int) < (sp.length : Int) := by omega
          have hjm : j < (sp.map (·.1)).length := by rw [List.length_map]; exact hlt
          obtain ⟨sg, so, rfl⟩ := row_some HL1.out (by omega)
          have HS2 := Lib.hid (At.below (row_key HL1.out hjm) (by rw [keyC_size]; omega) Hb.out)
          rw [List.getElem_map] at HS2
          obtain ⟨tg, to, rfl⟩ : ∃ tg to, ta = some ⟨tg, to, none⟩ := by
            rcases HT1.out with h | ⟨g, o, h, _⟩
            · have h2 := flat_len (enc := intL) (k := 1) (fun _ => rfl) (sp.map (·.2))
              rw [h, List.length_map] at h2; simp at h2; omega
            · exact ⟨g, o, h⟩
          have t1 : wr.cell? ⟨tg, to + j, none⟩ = some (.int .i64 (sp[j].2 : Nat)) := by
            obtain ⟨_, _, he, h3⟩ := (HT1.out.below Hb.out).get (j := j) (u := .int .i64 (sp[j].2 : Nat)) (by
              have h2 := flat_get (enc := intL) (k := 1) (fun _ => rfl) (sp.map (·.2)) (i := j) (j := 0) (by rw [List.length_map]; exact hlt) (by omega)
              rw [Nat.mul_one, Nat.add_zero, List.getElem_map] at h2
              rw [h2]; rfl)
            cases he
            exact h3
          have Hag : Hid (sp[j].1 = k → aget sp k = some sp[j].2) := fun e => aget_first hlt hr.out.2 e
          have Hkj := Lib.hid (show sp[j].1 = sp[j].1 from rfl)
          obtain ⟨kj, hkj⟩ : ∃ kj, sp[j].1 = kj := ⟨_, rfl⟩
          obtain ⟨pj, hpj⟩ : ∃ pj, sp[j].2 = pj := ⟨_, rfl⟩
          rw [hkj] at HS2 Hag
          rw [hpj] at t1 Hag
          clear Hkj hpj
          have Hkj := Lib.hid hkj
          clear hkj hjm
          have heq := key_eq kj k wr.drew
          go_wp2
          refine Go.XR.region_sched ((· = wr.drew)) [(0, true), (1, true), (2, true), (3, true), (4, true), (5, true), (6, false)] [6] Try.mixed (by kernel_rfl) (by kernel_rfl) (by kernel_rfl) ?_
          simp only [List.map_cons, List.map_nil, List.getElem?_cons_succ, List.getElem?_cons_zero]
          repeat (first | (refine Go.XR.S_light rfl rfl rfl ?_ (fun w' hS K hK => ?_) (fun K hK => ?_); rotate_left 1; (cases hS; (first | (first | (refine Go.XR.wp_load_at 27 _ rfl sg (so + j * 33) rfl (keyC kj) (At.drew HS2.out) _ Try.underlying27 rfl (keySize kj) ?_) | (refine Go.XR.wp_load_at 27 _ rfl kb 0 rfl (keyC k) (At.drew HK2.out) _ Try.underlying27 rfl (keySize k) ?_)) | go_step); exact hK); go_step; refine hK _ ?_; clear hK K))
          refine Go.XR.S_heavy (fun K hK => ?_)
          refine Go.XR.wp_agg_eql 27 _ _ _ rfl (keyC kj) (keyC k) rfl rfl keyGuard _ heq ?_
          refine hK _ _ ⟨fun h => by simp at h, ?_⟩
          clear hK K heq
          refine Go.XR.S_nil ?_
          by_cases hk : kj = k
          · have Hzf := Lib.hid Hz2.out
            rw [Hag.out hk] at Hzf
            obtain rfl : z = (pj : Int) := Hzf.out
            subst hk
            go_wp2
            go_ret
            exact ⟨rfl, HB2.out.drew⟩
          · go_wp2
            go_roundg (sp.length - (j + 1))
            case measure => have := hr.out.1; omega
            case rel => exact ⟨Hb.out.drew, j + 1, by omega, by go_num, rfl, fun r h1 h2 => by
              by_cases c : r < j
              · exact hr.out.2 r h1 c
              · obtain rfl : r = j := by omega
                rw [Hkj.out]; exact hk⟩
        · have hge : ¬ (j : Int) < (sp.length : Int) := by omega
          have hag : aget sp k = none := aget_none.2 fun p hp => by
            obtain ⟨r, h1, rfl⟩ := List.getElem_of_mem hp
            exact hr.out.2 r h1 (by omega)
          rw [hag] at Hz2
          obtain rfl : z = -1 := Hz2.out
          clear hag
          go_wp2
          go_ret
          exact ⟨rfl, HB2.out⟩
end Go.Proofs.Ytekmiegonnhidaa
