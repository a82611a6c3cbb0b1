/- The walks over SameKeys and the reference's Get and Twins. -/
import Derived.Test.YtnfbchhbcinloaaRd
namespace Go.Proofs.Ytnfbchhbcinloaa
open Go.RowKit Go.XR Go.IndexPure
set_option maxHeartbeats 2000000 in
set_option maxRecDepth 100000 in
theorem samek_any (w : World) (a b : Option Addr) (c d : Nat) (l m : List KeyT) (ha : Row w a (l.flatMap keyL)) (hb : Row w b (m.flatMap keyL)) (hl : l.length ≤ 2^40) (hm : m.length ≤ 2^40) :
    Calls Try.prog 27 #[.slice a l.length c, .slice b m.length d] w (RetBool w (decide (l = m))) := by
  have HA := Lib.hid ha
  have HB := Lib.hid hb
  clear ha hb
  by_cases hne : l.length = m.length
  · have Hne := Lib.hid hne
    rw [← hne]
    clear hne
    go_enter Try.func27, Try.ntmps27
    go_wp2
    go_loopg [5] l.length (fun n i wr => Below w.heap.size w wr ∧ ∃ j : Nat, j ≤ l.length ∧ i = .int .i64 j ∧ Hid (n = l.length - j ∧ l.take j = m.take j))
    case atStart => exact ⟨Below.refl _ _, 0, by omega, rfl, rfl, rfl⟩
    case round =>
      obtain ⟨hbw, j, hj, rfl, hr⟩ := hrel
      have Hbw := Lib.hid hbw
      have hgn := hr.out.1
      have Htk := Lib.hid hr.out.2
      clear hbw hr
      by_cases hlt : j < l.length
      · have hlt2 : (j : Int) < (l.length : Int) := by omega
        have hltm : j < m.length := by have := Hne.out; omega
        obtain ⟨g1, o1, rfl, hX⟩ := row_at keyL_length (HA.out.below Hbw.out) hlt (by omega)
        obtain ⟨g2, o2, rfl, hY⟩ := row_at keyL_length (HB.out.below Hbw.out) hltm (by omega)
        have HX : Hid (At wr g1 (o1 + j * 33) (keyC l[j])) := hX
        have HY : Hid (At wr g2 (o2 + j * 33) (keyC m[j])) := hY
        have Heq := Lib.hid (key_eq l[j] m[j] wr.drew)
        have Htk2 : Hid (l.take (j + 1) = m.take (j + 1) ↔ l[j] = m[j]) := by
          unfold Hid
          rw [List.take_succ_eq_append_getElem hlt, List.take_succ_eq_append_getElem hltm, Htk.out]
          constructor
          · intro h
            have := List.append_cancel_left h
            injection this
          · intro h; rw [h]
        have Hne2 : Hid (l = m → l[j] = m[j]) := fun e => by subst e; rfl
        clear hX hY
        generalize l[j] = x at *
        generalize m[j] = y at *
        go_wp2
        refine Go.XR.region_sched ((· = wr.drew)) [(0, true), (1, true), (2, true), (3, true), (4, true), (5, true), (6, true), (7, true), (8, false)] [8] Try.mixed (by kernel_rfl) (by kernel_rfl) (by kernel_rfl) ?_
        simp only [List.map_cons, List.map_nil, List.getElem?_cons_succ, List.getElem?_cons_zero]
        repeat (first | (refine Go.XR.S_light rfl rfl rfl ?_ (fun w' hS K hK => ?_) (fun K hK => ?_); rotate_left 1; (cases hS; (first | (first | (refine Go.XR.wp_load_at 27 (.tmp 19) rfl g1 (o1 + j * 33) rfl (keyC x) (At.drew HX.out) _ Try.underlying27 rfl (keySize x) ?_) | (refine Go.XR.wp_load_at 27 (.tmp 23) rfl g2 (o2 + j * 33) rfl (keyC y) (At.drew HY.out) _ Try.underlying27 rfl (keySize y) ?_)) | go_step); exact hK); go_step; refine hK _ ?_; clear hK K))
        refine Go.XR.S_heavy (fun K hK => ?_)
        refine Go.XR.wp_agg_neq 27 _ _ _ rfl (keyC x) (keyC y) rfl rfl keyGuard _ Heq.out ?_
        refine hK _ _ ⟨fun h => by simp at h, ?_⟩
        clear hK K
        refine Go.XR.S_nil ?_
        by_cases hxy : x = y
        · rw [decide_eq_true hxy]
          have Hxy := Lib.hid hxy
          clear hxy
          go_wp2
          go_roundg (l.length - (j + 1))
          case measure => omega
          case rel => exact ⟨Hbw.out.drew, j + 1, by omega, by go_num, rfl, Htk2.out.2 Hxy.out⟩
        · rw [decide_eq_false hxy]
          have Hxy := Lib.hid hxy
          clear hxy
          go_wp2
          go_ret
          exact ⟨by rw [decide_eq_false (fun e => Hxy.out (Hne2.out e))]; rfl, Hbw.out.drew⟩
      · have hge : ¬ (j : Int) < (l.length : Int) := by omega
        go_wp2
        go_ret
        refine ⟨?_, Hbw.out⟩
        have h1 := Htk.out
        rw [List.take_of_length_le (by omega), List.take_of_length_le (by have := Hne.out; omega)] at h1
        rw [decide_eq_true h1]; rfl
  · have hneI : ¬ ((l.length : Int) = (m.length : Int)) := by omega
    have Hd : Hid (decide (l = m) = false) := decide_eq_false fun e => hne (by rw [e])
    go_enter Try.func27, Try.ntmps27
    go_wp2
    go_ret
    exact ⟨by rw [Hd.out]; rfl, Below.refl _ _⟩
set_option maxHeartbeats 2000000 in
set_option maxRecDepth 100000 in
theorem refget_any (w : World) (b : Nat) (R : List RowT) (F : List Nat) (D : List RowT) (h : RefIx w b R F) (hA : AllOf D R) (hD : (D.map (·.1)).Nodup) (hlen : R.length ≤ 2^20) (k : KeyT) :
    Calls Try.prog 26 #[.pointer (some ⟨b, 0, none⟩), keyV k] w (RetGet w D k) := by
  obtain ⟨a, c, hB, hR, hc, hcm, hbF, hnil, hx⟩ := h
  clear hx
  obtain ⟨W0, hW0⟩ : ∃ W0, (w.alloc (.cells (keyC k) 27)).alloc (.cells #[.int .i64 0, .int .i64 0] 33) = W0 := ⟨_, rfl⟩
  have hb0 : Below w.heap.size w W0 := by rw [← hW0]; exact ((Below.refl _ _).alloc (Nat.le_refl _) _).alloc (by simp) _
  have HK : Hid (At W0 w.heap.size 0 (keyC k)) := by unfold Hid; rw [← hW0]; exact (At.new _ _ _).alloc _
  have HP : Hid (Blk W0 (w.heap.size + 1) [.int .i64 0, .int .i64 0]) := by
    unfold Hid; rw [← hW0]
    have h := Blk.new (w.alloc (.cells (keyC k) 27)) #[.int .i64 0, .int .i64 0] 33
    rwa [show (w.alloc (.cells (keyC k) 27)).heap.size = w.heap.size + 1 by simp] at h
  have HB := Lib.hid (hB.below hb0)
  have HR := Lib.hid (hR.below hb0)
  have Hb0 := Lib.hid hb0
  clear hB hR hb0
  obtain ⟨kb, hkb⟩ : ∃ kb, w.heap.size = kb := ⟨_, rfl⟩
  obtain ⟨vb, hvb⟩ : ∃ vb, kb + 1 = vb := ⟨_, rfl⟩
  have Hkb := Lib.hid hkb
  have Hvb := Lib.hid hvb
  rw [hkb] at HK HP
  rw [hvb] at HP
  go_enter Try.func26, Try.ntmps26
  go_wp2_with (first | (refine wpList_load_at rfl 27 (.tmp 3) rfl kb 0 (by kernel_rfl) (keyC k) HK.out _ Try.underlying27 rfl (keySize k) ?_) | fail)
  refine (refat_any W0 b a c R HB.out HR.out hA.2 (by omega) k).mono ?_
  rintro e w1 ⟨i, hL, rfl, hb1⟩
  have HP1 := Lib.hid (HP.out.below hb1)
  have HB1 := Lib.hid (HB.out.below hb1)
  have HR1 := Lib.hid (HR.out.below hb1)
  have Hb1 := Lib.hid (Hb0.out.trans (hb1.mono Hb0.out.size))
  have f0 := HP1.out.free 0
  have f1 := HP1.out.free 1
  have p0 := HP1.out.cell (i := 0) rfl
  have p1 := HP1.out.cell (i := 1) rfl
  have hvl : vb < w1.heap.size := HP1.out.lt
  have hvw : w.heap.size ≤ vb := by have := Hkb.out; have := Hvb.out; omega
  clear hkb hvb hW0 hb1 HK HB HR HP
  by_cases hk : k ∈ R.map (·.1)
  · obtain ⟨hi, he, hg⟩ := allof_get hA hD hL hk
    have hiI : (i : Int) < (R.length : Int) := by omega
    obtain ⟨g, o, rfl, hX⟩ := row_at rowL_length HR1.out hi (by omega)
    have HX : Hid (At w1 g (o + i * 35) (rowC R[i])) := hX
    have Hg := Lib.hid hg
    have c0 := HB1.out.cell (i := 0) rfl
    rw [decide_eq_true hk]
    clear hk hX he hg hA hD hL HR1 HB1
    generalize R[i] = r at *
    go_wp2_with (first | (refine wpList_load_at rfl 33 (.tmp 23) rfl g (o + i * 35 + 33) (by kernel_rfl) #[.int .i64 r.2.shelf, .int .i64 r.2.slot] (row_at_place HX.out) _ Try.underlying33 rfl (by kernel_rfl) ?_) | fail)
    (try simp only [Exit.inBlock, Exit.then])
    refine bodyPost_ret (results_at rfl (g := vb) rfl rfl (((HP1.out.set 0 (.int .i64 r.2.shelf)).set 1 (.int .i64 r.2.slot)).toAt) Try.underlying33 rfl (placeSize r.2)) rfl ?_
    exact ⟨by rw [Hg.out]; rfl, Hb1.out.trans ((((But.refl [vb] w1).setCell (.inl (by simp)) _).setCell (.inl (by simp)) _).below Hb1.out.size (by simp; omega))⟩
  · have hg : aget D k = none := by
      cases h : aget D k with
      | none => rfl
      | some v => exact absurd ((allof_some hA hD k).2 (by rw [h]; rfl)) hk
    rw [decide_eq_false hk]
    have Hg := Lib.hid hg
    clear hk hg hA hD hL
    go_wp2
    (try simp only [Exit.inBlock, Exit.then])
    refine bodyPost_ret (results_at rfl (g := vb) rfl rfl (((HP1.out.set 0 (.int .i64 0)).set 1 (.int .i64 0)).toAt) Try.underlying33 rfl (placeSize place0)) rfl ?_
    exact ⟨by rw [Hg.out]; rfl, Hb1.out.trans ((((But.refl [vb] w1).setCell (.inl (by simp)) _).setCell (.inl (by simp)) _).below Hb1.out.size (by simp; omega))⟩
end Go.Proofs.Ytnfbchhbcinloaa
