/- The statement FindCheap: it holds for every input.  No conditions. -/
import Derived.Test.YtnfbchhbcinloaaRows
import Derived.WalkKit
import Derived.ProofKit
import Derived.OpenShut
import Derived.ShutString
import Derived.ChangeOld
import Derived.Below
import Derived.SizedLaws
import Derived.Test.YtnfbchhbcinloaaQd
/- The walk over the statement FindCheap. -/
namespace Go.FindPure
open Go Go.XR Go.IndexPure Go.CachePure
/-- chunks of one shelf have been put, and none was looked for -/
structure Cheap (sh : Int) (M : FinT) (l : List RowT) : Prop where
  inv : Inv M
  c : M.C = []
  room : M.room ≠ 0
  asked : M.asked = 0
  loaded : M.loaded = 0
  on : ∀ k v, aget M.D k = some v → v.shelf = sh
  has : ∀ r ∈ l, (aget M.D r.1).isSome = true
theorem Cheap.put {sh : Int} {M : FinT} {l : List RowT} (h : Cheap sh M l) (r : RowT) : Cheap sh (fPut M r.1 ⟨sh, r.2.slot⟩) (l ++ [r]) := by
  have hD : ∀ k, aget (fPut M r.1 ⟨sh, r.2.slot⟩).D k = if k = r.1 then some ⟨sh, r.2.slot⟩ else aget M.D k := fun k => aget_putdel M.D r.1 k _
  refine ⟨fPut_inv h.inv _ _, ?_, h.room, h.asked, h.loaded, fun k v hv => ?_, fun x hx => ?_⟩
  · show delS (cForget M.C M.D r.1) sh = []
    rw [h.c]
    unfold cForget delS
    cases aget M.D r.1 <;> rfl
  · rw [hD] at hv
    split at hv
    · injection hv with hv; rw [← hv]
    · exact h.on k v hv
  · rw [hD]
    split
    · rfl
    · rename_i hne
      rcases List.mem_append.1 hx with h1 | h1
      · exact h.has x h1
      · rw [List.mem_singleton] at h1; subst h1; exact absurd rfl hne
/-- a shelf is loaded that has them all -/
structure Hot (M : FinT) (l : List RowT) : Prop where
  asked : M.asked = 1
  loaded : M.loaded = 1
  hit : ∀ r ∈ l, mayB M.bits M.probes M.Y r.1 = true ∧ ∃ v, cGet M.C r.1 = some v
theorem Cheap.hot {sh : Int} {M : FinT} {l : List RowT} (h : Cheap sh M l) {r : RowT} (hr : r ∈ l) (d : Nat) (L : List RowT) (hL : mayB M.bits M.probes M.Y r.1 = true → cGet M.C r.1 = none → ∀ v, aget M.D r.1 = some v → ShelfOf M.D v.shelf L) :
    ∃ M1, (fFind M r.1 d L).2 = M1 ∧ Hot M1 l ∧ M1.D = M.D := by
  obtain ⟨v, hv⟩ := Option.isSome_iff_exists.1 (h.has r hr)
  have hm := h.inv.may _ _ hv
  have hc : cGet M.C r.1 = none := by rw [h.c]; rfl
  have hs := hL hm hc v hv
  have hsh := h.on _ _ hv
  have e : (fFind M r.1 d L).2 = { M with asked := M.asked + 1, loaded := M.loaded + 1, C := cLoad M.room M.C (mkI v.shelf) L d } := by
    unfold fFind; rw [if_pos hm, hc, hv]
  refine ⟨_, e, ⟨?_, ?_, fun x hx => ?_⟩, rfl⟩
  · show M.asked + 1 = 1
    rw [h.asked]
  · show M.loaded + 1 = 1
    rw [h.loaded]
  · obtain ⟨u, hu⟩ := Option.isSome_iff_exists.1 (h.has x hx)
    refine ⟨h.inv.may _ _ hu, u, ?_⟩
    show cGet (cLoad M.room M.C (mkI v.shelf) L d) x.1 = some u
    have hce : cEvict M.room ([] : CchT) d = [] := by
      unfold cEvict
      rw [if_neg (fun e => h.room e.symm)]
    have hcl : cLoad M.room M.C (mkI v.shelf) L d = [(mkI v.shelf, tabOf L)] := by
      rw [h.c]
      unfold cLoad
      rw [if_neg (by rintro (h1 | h1)
                     · exact h.room h1
                     · cases h1), hce]
      rfl
    rw [hcl]
    have h1 : aget (tabOf L) x.1 = some u := by
      rw [aget_tabOf, shelf_aget h.inv.nd hs]
      exact ⟨hu, by rw [hsh, h.on _ _ hu]⟩
    unfold cGet
    rw [List.findSome?_cons]
    simp only [h1]
theorem Hot.find {M : FinT} {l : List RowT} (h : Hot M l) {r : RowT} (hr : r ∈ l) (d : Nat) (L : List RowT) : (fFind M r.1 d L).2 = M ∧ (fFind M r.1 d L).1.isSome = true := by
  obtain ⟨hm, v, hc⟩ := h.hit r hr
  unfold fFind
  rw [if_pos hm, hc]
  exact ⟨rfl, rfl⟩
theorem rowL_shelf (r : RowT) (s : Int) : (rowL r).set 33 (.int .i64 s) = rowL (r.1, ⟨s, r.2.slot⟩) := by
  unfold rowL
  rw [List.set_append_right 33 _ (by rw [keyL_length]; omega), keyL_length]
  rfl
end Go.FindPure
namespace Go.Proofs.Ytnfbchhbcinloaa
open Go.RowKit Go.XR Go.IndexPure Go.CachePure Go.FindPure
set_option maxHeartbeats 8000000 in
set_option maxRecDepth 100000 in
theorem cheap_walk (w : World) (x y z : Int) (hx : -9223372036854775808 ≤ x ∧ x ≤ 9223372036854775807) (hy : -9223372036854775808 ≤ y ∧ y ≤ 9223372036854775807) (hz : -9223372036854775808 ≤ z ∧ z ≤ 9223372036854775807)
    (a : Option Addr) (c : Nat) (l : List RowT) (hR : Row w a (l.flatMap rowL)) (hl : l.length ≤ maxLen) (hc : l.length ≤ c) (hok : RowsOk l) (sh : Int) (hsh : -9223372036854775808 ≤ sh ∧ sh ≤ 9223372036854775807) :
    Calls Try.prog 8 #[.agg (howC x y z), .slice a l.length c, .int .i64 sh] w (RetBool w true) := by
  have HR := Lib.hid hR
  have Hok := Lib.hid hok
  have Hsh := Lib.hid hsh
  obtain ⟨n, hn⟩ : ∃ n, min l.length 50 = n := ⟨_, rfl⟩
  have hni : min (l.length : Int) 50 = (n : Int) := by omega
  have hnl : n ≤ l.length := by omega
  have hn50 : n ≤ 50 := by omega
  have hml : l.length ≤ 9223372036854775807 := by unfold maxLen at hl; omega
  have HR2 : Hid (Row w a ((l.take n).flatMap rowL)) := by
    have h1 := hR.take (n * 35)
    rw [flat_take rowL_length l hnl] at h1
    exact h1
  have Hok2 : Hid (RowsOk (l.take n)) := fun r hr => hok r (List.mem_of_mem_take hr)
  obtain ⟨S, hS⟩ : ∃ S, l.take n = S := ⟨_, rfl⟩
  have hSl : S.length = n := by rw [← hS, List.length_take]; omega
  rw [hS] at HR2 Hok2
  have Hxyz : Hid ((-9223372036854775808 ≤ x ∧ x ≤ 9223372036854775807) ∧ (-9223372036854775808 ≤ y ∧ y ≤ 9223372036854775807) ∧ (-9223372036854775808 ≤ z ∧ z ≤ 9223372036854775807)) := ⟨hx, hy, hz⟩
  subst hSl
  clear hR hok hsh hx hy hz hn hl hS HR Hok
  obtain ⟨zr, hzr, hzr2⟩ := zero_row
  have Hzr := Lib.hid hzr2
  clear hzr2
  unfold howC
  go_enter Try.func8, Try.ntmps8
  go_wp2_with fail
  refine (shown15_any _).mono ?_
  rintro e w1 ⟨rfl, hb1⟩
  have Hb1 : Hid (Below w.heap.size w w1) := ((Below.refl w.heap.size w).alloc (Nat.le_refl _) _).trans (hb1.mono (by simp))
  have hc0 : w1.cell? ⟨w.heap.size, 0, none⟩ = some (.int .i64 x) := by rw [hb1.cell (p := ⟨w.heap.size, 0, none⟩) (by simp)]; simp
  have hc1 : w1.cell? ⟨w.heap.size, 1, none⟩ = some (.int .i64 y) := by rw [hb1.cell (p := ⟨w.heap.size, 1, none⟩) (by simp)]; simp
  have hc2 : w1.cell? ⟨w.heap.size, 2, none⟩ = some (.int .i64 z) := by rw [hb1.cell (p := ⟨w.heap.size, 2, none⟩) (by simp)]; simp
  clear hb1
  go_wp2_with fail
  have hri := right_any w1 x y z Hxyz.out.1 Hxyz.out.2.1 Hxyz.out.2.2
  unfold howC at hri
  refine hri.mono ?_
  rintro e w2 ⟨rfl, hb2⟩
  have Hb2 := Lib.hid (Hb1.out.trans (hb2.mono Hb1.out.size))
  have b1 := modF_b x (m := 2001) (by omega)
  have b2 := modF_b y (m := 31) (by omega)
  have b3 := modF_b z (m := 20) (by omega)
  generalize modF x 2001 = x' at *
  generalize modF y 31 = y' at *
  generalize modF z 20 = z' at *
  clear hri hb2 hc0 hc1 hc2 Hb1
  go_wp2_with fail
  have hb3 : Below w2.heap.size w2 (w2.alloc (.cells #[.int .i64 x', .int .i64 y', .int .i64 z'] 58)) := (Below.refl _ _).alloc (Nat.le_refl _) _
  have Hb3 := Lib.hid (Hb2.out.trans (hb3.mono Hb2.out.size))
  generalize w2.alloc (.cells #[.int .i64 x', .int .i64 y', .int .i64 z'] 58) = w3 at *
  clear hb3 Hb2
  refine (fnew_any w3 x' y' (z' + 1)).mono ?_
  intro e w4 h4
  rcases h4.on with ⟨hbad, _⟩ | ⟨fa, fb, fc, hfa, hfb, hfc, _, p, F, rfl, hF, hFB, hb4⟩
  · exact absurd ⟨⟨by omega, by omega⟩, ⟨by omega, by omega⟩, ⟨by omega, by omega⟩⟩ hbad
  have hc0 : fc ≠ 0 := by omega
  have HCh : Hid (Cheap sh (fin0 fa fb fc) []) := ⟨fin0_inv _ _ _, rfl, hc0, rfl, rfl, fun k v hv => (by cases hv), fun r hr => by cases hr⟩
  have HF := Lib.hid hF
  have HFB : Hid (∀ b ∈ F, w.heap.size ≤ b) := fun b h => Nat.le_trans Hb3.out.size (hFB b h)
  have Hb4 := Lib.hid (Hb3.out.trans (hb4.mono Hb3.out.size))
  clear h4 hfa hfb hfc hF hFB hb4 Hb3 hc0 b1 b2 b3
  go_wp2
  go_loopg [49] S.length (fun m i wr => ∃ j : Nat, j ≤ S.length ∧ i = .int .i64 j ∧ Hid (m = S.length - j ∧ Below w.heap.size w wr ∧ ∃ M F', FOn wr p F' M ∧ Cheap sh M (S.take j) ∧ M.D.length ≤ j ∧ ∀ b ∈ F', w.heap.size ≤ b))
  case atStart => exact ⟨0, by omega, rfl, rfl, Hb4.out, _, F, HF.out, HCh.out, Nat.le_refl _, HFB.out⟩
  case round =>
    obtain ⟨j, hj, rfl, hr⟩ := hrel
    have Hm := Lib.hid hr.out.1
    have Hbw := Lib.hid hr.out.2.1
    obtain ⟨M, F1, hF1, hch, hDl, hFB1⟩ := hr.out.2.2
    have HF1 := Lib.hid hF1
    have HCh1 := Lib.hid hch
    have HFB1 := Lib.hid hFB1
    have HD1 := Lib.hid hDl
    clear hr hF1 hch hFB1 hDl HCh
    have HRr := Lib.hid (HR2.out.below Hbw.out)
    by_cases hlt : j < S.length
    · have hlt2 : (j : Int) < (S.length : Int) := by omega
      obtain ⟨g, o, rfl, hX⟩ := row_at rowL_length HRr.out hlt (by omega)
      have HX : Hid (At wr g (o + j * 35) (rowC S[j])) := hX
      have Hokj : Hid (PlaceOk S[j].2) := Hok2.out _ (List.getElem_mem hlt)
      have Htk : Hid (S.take (j + 1) = S.take j ++ [S[j]]) := List.take_succ_eq_append_getElem hlt
      clear hX HRr
      generalize S[j] = r at *
      go_wp2_with (first | (refine wpList_load_at rfl 35 (.tmp 51) rfl g (o + j * 35) (by kernel_rfl) (rowC r) HX.out _ Try.underlying35 rfl (rowSize r) ?_) | (refine wpList_alloc_new rfl 35 rfl zr (Hzr.out _) ?_) | (refine opIs (X := .store 35 (.tmp 13) (.tmp 52)) rfl ?_; refine wpList_store_new rfl 35 (.tmp 13) (.tmp 52) rfl zr (rowC r) 35 (by kernel_rfl) (by kernel_rfl) (by rw [hzr, rowC_size]) (one_rowL r) (rowSize r) ?_; refine Go.XR.stop (fun X hX => ?_)) | fail)
      refine hX.out ?_
      clear hX X
      obtain ⟨W3, hW3⟩ : ∃ W3, wr.alloc (.cells (rowC r) 35) = W3 := ⟨_, rfl⟩
      have hb3 : Below wr.heap.size wr W3 := by rw [← hW3]; exact (Below.refl _ _).alloc (Nat.le_refl _) _
      have HB3 : Hid (Blk W3 wr.heap.size (rowL r)) := by unfold Hid; rw [← hW3]; exact Blk.new _ _ _
      have HF3 := Lib.hid (HF1.out.below hb3)
      have Hrf : Hid (wr.heap.size ∉ F1) := fun h => by have := HF1.out.lt _ h; omega
      have Hb3 := Lib.hid (Hbw.out.trans (hb3.mono Hbw.out.size))
      obtain ⟨rb, hrb⟩ : ∃ rb, wr.heap.size = rb := ⟨_, rfl⟩
      have Hrl : Hid (w.heap.size ≤ rb) := by unfold Hid; rw [← hrb]; exact Hbw.out.size
      rw [hrb] at HB3 Hrf ⊢
      rw [hW3]
      clear hb3 hW3 hrb HX HF1 Hbw
      have e33 : W3.cell? ⟨rb, 33, none⟩ = some (.int .i64 r.2.shelf) := row_at_shelf (o := 0) HB3.out.toAt
      have f33 := HB3.out.free 33
      go_wp2_with (refine opIs (X := .store 3 (.tmp 55) (.tmp 53)) rfl ?_; refine Go.XR.stop (fun X hX => ?_))
      refine hX.out ?_
      clear hX X
      obtain ⟨W4, hW4⟩ : ∃ W4, W3.setCell ⟨rb, 33, none⟩ (.int .i64 sh) = W4 := ⟨_, rfl⟩
      have hb4 : But [rb] W3 W4 := by rw [← hW4]; exact (But.refl _ _).setCell (.inl (by simp)) _
      have HB4 : Hid (Blk W4 rb (rowL (r.1, ⟨sh, r.2.slot⟩))) := by
        unfold Hid; rw [← hW4, ← rowL_shelf]; exact HB3.out.set 33 _
      have HF4 := Lib.hid (HF3.out.but hb4 (fun b h1 h2 => by rw [List.mem_singleton] at h2; subst h2; exact Hrf.out h1))
      have Hb4 := Lib.hid (Hb3.out.trans (hb4.below Hb3.out.size (by intro b hb; rw [List.mem_singleton] at hb; subst hb; exact Hrl.out)))
      have HK4 := Lib.hid (row_at_key (o := 0) HB4.out.toAt)
      have HP4 := Lib.hid (row_at_place (o := 0) HB4.out.toAt)
      go_wp2_with (refine opIs (X := .load 27 (.tmp 57)) rfl ?_; refine Go.XR.stop (fun X hX => ?_))
      refine hX.out ?_
      clear hX X
      clear e33 f33 hb4 HB3 HF3 Hb3
      go_wp2_with (first | (refine opIs (X := .load 27 (.tmp 57)) rfl ?_; refine wpList_load_at rfl 27 (.tmp 57) rfl rb 0 rfl (keyC r.1) HK4.out _ Try.underlying27 rfl (keySize _) ?_) | (refine opIs (X := .load 33 (.tmp 59)) rfl ?_; refine wpList_load_at rfl 33 (.tmp 59) rfl rb (0 + 33) rfl (placeC ⟨sh, r.2.slot⟩) HP4.out _ Try.underlying33 rfl (placeSize _) ?_) | fail)
      refine (fo_put HF4.out (by have := HD1.out; omega) r.1 ⟨sh, r.2.slot⟩ ⟨Hsh.out, Hokj.out.2⟩).mono ?_
      rintro e w5 ⟨rfl, F5, hF5, hb5, hg5⟩
      have HF5 := Lib.hid hF5
      have HFB5 := Lib.hid (base_grew HFB1.out hg5 Hb4.out.size)
      have Hb5 := Lib.hid (Hb4.out.trans (hb5.below Hb4.out.size HFB1.out))
      have HCh5 : Hid (Cheap sh (fPut M r.1 ⟨sh, r.2.slot⟩) (S.take (j + 1))) := by
        unfold Hid; rw [Htk.out]; exact HCh1.out.put r
      have HD5 : Hid ((fPut M r.1 ⟨sh, r.2.slot⟩).D.length ≤ j + 1) := by
        have h1 := aput_le (adel M.D r.1) r.1 (⟨sh, r.2.slot⟩ : PlaceT)
        have h2 := adel_len M.D r.1
        have h3 := HD1.out
        show (aput (adel M.D r.1) r.1 (⟨sh, r.2.slot⟩ : PlaceT)).length ≤ j + 1
        omega
      clear hF5 hb5 hg5 hW4
      go_wp2
      go_roundg (S.length - (j + 1))
      case measure => have := Hm.out; omega
      case rel => exact ⟨j + 1, by omega, by go_num, rfl, Hb5.out, _, F5, HF5.out, HCh5.out, HD5.out, HFB5.out⟩
    · have hge : ¬ (j : Int) < (S.length : Int) := by omega
      have HCh2 : Hid (Cheap sh M S) := by have := HCh1.out; rw [List.take_of_length_le (by omega)] at this; exact this
      have HD2 : Hid (M.D.length ≤ 50) := by have := HD1.out; unfold Hid; omega
      clear HCh1 HD1 hlt Hm HRr
      by_cases h0 : S.length = 0
      · have h00 : (S.length : Int) = 0 := by omega
        have h000 : ((S.length : Int) == 0) = true := by rw [h00]; rfl
        clear hj hge
        go_wp2
        go_ret
        exact ⟨rfl, Hbw.out⟩
      · have h00 : ¬ (S.length : Int) = 0 := by omega
        have h000 : ((S.length : Int) == 0) = false := by rw [beq_eq_false_iff_ne]; exact h00
        have h0lt : (0 : Int) < (S.length : Int) := by omega
        have h0l : 0 < S.length := by omega
        obtain ⟨g, o, rfl, hX⟩ := row_at rowL_length (HR2.out.below Hbw.out) h0l (by omega)
        have HX0 : Hid (At wr g o (keyC S[0].1)) := by
          have h1 := row_at_key hX
          rw [Nat.zero_mul, Nat.add_zero] at h1
          exact h1
        have Hmem : Hid (S[0] ∈ S) := List.getElem_mem h0l
        clear hX h0
        generalize S[0] = r0 at *
        go_wp2_with (first | (refine opIs (X := .load 27 (.tmp 70)) rfl ?_; refine wpList_load_at rfl 27 (.tmp 70) rfl g o rfl (keyC r0.1) HX0.out _ Try.underlying27 rfl (keySize _) ?_) | fail)
        refine (fo_find HF1.out (by have := HD2.out; omega) (by rw [HCh2.out.asked]; decide) (by rw [HCh2.out.loaded]; decide) r0.1 3 (by decide)).mono ?_
        rintro e w5 ⟨L, hL, rfl, F5, hF5, hb5, hg5⟩
        obtain ⟨M1, hM1, hhot, hMD⟩ := HCh2.out.hot Hmem.out 3 L hL
        rw [hM1] at hF5
        have HF5 := Lib.hid hF5
        have HFB5 := Lib.hid (base_grew HFB1.out hg5 Hbw.out.size)
        have Hb5 := Lib.hid (Hbw.out.trans (hb5.below Hbw.out.size HFB1.out))
        have HHot := Lib.hid hhot
        have HD5 : Hid (M1.D.length ≤ 50) := by unfold Hid; rw [hMD]; exact HD2.out
        obtain ⟨u0, hu0⟩ : ∃ u, (fFind M r0.1 3 L).1 = u := ⟨_, rfl⟩
        rw [hu0]
        generalize (placeV (u0.getD place0)) = u1
        generalize u0.isSome = u2
        clear hL hM1 hhot hMD hF5 hb5 hg5 hu0 HX0 Hmem HF1 HFB1 Hbw HCh2 HD2
        go_wp2_with fail
        refine (fo_cost HF5.out).mono ?_
        rintro e w6 ⟨rfl, hb6⟩
        rw [HHot.out.asked, HHot.out.loaded]
        have HF6 := Lib.hid (HF5.out.below hb6)
        have Hb6 := Lib.hid (Hb5.out.trans (hb6.mono Hb5.out.size))
        clear hb6 HF5 Hb5
        go_wp2
        go_loopg [80] S.length (fun m i wr => ∃ j : Nat, j ≤ S.length ∧ i = .int .i64 j ∧ Hid (m = S.length - j ∧ Below w.heap.size w wr ∧ ∃ F', FOn wr p F' M1 ∧ ∀ b ∈ F', w.heap.size ≤ b))
        case atStart => exact ⟨0, by omega, rfl, rfl, Hb6.out, F5, HF6.out, HFB5.out⟩
        case round =>
          obtain ⟨j, hj, rfl, hr⟩ := hrel
          have Hm := Lib.hid hr.out.1
          have Hbw := Lib.hid hr.out.2.1
          obtain ⟨F1, hF1, hFB1⟩ := hr.out.2.2
          have HF1 := Lib.hid hF1
          have HFB1 := Lib.hid hFB1
          clear hr hF1 hFB1
          by_cases hlt : j < S.length
          · have hlt2 : (j : Int) < (S.length : Int) := by omega
            obtain ⟨g2, o2, hgo, hX⟩ := row_at rowL_length (HR2.out.below Hbw.out) hlt (by omega)
            cases hgo
            have HX : Hid (At wr g (o + j * 35) (rowC S[j])) := hX
            have Hmem : Hid (S[j] ∈ S) := List.getElem_mem hlt
            clear hX
            generalize S[j] = r at *
            go_wp2_with (first | (refine opIs (X := .load 35 (.tmp 82)) rfl ?_; refine wpList_load_at rfl 35 (.tmp 82) rfl g (o + j * 35) (by kernel_rfl) (rowC r) HX.out _ Try.underlying35 rfl (rowSize r) ?_) | (refine wpList_alloc_new rfl 35 rfl zr (Hzr.out _) ?_) | (refine opIs (X := .store 35 (.tmp 17) (.tmp 83)) rfl ?_; refine wpList_store_new rfl 35 (.tmp 17) (.tmp 83) rfl zr (rowC r) 35 (by kernel_rfl) (by kernel_rfl) (by rw [hzr, rowC_size]) (one_rowL r) (rowSize r) ?_; refine Go.XR.stop (fun X hX => ?_)) | fail)
            refine hX.out ?_
            clear hX X
            obtain ⟨W3, hW3⟩ : ∃ W3, wr.alloc (.cells (rowC r) 35) = W3 := ⟨_, rfl⟩
            have hb3 : Below wr.heap.size wr W3 := by rw [← hW3]; exact (Below.refl _ _).alloc (Nat.le_refl _) _
            have HK3 : Hid (At W3 wr.heap.size 0 (keyC r.1)) := by unfold Hid; rw [← hW3]; exact row_at_key (At.new _ _ _)
            have HF3 := Lib.hid (HF1.out.below hb3)
            have Hb3 := Lib.hid (Hbw.out.trans (hb3.mono Hbw.out.size))
            obtain ⟨rb, hrb⟩ : ∃ rb, wr.heap.size = rb := ⟨_, rfl⟩
            rw [hrb] at HK3 ⊢
            rw [hW3]
            clear hb3 hW3 hrb HX HF1 Hbw
            go_wp2_with (first | (refine opIs (X := .load 27 (.tmp 86)) rfl ?_; refine wpList_load_at rfl 27 (.tmp 86) rfl rb 0 rfl (keyC r.1) HK3.out _ Try.underlying27 rfl (keySize _) ?_) | fail)
            refine (fo_find HF3.out (by have := HD5.out; omega) (by rw [HHot.out.asked]; decide) (by rw [HHot.out.loaded]; decide) r.1 4 (by decide)).mono ?_
            rintro e w7 ⟨L2, _, rfl, F7, hF7, hb7, hg7⟩
            obtain ⟨hs1, hs2⟩ := HHot.out.find Hmem.out 4 L2
            rw [hs1] at hF7
            rw [hs2]
            have HF7 := Lib.hid hF7
            have HFB7 := Lib.hid (base_grew HFB1.out hg7 Hb3.out.size)
            have Hb7 := Lib.hid (Hb3.out.trans (hb7.below Hb3.out.size HFB1.out))
            obtain ⟨v7, hv7⟩ : ∃ v, (fFind M1 r.1 4 L2).1.getD place0 = v := ⟨_, rfl⟩
            rw [hv7, show placeV v7 = .agg #[.int .i64 v7.shelf, .int .i64 v7.slot] from rfl]
            clear hF7 hb7 hg7 hs1 hs2 hv7
            go_wp2
            have hb8 : Below w7.heap.size w7 (w7.alloc (.cells #[.int .i64 v7.shelf, .int .i64 v7.slot] 33)) := (Below.refl _ _).alloc (Nat.le_refl _) _
            go_roundg (S.length - (j + 1))
            case measure => have := Hm.out; omega
            case rel => exact ⟨j + 1, by omega, by go_num, rfl, Hb7.out.trans (hb8.mono Hb7.out.size), F7, HF7.out.below hb8, HFB7.out⟩
          · have hge : ¬ (j : Int) < (S.length : Int) := by omega
            go_wp2_with fail
            refine (fo_cost HF1.out).mono ?_
            rintro e w8 ⟨rfl, hb8⟩
            rw [HHot.out.asked, HHot.out.loaded]
            have Hb8 := Lib.hid (Hbw.out.trans (hb8.mono Hbw.out.size))
            clear hb8
            go_wp2
            go_ret
            exact ⟨rfl, Hb8.out⟩
theorem cheap_row (w : World) (x y z : I64) (a : Option Addr) (c : Nat) (l : List RowS) (hR : Row w a (l.flatMap fun r => rowL r.1)) (hl : l.length ≤ maxLen) (hc : l.length ≤ c) (sh : Int) (hsh : -9223372036854775808 ≤ sh ∧ sh ≤ 9223372036854775807) :
    Calls Try.prog 8 #[.agg (howC x.1 y.1 z.1), .slice a l.length c, .int .i64 sh] w (RetBool w true) := by
  have h := cheap_walk w x.1 y.1 z.1 x.2 y.2 z.2 a c (l.map (·.1)) (by rw [List.flatMap_map]; exact hR) (by rw [List.length_map]; exact hl) (by rw [List.length_map]; exact hc) (fun r hr => by
    obtain ⟨q, _, rfl⟩ := List.mem_map.1 hr
    exact q.2) sh hsh
  rw [List.length_map] at h
  exact h
end Go.Proofs.Ytnfbchhbcinloaa

/- The statement FindCheap: it holds for every input.  No conditions. -/
namespace Go.Proofs.Ytnfbchhbcinloaa.findCheap
open Go.ChangeShapes Go.WideShapes Go.ChangeAt Go.RowKit Go.XR
open Go.ChangeMaps (open_string shut_string)
theorem own : ownKnob Try.prog.godebug = none := by kernel_rfl
theorem laidOut : laidOutB Try.prog = true := by kernel_rfl
set_option maxRecDepth 100000 in
theorem lifted (os : Os) (started : os.Started) (H : Type) (enc : TypeId × Value → H) :
    ReturnsInHanded {} Try.checked os 8 .any (Rows.findCheapSpec.pre6 enc Try.prog Try.f8 Rows.findCheapRow.domain false) (Rows.findCheapSpec.post enc Try.prog Try.f8 false true false false) := by
  refine returnsInHanded_of_change_sized (C := Try.checked) own started (by kernel_rfl) Try.func8
    (ChangeSpec.witness6 (enc := enc) (C := Try.checked) false ⟨#[], #[.agg #[.int .i64 0, .int .i64 0, .int .i64 0], .slice none 0 0, .int .i64 0], []⟩ 8 (by kernel_rfl) (by kernel_rfl) (by kernel_rfl) (by kernel_rfl)) ?_
  intro W base args ds gs before hval0 hW _ _ _
  have hval : ∀ (j : Nat) t v, Try.f8.params[j]? = some t → args[j]? = some v → Value.okWide Try.prog W .any base t v := hval0
  have hW' := hW
  obtain ⟨p, q, hA0, hV, rfl, _, _⟩ := hW
  have hA : DataW.TrodAll enc Try.prog W 0 (fun _ => true) true Try.f8.params.toList args.toList ds p := hA0
  rw [Try.params8] at hA hval
  obtain ⟨v0, vs0, d0, ds0, p0, q0, hargs, rfl, rfl, h0, r0⟩ := trodAll_cons hA
  obtain ⟨v1, vs1, d1, ds1, p1, q1, rfl, rfl, rfl, h1, r1⟩ := trodAll_cons r0
  obtain ⟨v2, vs2, d2, ds2, p2, q2, rfl, rfl, rfl, h2, r2⟩ := trodAll_cons r1
  obtain ⟨rfl, rfl, rfl⟩ := trodAll_nil r2
  obtain rfl : args = #[v0, v1, v2] := by cases args; simp_all
  obtain ⟨rfl, rfl⟩ := trodVars_none hV
  have k0 := h0
  have lt0 : ∀ x ∈ p0, x.block < W.heap.size := by obtain ⟨m, hm⟩ := k0; exact DataW.trod_lt m _ _ _ hm
  obtain ⟨a0, rfl, hf0⟩ := agg_of (f := 8) (ls := (leafs Try.prog 8 58).getD []) Try.underlying58 (hval 0 58 v0 rfl rfl) (by kernel_rfl) h0
  obtain ⟨b0_0, b0_1, b0_2, rfl⟩ := how_agg hf0
  have k1 := h1
  have lt1 : ∀ x ∈ p1, x.block < W.heap.size := by obtain ⟨m, hm⟩ := k1; exact DataW.trod_lt m _ _ _ hm
  obtain ⟨o1, len1, c1, rfl⟩ := okWide_slice Try.underlying46 (hval 1 46 v1 rfl rfl)
  obtain ⟨a1, hn1, hr1, hl1⟩ := slice_of (f := 8) (fun r : RowS => rowL r.1) (ls := (leafs Try.prog 8 35).getD []) row_fits row_len Try.underlying46 (by kernel_rfl) (of_decide_eq_true (by kernel_rfl)) (by kernel_rfl) h1
  subst hn1
  have k2 := h2
  have lt2 : ∀ x ∈ p2, x.block < W.heap.size := by obtain ⟨m, hm⟩ := k2; exact DataW.trod_lt m _ _ _ hm
  obtain ⟨a2, rfl, rfl, rfl, w2⟩ := open_int Try.underlying3 (hval 2 3 v2 rfl rfl) h2
  clear hA0 hval0
  refine (cheap_row W b0_0 b0_1 b0_2 o1 c1 a1 hr1 (Nat.le_trans hl1.1 hl1.2) hl1.1 a2 (by have := bounds_i64 w2; omega)).mono fun e W' ⟨he, bel⟩ => ?_
  subst he
  exact ⟨_, rfl, _, _, _, [], _, [], hW', trodAll_mk1 (shut_bool Try.underlying4 _), (trodAll_cons_mk (Below.trod laidOut (by kernel_rfl) (of_decide_eq_true (by kernel_rfl)) k0 bel lt0) (trodAll_cons_mk (Below.trod laidOut (by kernel_rfl) (of_decide_eq_true (by kernel_rfl)) k1 bel lt1) (trodAll_cons_mk (Below.trod laidOut (by kernel_rfl) (of_decide_eq_true (by kernel_rfl)) k2 bel lt2) trodAll_mk0))), rfl, bel.frame _, fun h => by cases h⟩
theorem over : Rows.findCheapRow.holds Try.pinned (OpenSpec.ofChange Rows.findCheapSpec) :=
  OpenClaim.holds_of_wide 8 Try.f8 rfl rfl rfl rfl rfl rfl rfl ⟨rfl, rfl, rfl, rfl, rfl⟩ rfl rfl rfl rfl rfl (by kernel_rfl) Try.func8 (by kernel_rfl)
    (of_decide_eq_true (by kernel_rfl)) (by unfold Func.isWrapper; first | (rw [if_pos (by decide +kernel)]; kernel_rfl) | (rw [if_neg (by decide +kernel)]; exact ⟨rfl, rfl⟩))
    (fun os started H enc _ => lifted os started H enc)
theorem proved : Rows.FindCheapSaid := over
#print axioms proved
end Go.Proofs.Ytnfbchhbcinloaa.findCheap
namespace Go.Proofs.Ytnfbchhbcinloaa
/-- the statement, under a short name -/
theorem findCheap_holds : Rows.FindCheapSaid := findCheap.proved
end Go.Proofs.Ytnfbchhbcinloaa
