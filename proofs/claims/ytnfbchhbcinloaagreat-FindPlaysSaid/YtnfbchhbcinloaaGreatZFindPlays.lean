/- The statement FindPlays: it holds for every input.  No conditions. -/
import Derived.Test.YtnfbchhbcinloaaGreatRows
import Derived.WalkKit
import Derived.ProofKit
import Derived.OpenShut
import Derived.ShutString
import Derived.ChangeOld
import Derived.Below
import Derived.SizedLaws
import Derived.Test.YtnfbchhbcinloaaGreatQf
/- The walk over FindPlays. -/
namespace Go.Proofs.YtnfbchhbcinloaaGreat
open Go.RowKit Go.XR Go.IndexPure Go.CachePure Go.FindPure
set_option maxHeartbeats 8000000 in
set_option maxRecDepth 100000 in
theorem fplays_walk (w : World) (x y z : Int) (a : Option Addr) (c : Nat) (l : List FActT) (hR : Row w a (l.flatMap factL)) (hQ : ∀ q ∈ l, FActQ w q) (hc : l.length ≤ c) (hcm : c ≤ maxLen) (k : KeyT) :
    Calls Tryz.prog 3 #[.agg (howC x y z), .slice a l.length c, keyV k] w (RetBool w true) := by
  obtain ⟨za, hza, hza2⟩ := zero_fact
  have Hza := Lib.hid hza2
  clear hza2
  have HR := Lib.hid hR
  have HQ := Lib.hid hQ
  have Hlc : Hid (l.length ≤ c ∧ c ≤ maxLen) := ⟨hc, hcm⟩
  obtain ⟨W0, hW0⟩ : ∃ W0, (w.alloc (.cells (howC x y z) 23)).alloc (.cells (keyC k) 29) = W0 := ⟨_, rfl⟩
  have hb0 : Below w.heap.size w W0 := by rw [← hW0]; exact ((Below.refl _ _).alloc (Nat.le_refl _) _).alloc (by simp) _
  have HH : Hid (Blk W0 w.heap.size (howC x y z).toList) := by
    unfold Hid; rw [← hW0]
    exact (Blk.new w (howC x y z) 23).below ((Below.refl _ _).alloc (Nat.le_refl _) _)
  have HK : Hid (At W0 (w.heap.size + 1) 0 (keyC k)) := by
    unfold Hid; rw [← hW0]
    have h := At.new (w.alloc (.cells (howC x y z) 23)) (keyC k) 29
    rwa [show (w.alloc (.cells (howC x y z) 23)).heap.size = w.heap.size + 1 by simp] at h
  have Hb0 := Lib.hid hb0
  clear hR hQ hc hcm hb0
  obtain ⟨hb, hhb⟩ : ∃ hb, w.heap.size = hb := ⟨_, rfl⟩
  have Hhb := Lib.hid hhb
  rw [hhb] at HH HK
  obtain ⟨kb, hkb⟩ : ∃ kb, hb + 1 = kb := ⟨_, rfl⟩
  have Hkb := Lib.hid hkb
  rw [hkb] at HK
  unfold howC at hW0 ⊢
  go_enter Tryz.func3, Tryz.ntmps3
  go_wp2_with fail
  clear hW0 hhb hkb
  refine (shown15_any _).mono ?_
  rintro e w1 ⟨rfl, hb1⟩
  have HH1 := Lib.hid (HH.out.below hb1)
  have HK1 := Lib.hid (HK.out.below (by rw [keyC_size]; omega) hb1)
  have Hb1 := Lib.hid (Hb0.out.trans (hb1.mono Hb0.out.size))
  clear hb1 HH HK Hb0
  have a0 := HH1.out.cell (i := 0) rfl
  have a1 := HH1.out.cell (i := 1) rfl
  have a2 := HH1.out.cell (i := 2) rfl
  go_wp2_with fail
  refine (fnew_any w1 x y z).mono ?_
  intro e w2 h2
  rcases h2.on with ⟨hbad, rfl, hb2⟩ | ⟨fa, fb, fc, rfl, rfl, rfl, hok, p, F, rfl, hF, hFB, hb2⟩
  · have HH2 := Lib.hid (HH1.out.below hb2)
    have Hb2 := Lib.hid (Hb1.out.trans (hb2.mono Hb1.out.size))
    have Hbad := Lib.hid hbad
    clear h2 hbad hb2 a0 a1 a2
    have a0 := HH2.out.cell (i := 0) rfl
    have a1 := HH2.out.cell (i := 1) rfl
    have a2 := HH2.out.cell (i := 2) rfl
    go_wp2_with fail
    refine (rfnew_any w2 [] (fun b hb => by cases hb) x y z).mono ?_
    rintro e w3 (⟨_, rfl, hb3⟩ | ⟨m, n, r, _, _, _, hok, _⟩)
    · have Hb3 := Lib.hid (Hb2.out.trans (hb3.mono Hb2.out.size))
      clear hb3
      go_wp2
      go_ret
      exact ⟨rfl, Hb3.out⟩
    · exact absurd hok Hbad.out
  · have HF := Lib.hid hF
    have HFB : Hid (∀ b ∈ F, w.heap.size ≤ b) := fun b h => Nat.le_trans Hb1.out.size (hFB b h)
    have HH2 := Lib.hid (HH1.out.below hb2)
    have HK2 := Lib.hid (HK1.out.below (by rw [keyC_size]; omega) hb2)
    have Hb2 := Lib.hid (Hb1.out.trans (hb2.mono Hb1.out.size))
    have Hok := Lib.hid hok
    have HKF : Hid (kb ∉ F) := fun h => by have := hFB kb h; have := HK1.out.lt (by rw [keyC_size]; omega); omega
    clear h2 hok hb2 a0 a1 a2 hF hFB
    have a0 := HH2.out.cell (i := 0) rfl
    have a1 := HH2.out.cell (i := 1) rfl
    have a2 := HH2.out.cell (i := 2) rfl
    go_wp2_with fail
    refine (rfnew_any w2 F HF.out.lt fa fb fc).mono ?_
    rintro e w3 (⟨hbad, _⟩ | ⟨m, n, r, hm, hn, hr, _, fp, ip, vp, vq, cp, G, rfl, hrf, hGB, hb3⟩)
    · exact absurd Hok.out hbad
    · obtain rfl : fa = m := by omega
      obtain rfl : fb = n := by omega
      obtain rfl : fc = r := by omega
      have hd3 : Duo w3 p fp ip vp vq cp F G (fin0 fa fb fc) (ref0 fa fb fc) := ⟨HF.out.below hb3, hrf, step0 fa fb fc, fin0_inv fa fb fc⟩
      have HD := Lib.hid hd3
      have HX : Hid (∀ b ∈ F ++ mine fp ip vp vq G, w.heap.size ≤ b) := fun b h => by
        rcases List.mem_append.1 h with h | h
        · exact HFB.out b h
        · exact Nat.le_trans Hb2.out.size (hGB b h)
      have HK3 := Lib.hid (HK2.out.below (by rw [keyC_size]; omega) hb3)
      have HKX : Hid (kb ∉ F ++ mine fp ip vp vq G) := fun h => by
        have hkl := HK2.out.lt (by rw [keyC_size]; omega)
        rcases List.mem_append.1 h with h | h
        · exact HKF.out h
        · have := hGB kb h; omega
      have Hb3 := Lib.hid (Hb2.out.trans (hb3.mono Hb2.out.size))
      obtain ⟨M0, hM0⟩ : ∃ M0, fin0 fa fb fc = M0 := ⟨_, rfl⟩
      have hM1 : M0.D = [] ∧ M0.asked = 0 ∧ M0.loaded = 0 := by rw [← hM0]; exact ⟨rfl, rfl, rfl⟩
      obtain ⟨N0, hN0⟩ : ∃ N0, ref0 fa fb fc = N0 := ⟨_, rfl⟩
      have HM0 := Lib.hid hM1
      rw [hM0, hN0] at HD
      clear hM0 hN0 hM1 hd3 hrf hGB hb3 HF HFB HH2 HK2 HKF Hb2 Hok a0 a1 a2 hm hn hr
      go_wp2_with fail
      refine (ffew_any w3 a c l (HR.out.below (show Below w.heap.size w w3 from Hb3.out)) (Nat.le_trans Hlc.out.1 Hlc.out.2) Hlc.out.1 (fun q hq => Nat.le_trans (HQ.out q hq).2.1 (HQ.out q hq).2.2)).mono ?_
      rintro e w4 ⟨n, hnl, hn150, rfl, hw4, hbl⟩
      rw [hw4]
      have Hbl := Lib.hid hbl
      obtain ⟨S, hS⟩ : ∃ S, l.take n = S := ⟨_, rfl⟩
      have HSl : Hid (S.length = n) := by unfold Hid; rw [← hS, List.length_take]; omega
      have HRS : Hid (Row w a (S.flatMap factL)) := by
        have h1 := HR.out.take (n * 38)
        rw [flat_take factL_length l hnl, hS] at h1
        exact h1
      have HQS : Hid (∀ q ∈ S, FActQ w q ∧ q.b.length ≤ 2000) := fun q hq => by
        rw [← hS] at hq
        exact ⟨HQ.out q (List.mem_of_mem_take hq), Hbl.out q hq⟩
      have hnc : n ≤ c := Nat.le_trans hnl Hlc.out.1
      clear hw4 hbl Hbl hS HR HQ Hlc hnl
      go_wp2
      go_loopg [63] n (fun m i wr => ∃ j : Nat, j ≤ n ∧ i = .int .i64 j ∧ Hid (m = n - j ∧ Below w.heap.size w wr ∧ ∃ M N F G vq, Duo wr p fp ip vp vq cp F G M N ∧ (∀ b ∈ F ++ mine fp ip vp vq G, w.heap.size ≤ b) ∧ At wr kb 0 (keyC k) ∧ kb ∉ F ++ mine fp ip vp vq G ∧ M.D.length ≤ j ∧ M.asked ≤ j ∧ M.loaded ≤ j))
      case atStart => exact ⟨0, by omega, rfl, rfl, Hb3.out, _, _, F, G, vq, HD.out, HX.out, HK3.out, HKX.out, by rw [HM0.out.1]; exact Nat.le_refl _, by rw [HM0.out.2.1]; exact Nat.le_refl _, by rw [HM0.out.2.2]; exact Nat.le_refl _⟩
      case round =>
        clear HD HX HK3 HKX Hb3 HM0
        clear M0 N0 F G vq
        obtain ⟨j, hj, rfl, hr⟩ := hrel
        have Hm := Lib.hid hr.out.1
        have Hbw := Lib.hid hr.out.2.1
        obtain ⟨M, N, F, G, vq, hD, hX, hK, hKX, hDl⟩ := hr.out.2.2
        have HD := Lib.hid hD
        have HX := Lib.hid hX
        have HK := Lib.hid hK
        have HKX := Lib.hid hKX
        have HDl := Lib.hid hDl
        clear hr hD hX hK hKX hDl
        by_cases hlt : j < n
        · have hlt2 : (j : Int) < (n : Int) := by omega
          have hltS : j < S.length := by rw [HSl.out]; exact hlt
          obtain ⟨g, o, rfl, hY⟩ := row_at factL_length (HRS.out.below Hbw.out) hltS (by omega)
          have HY : Hid (At wr g (o + j * 38) (factC S[j])) := hY
          have Hact := Lib.hid (HQS.out _ (List.getElem_mem hltS))
          clear hY
          generalize S[j] = act at *
          clear hltS
          go_wp2_with (first | (refine opIs (X := .load 46 (.tmp 65)) rfl ?_; refine wpList_load_at rfl 46 (.tmp 65) rfl g (o + j * 38) (by kernel_rfl) (factC act) HY.out _ Tryz.underlying46 rfl (factSize act) ?_) | (refine wpList_alloc_new rfl 46 rfl za (Hza.out _) ?_) | (refine opIs (X := .store 46 (.tmp 13) (.tmp 66)) rfl ?_; refine wpList_store_new rfl 46 (.tmp 13) (.tmp 66) rfl za (factC act) 46 (by kernel_rfl) (by kernel_rfl) (by rw [hza, factC_size]) (one_factL act) (factSize act) ?_; refine Go.XR.stop (fun X hX => ?_)) | fail)
          refine hX.out ?_
          clear hX X
          obtain ⟨W3, hW3⟩ : ∃ W3, wr.alloc (.cells (factC act) 46) = W3 := ⟨_, rfl⟩
          have hb3 : Below wr.heap.size wr W3 := by rw [← hW3]; exact (Below.refl _ _).alloc (Nat.le_refl _) _
          have HA3 : Hid (At W3 wr.heap.size 0 (factC act)) := by unfold Hid; rw [← hW3]; exact At.new _ _ _
          have HD3 := Lib.hid (HD.out.below hb3)
          have HK3 := Lib.hid (HK.out.below (by rw [keyC_size]; omega) hb3)
          have HaX : Hid (wr.heap.size ∉ F ++ mine fp ip vp vq G) := fun h => by
            rcases List.mem_append.1 h with h | h
            · have := HD.out.on.lt _ h; omega
            · have := HD.out.rf.mineLt _ h; omega
          have Hb3 := Lib.hid (Hbw.out.trans (hb3.mono Hbw.out.size))
          have HrowB : Hid (∀ G : List Nat, (∀ b ∈ G, w.heap.size ≤ b) → 0 < act.b.length → ∀ g o, act.ba = some ⟨g, o, none⟩ → g ∉ G) := fun G hG hl g o hg hm => by
            obtain ⟨g', o', hg', hcell⟩ := Hact.out.1.1.get (j := 0) (u := byV (act.b[0]'hl)) (by rw [List.getElem?_map, List.getElem?_eq_getElem hl]; rfl)
            rw [hg] at hg'
            cases hg'
            have h1 := cell_lt hcell
            have h2 := hG g hm
            have h3 : g < w.heap.size := h1
            omega
          obtain ⟨ab, hab⟩ : ∃ ab, wr.heap.size = ab := ⟨_, rfl⟩
          rw [hab] at HA3 HaX ⊢
          rw [hW3]
          clear hb3 hW3 hab HY HD HK Hbw
          have ck : W3.cell? ⟨ab, 0, none⟩ = some (.int .u8 (act.kind : Int)) := fact_at HA3.out (fact_kind act)
          have hk := act.hk
          obtain ⟨q, hq5⟩ : ∃ q, act.kind % 5 = q := ⟨_, rfl⟩
          have hqi : (act.kind : Int) % 5 = (q : Int) := by omega
          have hqlt : q < 5 := by omega
          have HRow3 := fact_row HA3.out
          have HKy3 := Lib.hid (row_at_key HRow3)
          have HPl3 := Lib.hid (row_at_place HRow3)
          clear hq5 HRow3
          by_cases hq0 : q = 0
          · subst hq0
            clear hqlt
            go_wp2_with (first | (refine opIs (X := .load 29 (.tmp 85)) rfl ?_; refine wpList_load_at rfl 29 (.tmp 85) rfl ab (0 + 1) rfl (keyC act.key) HKy3.out _ Tryz.underlying29 rfl (keySize _) ?_) | (refine opIs (X := .load 40 (.tmp 88)) rfl ?_; refine wpList_load_at rfl 40 (.tmp 88) rfl ab (0 + 1 + 33) rfl (placeC act.place) HPl3.out _ Tryz.underlying40 rfl (placeSize _) ?_) | fail)
            refine (fo_put HD3.out.on (by have := HDl.out.1; omega) act.key act.place act.ok).mono ?_
            rintro e w5 ⟨rfl, ht⟩
            obtain ⟨F5, h5, hr5, hb5, hg5⟩ := HD3.out.first ht
            have H5 := Lib.hid h5
            have HR5 := Lib.hid hr5
            have Hb5 := Lib.hid hb5
            have Hg5 := Lib.hid hg5
            have HA5 := Lib.hid (HA3.out.but hb5 (fun h => HaX.out (List.mem_append_left _ h)))
            have HRow5 := fact_row HA5.out
            have HKy5 := Lib.hid (row_at_key HRow5)
            have HPl5 := Lib.hid (row_at_place HRow5)
            clear h5 hr5 hb5 hg5 ht HRow5 HKy3 HPl3
            go_wp2_with (first | (refine opIs (X := .load 29 (.tmp 93)) rfl ?_; refine wpList_load_at rfl 29 (.tmp 93) rfl ab (0 + 1) rfl (keyC act.key) HKy5.out _ Tryz.underlying29 rfl (keySize _) ?_) | (refine opIs (X := .load 40 (.tmp 96)) rfl ?_; refine wpList_load_at rfl 40 (.tmp 96) rfl ab (0 + 1 + 33) rfl (placeC act.place) HPl5.out _ Tryz.underlying40 rfl (placeSize _) ?_) | fail)
            refine (rfput_any w5 G F5 fp ip vp vq cp N HR5.out M.D HD3.out.step.rows HD3.out.inv.nd HD3.out.on.rng (by rw [HD3.out.rlen]; have := HDl.out.1; omega) (by have := HD3.out.tabs; omega) HD3.out.tabs.2.2 act.key act.place act.ok).mono ?_
            rintro e w6 ⟨rfl, G5, N', hok, hs⟩
            have hle := fput_len M act.key act.place
            obtain ⟨M', hM'⟩ : ∃ M', fPut M act.key act.place = M' := ⟨_, rfl⟩
            have hto := HD3.out.second H5.out Hb5.out Hg5.out HR5.out hs (put_step HD3.out.step HD3.out.inv hok) (fPut_inv HD3.out.inv act.key act.place)
            rw [hM'] at hle hto
            have HTo := Lib.hid hto
            have HM' : Hid (M'.D.length ≤ j + 1 ∧ M'.asked ≤ j + 1 ∧ M'.loaded ≤ j + 1) := by have := HDl.out; exact ⟨by omega, by omega, by omega⟩
            clear hle hM' hto hok hs ck hqi hk HDl H5 HR5 Hb5 Hg5 HA5 HKy5 HPl5 HA3 HaX HrowB Hact
            go_wp2_with fail
            obtain ⟨vq6, F6, G6, hD6, hb6, hg6⟩ := HTo.out
            have HD6 := Lib.hid hD6
            have HX6 := Lib.hid (base_grew HX.out hg6 Hb3.out.size)
            have HK6 := Lib.hid (HK3.out.but hb6 HKX.out)
            have HKX6 : Hid (kb ∉ F6 ++ mine fp ip vp vq6 G6) := fun h => by
              have hkl := HK3.out.lt (by rw [keyC_size]; omega)
              rcases hg6 kb h with h1 | h1
              · exact HKX.out h1
              · omega
            have Hb6 := Lib.hid (Hb3.out.trans (hb6.below Hb3.out.size HX.out))
            clear hD6 hb6 hg6 HTo HD3 HK3 HKX HX Hb3
            refine (fo_cost HD6.out.on).mono ?_
            rintro e w7 ⟨rfl, hb7⟩
            have HD7 := Lib.hid (HD6.out.below hb7)
            have HK7 := Lib.hid (HK6.out.below (by rw [keyC_size]; omega) hb7)
            have Hb7 := Lib.hid (Hb6.out.trans (hb7.mono Hb6.out.size))
            clear hb7 HD6 HK6 Hb6
            have c3 : w7.cell? ⟨fp, 3, none⟩ = some (.int .i64 M'.asked) := by have h := HD7.out.rf.blk.cell (i := 3) rfl; rwa [HD7.out.step.asked] at h
            have c4 : w7.cell? ⟨fp, 4, none⟩ = some (.int .i64 M'.loaded) := by have h := HD7.out.rf.blk.cell (i := 4) rfl; rwa [HD7.out.step.loaded] at h
            have e3 := beq_self_eq_true (M'.asked : Int)
            have e4 := beq_self_eq_true (M'.loaded : Int)
            go_wp2
            go_roundg (n - (j + 1))
            case measure => have := Hm.out; omega
            case rel => exact ⟨j + 1, by omega, by go_num, rfl, Hb7.out, M', N', F6, G6, vq6, HD7.out, HX6.out, HK7.out, HKX6.out, HM'.out⟩
          · by_cases hq1 : q = 1
            · subst hq1
              clear hqlt
              go_wp2
              have hd : Below W3.heap.size W3 W3.drew := (Below.refl _ _).drew
              have HDd := Lib.hid (HD3.out.below hd)
              have Hcall := Lib.hid (fo_drop HDd.out.on (by have := HDl.out.1; omega) act.key)
              have HAd := Lib.hid (At.drew HA3.out)
              refine Go.XR.region_sched ((fun W => At W ab 0 (factC act))) [(0, true), (1, true), (2, true), (3, true), (5, true), (6, true), (7, true), (8, true), (4, false), (9, false), (10, false)] [9, 10] Tryz.mixed (by kernel_rfl) (by kernel_rfl) (by kernel_rfl) ?_
              simp only [List.map_cons, List.map_nil, List.getElem?_cons_succ, List.getElem?_cons_zero]
              repeat (first | (refine Go.XR.S_light rfl rfl HAd.out ?_ (fun w' hS K hK => ?_) (fun K hK => ?_); rotate_left 1; (skip; (first | (first | (refine Go.XR.wp_load_at 29 (.tmp 103) rfl ab (0 + 1) rfl (keyC act.key) (row_at_key (fact_row hS)) _ Tryz.underlying29 rfl (keySize act.key) ?_) | (refine Go.XR.wp_load_at 29 (.tmp 108) rfl ab (0 + 1) rfl (keyC act.key) (row_at_key (fact_row hS)) _ Tryz.underlying29 rfl (keySize act.key) ?_)) | go_step); exact hK); go_step; refine hK _ ?_; clear hK K))
              refine Go.XR.S_heavy (fun K hK => ?_)
              go_step
              ((with_reducible refine (Hcall.out).mono ?_); rintro e w' ⟨rfl, ht⟩)
              obtain ⟨F5, h5, hr5, hb5, hg5⟩ := HDd.out.first ht
              have H5 := Lib.hid h5
              have HR5 := Lib.hid hr5
              have Hb5 := Lib.hid hb5
              have Hg5 := Lib.hid hg5
              have HA5 := Lib.hid (HAd.out.but hb5 (fun h => HaX.out (List.mem_append_left _ h)))
              clear h5 hr5 hb5 hg5 ht hd Hcall
              refine hK _ _ ⟨fun _ => HA5.out, ?_⟩
              clear hK K
              generalize w' = w5 at *
              have Hcall := Lib.hid (rfdrop_any w5 G F5 fp ip vp vq cp N HR5.out M.D HD3.out.step.rows HD3.out.inv.nd HD3.out.on.rng (by rw [HD3.out.rlen]; have := HDl.out.1; omega) (by have := HD3.out.tabs; omega) HD3.out.tabs.2.2 act.key)
              refine Go.XR.S_heavy (fun K hK => ?_)
              go_step
              ((with_reducible refine (Hcall.out).mono ?_); rintro e w' ⟨rfl, G5, N', hok, hs⟩)
              rw [dec_of (allof_some HD3.out.step.rows HD3.out.inv.nd act.key)]
              refine hK _ _ ⟨fun h => by simp at h, ?_⟩
              clear hK K
              have hle := fdrop_len M act.key
              obtain ⟨M', hM'⟩ : ∃ M', fDrop M act.key = M' := ⟨_, rfl⟩
              have hto := (HDd.out.second H5.out Hb5.out Hg5.out HR5.out hs (drop_step HD3.out.step HD3.out.inv hok) (fDrop_inv HD3.out.inv act.key)).after (w := W3) (Below.refl _ _).drew
              rw [hM'] at hle hto
              have HTo := Lib.hid hto
              have HM' : Hid (M'.D.length ≤ j + 1 ∧ M'.asked ≤ j + 1 ∧ M'.loaded ≤ j + 1) := by have := HDl.out; exact ⟨by omega, by omega, by omega⟩
              generalize w' = w6 at *
              generalize (aget M.D act.key).isSome = bb
              clear hle hM' hto hok hs ck hqi hk HDl H5 HR5 Hb5 Hg5 HA3 HAd HA5 HaX HrowB Hact Hcall HDd HKy3 HPl3
              repeat (first | (refine Go.XR.S_heavy (fun K hK => ?_); go_step; refine hK _ _ ⟨fun h => by simp at h, ?_⟩; clear hK K))
              refine Go.XR.S_nil ?_
              have hbb := beq_self_eq_true bb
              go_wp2_with fail
              obtain ⟨vq6, F6, G6, hD6, hb6, hg6⟩ := HTo.out
              have HD6 := Lib.hid hD6
              have HX6 := Lib.hid (base_grew HX.out hg6 Hb3.out.size)
              have HK6 := Lib.hid (HK3.out.but hb6 HKX.out)
              have HKX6 : Hid (kb ∉ F6 ++ mine fp ip vp vq6 G6) := fun h => by
                have hkl := HK3.out.lt (by rw [keyC_size]; omega)
                rcases hg6 kb h with h1 | h1
                · exact HKX.out h1
                · omega
              have Hb6 := Lib.hid (Hb3.out.trans (hb6.below Hb3.out.size HX.out))
              clear hD6 hb6 hg6 HTo HD3 HK3 HKX HX Hb3
              refine (fo_cost HD6.out.on).mono ?_
              rintro e w7 ⟨rfl, hb7⟩
              have HD7 := Lib.hid (HD6.out.below hb7)
              have HK7 := Lib.hid (HK6.out.below (by rw [keyC_size]; omega) hb7)
              have Hb7 := Lib.hid (Hb6.out.trans (hb7.mono Hb6.out.size))
              clear hb7 HD6 HK6 Hb6
              have c3 : w7.cell? ⟨fp, 3, none⟩ = some (.int .i64 M'.asked) := by have h := HD7.out.rf.blk.cell (i := 3) rfl; rwa [HD7.out.step.asked] at h
              have c4 : w7.cell? ⟨fp, 4, none⟩ = some (.int .i64 M'.loaded) := by have h := HD7.out.rf.blk.cell (i := 4) rfl; rwa [HD7.out.step.loaded] at h
              have e3 := beq_self_eq_true (M'.asked : Int)
              have e4 := beq_self_eq_true (M'.loaded : Int)
              go_wp2
              go_roundg (n - (j + 1))
              case measure => have := Hm.out; omega
              case rel => exact ⟨j + 1, by omega, by go_num, rfl, Hb7.out, M', N', F6, G6, vq6, HD7.out, HX6.out, HK7.out, HKX6.out, HM'.out⟩
            · by_cases hq2 : q = 2
              · subst hq2
                clear hqlt
                have cd3 : W3.cell? ⟨ab, 36, none⟩ = some (.int .u64 (act.draw : Int)) := by have := fact_at HA3.out (fact_draw act); rwa [Nat.zero_add] at this
                go_wp2_with (first | (refine opIs (X := .load 29 (.tmp 117)) rfl ?_; refine wpList_load_at rfl 29 (.tmp 117) rfl ab (0 + 1) rfl (keyC act.key) HKy3.out _ Tryz.underlying29 rfl (keySize _) ?_) | fail)
                refine (fo_find HD3.out.on (by have := HDl.out.1; omega) (by have := HDl.out.2.1; omega) (by have := HDl.out.2.2; omega) act.key act.draw act.hd).mono ?_
                rintro e w5 ⟨L, hL, rfl, ht⟩
                have hval := fFind_val HD3.out.inv act.key act.draw L
                have hinv := fFind_inv HD3.out.inv act.key act.draw L hL (fun v hv => (HD3.out.on.rng _ _ hv).1)
                have hfd := fFind_same M act.key act.draw L
                have HL := Lib.hid hL
                obtain ⟨F5, h5, hr5, hb5, hg5⟩ := HD3.out.first ht
                have H5 := Lib.hid h5
                have HR5 := Lib.hid hr5
                have Hb5 := Lib.hid hb5
                have Hg5 := Lib.hid hg5
                have HA5 := Lib.hid (HA3.out.but hb5 (fun h => HaX.out (List.mem_append_left _ h)))
                have HRow5 := fact_row HA5.out
                have HKy5 := Lib.hid (row_at_key HRow5)
                have HPl5 := Lib.hid (row_at_place HRow5)
                clear h5 hr5 hb5 hg5 ht HRow5 HKy3 HPl3
                rw [hval]
                have HI5 := Lib.hid hinv
                have Hfd := Lib.hid hfd
                have Hval := Lib.hid hval
                obtain ⟨v, hv⟩ : ∃ v, (aget M.D act.key).getD place0 = v := ⟨_, rfl⟩
                obtain ⟨is, his⟩ : ∃ b, (aget M.D act.key).isSome = b := ⟨_, rfl⟩
                have Hv : Hid ((aget M.D act.key).getD place0 = v ∧ (aget M.D act.key).isSome = is) := ⟨hv, his⟩
                rw [hv, his, show placeV v = .agg #[.int .i64 v.shelf, .int .i64 v.slot] from rfl]
                clear hL hval hinv hfd hv his cd3 ck hqi hk HA3 HrowB Hact
                obtain ⟨W6, hW6⟩ : ∃ W6, w5.alloc (.cells #[.int .i64 v.shelf, .int .i64 v.slot] 40) = W6 := ⟨_, rfl⟩
                have hb6 : Below w5.heap.size w5 W6 := by rw [← hW6]; exact (Below.refl _ _).alloc (Nat.le_refl _) _
                have HP6 : Hid (Blk W6 w5.heap.size [.int .i64 v.shelf, .int .i64 v.slot]) := by unfold Hid; rw [← hW6]; exact Blk.new w5 #[.int .i64 v.shelf, .int .i64 v.slot] _
                have HpX : Hid (w5.heap.size ∉ mine fp ip vp vq G) := fun h => by have := HR5.out.mineLt _ h; omega
                obtain ⟨pb, hpb⟩ : ∃ pb, w5.heap.size = pb := ⟨_, rfl⟩
                rw [hpb] at HP6 HpX
                have H6 := Lib.hid (H5.out.below hb6)
                have HR6 := Lib.hid (HR5.out.below hb6)
                have Hb6 := Lib.hid (Hb5.out.trans (But.of_below hb6))
                have HA6 := Lib.hid (HA5.out.below (by rw [factC_size]; omega) hb6)
                have HKy6 := Lib.hid (row_at_key (fact_row HA6.out))
                have cd6 : W6.cell? ⟨ab, 36, none⟩ = some (.int .u64 (act.draw : Int)) := by have := fact_at HA6.out (fact_draw act); rwa [Nat.zero_add] at this
                clear hb6 H5 HR5 Hb5 HA5 HKy5 HPl5
                go_wp2_with (first | (refine opIs (X := .load 29 (.tmp 127)) rfl ?_; refine Go.XR.stop (fun X hX => ?_)) | fail)
                refine hX.out ?_
                clear hX X hW6 hpb
                go_wp2_with (first | (refine opIs (X := .load 29 (.tmp 127)) rfl ?_; refine wpList_load_at rfl 29 (.tmp 127) rfl ab (0 + 1) rfl (keyC act.key) HKy6.out _ Tryz.underlying29 rfl (keySize _) ?_) | fail)
                refine (rffind_any W6 G F5 fp ip vp vq cp N HR6.out M.D HD3.out.step.rows HD3.out.inv.nd HD3.out.on.rng (by rw [HD3.out.rlen]; have := HDl.out.1; omega) HD3.out.tabs.2.1 HD3.out.tabs.1 (by rw [HD3.out.step.asked]; have := HDl.out.2.1; omega) (by rw [HD3.out.step.loaded]; have := HDl.out.2.2; omega) act.key act.draw act.hd).mono ?_
                rintro e w7 ⟨o2, N', G7, hok, rfl, hs⟩
                have hst := find_step HD3.out.step HD3.out.inv HD3.out.on.cache.1 HD3.out.tabs.1 HD3.out.on.rng HL.out hok
                rw [Hval.out] at hst
                rw [← hst.1, Hv.out.1, Hv.out.2, show placeV v = .agg #[.int .i64 v.shelf, .int .i64 v.slot] from rfl]
                have hfd := Hfd.out
                obtain ⟨M', hM'⟩ : ∃ M', (fFind M act.key act.draw L).2 = M' := ⟨_, rfl⟩
                have hto := HD3.out.second H6.out Hb6.out Hg5.out HR6.out hs hst.2 HI5.out
                rw [hM'] at hfd hto
                have HTo7 := Lib.hid hto
                have HM' : Hid (M'.D.length ≤ j + 1 ∧ M'.asked ≤ j + 1 ∧ M'.loaded ≤ j + 1) := by have := HDl.out; exact ⟨by rw [hfd.1]; omega, by have := hfd.2.1; omega, by have := hfd.2.2; omega⟩
                have HP7 := Lib.hid (HP6.out.but hs.but HpX.out)
                clear hst hfd hM' hto hok hs cd6 HDl H6 HR6 Hb6 Hg5 HA6 HKy6 HaX HP6 HpX HL HI5 Hfd Hval Hv
                have d0 := HP7.out.cell (i := 0) rfl
                have d1 := HP7.out.cell (i := 1) rfl
                have hpl := HP7.out.lt
                have hbz := beq_self_eq_true is
                go_wp2_with fail
                obtain ⟨w8, hw8⟩ : ∃ w8, w7.alloc (.cells #[.int .i64 v.shelf, .int .i64 v.slot] 40) = w8 := ⟨_, rfl⟩
                have hb8 : Below w7.heap.size w7 w8 := by rw [← hw8]; exact (Below.refl _ _).alloc (Nat.le_refl _) _
                rw [hw8]
                have HTo := Lib.hid (HTo7.out.below hb8)
                clear hb8 hw8 d0 d1 hpl HTo7 HP7
                obtain ⟨vq6, F6, G6, hD6, hb6, hg6⟩ := HTo.out
                have HD6 := Lib.hid hD6
                have HX6 := Lib.hid (base_grew HX.out hg6 Hb3.out.size)
                have HK6 := Lib.hid (HK3.out.but hb6 HKX.out)
                have HKX6 : Hid (kb ∉ F6 ++ mine fp ip vp vq6 G6) := fun h => by
                  have hkl := HK3.out.lt (by rw [keyC_size]; omega)
                  rcases hg6 kb h with h1 | h1
                  · exact HKX.out h1
                  · omega
                have Hb6 := Lib.hid (Hb3.out.trans (hb6.below Hb3.out.size HX.out))
                clear hD6 hb6 hg6 HTo HD3 HK3 HKX HX Hb3
                refine (fo_cost HD6.out.on).mono ?_
                rintro e w7 ⟨rfl, hb7⟩
                have HD7 := Lib.hid (HD6.out.below hb7)
                have HK7 := Lib.hid (HK6.out.below (by rw [keyC_size]; omega) hb7)
                have Hb7 := Lib.hid (Hb6.out.trans (hb7.mono Hb6.out.size))
                clear hb7 HD6 HK6 Hb6
                have c3 : w7.cell? ⟨fp, 3, none⟩ = some (.int .i64 M'.asked) := by have h := HD7.out.rf.blk.cell (i := 3) rfl; rwa [HD7.out.step.asked] at h
                have c4 : w7.cell? ⟨fp, 4, none⟩ = some (.int .i64 M'.loaded) := by have h := HD7.out.rf.blk.cell (i := 4) rfl; rwa [HD7.out.step.loaded] at h
                have e3 := beq_self_eq_true (M'.asked : Int)
                have e4 := beq_self_eq_true (M'.loaded : Int)
                go_wp2
                go_roundg (n - (j + 1))
                case measure => have := Hm.out; omega
                case rel => exact ⟨j + 1, by omega, by go_num, rfl, Hb7.out, M', N', F6, G6, vq6, HD7.out, HX6.out, HK7.out, HKX6.out, HM'.out⟩
              · by_cases hq3 : q = 3
                · subst hq3
                  clear hqlt
                  go_wp2_with fail
                  refine (fo_anew HD3.out.on (by have := HDl.out.1; omega)).mono ?_
                  rintro e w5 ⟨rfl, L, hL, ht⟩
                  have HL := Lib.hid hL
                  clear hL
                  obtain ⟨F5, h5, hr5, hb5, hg5⟩ := HD3.out.first ht
                  have H5 := Lib.hid h5
                  have HR5 := Lib.hid hr5
                  have Hb5 := Lib.hid hb5
                  have Hg5 := Lib.hid hg5
                  have HA5 := Lib.hid (HA3.out.but hb5 (fun h => HaX.out (List.mem_append_left _ h)))
                  have HRow5 := fact_row HA5.out
                  have HKy5 := Lib.hid (row_at_key HRow5)
                  have HPl5 := Lib.hid (row_at_place HRow5)
                  clear h5 hr5 hb5 hg5 ht HRow5 HKy3 HPl3
                  go_wp2_with fail
                  refine (rfanew_any w5 G F5 fp ip vp vq cp N HR5.out (by rw [HD3.out.rlen]; have := HDl.out.1; omega)).mono ?_
                  rintro e w6 ⟨rfl, vq5, B', hBl, hB, hs⟩
                  obtain ⟨N', hN'⟩ : ∃ N', { N with B := B' } = N' := ⟨_, rfl⟩
                  obtain ⟨M', hM'⟩ : ∃ M', { M with Y := anewB M.bits M.probes L } = M' := ⟨_, rfl⟩
                  have hto := HD3.out.second H5.out Hb5.out Hg5.out HR5.out hs (anew_step HD3.out.step HL.out hBl hB) (anew_inv HD3.out.inv HL.out)
                  rw [hM', hN'] at hto
                  have HTo := Lib.hid hto
                  have HM' : Hid (M'.D.length ≤ j + 1 ∧ M'.asked ≤ j + 1 ∧ M'.loaded ≤ j + 1) := by rw [← hM']; have := HDl.out; exact ⟨Nat.le_succ_of_le this.1, Nat.le_succ_of_le this.2.1, Nat.le_succ_of_le this.2.2⟩
                  clear hM' hN' hto hBl hB hs ck hqi hk HDl H5 HR5 Hb5 Hg5 HA5 HKy5 HPl5 HA3 HaX HrowB Hact HL
                  go_wp2_with fail
                  obtain ⟨vq6, F6, G6, hD6, hb6, hg6⟩ := HTo.out
                  have HD6 := Lib.hid hD6
                  have HX6 := Lib.hid (base_grew HX.out hg6 Hb3.out.size)
                  have HK6 := Lib.hid (HK3.out.but hb6 HKX.out)
                  have HKX6 : Hid (kb ∉ F6 ++ mine fp ip vp vq6 G6) := fun h => by
                    have hkl := HK3.out.lt (by rw [keyC_size]; omega)
                    rcases hg6 kb h with h1 | h1
                    · exact HKX.out h1
                    · omega
                  have Hb6 := Lib.hid (Hb3.out.trans (hb6.below Hb3.out.size HX.out))
                  clear hD6 hb6 hg6 HTo HD3 HK3 HKX HX Hb3
                  refine (fo_cost HD6.out.on).mono ?_
                  rintro e w7 ⟨rfl, hb7⟩
                  have HD7 := Lib.hid (HD6.out.below hb7)
                  have HK7 := Lib.hid (HK6.out.below (by rw [keyC_size]; omega) hb7)
                  have Hb7 := Lib.hid (Hb6.out.trans (hb7.mono Hb6.out.size))
                  clear hb7 HD6 HK6 Hb6
                  have c3 : w7.cell? ⟨fp, 3, none⟩ = some (.int .i64 M'.asked) := by have h := HD7.out.rf.blk.cell (i := 3) rfl; rwa [HD7.out.step.asked] at h
                  have c4 : w7.cell? ⟨fp, 4, none⟩ = some (.int .i64 M'.loaded) := by have h := HD7.out.rf.blk.cell (i := 4) rfl; rwa [HD7.out.step.loaded] at h
                  have e3 := beq_self_eq_true (M'.asked : Int)
                  have e4 := beq_self_eq_true (M'.loaded : Int)
                  go_wp2
                  go_roundg (n - (j + 1))
                  case measure => have := Hm.out; omega
                  case rel => exact ⟨j + 1, by omega, by go_num, rfl, Hb7.out, M', N', F6, G6, vq6, HD7.out, HX6.out, HK7.out, HKX6.out, HM'.out⟩
                · obtain rfl : q = 4 := by omega
                  clear hqlt hq0 hq1 hq2 hq3
                  have cs3 : W3.cell? ⟨ab, 37, none⟩ = some (.slice act.ba act.b.length act.bc) := by have := fact_at HA3.out (fact_slice act); rwa [Nat.zero_add] at this
                  go_wp2_with fail
                  refine (fo_blur HD3.out.on act.ba act.bc act.b (Hact.out.1.1.below Hb3.out) (HrowB.out F (fun b h => HX.out b (List.mem_append_left _ h))) act.hb (by have := Hact.out.2; omega)).mono ?_
                  rintro e w5 ⟨rfl, ht⟩
                  obtain ⟨F5, h5, hr5, hb5, hg5⟩ := HD3.out.first ht
                  have H5 := Lib.hid h5
                  have HR5 := Lib.hid hr5
                  have Hb5 := Lib.hid hb5
                  have Hg5 := Lib.hid hg5
                  have HA5 := Lib.hid (HA3.out.but hb5 (fun h => HaX.out (List.mem_append_left _ h)))
                  have HRow5 := fact_row HA5.out
                  have HKy5 := Lib.hid (row_at_key HRow5)
                  have HPl5 := Lib.hid (row_at_place HRow5)
                  clear h5 hr5 hb5 hg5 ht HRow5 HKy3 HPl3
                  have cs5 : w5.cell? ⟨ab, 37, none⟩ = some (.slice act.ba act.b.length act.bc) := by have := fact_at HA5.out (fact_slice act); rwa [Nat.zero_add] at this
                  have cf5 := HR5.out.blk.cell (i := 0) rfl
                  obtain ⟨vcap, hvec⟩ := HR5.out.vec
                  have Hb5w := Lib.hid (Hb3.out.trans (Hb5.out.below Hb3.out.size (fun b h => HX.out b (List.mem_append_left _ h))))
                  have Hcall := Lib.hid (ror_any w5.drew vp vq vcap N.probes N.B (hvec.below (Below.refl _ _).drew) act.ba act.bc act.b ((Hact.out.1.1.below Hb5w.out).below (Below.refl _ _).drew) (fun h1 g o h2 e => HrowB.out _ HX.out h1 g o h2 (List.mem_append_right _ (by rw [e]; exact mem_mine.2 (by simp)))) act.hb (by have := Hact.out.2; omega))
                  clear hvec cs3 ck hqi hk HA3 HaX HKy5 HPl5 Hb5w
                  go_wp2
                  refine Go.XR.region_sched ((· = w5.drew)) [(0, true), (1, true), (2, true), (3, true), (4, true), (5, true), (6, false)] [6] Tryz.mixed (by kernel_rfl) (by kernel_rfl) (by kernel_rfl) ?_
                  simp only [List.map_cons, List.map_nil, List.getElem?_cons_succ, List.getElem?_cons_zero]
                  repeat (first | (refine Go.XR.S_light rfl rfl rfl ?_ (fun w' hS K hK => ?_) (fun K hK => ?_); rotate_left 1; (cases hS; go_step; exact hK); go_step; refine hK _ ?_; clear hK K))
                  refine Go.XR.S_heavy (fun K hK => ?_)
                  go_step
                  ((with_reducible refine (Hcall.out).mono ?_); rintro e w' ⟨rfl, B', hBl, hB, hv, hb⟩)
                  have hs := (RSt.refl HR5.out).vec hv ((But.refl _ _).drew.trans hb)
                  obtain ⟨N', hN'⟩ : ∃ N', { N with B := B' } = N' := ⟨_, rfl⟩
                  obtain ⟨M', hM'⟩ : ∃ M', { M with Y := blurB M.bits M.Y act.b } = M' := ⟨_, rfl⟩
                  have hto := HD3.out.second H5.out Hb5.out Hg5.out HR5.out hs (blur_step HD3.out.step HD3.out.inv hBl hB) (blur_inv HD3.out.inv act.hb)
                  rw [hM', hN'] at hto
                  have HTo := Lib.hid hto
                  have HM' : Hid (M'.D.length ≤ j + 1 ∧ M'.asked ≤ j + 1 ∧ M'.loaded ≤ j + 1) := by rw [← hM']; have := HDl.out; exact ⟨Nat.le_succ_of_le this.1, Nat.le_succ_of_le this.2.1, Nat.le_succ_of_le this.2.2⟩
                  clear hM' hN' hto hBl hB hs hv hb HDl H5 HR5 Hb5 Hg5 HA5 HrowB Hact cs5 cf5 Hcall
                  refine hK _ _ ⟨fun h => by simp at h, ?_⟩
                  clear hK K
                  repeat (first | (refine Go.XR.S_light rfl rfl rfl ?_ (fun w' hS K hK => ?_) (fun K hK => ?_); rotate_left 1; (cases hS; go_step; exact hK); go_step; refine hK _ ?_; clear hK K))
                  repeat (first | (refine Go.XR.S_heavy (fun K hK => ?_); go_step; refine hK _ _ ⟨fun h => by simp at h, ?_⟩; clear hK K))
                  refine Go.XR.S_nil ?_
                  generalize w' = w6 at *
                  go_wp2_with fail
                  obtain ⟨vq6, F6, G6, hD6, hb6, hg6⟩ := HTo.out
                  have HD6 := Lib.hid hD6
                  have HX6 := Lib.hid (base_grew HX.out hg6 Hb3.out.size)
                  have HK6 := Lib.hid (HK3.out.but hb6 HKX.out)
                  have HKX6 : Hid (kb ∉ F6 ++ mine fp ip vp vq6 G6) := fun h => by
                    have hkl := HK3.out.lt (by rw [keyC_size]; omega)
                    rcases hg6 kb h with h1 | h1
                    · exact HKX.out h1
                    · omega
                  have Hb6 := Lib.hid (Hb3.out.trans (hb6.below Hb3.out.size HX.out))
                  clear hD6 hb6 hg6 HTo HD3 HK3 HKX HX Hb3
                  refine (fo_cost HD6.out.on).mono ?_
                  rintro e w7 ⟨rfl, hb7⟩
                  have HD7 := Lib.hid (HD6.out.below hb7)
                  have HK7 := Lib.hid (HK6.out.below (by rw [keyC_size]; omega) hb7)
                  have Hb7 := Lib.hid (Hb6.out.trans (hb7.mono Hb6.out.size))
                  clear hb7 HD6 HK6 Hb6
                  have c3 : w7.cell? ⟨fp, 3, none⟩ = some (.int .i64 M'.asked) := by have h := HD7.out.rf.blk.cell (i := 3) rfl; rwa [HD7.out.step.asked] at h
                  have c4 : w7.cell? ⟨fp, 4, none⟩ = some (.int .i64 M'.loaded) := by have h := HD7.out.rf.blk.cell (i := 4) rfl; rwa [HD7.out.step.loaded] at h
                  have e3 := beq_self_eq_true (M'.asked : Int)
                  have e4 := beq_self_eq_true (M'.loaded : Int)
                  go_wp2
                  go_roundg (n - (j + 1))
                  case measure => have := Hm.out; omega
                  case rel => exact ⟨j + 1, by omega, by go_num, rfl, Hb7.out, M', N', F6, G6, vq6, HD7.out, HX6.out, HK7.out, HKX6.out, HM'.out⟩
        · have hge : ¬ (j : Int) < (n : Int) := by omega
          have hD20 : M.D.length ≤ 2^20 := by have := HDl.out.1; omega
          have hR20 : N.R.length ≤ 2^20 := by rw [HD.out.rlen]; exact hD20
          have HR20 : Hid (N.R.length ≤ 2^20) := hR20
          have HD20 : Hid (M.D.length ≤ 2^20) := hD20
          have Hnd := Lib.hid HD.out.on.nd
          have Hrng := Lib.hid HD.out.on.rng
          have HA := Lib.hid HD.out.step.rows
          have hMD := HD.out.rlen
          have HMD := Lib.hid hMD
          have cK : wr.cell? ⟨kb, 32, none⟩ = some (.int .u32 (k.n.toNat : Int)) := key_at_n HK.out
          obtain ⟨xa, xc, hxB, hxR, hxl, hxm, hxF, hxn, hxx⟩ := HD.out.rf.ix
          have c2 := HD.out.rf.blk.cell (i := 2) rfl
          have x0 := hxB.cell (i := 0) rfl
          have hfl := HD.out.rf.blk.lt
          have hil := hxB.lt
          have hkl := HK.out.lt (by rw [keyC_size]; omega)
          have HxR := Lib.hid hxR
          clear hxB hxR hxl hxm hxF hxn hxx hD20 hR20 hMD HRS HQS HSl HX HKX Hm hlt HDl
          go_wp2
          have hS0 : Below wr.heap.size wr wr.drew := (Below.refl _ _).drew
          refine Go.XR.region_sched ((Below wr.heap.size wr)) [(0, true), (1, true), (2, true), (4, true), (5, true), (6, true), (7, true), (8, true), (9, true), (10, true), (3, false), (11, false), (12, true), (13, true), (14, true), (16, true), (17, true), (18, true), (19, true), (20, true), (21, true), (22, true), (23, true), (15, false), (24, true), (25, true), (26, true), (27, true), (28, true), (29, true), (31, true), (32, true), (33, true), (34, true), (35, true), (36, true), (30, false), (37, false), (38, false), (39, true), (40, true), (41, true), (42, true), (43, true), (44, true), (46, true), (47, true), (48, true), (49, true), (50, true), (51, true), (52, true), (45, false), (53, false), (54, false), (55, false), (56, false)] [] Tryz.mixed (by kernel_rfl) (by kernel_rfl) (by kernel_rfl) ?_
          simp only [List.map_cons, List.map_nil, List.getElem?_cons_succ, List.getElem?_cons_zero]
          repeat (first | (refine Go.XR.S_light rfl rfl (by assumption) ?_ (fun w' hS K hK => ?_) (fun K hK => ?_); rotate_left 1; (have hS1 := bcell hS; (first | (first | (refine Go.XR.wp_load_at 26 (.tmp 196) rfl kb 0 rfl (sumC k.sum) (key_at_sum (HK.out.below (by rw [keyC_size]; omega) hS)) _ Tryz.underlying26 rfl (sumSize k.sum) ?_) | (refine Go.XR.wp_load_at 26 (.tmp 203) rfl kb 0 rfl (sumC k.sum) (key_at_sum (HK.out.below (by rw [keyC_size]; omega) hS)) _ Tryz.underlying26 rfl (sumSize k.sum) ?_)) | go_step); exact hK); go_step; refine hK _ ?_; clear hK K) | (refine Go.XR.S_light_off rfl (by assumption) (fun K hK => ?_); go_step; refine hK _ ?_; clear hK K) | (refine Go.XR.S_light_on rfl rfl rfl (by assumption) ?_ (fun w' hS K hK => ?_) (fun K hK => ?_); rotate_left 1; (have hS1 := bcell hS; (first | (first | (refine Go.XR.wp_load_at 26 (.tmp 196) rfl kb 0 rfl (sumC k.sum) (key_at_sum (HK.out.below (by rw [keyC_size]; omega) hS)) _ Tryz.underlying26 rfl (sumSize k.sum) ?_) | (refine Go.XR.wp_load_at 26 (.tmp 203) rfl kb 0 rfl (sumC k.sum) (key_at_sum (HK.out.below (by rw [keyC_size]; omega) hS)) _ Tryz.underlying26 rfl (sumSize k.sum) ?_)) | go_step); exact hK); go_step; refine hK _ ?_; clear hK K))
          refine Go.XR.S_heavy_on rfl (fun K hK => ?_)
          go_step
          ((with_reducible refine (fo_all (HD.out.on.below hS0) HD20.out).mono ?_); rintro e w1 ⟨L, hL, a1, c1, rfl, hr1, _, hb1⟩)
          have hLR : L = N.R := AllOf.same HA.out hL (fun _ => rfl) Hnd.out Hnd.out
          have hS1 : Below wr.heap.size wr w1 := hS0.trans (hb1.mono hS0.size)
          have HR1 := Lib.hid hr1
          have HX1 := Lib.hid (HxR.out.below hS1)
          have Hok : Hid (RowsOk N.R) := AllOf.ok HA.out Hnd.out Hrng.out
          clear hL hr1 hb1 hS0
          subst hLR
          refine hK _ _ ⟨fun _ => hS1, ?_⟩
          clear hK K
          refine Go.XR.S_heavy_on rfl (fun K hK => ?_)
          go_step
          ((with_reducible refine (same_any w1 a1 xa c1 xc N.R N.R HR1.out HX1.out (Nat.le_trans HR20.out (by decide)) (Nat.le_trans HR20.out (by decide)) Hok.out Hok.out).mono ?_); rintro e w2 ⟨rfl, hb2⟩)
          rw [decide_eq_true (show N.R = N.R from rfl)]
          have hS2 : Below wr.heap.size wr w2 := hS1.trans (hb2.mono hS1.size)
          refine hK _ _ ⟨fun _ => hS2, ?_⟩
          clear hK K hb2 hS1 HR1 HX1 Hok
          repeat (first | (refine Go.XR.S_light rfl rfl (by assumption) ?_ (fun w' hS K hK => ?_) (fun K hK => ?_); rotate_left 1; (have hS1 := bcell hS; (first | (first | (refine Go.XR.wp_load_at 26 (.tmp 196) rfl kb 0 rfl (sumC k.sum) (key_at_sum (HK.out.below (by rw [keyC_size]; omega) hS)) _ Tryz.underlying26 rfl (sumSize k.sum) ?_) | (refine Go.XR.wp_load_at 26 (.tmp 203) rfl kb 0 rfl (sumC k.sum) (key_at_sum (HK.out.below (by rw [keyC_size]; omega) hS)) _ Tryz.underlying26 rfl (sumSize k.sum) ?_)) | go_step); exact hK); go_step; refine hK _ ?_; clear hK K) | (refine Go.XR.S_light_off rfl (by assumption) (fun K hK => ?_); go_step; refine hK _ ?_; clear hK K) | (refine Go.XR.S_light_on rfl rfl rfl (by assumption) ?_ (fun w' hS K hK => ?_) (fun K hK => ?_); rotate_left 1; (have hS1 := bcell hS; (first | (first | (refine Go.XR.wp_load_at 26 (.tmp 196) rfl kb 0 rfl (sumC k.sum) (key_at_sum (HK.out.below (by rw [keyC_size]; omega) hS)) _ Tryz.underlying26 rfl (sumSize k.sum) ?_) | (refine Go.XR.wp_load_at 26 (.tmp 203) rfl kb 0 rfl (sumC k.sum) (key_at_sum (HK.out.below (by rw [keyC_size]; omega) hS)) _ Tryz.underlying26 rfl (sumSize k.sum) ?_)) | go_step); exact hK); go_step; refine hK _ ?_; clear hK K))
          refine Go.XR.S_heavy_on rfl (fun K hK => ?_)
          go_step
          ((with_reducible refine (fo_len (HD.out.on.below hS2)).mono ?_); rintro e w3' ⟨rfl, hb3⟩)
          rw [← HMD.out]
          have hS3 : Below wr.heap.size wr w3' := hS2.trans (hb3.mono hS2.size)
          refine hK _ _ ⟨fun _ => hS3, ?_⟩
          clear hK K hb3 hS2
          have hle := beq_self_eq_true (N.R.length : Int)
          repeat (first | (refine Go.XR.S_light rfl rfl (by assumption) ?_ (fun w' hS K hK => ?_) (fun K hK => ?_); rotate_left 1; (have hS1 := bcell hS; (first | (first | (refine Go.XR.wp_load_at 26 (.tmp 196) rfl kb 0 rfl (sumC k.sum) (key_at_sum (HK.out.below (by rw [keyC_size]; omega) hS)) _ Tryz.underlying26 rfl (sumSize k.sum) ?_) | (refine Go.XR.wp_load_at 26 (.tmp 203) rfl kb 0 rfl (sumC k.sum) (key_at_sum (HK.out.below (by rw [keyC_size]; omega) hS)) _ Tryz.underlying26 rfl (sumSize k.sum) ?_)) | go_step); exact hK); go_step; refine hK _ ?_; clear hK K) | (refine Go.XR.S_light_off rfl (by assumption) (fun K hK => ?_); go_step; refine hK _ ?_; clear hK K) | (refine Go.XR.S_light_on rfl rfl rfl (by assumption) ?_ (fun w' hS K hK => ?_) (fun K hK => ?_); rotate_left 1; (have hS1 := bcell hS; (first | (first | (refine Go.XR.wp_load_at 26 (.tmp 196) rfl kb 0 rfl (sumC k.sum) (key_at_sum (HK.out.below (by rw [keyC_size]; omega) hS)) _ Tryz.underlying26 rfl (sumSize k.sum) ?_) | (refine Go.XR.wp_load_at 26 (.tmp 203) rfl kb 0 rfl (sumC k.sum) (key_at_sum (HK.out.below (by rw [keyC_size]; omega) hS)) _ Tryz.underlying26 rfl (sumSize k.sum) ?_)) | go_step); exact hK); go_step; refine hK _ ?_; clear hK K))
          refine Go.XR.S_heavy_on rfl (fun K hK => ?_)
          go_step
          ((with_reducible refine (fo_twins (HD.out.on.below hS3) HD20.out k.sum).mono ?_); rintro e w4' ⟨ns, hT, a4, c4, rfl, hr4, hb4⟩)
          rw [twins_alike hT HA.out Hnd.out] at hr4 ⊢
          have hS4 : Below wr.heap.size wr w4' := hS3.trans (hb4.mono hS3.size)
          have HR4 := Lib.hid hr4
          have Hx4 := Lib.hid (HD.out.rf.ix.below hS4)
          refine hK _ _ ⟨fun _ => hS4, ?_⟩
          clear hK K hb4 hS3 hT hr4 hle
          refine Go.XR.S_heavy_on rfl (fun K hK => ?_)
          go_step
          ((with_reducible refine (reftwins_any w4' ip N.R _ Hx4.out HR20.out k.sum).mono ?_); rintro e w5 ⟨a5, c5, rfl, ho5, hb5⟩)
          have hS5 : Below wr.heap.size wr w5 := hS4.trans (hb5.mono hS4.size)
          have HR4' := Lib.hid (HR4.out.below hb5)
          have HR5 := Lib.hid (Row.owned ho5)
          have hTl : (twinsL N.R k.sum).length ≤ 2^40 := Nat.le_trans (twinsL_len N.R k.sum) (Nat.le_trans HR20.out (by decide))
          refine hK _ _ ⟨fun _ => hS5, ?_⟩
          clear hK K hb5 hS4 ho5 HR4 Hx4
          refine Go.XR.S_heavy_on rfl (fun K hK => ?_)
          go_step
          ((with_reducible refine (samek_any w5 a4 a5 c4 c5 (twinsL N.R k.sum) (twinsL N.R k.sum) HR4'.out HR5.out hTl hTl).mono ?_); rintro e w6 ⟨rfl, hb6⟩)
          rw [decide_eq_true (show twinsL N.R k.sum = twinsL N.R k.sum from rfl)]
          have hS6 : Below wr.heap.size wr w6 := hS5.trans (hb6.mono hS5.size)
          refine hK _ _ ⟨fun _ => hS6, ?_⟩
          clear hK K hb6 hS5 HR4' HR5 hTl
          repeat (first | (refine Go.XR.S_light rfl rfl (by assumption) ?_ (fun w' hS K hK => ?_) (fun K hK => ?_); rotate_left 1; (have hS1 := bcell hS; (first | (first | (refine Go.XR.wp_load_at 26 (.tmp 196) rfl kb 0 rfl (sumC k.sum) (key_at_sum (HK.out.below (by rw [keyC_size]; omega) hS)) _ Tryz.underlying26 rfl (sumSize k.sum) ?_) | (refine Go.XR.wp_load_at 26 (.tmp 203) rfl kb 0 rfl (sumC k.sum) (key_at_sum (HK.out.below (by rw [keyC_size]; omega) hS)) _ Tryz.underlying26 rfl (sumSize k.sum) ?_)) | go_step); exact hK); go_step; refine hK _ ?_; clear hK K) | (refine Go.XR.S_light_off rfl (by assumption) (fun K hK => ?_); go_step; refine hK _ ?_; clear hK K) | (refine Go.XR.S_light_on rfl rfl rfl (by assumption) ?_ (fun w' hS K hK => ?_) (fun K hK => ?_); rotate_left 1; (have hS1 := bcell hS; (first | (first | (refine Go.XR.wp_load_at 26 (.tmp 196) rfl kb 0 rfl (sumC k.sum) (key_at_sum (HK.out.below (by rw [keyC_size]; omega) hS)) _ Tryz.underlying26 rfl (sumSize k.sum) ?_) | (refine Go.XR.wp_load_at 26 (.tmp 203) rfl kb 0 rfl (sumC k.sum) (key_at_sum (HK.out.below (by rw [keyC_size]; omega) hS)) _ Tryz.underlying26 rfl (sumSize k.sum) ?_)) | go_step); exact hK); go_step; refine hK _ ?_; clear hK K))
          have hw64 : wrap64 (k.n.toNat : Int) = (k.n.toNat : Int) := by have := k.n.toNat_lt; unfold wrap64; omega
          simp only [hw64]
          clear hw64
          have Hsrt : Hid (SrtA N.R) := HA.out.2
          obtain ⟨sh, hsh⟩ : ∃ s : I64, (k.n.toNat : Int) = s.1 := ⟨⟨(k.n.toNat : Int), by have := k.n.toNat_lt; omega⟩, rfl⟩
          rw [hsh]
          have Hsb : Hid (-9223372036854775808 ≤ sh.1 ∧ sh.1 ≤ 9223372036854775807) := sh.2
          clear hsh cK
          refine Go.XR.S_heavy_on rfl (fun K hK => ?_)
          go_step
          ((with_reducible refine (fo_shelf (HD.out.on.below hS6) HD20.out _ Hsb.out).mono ?_); rintro e w7 ⟨R1, hR1, a7, c7, rfl, hr7, _, hb7⟩)
          have hS7 : Below wr.heap.size wr w7 := hS6.trans (hb7.mono hS6.size)
          have HR7 := Lib.hid hr7
          have HR1 := Lib.hid hR1
          have Hx7 := Lib.hid (HD.out.rf.ix.below hS7)
          refine hK _ _ ⟨fun _ => hS7, ?_⟩
          clear hK K hb7 hS6 hr7 hR1
          refine Go.XR.S_heavy_on rfl (fun K hK => ?_)
          go_step
          ((with_reducible refine (refshelf_any w7 ip N.R _ Hx7.out Hsrt.out HR20.out sh).mono ?_); rintro e w8 ⟨R2, hR2, a8, c8, rfl, hr8, _, hb8⟩)
          have hRR : R1 = R2 := ShelfOf.same HR1.out (shelf_done HA.out Hnd.out hR2) (fun _ => rfl) Hnd.out Hnd.out
          have hS8 : Below wr.heap.size wr w8 := hS7.trans (hb8.mono hS7.size)
          have HR7' := Lib.hid (HR7.out.below hb8)
          have HR8 := Lib.hid hr8
          have hR1l : R1.length ≤ 2^40 := Nat.le_trans (ShelfOf.len HR1.out) (Nat.le_trans HD20.out (by decide))
          have Hok1 : Hid (RowsOk R1) := ShelfOf.ok HR1.out Hnd.out Hrng.out
          refine hK _ _ ⟨fun _ => hS8, ?_⟩
          clear hK K hb8 hS7 hr8 hR2 HR7 Hx7
          subst hRR
          refine Go.XR.S_heavy_on rfl (fun K hK => ?_)
          go_step
          ((with_reducible refine (same_any w8 a7 a8 c7 c8 R1 R1 HR7'.out HR8.out hR1l hR1l Hok1.out Hok1.out).mono ?_); rintro e w9 ⟨rfl, hb9⟩)
          rw [decide_eq_true (show R1 = R1 from rfl)]
          have hS9 : Below wr.heap.size wr w9 := hS8.trans (hb9.mono hS8.size)
          refine hK _ _ ⟨fun _ => hS9, ?_⟩
          clear hK K hb9 hS8 HR7' HR8 Hok1 hR1l
          repeat (first | (refine Go.XR.S_heavy_on rfl (fun K hK => ?_); go_step; refine hK _ _ ⟨fun _ => hS9, ?_⟩; clear hK K) | (refine Go.XR.S_heavy (fun K hK => ?_); go_step; refine hK _ _ ⟨fun _ => hS9, ?_⟩; clear hK K))
          refine Go.XR.S_nil ?_
          have HE := Lib.hid (Hbw.out.trans (hS9.mono Hbw.out.size))
          go_wp2
          go_ret
          exact ⟨rfl, HE.out⟩
end Go.Proofs.YtnfbchhbcinloaaGreat

/- FindPlays, as its row asks for it. -/
namespace Go.Proofs.YtnfbchhbcinloaaGreat
open Go.RowKit Go.XR Go.IndexPure Go.CachePure Go.FindPure
theorem fplays_row (w : World) (x y z : I64) (a : Option Addr) (c : Nat) (l : List FActT) (hR : Row w a (l.flatMap factL)) (hQ : ∀ q ∈ l, FActQ w q) (hc : l.length ≤ c) (hcm : c ≤ maxLen) (k : KeyT) :
    Calls Tryz.prog 3 #[.agg (howC x.1 y.1 z.1), .slice a l.length c, keyV k] w (RetBool w true) :=
  fplays_walk w x.1 y.1 z.1 a c l hR hQ hc hcm k
end Go.Proofs.YtnfbchhbcinloaaGreat

/- The statement FindPlays: it holds for every input.  No conditions. -/
namespace Go.Proofs.YtnfbchhbcinloaaGreat.findPlays
open Go.ChangeShapes Go.WideShapes Go.ChangeAt Go.RowKit Go.XR
open Go.ChangeMaps (open_string shut_string)
theorem own : ownKnob Tryz.prog.godebug = none := by kernel_rfl
theorem laidOut : laidOutB Tryz.prog = true := by kernel_rfl
set_option maxRecDepth 100000 in
theorem lifted (os : Os) (started : os.Started) (H : Type) (enc : TypeId × Value → H) :
    ReturnsInHanded {} Tryz.checked os 3 .any (Rows.findPlaysSpec.pre6 enc Tryz.prog Tryz.f3 Rows.findPlaysRow.domain false) (Rows.findPlaysSpec.post enc Tryz.prog Tryz.f3 false true false false) := by
  refine returnsInHanded_of_change_sized (C := Tryz.checked) own started (by kernel_rfl) Tryz.func3
    (ChangeSpec.witness6 (enc := enc) (C := Tryz.checked) false ⟨#[], #[.agg #[.int .i64 0, .int .i64 0, .int .i64 0], .slice none 0 0, .agg #[.int .u8 0, .int .u8 0, .int .u8 0, .int .u8 0, .int .u8 0, .int .u8 0, .int .u8 0, .int .u8 0, .int .u8 0, .int .u8 0, .int .u8 0, .int .u8 0, .int .u8 0, .int .u8 0, .int .u8 0, .int .u8 0, .int .u8 0, .int .u8 0, .int .u8 0, .int .u8 0, .int .u8 0, .int .u8 0, .int .u8 0, .int .u8 0, .int .u8 0, .int .u8 0, .int .u8 0, .int .u8 0, .int .u8 0, .int .u8 0, .int .u8 0, .int .u8 0, .int .u32 0]], []⟩ 8 (by kernel_rfl) (by kernel_rfl) (by kernel_rfl) (by kernel_rfl)) ?_
  intro W base args ds gs before hval0 hW _ _ _
  have hval : ∀ (j : Nat) t v, Tryz.f3.params[j]? = some t → args[j]? = some v → Value.okWide Tryz.prog W .any base t v := hval0
  have hW' := hW
  obtain ⟨p, q, hA0, hV, rfl, _, _⟩ := hW
  have hA : DataW.TrodAll enc Tryz.prog W 0 (fun _ => true) true Tryz.f3.params.toList args.toList ds p := hA0
  rw [Tryz.params3] at hA hval
  obtain ⟨v0, vs0, d0, ds0, p0, q0, hargs, rfl, rfl, h0, r0⟩ := trodAll_cons hA
  obtain ⟨v1, vs1, d1, ds1, p1, q1, rfl, rfl, rfl, h1, r1⟩ := trodAll_cons r0
  obtain ⟨v2, vs2, d2, ds2, p2, q2, rfl, rfl, rfl, h2, r2⟩ := trodAll_cons r1
  obtain ⟨rfl, rfl, rfl⟩ := trodAll_nil r2
  obtain rfl : args = #[v0, v1, v2] := by cases args; simp_all
  obtain ⟨rfl, rfl⟩ := trodVars_none hV
  have k0 := h0
  have lt0 : ∀ x ∈ p0, x.block < W.heap.size := by obtain ⟨m, hm⟩ := k0; exact DataW.trod_lt m _ _ _ hm
  obtain ⟨a0, rfl, hf0⟩ := agg_of (f := 8) (ls := (leafs Tryz.prog 8 23).getD []) Tryz.underlying23 (hval 0 23 v0 rfl rfl) (by kernel_rfl) h0
  obtain ⟨b0_0, b0_1, b0_2, rfl⟩ := how_agg hf0
  have k1 := h1
  have lt1 : ∀ x ∈ p1, x.block < W.heap.size := by obtain ⟨m, hm⟩ := k1; exact DataW.trod_lt m _ _ _ hm
  obtain ⟨o1, len1, c1, rfl⟩ := okWide_slice Tryz.underlying24 (hval 1 24 v1 rfl rfl)
  obtain ⟨a1, hn1, hr1, hq1, hl1, hm1⟩ := slice_rel (w := W) (enc := enc) (base := 0) (spare := fun _ => true) (held := true) factL (FActQ W) fact_read factL_length Tryz.underlying24 (by decide) (by kernel_rfl) h1
  subst hn1
  have k2 := h2
  have lt2 : ∀ x ∈ p2, x.block < W.heap.size := by obtain ⟨m, hm⟩ := k2; exact DataW.trod_lt m _ _ _ hm
  obtain ⟨a2, rfl, hf2⟩ := agg_of (f := 8) (ls := (leafs Tryz.prog 8 29).getD []) Tryz.underlying29 (hval 2 29 v2 rfl rfl) (by kernel_rfl) h2
  obtain ⟨b2_0, rfl⟩ := key_agg hf2
  clear hA0 hval0
  refine (fplays_row W b0_0 b0_1 b0_2 o1 c1 a1 hr1 hq1 (And.intro hl1 hm1).1 (And.intro hl1 hm1).2 b2_0).mono fun e W' ⟨he, bel⟩ => ?_
  subst he
  exact ⟨_, rfl, _, _, _, [], _, [], hW', trodAll_mk1 (shut_bool Tryz.underlying4 _), (trodAll_cons_mk (Below.trod laidOut (by kernel_rfl) (of_decide_eq_true (by kernel_rfl)) k0 bel lt0) (trodAll_cons_mk (Below.trod laidOut (by kernel_rfl) (of_decide_eq_true (by kernel_rfl)) k1 bel lt1) (trodAll_cons_mk (Below.trod laidOut (by kernel_rfl) (of_decide_eq_true (by kernel_rfl)) k2 bel lt2) trodAll_mk0))), rfl, bel.frame _, fun h => by cases h⟩
theorem over : Rows.findPlaysRow.holds Tryz.pinned (OpenSpec.ofChange Rows.findPlaysSpec) :=
  OpenClaim.holds_of_wide 3 Tryz.f3 rfl rfl rfl rfl rfl rfl rfl ⟨rfl, rfl, rfl, rfl, rfl⟩ rfl rfl rfl rfl rfl (by kernel_rfl) Tryz.func3 (by kernel_rfl)
    (of_decide_eq_true (by kernel_rfl)) (by unfold Func.isWrapper; first | (rw [if_pos (by decide +kernel)]; kernel_rfl) | (rw [if_neg (by decide +kernel)]; exact ⟨rfl, rfl⟩))
    (fun os started H enc _ => lifted os started H enc)
theorem proved : Rows.FindPlaysSaid := over
#print axioms proved
end Go.Proofs.YtnfbchhbcinloaaGreat.findPlays
namespace Go.Proofs.YtnfbchhbcinloaaGreat
/-- the statement, under a short name -/
theorem findPlays_holds : Rows.FindPlaysSaid := findPlays.proved
end Go.Proofs.YtnfbchhbcinloaaGreat
