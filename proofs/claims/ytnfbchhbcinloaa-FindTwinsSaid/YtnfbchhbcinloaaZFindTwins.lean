/- The statement FindTwins: it holds for every input.  No conditions. -/
import Derived.Test.YtnfbchhbcinloaaRows
import Derived.WalkKit
import Derived.ProofKit
import Derived.OpenShut
import Derived.ShutString
import Derived.ChangeOld
import Derived.Below
import Derived.SizedLaws
import Derived.Test.YtnfbchhbcinloaaQd
/- The walk over the statement FindSame. -/
namespace Go.FindPure
open Go Go.XR Go.IndexPure Go.CachePure
theorem fFind_same (M : FinT) (k : KeyT) (d : Nat) (L : List RowT) : (fFind M k d L).2.D = M.D ∧ (fFind M k d L).2.asked ≤ M.asked + 1 ∧ (fFind M k d L).2.loaded ≤ M.loaded + 1 := by
  unfold fFind
  split
  · cases cGet M.C k with
    | some v => exact ⟨rfl, Nat.le_succ _, Nat.le_succ _⟩
    | none =>
      cases aget M.D k with
      | none => exact ⟨rfl, Nat.le_refl _, Nat.le_succ _⟩
      | some v => exact ⟨rfl, Nat.le_refl _, Nat.le_refl _⟩
  · exact ⟨rfl, Nat.le_succ _, Nat.le_succ _⟩
theorem allof_uniq {D L M : List RowT} (hL : AllOf D L) (hM : AllOf D M) : L = M :=
  eq_of_strict (r := fun x y => cfA x y < 0) (fun x y h1 h2 => by have := cfK_swap x.1 y.1; unfold cfA at *; omega) L M hL.2 hM.2 fun r => by
    rw [hL.1.mem_iff, hM.1.mem_iff]
end Go.FindPure
namespace Go.Proofs.Ytnfbchhbcinloaa
open Go.RowKit Go.XR Go.IndexPure Go.CachePure Go.FindPure
theorem zero_fact : ∃ zs : Array Value, zs.size = 38 ∧ ∀ w, (zeroValue 74).run Try.prog w = .ok (.agg zs) w := ⟨_, rfl, fun w => Try.zeroValue74 w⟩
theorem factSize (a : FActT) : (Try.prog.info? 74).map (·.size) = some (factC a).size := by rw [factC_size]; kernel_rfl
set_option maxHeartbeats 8000000 in
set_option maxRecDepth 100000 in
theorem same_walk (w : World) (x y z : I64) (a : Option Addr) (c : Nat) (l : List FActT) (hR : Row w a (l.flatMap factL)) (hQ : ∀ q ∈ l, FActQ w q) (hc : l.length ≤ c) (hcm : c ≤ maxLen) :
    Calls Try.prog 9 #[.agg (howC x.1 y.1 z.1), .slice a l.length c] w (RetBool w true) := by
  have HR := Lib.hid hR
  have HQ := Lib.hid hQ
  have Hlc : Hid (l.length ≤ c ∧ c ≤ maxLen) := ⟨hc, hcm⟩
  obtain ⟨zr, hzr, hzr2⟩ := zero_row
  have Hzr := Lib.hid hzr2
  obtain ⟨za, hza, hza2⟩ := zero_fact
  have Hza := Lib.hid hza2
  clear hR hQ hc hcm hzr2 hza2
  obtain ⟨x, hx⟩ := x
  obtain ⟨y, hy⟩ := y
  obtain ⟨z, hz⟩ := z
  have Hxyz : Hid ((-9223372036854775808 ≤ x ∧ x ≤ 9223372036854775807) ∧ (-9223372036854775808 ≤ y ∧ y ≤ 9223372036854775807) ∧ (-9223372036854775808 ≤ z ∧ z ≤ 9223372036854775807)) := ⟨hx, hy, hz⟩
  show Calls Try.prog 9 #[.agg (howC x y z), .slice a l.length c] w (RetBool w true)
  clear hx hy hz
  unfold howC
  go_enter Try.func9, Try.ntmps9
  go_wp2_with fail
  refine (shown15_any _).mono ?_
  rintro e w1 ⟨rfl, hb1⟩
  have Hb1 : Hid (Below w.heap.size w w1) := ((Below.refl w.heap.size w).alloc (Nat.le_refl _) _).trans (hb1.mono (by simp))
  have hc0 : w1.cell? ⟨w.heap.size, 0, none⟩ = some (.int .i64 x) := by rw [hb1.cell (p := ⟨w.heap.size, 0, none⟩) (by simp)]; simp
  have hc1 : w1.cell? ⟨w.heap.size, 1, none⟩ = some (.int .i64 y) := by rw [hb1.cell (p := ⟨w.heap.size, 1, none⟩) (by simp)]; simp
  have hc2 : w1.cell? ⟨w.heap.size, 2, none⟩ = some (.int .i64 z) := by rw [hb1.cell (p := ⟨w.heap.size, 2, none⟩) (by simp)]; simp
  clear hb1
  go_wp2_with fail
  have hri := right_any w1 x y z Hxyz.out.1 Hxyz.out.2.1 Hxyz.out.2.2
  unfold howC at hri
  refine hri.mono ?_
  rintro e w2 ⟨rfl, hb2⟩
  have Hb2 := Lib.hid (Hb1.out.trans (hb2.mono Hb1.out.size))
  have b1 := modF_b x (m := 2001) (by omega)
  have b2 := modF_b y (m := 31) (by omega)
  have b3 := modF_b z (m := 20) (by omega)
  generalize modF x 2001 = x' at *
  generalize modF y 31 = y' at *
  generalize modF z 20 = z' at *
  clear hri hb2 hc0 hc1 hc2 Hb1
  go_wp2_with fail
  have hb3 : Below w2.heap.size w2 (w2.alloc (.cells #[.int .i64 x', .int .i64 y', .int .i64 z'] 58)) := (Below.refl _ _).alloc (Nat.le_refl _) _
  have Hb3 := Lib.hid (Hb2.out.trans (hb3.mono Hb2.out.size))
  generalize w2.alloc (.cells #[.int .i64 x', .int .i64 y', .int .i64 z'] 58) = w3 at *
  clear hb3 Hb2
  refine (fnew_any w3 x' y' z').mono ?_
  intro e w4 h4
  rcases h4.on with ⟨hbad, _⟩ | ⟨fa, fb, fc, hfa, hfb, hfc, _, p, F, rfl, hF, hFB, hb4⟩
  · exact absurd ⟨⟨by omega, by omega⟩, ⟨by omega, by omega⟩, ⟨by omega, by omega⟩⟩ hbad
  have HF := Lib.hid hF
  have HFB : Hid (∀ b ∈ F, w.heap.size ≤ b) := fun b h => Nat.le_trans Hb3.out.size (hFB b h)
  have Hb4 := Lib.hid (Hb3.out.trans (hb4.mono Hb3.out.size))
  clear h4 hfa hfb hfc hF hFB hb4 Hb3 b1 b2 b3
  go_wp2_with fail
  refine (new_any w4).mono ?_
  intro e w5 h5
  obtain ⟨xp, X, rfl, hix, hxn, hb5⟩ := RetNew.ix h5
  have HI5 := Lib.hid hix
  have HF5 := Lib.hid (HF.out.below hb5)
  have Hdis5 : Hid (∀ b ∈ F, b ∉ X) := fun b h1 h2 => by have := HF.out.lt b h1; have := hxn b h2; omega
  have HXB5 : Hid (∀ b ∈ X, w.heap.size ≤ b) := fun b h => Nat.le_trans Hb4.out.size (hxn b h)
  have Hb5 := Lib.hid (Hb4.out.trans (hb5.mono Hb4.out.size))
  clear h5 hix hxn hb5 HF Hb4
  go_wp2_with fail
  refine (ffew_any w5 a c l (HR.out.below (Below.mono (show Below w.heap.size w w5 from Hb5.out) (Nat.le_refl _))) (Nat.le_trans Hlc.out.1 Hlc.out.2) Hlc.out.1 (fun q hq => Nat.le_trans (HQ.out q hq).2.1 (HQ.out q hq).2.2)).mono ?_
  rintro e w6 ⟨n, hnl, hn150, rfl, hw6, hbl⟩
  rw [hw6]
  have Hbl := Lib.hid hbl
  obtain ⟨S, hS⟩ : ∃ S, l.take n = S := ⟨_, rfl⟩
  have HSl : Hid (S.length = n) := by unfold Hid; rw [← hS, List.length_take]; omega
  have HRS : Hid (Row w a (S.flatMap factL)) := by
    have h1 := HR.out.take (n * 38)
    rw [flat_take factL_length l hnl, hS] at h1
    exact h1
  have HQS : Hid (∀ q ∈ S, FActQ w q ∧ q.b.length ≤ 2000) := fun q hq => by
    rw [← hS] at hq
    exact ⟨HQ.out q (List.mem_of_mem_take hq), Hbl.out q hq⟩
  have hnc : n ≤ c := Nat.le_trans hnl Hlc.out.1
  clear hw6 hbl Hbl hS HR HQ Hlc hnl
  go_wp2
  go_loopg [47] n (fun m i wr => ∃ j : Nat, j ≤ n ∧ i = .int .i64 j ∧ Hid (m = n - j ∧ Below w.heap.size w wr ∧ ∃ M F X, FOn wr p F M ∧ Ix wr X xp M.D ∧ Inv M ∧ (∀ b ∈ F, b ∉ X) ∧ (∀ b ∈ F, w.heap.size ≤ b) ∧ (∀ b ∈ X, w.heap.size ≤ b) ∧ M.D.length ≤ j ∧ M.asked ≤ j ∧ M.loaded ≤ j))
  case atStart => exact ⟨0, by omega, rfl, rfl, Hb5.out, _, F, X, HF5.out, HI5.out, fin0_inv _ _ _, Hdis5.out, HFB.out, HXB5.out, Nat.le_refl _, Nat.le_refl _, Nat.le_refl _⟩
  case round =>
    obtain ⟨j, hj, rfl, hr⟩ := hrel
    have Hm := Lib.hid hr.out.1
    have Hbw := Lib.hid hr.out.2.1
    obtain ⟨M, F1, X1, hF1, hI1, hinv, hdis, hFB1, hXB1, hDl, hasked, hloaded⟩ := hr.out.2.2
    have HF1 := Lib.hid hF1
    have HI1 := Lib.hid hI1
    have HInv := Lib.hid hinv
    have Hdis1 := Lib.hid hdis
    have HFB1 := Lib.hid hFB1
    have HXB1 := Lib.hid hXB1
    have HDl : Hid (M.D.length ≤ j ∧ M.asked ≤ j ∧ M.loaded ≤ j) := ⟨hDl, hasked, hloaded⟩
    clear hr hF1 hI1 hinv hdis hFB1 hXB1 hDl hasked hloaded
    by_cases hlt : j < n
    · have hlt2 : (j : Int) < (n : Int) := by omega
      have hltS : j < S.length := by rw [HSl.out]; exact hlt
      obtain ⟨g, o, rfl, hX⟩ := row_at factL_length (HRS.out.below Hbw.out) hltS (by omega)
      have HX : Hid (At wr g (o + j * 38) (factC S[j])) := hX
      have Hact := Lib.hid (HQS.out _ (List.getElem_mem hltS))
      clear hX
      generalize S[j] = act at *
      clear hltS
      go_wp2_with (first | (refine opIs (X := .load 74 (.tmp 49)) rfl ?_; refine wpList_load_at rfl 74 (.tmp 49) rfl g (o + j * 38) (by kernel_rfl) (factC act) HX.out _ Try.underlying74 rfl (factSize act) ?_) | (refine wpList_alloc_new rfl 74 rfl za (Hza.out _) ?_) | (refine opIs (X := .store 74 (.tmp 11) (.tmp 50)) rfl ?_; refine wpList_store_new rfl 74 (.tmp 11) (.tmp 50) rfl za (factC act) 74 (by kernel_rfl) (by kernel_rfl) (by rw [hza, factC_size]) (one_factL act) (factSize act) ?_; refine Go.XR.stop (fun X hX => ?_)) | fail)
      refine hX.out ?_
      clear hX X
      obtain ⟨W3, hW3⟩ : ∃ W3, wr.alloc (.cells (factC act) 74) = W3 := ⟨_, rfl⟩
      have hb3 : Below wr.heap.size wr W3 := by rw [← hW3]; exact (Below.refl _ _).alloc (Nat.le_refl _) _
      have HA3 : Hid (At W3 wr.heap.size 0 (factC act)) := by unfold Hid; rw [← hW3]; exact At.new _ _ _
      have HF3 := Lib.hid (HF1.out.below hb3)
      have HI3 := Lib.hid (HI1.out.below hb3)
      have HaF3 : Hid (wr.heap.size ∉ F1 ∧ wr.heap.size ∉ X1) := ⟨fun h => by have := HF1.out.lt _ h; omega, fun h => by have := HI1.out.fin _ h; omega⟩
      have Hb3 := Lib.hid (Hbw.out.trans (hb3.mono Hbw.out.size))
      obtain ⟨ab, hab⟩ : ∃ ab, wr.heap.size = ab := ⟨_, rfl⟩
      rw [hab] at HA3 HaF3 ⊢
      rw [hW3]
      clear hb3 hW3 hab HX HF1 HI1 Hbw
      go_wp2_with (first | (refine opIs (X := .load 74 (.tmp 11)) rfl ?_; refine wpList_load_at rfl 74 (.tmp 11) rfl ab 0 rfl (factC act) HA3.out _ Try.underlying74 rfl (factSize act) ?_) | fail)
      refine (does_any W3 p F1 M HF3.out (by have := HDl.out.1; omega) act (Hact.out.1.1.below Hb3.out) Hact.out.2 (fun hl g o hg hm => by
        obtain ⟨g', o', hg', hcell⟩ := Hact.out.1.1.get (j := 0) (u := byV (act.b[0]'hl)) (by rw [List.getElem?_map, List.getElem?_eq_getElem hl]; rfl)
        rw [hg] at hg'
        cases hg'
        have h1 := cell_lt hcell
        have h2 := HFB1.out g hm
        have h3 : g < w.heap.size := h1
        omega)).mono ?_
      rintro e w4 ⟨rfl, M', hdo, F4, hF4, hb4, hg4⟩
      have Hdo := Lib.hid hdo
      have HF4 := Lib.hid hF4
      have HI4 := Lib.hid (HI3.out.but hb4 (fun b h1 h2 => Hdis1.out b h2 h1))
      have Hdis4 := Lib.hid (dis_grew Hdis1.out hg4 HI3.out.fin)
      have HFB4 := Lib.hid (base_grew HFB1.out hg4 Hb3.out.size)
      have HA4 := Lib.hid (HA3.out.but hb4 HaF3.out.1)
      have hab3 : ab < W3.heap.size := HA3.out.lt (by rw [factC_size]; omega)
      have HaF4 : Hid (ab ∉ F4 ∧ ab ∉ X1) := ⟨fun h => by
        rcases hg4 _ h with h1 | h1
        · exact HaF3.out.1 h1
        · omega, HaF3.out.2⟩
      have Hb4 := Lib.hid (Hb3.out.trans (hb4.below Hb3.out.size HFB1.out))
      clear hdo hF4 hb4 hg4 hab3 HF3 HI3 HFB1 HA3 HaF3 Hb3 Hdis1
      have ck : w4.cell? ⟨ab, 0, none⟩ = some (.int .u8 (act.kind : Int)) := fact_at HA4.out (fact_kind act)
      have hk := act.hk
      obtain ⟨q, hq5⟩ : ∃ q, act.kind % 5 = q := ⟨_, rfl⟩
      have hqi : (act.kind : Int) % 5 = (q : Int) := by omega
      have hqlt : q < 5 := by omega
      have HRow4 := fact_row HA4.out
      have HK4 := Lib.hid (row_at_key HRow4)
      have HP4 := Lib.hid (row_at_place HRow4)
      have Hds : Hid (dStep M.D act.kind act.key act.place = if q = 0 then aput (adel M.D act.key) act.key act.place else if q = 1 then adel M.D act.key else M.D) := by unfold Hid dStep; rw [hq5]
      clear hq5 HRow4
      by_cases hq0 : q = 0
      · subst hq0
        have hds : dStep M.D act.kind act.key act.place = aput (adel M.D act.key) act.key act.place := by rw [Hds.out, if_pos rfl]
        have Hds2 := Lib.hid hds
        clear hds
        go_wp2_with (first | (refine opIs (X := .load 27 (.tmp 61)) rfl ?_; refine wpList_load_at rfl 27 (.tmp 61) rfl ab (0 + 1) rfl (keyC act.key) HK4.out _ Try.underlying27 rfl (keySize _) ?_) | (refine opIs (X := .load 33 (.tmp 64)) rfl ?_; refine wpList_load_at rfl 33 (.tmp 64) rfl ab (0 + 1 + 33) rfl (placeC act.place) HP4.out _ Try.underlying33 rfl (placeSize _) ?_) | fail)
        refine (put_any w4 X1 xp M.D HI4.out (by have := HDl.out.1; omega) act.key act.place act.ok).mono ?_
        rintro e w6 ⟨rfl, X6, hI6, hb6, hg6⟩
        have HI6 : Hid (Ix w6 X6 xp M'.D) := by unfold Hid; rw [Hdo.out.d, Hds2.out]; exact hI6
        have HF6 := Lib.hid (HF4.out.but hb6 (fun b h1 h2 => Hdis4.out b h1 h2))
        have Hdis6 : Hid (∀ b ∈ F4, b ∉ X6) := fun b h1 h2 => dis_grew (fun b h1 h2 => Hdis4.out b h2 h1) hg6 HF4.out.lt b h2 h1
        have HFB6 := Lib.hid HFB4.out
        have HXB6 := Lib.hid (base_grew HXB1.out hg6 Hb4.out.size)
        have HA6 := Lib.hid (HA4.out.but hb6 HaF4.out.2)
        have hab4 : ab < w4.heap.size := HA4.out.lt (by rw [factC_size]; omega)
        have HaF6 : Hid (ab ∉ F4 ∧ ab ∉ X6) := ⟨HaF4.out.1, fun h => by
          rcases hg6 _ h with h1 | h1
          · exact HaF4.out.2 h1
          · omega⟩
        have Hb6 := Lib.hid (Hb4.out.trans (hb6.below Hb4.out.size HXB1.out))
        generalize (aget M.D act.key).isSome = u6
        clear hI6 hb6 hg6 hab4 HI4 HF4 Hdis4 HFB4 HXB1 HA4 HaF4 Hb4 ck HK4 HP4 Hds Hds2 hqi
        have hinv2 := Hdo.out.inv HInv.out
        have HInv2 := Lib.hid hinv2
        have hD2 : M'.D.length ≤ j + 1 := by
          rw [Hdo.out.d]
          have h1 := HDl.out.1
          unfold dStep
          split
          · have h2 := aput_le (adel M.D act.key) act.key act.place
            have h3 := adel_len M.D act.key
            omega
          · split
            · have h3 := adel_len M.D act.key
              omega
            · omega
        have HD2 : Hid (M'.D.length ≤ j + 1 ∧ M'.asked ≤ j ∧ M'.loaded ≤ j) := ⟨hD2, by rw [Hdo.out.asked]; exact HDl.out.2.1, by rw [Hdo.out.loaded]; exact HDl.out.2.2⟩
        have cd6 : w6.cell? ⟨ab, 36, none⟩ = some (.int .u64 (act.draw : Int)) := by have := fact_at HA6.out (fact_draw act); rwa [Nat.zero_add] at this
        have HK6 := Lib.hid (row_at_key (fact_row HA6.out))
        clear hinv2 hD2 HInv
        go_wp2_with (first | (refine opIs (X := .load 27 (.tmp 77)) rfl ?_; refine wpList_load_at rfl 27 (.tmp 77) rfl ab (0 + 1) rfl (keyC act.key) HK6.out _ Try.underlying27 rfl (keySize _) ?_) | fail)
        refine (fo_find HF6.out (by have := HD2.out.1; omega) (by have := HD2.out.2.1; omega) (by have := HD2.out.2.2; omega) act.key act.draw act.hd).mono ?_
        rintro e w7 ⟨L7, hL7, rfl, F7, hF7, hb7, hg7⟩
        have hval := fFind_val HInv2.out act.key act.draw L7
        have hinv7 := fFind_inv HInv2.out act.key act.draw L7 hL7 (fun v hv => (HF6.out.rng _ _ hv).1)
        have hfd := fFind_same M' act.key act.draw L7
        obtain ⟨M7, hM7⟩ : ∃ M7, (fFind M' act.key act.draw L7).2 = M7 := ⟨_, rfl⟩
        rw [hM7] at hF7 hinv7 hfd
        rw [hval]
        have HF7 := Lib.hid hF7
        have HInv7 := Lib.hid hinv7
        have HD7 : Hid (M7.D = M'.D ∧ M7.asked ≤ j + 1 ∧ M7.loaded ≤ j + 1) := ⟨hfd.1, by have := hfd.2.1; have := HD2.out.2.1; omega, by have := hfd.2.2; have := HD2.out.2.2; omega⟩
        have HI7 := Lib.hid (HI6.out.but hb7 (fun b h1 h2 => Hdis6.out b h2 h1))
        have Hdis7 := Lib.hid (dis_grew Hdis6.out hg7 HI6.out.fin)
        have HFB7 := Lib.hid (base_grew HFB6.out hg7 Hb6.out.size)
        have HA7 := Lib.hid (HA6.out.but hb7 (fun h => HaF6.out.1 h))
        have HaX7 := Lib.hid HaF6.out.2
        have Hb7 := Lib.hid (Hb6.out.trans (hb7.below Hb6.out.size HFB6.out))
        obtain ⟨v, hv⟩ : ∃ v, (aget M'.D act.key).getD place0 = v := ⟨_, rfl⟩
        obtain ⟨is, his⟩ : ∃ b, (aget M'.D act.key).isSome = b := ⟨_, rfl⟩
        have Hv : Hid ((aget M'.D act.key).getD place0 = v ∧ (aget M'.D act.key).isSome = is) := ⟨hv, his⟩
        rw [hv, his, show placeV v = .agg #[.int .i64 v.shelf, .int .i64 v.slot] from rfl]
        clear hL7 hF7 hb7 hg7 hval hinv7 hfd hM7 hv his cd6 HK6 HF6 HI6 Hdis6 HFB6 HA6 HaF6 Hb6 HInv2
        have HK7 := Lib.hid (row_at_key (fact_row HA7.out))
        obtain ⟨W8, hW8⟩ : ∃ W8, w7.alloc (.cells #[.int .i64 v.shelf, .int .i64 v.slot] 33) = W8 := ⟨_, rfl⟩
        have hb8 : Below w7.heap.size w7 W8 := by rw [← hW8]; exact (Below.refl _ _).alloc (Nat.le_refl _) _
        have HP8 : Hid (Blk W8 w7.heap.size [.int .i64 v.shelf, .int .i64 v.slot]) := by unfold Hid; rw [← hW8]; exact Blk.new w7 #[.int .i64 v.shelf, .int .i64 v.slot] _
        obtain ⟨pb, hpb⟩ : ∃ pb, w7.heap.size = pb := ⟨_, rfl⟩
        rw [hpb] at HP8
        have HK8 := Lib.hid (HK7.out.below (by rw [keyC_size]; omega) hb8)
        have HI8 := Lib.hid (HI7.out.below hb8)
        have HF8 := Lib.hid (HF7.out.below hb8)
        have Hb8 := Lib.hid (Hb7.out.trans (hb8.mono Hb7.out.size))
        clear hb8 HK7 HA7 HI7 HF7 Hb7 HaX7
        go_wp2_with (first | (refine opIs (X := .load 27 (.tmp 87)) rfl ?_; refine Go.XR.stop (fun X hX => ?_)) | fail)
        refine hX.out ?_
        clear hX X hW8 hpb
        go_wp2_with (first | (refine opIs (X := .load 27 (.tmp 87)) rfl ?_; refine wpList_load_at rfl 27 (.tmp 87) rfl ab (0 + 1) rfl (keyC act.key) HK8.out _ Try.underlying27 rfl (keySize _) ?_) | fail)
        refine (ix_get HI8.out act.key).mono ?_
        rintro e w9 ⟨rfl, hb9⟩
        rw [Hv.out.1, Hv.out.2, show placeV v = .agg #[.int .i64 v.shelf, .int .i64 v.slot] from rfl]
        have HP9 := Lib.hid (HP8.out.below hb9)
        have HI9 := Lib.hid (HI8.out.below hb9)
        have HF9 := Lib.hid (HF8.out.below hb9)
        have Hb9 := Lib.hid (Hb8.out.trans (hb9.mono Hb8.out.size))
        clear hb9 HP8 HI8 HF8 Hb8 HK8
        have d0 := HP9.out.cell (i := 0) rfl
        have d1 := HP9.out.cell (i := 1) rfl
        have hpl := HP9.out.lt
        have hbz := beq_self_eq_true is
        go_wp2
        have hb10 : Below w9.heap.size w9 (w9.alloc (.cells #[.int .i64 v.shelf, .int .i64 v.slot] 33)) := (Below.refl _ _).alloc (Nat.le_refl _) _
        go_roundg (n - (j + 1))
        case measure => have := Hm.out; omega
        case rel => exact ⟨j + 1, by omega, by go_num, rfl, Hb9.out.trans (hb10.mono Hb9.out.size), M7, F7, X6, HF9.out.below hb10, by rw [HD7.out.1]; exact HI9.out.below hb10, HInv7.out, Hdis7.out, HFB7.out, HXB6.out, by rw [HD7.out.1]; exact HD2.out.1, HD7.out.2⟩
      · by_cases hq1 : q = 1
        · subst hq1
          have hds : dStep M.D act.kind act.key act.place = adel M.D act.key := by rw [Hds.out]; rfl
          have Hds2 := Lib.hid hds
          clear hds hq0
          go_wp2_with (first | (refine opIs (X := .load 27 (.tmp 71)) rfl ?_; refine wpList_load_at rfl 27 (.tmp 71) rfl ab (0 + 1) rfl (keyC act.key) HK4.out _ Try.underlying27 rfl (keySize _) ?_) | fail)
          refine (drop_any w4 X1 xp M.D HI4.out (by have := HDl.out.1; omega) act.key).mono ?_
          rintro e w6 ⟨rfl, X6, hI6, hb6, hg6⟩
          have HI6 : Hid (Ix w6 X6 xp M'.D) := by unfold Hid; rw [Hdo.out.d, Hds2.out]; exact hI6
          have HF6 := Lib.hid (HF4.out.but hb6 (fun b h1 h2 => Hdis4.out b h1 h2))
          have Hdis6 : Hid (∀ b ∈ F4, b ∉ X6) := fun b h1 h2 => dis_grew (fun b h1 h2 => Hdis4.out b h2 h1) hg6 HF4.out.lt b h2 h1
          have HFB6 := Lib.hid HFB4.out
          have HXB6 := Lib.hid (base_grew HXB1.out hg6 Hb4.out.size)
          have HA6 := Lib.hid (HA4.out.but hb6 HaF4.out.2)
          have hab4 : ab < w4.heap.size := HA4.out.lt (by rw [factC_size]; omega)
          have HaF6 : Hid (ab ∉ F4 ∧ ab ∉ X6) := ⟨HaF4.out.1, fun h => by
            rcases hg6 _ h with h1 | h1
            · exact HaF4.out.2 h1
            · omega⟩
          have Hb6 := Lib.hid (Hb4.out.trans (hb6.below Hb4.out.size HXB1.out))
          generalize (aget M.D act.key).isSome = u6
          clear hI6 hb6 hg6 hab4 HI4 HF4 Hdis4 HFB4 HXB1 HA4 HaF4 Hb4 ck HK4 HP4 Hds Hds2 hqi
          have hinv2 := Hdo.out.inv HInv.out
          have HInv2 := Lib.hid hinv2
          have hD2 : M'.D.length ≤ j + 1 := by
            rw [Hdo.out.d]
            have h1 := HDl.out.1
            unfold dStep
            split
            · have h2 := aput_le (adel M.D act.key) act.key act.place
              have h3 := adel_len M.D act.key
              omega
            · split
              · have h3 := adel_len M.D act.key
                omega
              · omega
          have HD2 : Hid (M'.D.length ≤ j + 1 ∧ M'.asked ≤ j ∧ M'.loaded ≤ j) := ⟨hD2, by rw [Hdo.out.asked]; exact HDl.out.2.1, by rw [Hdo.out.loaded]; exact HDl.out.2.2⟩
          have cd6 : w6.cell? ⟨ab, 36, none⟩ = some (.int .u64 (act.draw : Int)) := by have := fact_at HA6.out (fact_draw act); rwa [Nat.zero_add] at this
          have HK6 := Lib.hid (row_at_key (fact_row HA6.out))
          clear hinv2 hD2 HInv
          go_wp2_with (first | (refine opIs (X := .load 27 (.tmp 77)) rfl ?_; refine wpList_load_at rfl 27 (.tmp 77) rfl ab (0 + 1) rfl (keyC act.key) HK6.out _ Try.underlying27 rfl (keySize _) ?_) | fail)
          refine (fo_find HF6.out (by have := HD2.out.1; omega) (by have := HD2.out.2.1; omega) (by have := HD2.out.2.2; omega) act.key act.draw act.hd).mono ?_
          rintro e w7 ⟨L7, hL7, rfl, F7, hF7, hb7, hg7⟩
          have hval := fFind_val HInv2.out act.key act.draw L7
          have hinv7 := fFind_inv HInv2.out act.key act.draw L7 hL7 (fun v hv => (HF6.out.rng _ _ hv).1)
          have hfd := fFind_same M' act.key act.draw L7
          obtain ⟨M7, hM7⟩ : ∃ M7, (fFind M' act.key act.draw L7).2 = M7 := ⟨_, rfl⟩
          rw [hM7] at hF7 hinv7 hfd
          rw [hval]
          have HF7 := Lib.hid hF7
          have HInv7 := Lib.hid hinv7
          have HD7 : Hid (M7.D = M'.D ∧ M7.asked ≤ j + 1 ∧ M7.loaded ≤ j + 1) := ⟨hfd.1, by have := hfd.2.1; have := HD2.out.2.1; omega, by have := hfd.2.2; have := HD2.out.2.2; omega⟩
          have HI7 := Lib.hid (HI6.out.but hb7 (fun b h1 h2 => Hdis6.out b h2 h1))
          have Hdis7 := Lib.hid (dis_grew Hdis6.out hg7 HI6.out.fin)
          have HFB7 := Lib.hid (base_grew HFB6.out hg7 Hb6.out.size)
          have HA7 := Lib.hid (HA6.out.but hb7 (fun h => HaF6.out.1 h))
          have HaX7 := Lib.hid HaF6.out.2
          have Hb7 := Lib.hid (Hb6.out.trans (hb7.below Hb6.out.size HFB6.out))
          obtain ⟨v, hv⟩ : ∃ v, (aget M'.D act.key).getD place0 = v := ⟨_, rfl⟩
          obtain ⟨is, his⟩ : ∃ b, (aget M'.D act.key).isSome = b := ⟨_, rfl⟩
          have Hv : Hid ((aget M'.D act.key).getD place0 = v ∧ (aget M'.D act.key).isSome = is) := ⟨hv, his⟩
          rw [hv, his, show placeV v = .agg #[.int .i64 v.shelf, .int .i64 v.slot] from rfl]
          clear hL7 hF7 hb7 hg7 hval hinv7 hfd hM7 hv his cd6 HK6 HF6 HI6 Hdis6 HFB6 HA6 HaF6 Hb6 HInv2
          have HK7 := Lib.hid (row_at_key (fact_row HA7.out))
          obtain ⟨W8, hW8⟩ : ∃ W8, w7.alloc (.cells #[.int .i64 v.shelf, .int .i64 v.slot] 33) = W8 := ⟨_, rfl⟩
          have hb8 : Below w7.heap.size w7 W8 := by rw [← hW8]; exact (Below.refl _ _).alloc (Nat.le_refl _) _
          have HP8 : Hid (Blk W8 w7.heap.size [.int .i64 v.shelf, .int .i64 v.slot]) := by unfold Hid; rw [← hW8]; exact Blk.new w7 #[.int .i64 v.shelf, .int .i64 v.slot] _
          obtain ⟨pb, hpb⟩ : ∃ pb, w7.heap.size = pb := ⟨_, rfl⟩
          rw [hpb] at HP8
          have HK8 := Lib.hid (HK7.out.below (by rw [keyC_size]; omega) hb8)
          have HI8 := Lib.hid (HI7.out.below hb8)
          have HF8 := Lib.hid (HF7.out.below hb8)
          have Hb8 := Lib.hid (Hb7.out.trans (hb8.mono Hb7.out.size))
          clear hb8 HK7 HA7 HI7 HF7 Hb7 HaX7
          go_wp2_with (first | (refine opIs (X := .load 27 (.tmp 87)) rfl ?_; refine Go.XR.stop (fun X hX => ?_)) | fail)
          refine hX.out ?_
          clear hX X hW8 hpb
          go_wp2_with (first | (refine opIs (X := .load 27 (.tmp 87)) rfl ?_; refine wpList_load_at rfl 27 (.tmp 87) rfl ab (0 + 1) rfl (keyC act.key) HK8.out _ Try.underlying27 rfl (keySize _) ?_) | fail)
          refine (ix_get HI8.out act.key).mono ?_
          rintro e w9 ⟨rfl, hb9⟩
          rw [Hv.out.1, Hv.out.2, show placeV v = .agg #[.int .i64 v.shelf, .int .i64 v.slot] from rfl]
          have HP9 := Lib.hid (HP8.out.below hb9)
          have HI9 := Lib.hid (HI8.out.below hb9)
          have HF9 := Lib.hid (HF8.out.below hb9)
          have Hb9 := Lib.hid (Hb8.out.trans (hb9.mono Hb8.out.size))
          clear hb9 HP8 HI8 HF8 Hb8 HK8
          have d0 := HP9.out.cell (i := 0) rfl
          have d1 := HP9.out.cell (i := 1) rfl
          have hpl := HP9.out.lt
          have hbz := beq_self_eq_true is
          go_wp2
          have hb10 : Below w9.heap.size w9 (w9.alloc (.cells #[.int .i64 v.shelf, .int .i64 v.slot] 33)) := (Below.refl _ _).alloc (Nat.le_refl _) _
          go_roundg (n - (j + 1))
          case measure => have := Hm.out; omega
          case rel => exact ⟨j + 1, by omega, by go_num, rfl, Hb9.out.trans (hb10.mono Hb9.out.size), M7, F7, X6, HF9.out.below hb10, by rw [HD7.out.1]; exact HI9.out.below hb10, HInv7.out, Hdis7.out, HFB7.out, HXB6.out, by rw [HD7.out.1]; exact HD2.out.1, HD7.out.2⟩
        · have hq0i : ¬ (q : Int) = 0 := by omega
          have hq1i : ¬ (q : Int) = 1 := by omega
          have hq0b : ((q : Int) == 0) = false := by rw [beq_eq_false_iff_ne]; exact hq0i
          have hq1b : ((q : Int) == 1) = false := by rw [beq_eq_false_iff_ne]; exact hq1i
          have hds : dStep M.D act.kind act.key act.place = M.D := by rw [Hds.out, if_neg hq0, if_neg hq1]
          have HI6 : Hid (Ix w4 X1 xp M'.D) := by unfold Hid; rw [Hdo.out.d, hds]; exact HI4.out
          clear hds hq0 hq1
          obtain ⟨w6, hw6⟩ : ∃ w6, w4 = w6 := ⟨_, rfl⟩
          obtain ⟨X6, hX6⟩ : ∃ X6, X1 = X6 := ⟨_, rfl⟩
          have HF6 := Lib.hid HF4.out
          have Hdis6 := Lib.hid Hdis4.out
          have HFB6 := Lib.hid HFB4.out
          have HXB6 := Lib.hid HXB1.out
          have HA6 := Lib.hid HA4.out
          have HaF6 := Lib.hid HaF4.out
          have Hb6 := Lib.hid Hb4.out
          clear HI4 HF4 Hdis4 HFB4 HXB1 HA4 HaF4 Hb4 HK4 HP4 Hds
          rw [hw6] at HI6 HF6 HA6 Hb6 ck ⊢
          rw [hX6] at HI6 Hdis6 HXB6 HaF6
          clear hw6 hX6
          go_wp2_with (first | (refine opIs (X := .load 66 (.tmp 79)) rfl ?_; refine Go.XR.stop (fun X hX => ?_)) | (refine opIs (X := .load 27 (.tmp 77)) rfl ?_; refine Go.XR.stop (fun X hX => ?_)))
          refine hX.out ?_
          clear hX X ck hqi hq0b hq1b hq0i hq1i
          have hinv2 := Hdo.out.inv HInv.out
          have HInv2 := Lib.hid hinv2
          have hD2 : M'.D.length ≤ j + 1 := by
            rw [Hdo.out.d]
            have h1 := HDl.out.1
            unfold dStep
            split
            · have h2 := aput_le (adel M.D act.key) act.key act.place
              have h3 := adel_len M.D act.key
              omega
            · split
              · have h3 := adel_len M.D act.key
                omega
              · omega
          have HD2 : Hid (M'.D.length ≤ j + 1 ∧ M'.asked ≤ j ∧ M'.loaded ≤ j) := ⟨hD2, by rw [Hdo.out.asked]; exact HDl.out.2.1, by rw [Hdo.out.loaded]; exact HDl.out.2.2⟩
          have cd6 : w6.cell? ⟨ab, 36, none⟩ = some (.int .u64 (act.draw : Int)) := by have := fact_at HA6.out (fact_draw act); rwa [Nat.zero_add] at this
          have HK6 := Lib.hid (row_at_key (fact_row HA6.out))
          clear hinv2 hD2 HInv
          go_wp2_with (first | (refine opIs (X := .load 27 (.tmp 77)) rfl ?_; refine wpList_load_at rfl 27 (.tmp 77) rfl ab (0 + 1) rfl (keyC act.key) HK6.out _ Try.underlying27 rfl (keySize _) ?_) | fail)
          refine (fo_find HF6.out (by have := HD2.out.1; omega) (by have := HD2.out.2.1; omega) (by have := HD2.out.2.2; omega) act.key act.draw act.hd).mono ?_
          rintro e w7 ⟨L7, hL7, rfl, F7, hF7, hb7, hg7⟩
          have hval := fFind_val HInv2.out act.key act.draw L7
          have hinv7 := fFind_inv HInv2.out act.key act.draw L7 hL7 (fun v hv => (HF6.out.rng _ _ hv).1)
          have hfd := fFind_same M' act.key act.draw L7
          obtain ⟨M7, hM7⟩ : ∃ M7, (fFind M' act.key act.draw L7).2 = M7 := ⟨_, rfl⟩
          rw [hM7] at hF7 hinv7 hfd
          rw [hval]
          have HF7 := Lib.hid hF7
          have HInv7 := Lib.hid hinv7
          have HD7 : Hid (M7.D = M'.D ∧ M7.asked ≤ j + 1 ∧ M7.loaded ≤ j + 1) := ⟨hfd.1, by have := hfd.2.1; have := HD2.out.2.1; omega, by have := hfd.2.2; have := HD2.out.2.2; omega⟩
          have HI7 := Lib.hid (HI6.out.but hb7 (fun b h1 h2 => Hdis6.out b h2 h1))
          have Hdis7 := Lib.hid (dis_grew Hdis6.out hg7 HI6.out.fin)
          have HFB7 := Lib.hid (base_grew HFB6.out hg7 Hb6.out.size)
          have HA7 := Lib.hid (HA6.out.but hb7 (fun h => HaF6.out.1 h))
          have HaX7 := Lib.hid HaF6.out.2
          have Hb7 := Lib.hid (Hb6.out.trans (hb7.below Hb6.out.size HFB6.out))
          obtain ⟨v, hv⟩ : ∃ v, (aget M'.D act.key).getD place0 = v := ⟨_, rfl⟩
          obtain ⟨is, his⟩ : ∃ b, (aget M'.D act.key).isSome = b := ⟨_, rfl⟩
          have Hv : Hid ((aget M'.D act.key).getD place0 = v ∧ (aget M'.D act.key).isSome = is) := ⟨hv, his⟩
          rw [hv, his, show placeV v = .agg #[.int .i64 v.shelf, .int .i64 v.slot] from rfl]
          clear hL7 hF7 hb7 hg7 hval hinv7 hfd hM7 hv his cd6 HK6 HF6 HI6 Hdis6 HFB6 HA6 HaF6 Hb6 HInv2
          have HK7 := Lib.hid (row_at_key (fact_row HA7.out))
          obtain ⟨W8, hW8⟩ : ∃ W8, w7.alloc (.cells #[.int .i64 v.shelf, .int .i64 v.slot] 33) = W8 := ⟨_, rfl⟩
          have hb8 : Below w7.heap.size w7 W8 := by rw [← hW8]; exact (Below.refl _ _).alloc (Nat.le_refl _) _
          have HP8 : Hid (Blk W8 w7.heap.size [.int .i64 v.shelf, .int .i64 v.slot]) := by unfold Hid; rw [← hW8]; exact Blk.new w7 #[.int .i64 v.shelf, .int .i64 v.slot] _
          obtain ⟨pb, hpb⟩ : ∃ pb, w7.heap.size = pb := ⟨_, rfl⟩
          rw [hpb] at HP8
          have HK8 := Lib.hid (HK7.out.below (by rw [keyC_size]; omega) hb8)
          have HI8 := Lib.hid (HI7.out.below hb8)
          have HF8 := Lib.hid (HF7.out.below hb8)
          have Hb8 := Lib.hid (Hb7.out.trans (hb8.mono Hb7.out.size))
          clear hb8 HK7 HA7 HI7 HF7 Hb7 HaX7
          go_wp2_with (first | (refine opIs (X := .load 27 (.tmp 87)) rfl ?_; refine Go.XR.stop (fun X hX => ?_)) | fail)
          refine hX.out ?_
          clear hX X hW8 hpb
          go_wp2_with (first | (refine opIs (X := .load 27 (.tmp 87)) rfl ?_; refine wpList_load_at rfl 27 (.tmp 87) rfl ab (0 + 1) rfl (keyC act.key) HK8.out _ Try.underlying27 rfl (keySize _) ?_) | fail)
          refine (ix_get HI8.out act.key).mono ?_
          rintro e w9 ⟨rfl, hb9⟩
          rw [Hv.out.1, Hv.out.2, show placeV v = .agg #[.int .i64 v.shelf, .int .i64 v.slot] from rfl]
          have HP9 := Lib.hid (HP8.out.below hb9)
          have HI9 := Lib.hid (HI8.out.below hb9)
          have HF9 := Lib.hid (HF8.out.below hb9)
          have Hb9 := Lib.hid (Hb8.out.trans (hb9.mono Hb8.out.size))
          clear hb9 HP8 HI8 HF8 Hb8 HK8
          have d0 := HP9.out.cell (i := 0) rfl
          have d1 := HP9.out.cell (i := 1) rfl
          have hpl := HP9.out.lt
          have hbz := beq_self_eq_true is
          go_wp2
          have hb10 : Below w9.heap.size w9 (w9.alloc (.cells #[.int .i64 v.shelf, .int .i64 v.slot] 33)) := (Below.refl _ _).alloc (Nat.le_refl _) _
          go_roundg (n - (j + 1))
          case measure => have := Hm.out; omega
          case rel => exact ⟨j + 1, by omega, by go_num, rfl, Hb9.out.trans (hb10.mono Hb9.out.size), M7, F7, X6, HF9.out.below hb10, by rw [HD7.out.1]; exact HI9.out.below hb10, HInv7.out, Hdis7.out, HFB7.out, HXB6.out, by rw [HD7.out.1]; exact HD2.out.1, HD7.out.2⟩
    · have hge : ¬ (j : Int) < (n : Int) := by omega
      have HDs : Hid (M.D.length ≤ 150 ∧ M.asked ≤ 150 ∧ M.loaded ≤ 150) := by have := HDl.out; exact ⟨by omega, by omega, by omega⟩
      have HO1 : Hid (Own w.heap.size wr xp M.D) := ⟨X1, HI1.out, HXB1.out⟩
      have HFd : Hid (FOn wr p F1 M) := HF1.out
      clear HDl hlt Hm HRS HQS HSl
      go_wp2_with fail
      refine (own_all HO1.out (by have := HDs.out.1; omega)).mono ?_
      rintro e w8 ⟨L, hL, a8, c8, rfl, hr8, ha8, hb8⟩
      have HL := Lib.hid hL
      have HR8 := Lib.hid hr8
      have HF8 := Lib.hid (HF1.out.below hb8)
      have HI8 := Lib.hid (HI1.out.below hb8)
      have Hb8 := Lib.hid (Hbw.out.trans (hb8.mono Hbw.out.size))
      have HaF8 : Hid (∀ g o, a8 = some ⟨g, o, none⟩ → g ∉ F1 ∧ g < w8.heap.size ∨ L = []) := fun g o hg => by
        by_cases hL0 : L = []
        · exact .inr hL0
        · left
          refine ⟨fun hm => by have h1 := ha8 _ hg; have h2 := HF1.out.lt g hm; have h3 : wr.heap.size ≤ g := h1; omega, ?_⟩
          have h0 : 0 < L.length := List.length_pos_iff.2 hL0
          obtain ⟨g', o', hg', hX'⟩ := row_at rowL_length hr8 h0 (by omega)
          rw [hg] at hg'
          cases hg'
          exact hX'.lt (by show 0 < (rowL L[0]).toArray.size; rw [List.size_toArray, rowL_length]; omega)
      have hLl : L.length ≤ 150 := by rw [hL.1.length_eq]; exact HDs.out.1
      have HLok : Hid (∀ r ∈ L, aget M.D r.1 = some r.2) := fun r hr => (aget_mem HInv.out.nd).2 (hL.1.mem_iff.1 hr)
      have Hrng := Lib.hid HF1.out.rng
      clear hL hr8 ha8 hb8 HF1 HI1 Hbw HO1 HFd
      go_wp2
      go_loopg [104] L.length (fun m i wr => ∃ j : Nat, j ≤ L.length ∧ i = .int .i64 j ∧ Hid (m = L.length - j ∧ Below w.heap.size w wr ∧ But F1 w8 wr ∧ ∃ M' F', FOn wr p F' M' ∧ Ix wr X1 xp M.D ∧ Inv M' ∧ M'.D = M.D ∧ (∀ b ∈ F', b ∉ X1) ∧ (∀ b ∈ F', w.heap.size ≤ b) ∧ Grew w8 F1 F' ∧ M'.asked ≤ 150 + j ∧ M'.loaded ≤ 150 + j))
      case atStart => exact ⟨0, by omega, rfl, rfl, Hb8.out, But.refl _ _, M, F1, HF8.out, HI8.out, HInv.out, rfl, Hdis1.out, HFB1.out, Grew.refl _ _, HDs.out.2.1, HDs.out.2.2⟩
      case round =>
        obtain ⟨j, hj, rfl, hr⟩ := hrel
        have Hm := Lib.hid hr.out.1
        have Hbw := Lib.hid hr.out.2.1
        have Hbut := Lib.hid hr.out.2.2.1
        obtain ⟨M', F', hF1, hI1, hinv, hMD, hdis, hFB1, hgr, hasked, hloaded⟩ := hr.out.2.2.2
        have HF1 := Lib.hid hF1
        have HI1 := Lib.hid hI1
        have HInv1 := Lib.hid hinv
        have Hdis2 := Lib.hid hdis
        have HFB2 := Lib.hid hFB1
        have HMD := Lib.hid hMD
        have Hgr := Lib.hid hgr
        have HAL : Hid (M'.asked ≤ 150 + j ∧ M'.loaded ≤ 150 + j) := ⟨hasked, hloaded⟩
        clear hr hF1 hI1 hinv hdis hFB1 hMD hgr hasked hloaded
        by_cases hlt : j < L.length
        · have hlt2 : (j : Int) < (L.length : Int) := by omega
          have HRr : Hid (Row wr a8 (L.flatMap rowL)) := HR8.out.but Hbut.out (fun g o hg => by
            rcases HaF8.out g o hg with h | h
            · exact h.1
            · rw [h] at hlt; cases hlt)
          obtain ⟨g2, o2, rfl, hX⟩ := row_at rowL_length HRr.out hlt (by omega)
          have HX : Hid (At wr g2 (o2 + j * 35) (rowC L[j])) := hX
          have Hget : Hid (aget M.D L[j].1 = some L[j].2) := HLok.out _ (List.getElem_mem hlt)
          clear hX HRr
          generalize L[j] = r at *
          go_wp2_with (first | (refine opIs (X := .load 35 (.tmp 106)) rfl ?_; refine wpList_load_at rfl 35 (.tmp 106) rfl g2 (o2 + j * 35) (by kernel_rfl) (rowC r) HX.out _ Try.underlying35 rfl (rowSize r) ?_) | (refine wpList_alloc_new rfl 35 rfl zr (Hzr.out _) ?_) | (refine opIs (X := .store 35 (.tmp 17) (.tmp 107)) rfl ?_; refine wpList_store_new rfl 35 (.tmp 17) (.tmp 107) rfl zr (rowC r) 35 (by kernel_rfl) (by kernel_rfl) (by rw [hzr, rowC_size]) (one_rowL r) (rowSize r) ?_; refine Go.XR.stop (fun X hX => ?_)) | fail)
          refine hX.out ?_
          clear hX X
          obtain ⟨W3, hW3⟩ : ∃ W3, wr.alloc (.cells (rowC r) 35) = W3 := ⟨_, rfl⟩
          have hb3 : Below wr.heap.size wr W3 := by rw [← hW3]; exact (Below.refl _ _).alloc (Nat.le_refl _) _
          have HR3 : Hid (At W3 wr.heap.size 0 (rowC r)) := by unfold Hid; rw [← hW3]; exact At.new _ _ _
          have HF3 := Lib.hid (HF1.out.below hb3)
          have HI3 := Lib.hid (HI1.out.below hb3)
          have Hrf : Hid (wr.heap.size ∉ F') := fun h => by have := HF1.out.lt _ h; omega
          have Hb3 := Lib.hid (Hbw.out.trans (hb3.mono Hbw.out.size))
          have Hbut3 := Lib.hid (Hbut.out.trans (But.of_below (S := F1) hb3))
          have HK3 := Lib.hid (row_at_key HR3.out)
          obtain ⟨rb, hrb⟩ : ∃ rb, wr.heap.size = rb := ⟨_, rfl⟩
          rw [hrb] at HR3 Hrf HK3 ⊢
          rw [hW3]
          clear hb3 hW3 hrb HX HF1 HI1 Hbw Hbut
          go_wp2_with (first | (refine opIs (X := .load 27 (.tmp 110)) rfl ?_; refine wpList_load_at rfl 27 (.tmp 110) rfl rb 0 rfl (keyC r.1) HK3.out _ Try.underlying27 rfl (keySize _) ?_) | fail)
          refine (fo_find HF3.out (by rw [HMD.out]; have := HDs.out.1; omega) (by have := HAL.out.1; omega) (by have := HAL.out.2; omega) r.1 7 (by decide)).mono ?_
          rintro e w7 ⟨L7, hL7, rfl, F7, hF7, hb7, hg7⟩
          have hval := fFind_val HInv1.out r.1 7 L7
          have hinv7 := fFind_inv HInv1.out r.1 7 L7 hL7 (fun v hv => (HF3.out.rng _ _ hv).1)
          have hfd := fFind_same M' r.1 7 L7
          obtain ⟨M7, hM7⟩ : ∃ M7, (fFind M' r.1 7 L7).2 = M7 := ⟨_, rfl⟩
          rw [hM7] at hF7 hinv7 hfd
          rw [hval, HMD.out, Hget.out, show (some r.2 : Option PlaceT).getD place0 = r.2 from rfl, show (some r.2 : Option PlaceT).isSome = true from rfl, show placeV r.2 = .agg #[.int .i64 r.2.shelf, .int .i64 r.2.slot] from rfl]
          have HF7 := Lib.hid hF7
          have HInv7 := Lib.hid hinv7
          have HD7 : Hid (M7.D = M.D ∧ M7.asked ≤ 150 + (j + 1) ∧ M7.loaded ≤ 150 + (j + 1)) := ⟨hfd.1.trans HMD.out, by have := hfd.2.1; have := HAL.out.1; omega, by have := hfd.2.2; have := HAL.out.2; omega⟩
          have HI7 := Lib.hid (HI3.out.but hb7 (fun b h1 h2 => Hdis2.out b h2 h1))
          have Hdis7 := Lib.hid (dis_grew Hdis2.out hg7 HI3.out.fin)
          have HFB7 := Lib.hid (base_grew HFB2.out hg7 Hb3.out.size)
          have HR7 := Lib.hid (HR3.out.but hb7 Hrf.out)
          have Hb7 := Lib.hid (Hb3.out.trans (hb7.below Hb3.out.size HFB2.out))
          have Hbut7 := Lib.hid (Hbut3.out.grew hb7 Hgr.out)
          have Hgr7 := Lib.hid (Hgr.out.trans hg7 Hbut3.out.size)
          clear hL7 hF7 hb7 hg7 hval hinv7 hfd hM7 HF3 HI3 HR3 HK3 Hb3 Hbut3 HInv1 Hdis2 HFB2 Hgr HAL
          have e0 : w7.cell? ⟨rb, 33, none⟩ = some (.int .i64 r.2.shelf) := row_at_shelf (o := 0) HR7.out
          have e1 : w7.cell? ⟨rb, 34, none⟩ = some (.int .i64 r.2.slot) := row_at_slot (o := 0) HR7.out
          have hrl : rb < w7.heap.size := HR7.out.lt (by rw [rowC_size]; omega)
          go_wp2
          have hb10 : Below w7.heap.size w7 (w7.alloc (.cells #[.int .i64 r.2.shelf, .int .i64 r.2.slot] 33)) := (Below.refl _ _).alloc (Nat.le_refl _) _
          go_roundg (L.length - (j + 1))
          case measure => have := Hm.out; omega
          case rel => exact ⟨j + 1, by omega, by go_num, rfl, Hb7.out.trans (hb10.mono Hb7.out.size), Hbut7.out.trans (But.of_below hb10), M7, F7, HF7.out.below hb10, HI7.out.below hb10, HInv7.out, HD7.out.1, Hdis7.out, HFB7.out, Hgr7.out, HD7.out.2.1, HD7.out.2.2⟩
        · have hge : ¬ (j : Int) < (L.length : Int) := by omega
          clear hlt HR8 HaF8 HLok
          go_wp2_with fail
          refine (fo_all HF1.out (by rw [HMD.out]; have := HDs.out.1; omega)).mono ?_
          rintro e w9 ⟨LA, hLA, aA, cA, rfl, hrA, haA, hbA⟩
          have HLA := Lib.hid hLA
          have HRA := Lib.hid hrA
          have HO9 : Hid (Own w.heap.size w9 xp M.D) := ⟨X1, HI1.out.below hbA, HXB1.out⟩
          have Hb9 := Lib.hid (Hbw.out.trans (hbA.mono Hbw.out.size))
          clear hLA hrA haA hbA HF1 HI1 Hbw
          go_wp2_with fail
          refine (own_all HO9.out (by have := HDs.out.1; omega)).mono ?_
          rintro e w10 ⟨LB, hLB, aB, cB, rfl, hrB, haB, hbB⟩
          have HLB := Lib.hid hLB
          have HRB := Lib.hid hrB
          have HRA10 := Lib.hid (HRA.out.below hbB)
          have Hb10 := Lib.hid (Hb9.out.trans (hbB.mono Hb9.out.size))
          clear hLB hrB haB hbB HRA HO9 Hb9
          go_wp2_with fail
          have hE : LA = LB := by
            have h1 := HLA.out
            rw [HMD.out] at h1
            exact allof_uniq h1 HLB.out
          have hLBl : LB.length ≤ 150 := by rw [HLB.out.1.length_eq]; exact HDs.out.1
          have hokB : RowsOk LB := AllOf.ok HLB.out HInv.out.nd Hrng.out
          refine (same_any w10 aA aB cA cB LA LB HRA10.out HRB.out (by rw [hE]; omega) (by omega) (by rw [hE]; exact hokB) hokB).mono ?_
          rintro e w11 ⟨rfl, hb11⟩
          rw [decide_eq_true hE]
          have Hb11 := Lib.hid (Hb10.out.trans (hb11.mono Hb10.out.size))
          clear hb11 hE hLBl
          go_wp2
          go_ret
          exact ⟨rfl, Hb11.out⟩
end Go.Proofs.Ytnfbchhbcinloaa

/- A region whose order is drawn, where many operations that change the world come in any order: what each does is shown once, under what is known of those that came before. -/
namespace Go.XR
section
variable {P : Program} {ops : Array Oper} {Q : Exit → Act → World → Prop} {S : World → Prop} {sd : List Nat}
/-- an act with the values of some temporaries -/
def putL (ρ : Nat → Value) : List Nat → Act → Act
  | [], a => a
  | t :: ts, a => putL ρ ts (a.put (some t) (ρ t))
def updB (L : Nat → Bool) (i : Nat) : Nat → Bool := fun k => if k = i then true else L k
theorem updB_same (L : Nat → Bool) (i : Nat) : updB L i i = true := if_pos rfl
theorem updB_ne (L : Nat → Bool) {i k : Nat} (h : k ≠ i) : updB L i k = L k := if_neg h
/-- one operation of those that come in any order -/
def PhStep (P : Program) (Q : Exit → Act → World → Prop) (ts : List Nat) (a0 : Act) (Φ : (Nat → Bool) → (Nat → Value) → World → Prop) (i : Nat) (o : Oper) : Prop :=
  ∀ (L : Nat → Bool) (ρ : Nat → Value) (W : World), Φ L ρ W → L i = false → (∀ e ∈ o.after, Region.binds .any e = true → L e.on = true) →
    ∀ K : Act → World → Prop, (∀ a' W', (∃ ρ', a' = putL ρ' ts a0 ∧ Φ (updB L i) ρ' W') → K a' W') → o.wp P (putL ρ ts a0) W K (NoPanic Q)
def PhAll (P : Program) (Q : Exit → Act → World → Prop) (ts : List Nat) (a0 : Act) (Φ : (Nat → Bool) → (Nat → Value) → World → Prop) : List (Nat × Option Oper) → Prop
  | [] => True
  | (i, some o) :: r => PhStep P Q ts a0 Φ i o ∧ PhAll P Q ts a0 Φ r
  | (_, none) :: _ => False
theorem PhAll.get {ts : List Nat} {a0 : Act} {Φ : (Nat → Bool) → (Nat → Value) → World → Prop} {i : Nat} {o : Oper} : ∀ {r : List (Nat × Option Oper)}, PhAll P Q ts a0 Φ r → (i, some o) ∈ r → PhStep P Q ts a0 Φ i o
  | [], _, h => by cases h
  | (j, none) :: r, h, _ => h.elim
  | (j, some o') :: r, h, hm => by
    rcases List.mem_cons.1 hm with e | hm
    · cases e; exact h.1
    · exact PhAll.get h.2 hm
def cntU (listed : Array Bool) : Nat → Nat
  | 0 => 0
  | k + 1 => cntU listed k + if listed.getD k false = true then 0 else 1
theorem cntU_set_ge {listed : Array Bool} {i : Nat} : ∀ k, k ≤ i → cntU (listed.setIfInBounds i true) k = cntU listed k
  | 0, _ => rfl
  | k + 1, h => by
    unfold cntU
    rw [cntU_set_ge k (by omega), getD_set_ne false (by omega : i ≠ k)]
theorem cntU_set {listed : Array Bool} {i : Nat} (hl : i < listed.size) (hf : listed.getD i false = false) : ∀ k, i < k → cntU (listed.setIfInBounds i true) k + 1 = cntU listed k
  | 0, h => absurd h (by omega)
  | k + 1, h => by
    unfold cntU
    by_cases e : k = i
    · subst e
      rw [cntU_set_ge k (Nat.le_refl _), hf]
      have : (listed.setIfInBounds k true).getD k false = true := by simp [hl]
      rw [this]; simp
    · have := cntU_set hl hf k (by omega)
      rw [getD_set_ne false (fun e2 => e e2.symm)]
      omega
theorem cntU_zero {listed : Array Bool} : ∀ k, cntU listed k = 0 → ∀ j, j < k → listed.getD j false = true
  | 0, _, j, h => absurd h (by omega)
  | k + 1, h, j, hj => by
    unfold cntU at h
    by_cases e : j = k
    · subst e
      by_cases c : listed.getD j false = true
      · exact c
      · rw [if_neg c] at h; omega
    · exact cntU_zero k (by omega) j (by omega)
/-- edges lead down -/
def downB (ops : Array Oper) : Bool := (List.range ops.size).all fun i => match ops[i]? with
  | some o => o.guard.isNone && o.after.all fun e => !Region.binds .any e || decide (e.on < i)
  | none => true
theorem ready_some (hd : ∀ i o, ops[i]? = some o → ∀ e ∈ o.after, Region.binds .any e = true → e.on < i) {listed : Array Bool} (hs : listed.size = ops.size) (hr : Region.ready .any ops listed = []) : ∀ i, i < ops.size → listed.getD i false = true := by
  intro i
  induction i using Nat.strongRecOn with
  | ind i ih =>
    intro hi
    cases h : listed.getD i false with
    | true => rfl
    | false =>
      exfalso
      have hm : i ∈ Region.ready .any ops listed := mem_ready.2 ⟨by
        rw [← h, Array.getD, Array.getD]
        simp [hs, hi], ops[i], Array.getElem?_eq_getElem hi, fun e he hb => ih e.on (hd i _ (Array.getElem?_eq_getElem hi) e he hb) (Nat.lt_trans (hd i _ (Array.getElem?_eq_getElem hi) e he hb) hi)⟩
      rw [hr] at hm
      cases hm
theorem phi_any {ts : List Nat} {a0 : Act} {Φ : (Nat → Bool) → (Nat → Value) → World → Prop} {rest : List Nat}
    (hg : ∀ (i : Nat) (o : Oper), ops[i]? = some o → o.guard = none) (hd : ∀ i o, ops[i]? = some o → ∀ e ∈ o.after, Region.binds .any e = true → e.on < i)
    (hS : ∀ L ρ W, Φ L ρ W → S W) (hall : PhAll P Q ts a0 Φ (rest.map fun i => (i, ops[i]?)))
    (hend : ∀ L ρ W, (∀ k, k < ops.size → L k = true) → Φ L ρ W → Q .normal (putL ρ ts a0) W) : ∀ (fuel : Nat) (listed : Array Bool) (ρ : Nat → Value) (W : World),
      listed.size = ops.size → cntU listed ops.size ≤ fuel → (∀ i, i < ops.size → listed.getD i false = false → i ∈ rest) → Φ (fun k => listed.getD k false) ρ W →
      wpAnyX P .any ops (NoPanic Q) S sd fuel listed (putL ρ ts a0) W
  | 0, listed, ρ, W, hs, hc, _, hΦ => by
    have h1 := cntU_zero ops.size (by omega : cntU listed ops.size = 0)
    refine ⟨?_, hend _ _ _ h1 hΦ⟩
    rw [List.eq_nil_iff_forall_not_mem]
    intro j hj
    obtain ⟨h2, o, ho, _⟩ := mem_ready.1 hj
    have hjl := (Array.getElem?_eq_some_iff.1 ho).1
    have h3 := h1 j hjl
    rw [Array.getD] at h2 h3
    simp [hs, hjl] at h2 h3
    rw [h2] at h3; cases h3
  | fuel + 1, listed, ρ, W, hs, hc, hr, hΦ => by
    refine ⟨fun h0 => hend _ _ _ (ready_some hd hs h0) hΦ, fun i hi => ?_⟩
    obtain ⟨h2, o, ho, hdeps⟩ := mem_ready.1 hi
    have hil := (Array.getElem?_eq_some_iff.1 ho).1
    have hif : listed.getD i false = false := by
      rw [Array.getD] at h2 ⊢
      simp [hs, hil] at h2 ⊢
      exact h2
    have hir := hr i hil hif
    have hst := PhAll.get (i := i) (o := o) hall (List.mem_map.2 ⟨i, hir, by rw [ho]⟩)
    have hw := hst _ ρ W hΦ hif hdeps (fun a' W' => (sd.contains i = false → S W') ∧ wpAnyX P .any ops (NoPanic Q) S sd fuel (listed.setIfInBounds i true) a' W') (by
      rintro a' W' ⟨ρ', rfl, hΦ'⟩
      refine ⟨fun _ => hS _ _ _ hΦ', ?_⟩
      refine phi_any hg hd hS hall hend fuel (listed.setIfInBounds i true) ρ' W' (by simpa using hs) (by have := cntU_set (by rw [hs]; exact hil) hif ops.size hil; omega) (fun k hk hf => ?_) ?_
      · by_cases e : i = k
        · subst e
          have : (listed.setIfInBounds i true).getD i false = true := by simp [hs, hil]
          rw [this] at hf; cases hf
        · rw [getD_set_ne false e] at hf
          exact hr k hk hf
      · have e : (fun k => (listed.setIfInBounds i true).getD k false) = updB (fun k => listed.getD k false) i := by
          funext k
          unfold updB
          by_cases e : k = i
          · subst e; rw [if_pos rfl]; simp [hs, hil]
          · rw [if_neg e, getD_set_ne false (fun h => e h.symm)]
        rw [e]; exact hΦ')
    unfold wpOp
    rw [ho]
    simp only
    rw [if_pos (by simp [Region.wanted, hg i o ho])]
    exact .inl hw
theorem put_own {a : Act} {t : Nat} (h : t < a.tmps.size) : a.put (some t) (a.tmps.getD t undef) = a := by
  obtain ⟨tm, d⟩ := a
  unfold Act.put
  simp only
  congr 1
  rw [Array.getD, dif_pos h]
  refine Array.ext (by simp) fun i h1 h2 => ?_
  rw [Array.getElem_setIfInBounds]
  split
  · rename_i e; subst e; rfl
  · rfl
theorem putL_own : ∀ {ts : List Nat} {a : Act}, (∀ t ∈ ts, t < a.tmps.size) → putL (fun t => a.tmps.getD t undef) ts a = a
  | [], _, _ => rfl
  | t :: ts, a, h => by
    unfold putL
    rw [put_own (h t (by simp))]
    exact putL_own fun u hu => h u (List.mem_cons_of_mem _ hu)
def PhQ (P : Program) (ops : Array Oper) (Q : Exit → Act → World → Prop) (S : World → Prop) (ts : List Nat) (Φ : (Nat → Bool) → (Nat → Value) → World → Prop) (L0 : List Nat) (rest : List Nat) : Exit → Act → World → Prop
  | .normal, a, W => (ts.all fun t => decide (t < a.tmps.size)) = true ∧ Φ (fun k => L0.contains k) (fun t => a.tmps.getD t undef) W ∧ PhAll P Q ts a Φ (rest.map fun i => (i, ops[i]?)) ∧ (∀ L ρ W, Φ L ρ W → S W) ∧
      (∀ L ρ W, (∀ k, k < ops.size → L k = true) → Φ L ρ W → Q .normal (putL ρ ts a) W)
  | e, a, W => Q e a W
theorem monoQ {Q' : Exit → Act → World → Prop} {o : Oper} {a : Act} {w : World} {K K' : Act → World → Prop} (h : ∀ a w, K a w → K' a w) (hp : ∀ c a w, Q (.panic c) a w → Q' (.panic c) a w) (ho : ∀ a w, Q .outgrown a w → Q' .outgrown a w)
    (hh : o.wp P a w K Q) : o.wp P a w K' Q' := by
  unfold Oper.wp at *
  generalize (execOp a.eval o).run P w = r at *
  cases r with
  | ok n w' =>
    cases n <;> simp only [Oper.upon] at hh ⊢ <;>
      first
        | exact h _ _ hh
        | exact hh
        | (refine hh.mono ?_
           intro e w'' he
           cases e with
           | returned v => exact h _ _ he
           | panicked c => exact hp _ _ _ he
           | outgrown => obtain ⟨a, w, h1⟩ := he; exact ⟨a, w, ho _ _ h1⟩)
        | exact hh.mono fun v w'' he => h _ _ he
  | halt x w' =>
    cases x <;> simp only [Oper.upon] at hh ⊢ <;> first | exact hp _ _ _ hh | exact hh
/-- a schedule of a prefix -/
def schedP (ops : Array Oper) (sd : List Nat) (rest : List Nat) : List (Nat × Bool) → Array Bool → Bool
  | [], listed => (listed.size == ops.size) && (decide (cntU listed ops.size ≤ rest.length) && ((List.range ops.size).all fun i => (listed.getD i false || rest.contains i)))
  | (i', true) :: r, listed => (Region.ready .any ops listed).contains i' && (Region.free .any ops listed i' && ((sd.all fun j => reach .any ops 12 j i') && schedP ops sd rest r (listed.setIfInBounds i' true)))
  | (i', false) :: r, listed => (Region.ready .any ops listed == [i']) && schedP ops sd rest r (listed.setIfInBounds i' true)
theorem X_of_P (hsel : Region.noSelect ops = true) {ts : List Nat} {Φ : (Nat → Bool) → (Nat → Value) → World → Prop} {rest : List Nat} (L0 : List Nat)
    (hg : ∀ (i : Nat) (o : Oper), ops[i]? = some o → o.guard = none) (hd : ∀ (i : Nat) (o : Oper), ops[i]? = some o → ∀ e ∈ o.after, Region.binds .any e = true → e.on < i) : ∀ (l : List (Nat × Bool)) (listed : Array Bool) (a : Act) (w : World),
    Closed .any ops listed → schedP ops sd rest l listed = true → (fun k => ((l.map (·.1)).foldl (fun A i => A.setIfInBounds i true) listed).getD k false) = (fun k => L0.contains k) →
    wpT P ops (NoPanic (PhQ P ops Q S ts Φ L0 rest)) S sd (l.map fun p => (p.1, p.2, ops[p.1]?)) a w →
    wpAnyX P .any ops (NoPanic Q) S sd (l.length + rest.length) listed a w
  | [], listed, a, w, hcl, hb, hL, h => by
    simp only [schedP, Bool.and_eq_true, beq_iff_eq, decide_eq_true_eq] at hb
    obtain ⟨hs, hc, hr⟩ := hb
    obtain ⟨h1, h2, h3, h4, h5⟩ : _ ∧ _ ∧ _ ∧ _ ∧ _ := h
    rw [List.length_nil, Nat.zero_add]
    have hts : ∀ t ∈ ts, t < a.tmps.size := fun t ht => of_decide_eq_true (List.all_eq_true.1 h1 t ht)
    have := phi_any (P := P) (Q := Q) (S := S) (sd := sd) (ts := ts) (a0 := a) (Φ := Φ) (rest := rest) hg hd h4 h3 h5 rest.length listed (fun t => a.tmps.getD t undef) w hs hc (fun i hi hf => by
      have := List.all_eq_true.1 hr i (List.mem_range.2 hi)
      rw [hf, Bool.false_or] at this
      simpa using this) (by
      have e : (fun k => listed.getD k false) = (fun k => L0.contains k) := hL
      rw [e]; exact h2)
    rwa [putL_own hts] at this
  | (i', true) :: r, listed, a, w, hcl, hb, hL, h => by
    simp only [schedP, Bool.and_eq_true] at hb
    obtain ⟨hr, hf, hs, hrest⟩ := hb
    simp only [List.map_cons] at h
    cases ho : ops[i']? with
    | none => rw [ho] at h; exact h.elim
    | some o =>
      rw [ho] at h
      obtain ⟨v, hy, hS, hn⟩ := h
      rw [List.length_cons, Nat.add_right_comm]
      refine wpAnyX_first ho (Region.noSelect_spec hsel) (fun c a w h => h.elim) (fun j hj => ?_) _ _ _ _ (Region.free_spec ho hf) hcl (by simpa using hr) hy hS (X_of_P hsel L0 hg hd r _ _ _ (hcl.set (by simpa using hr)) hrest hL hn)
      exact List.all_eq_true.1 hs j (by simpa using hj)
  | (i', false) :: r, listed, a, w, hcl, hb, hL, h => by
    simp only [schedP, Bool.and_eq_true, beq_iff_eq] at hb
    obtain ⟨hr, hrest⟩ := hb
    rw [List.length_cons, Nat.add_right_comm]
    refine ⟨fun h0 => absurd (hr ▸ h0 : [i'] = []) (by simp), fun q hq => ?_⟩
    rw [hr] at hq
    obtain rfl : q = i' := by simpa using hq
    simp only [List.map_cons] at h
    have hm := hcl.set (i := q) (by rw [hr]; simp)
    unfold wpOp
    cases ho : ops[q]? with
    | none => rw [ho] at h; exact h.elim
    | some o =>
      rw [ho] at h
      simp only [wpT] at h ⊢
      split
      · rename_i hw
        rw [if_pos hw] at h
        refine .inl (monoQ ?_ ?_ ?_ h)
        · intro a' w' h'
          exact ⟨h'.1, X_of_P hsel L0 hg hd r _ _ _ hm hrest hL h'.2⟩
        · intro c a w h; exact h.elim
        · intro a w h; exact h
      · rename_i hw
        rw [if_neg hw] at h
        exact ⟨h.1, X_of_P hsel L0 hg hd r _ _ _ hm hrest hL h.2⟩
/-- the region: a prefix by a schedule, the rest in any order -/
theorem region_phi {id : Nat} {ops : List Oper} {a : Act} {w : World} (S : World → Prop) (l : List (Nat × Bool)) (rest : List Nat) (sd : List Nat) (ts : List Nat) (Φ : (Nat → Bool) → (Nat → Value) → World → Prop)
    (hm : P.follows .mixedOrders = true) (hsel : Region.noSelect ops.toArray = true) (hn : (l.length + rest.length == ops.length) = true) (hdn : downB ops.toArray = true)
    (hL : ((List.range ops.length).all fun k => (((l.map (·.1)).foldl (fun A i => A.setIfInBounds i true) (Array.replicate ops.length false)).getD k false) == (l.map (·.1)).contains k) = true)
    (hL2 : (l.all fun p => decide (p.1 < ops.length)) = true)
    (hb : schedP ops.toArray sd rest l (Array.replicate ops.length false) = true)
    (h : wpT P ops.toArray (NoPanic (PhQ P ops.toArray Q S ts Φ (l.map (·.1)) rest)) S sd (l.map fun p => (p.1, p.2, ops[p.1]?)) a w.drew) : (Code.region id ops.toArray true).wp P Q a w := by
  refine wp_region_noPanic (wp_region_any hm (wpAny_of_X (S := S) (sd := sd) _ _ _ _ ?_))
  rw [beq_iff_eq] at hn
  have hg : ∀ (i : Nat) (o : Oper), ops.toArray[i]? = some o → o.guard = none ∧ ∀ e ∈ o.after, Region.binds .any e = true → e.on < i := fun i o ho => by
    have hi := (Array.getElem?_eq_some_iff.1 ho).1
    have h1 := List.all_eq_true.1 hdn i (List.mem_range.2 hi)
    rw [ho] at h1
    simp only [Bool.and_eq_true, Option.isNone_iff_eq_none] at h1
    refine ⟨h1.1, fun e he hbd => ?_⟩
    have h2 := Array.all_eq_true'.1 h1.2 e he
    rw [hbd] at h2
    simpa using h2
  have e : ops.toArray.size = l.length + rest.length := by simpa using hn.symm
  have hsz : ∀ (l : List Nat) (A : Array Bool), (l.foldl (fun A i => A.setIfInBounds i true) A).size = A.size := by
    intro l
    induction l with
    | nil => intro A; rfl
    | cons x l ih => intro A; rw [List.foldl_cons, ih]; simp
  have hLL : (fun k => ((l.map (·.1)).foldl (fun A i => A.setIfInBounds i true) (Array.replicate ops.length false)).getD k false) = (fun k => (l.map (·.1)).contains k) := by
    funext k
    by_cases hk : k < ops.length
    · exact beq_iff_eq.1 (List.all_eq_true.1 hL k (List.mem_range.2 hk))
    · have h1 : ((l.map (·.1)).foldl (fun A i => A.setIfInBounds i true) (Array.replicate ops.length false)).getD k false = false := by
        rw [Array.getD, dif_neg]
        rw [hsz]; simpa using hk
      rw [h1]
      symm
      cases hc : (l.map (·.1)).contains k with
      | false => rfl
      | true =>
        obtain ⟨p, hp, rfl⟩ := List.mem_map.1 (List.contains_iff_mem.1 hc)
        exact absurd (of_decide_eq_true (List.all_eq_true.1 hL2 p hp)) hk
  have := X_of_P (P := P) (Q := Q) (S := S) (sd := sd) (ops := ops.toArray) hsel (l.map (·.1)) (fun i o ho => (hg i o ho).1) (fun i o ho => (hg i o ho).2) l (Array.replicate ops.length false) a w.drew (fun j oj _ hl => by simp [Array.getD] at hl) hb hLL (by simpa using h)
  rw [e]
  have e2 : Array.replicate (l.length + rest.length) false = Array.replicate ops.length false := by rw [hn]
  rw [e2]
  exact this
theorem PhQ.mk {ts : List Nat} {Φ : (Nat → Bool) → (Nat → Value) → World → Prop} {L0 rest : List Nat} {a : Act} {W : World} (h1 : (ts.all fun t => decide (t < a.tmps.size)) = true) (h2 : Φ (fun k => L0.contains k) (fun t => a.tmps.getD t undef) W) (h3 : PhAll P Q ts a Φ (rest.map fun i => (i, ops[i]?))) (h4 : ∀ L ρ W, Φ L ρ W → S W)
    (h5 : ∀ L ρ W, (∀ k, k < ops.size → L k = true) → Φ L ρ W → Q .normal (putL ρ ts a) W) : PhQ P ops Q S ts Φ L0 rest .normal a W := ⟨h1, h2, h3, h4, h5⟩
theorem cntU_le (listed : Array Bool) : ∀ k, cntU listed k ≤ k
  | 0 => Nat.le_refl _
  | k + 1 => by
    unfold cntU
    have := cntU_le listed k
    split <;> omega
end
end Go.XR

/- FindTwins, its region of two calls, two new variables and two stores, in any order. -/
namespace Go.XR
open Go Go.RowKit
def updV (ρ : Nat → Value) (t : Nat) (v : Value) : Nat → Value := fun k => if k = t then v else ρ k
end Go.XR
namespace Go.Proofs.Ytnfbchhbcinloaa
open Go.RowKit Go.XR Go.IndexPure Go.CachePure Go.FindPure
def hz3 : List Value := [.int .i64 0, .int .i64 0, .int .i64 0]
structure TwPhi (w0 : World) (c1 c3 : Array Value) (L : Nat → Bool) (ρ : Nat → Value) (W : World) : Prop where
  below : Below w0.heap.size w0 W
  r1 : L 1 = true → ρ 24 = .agg c1
  r3 : L 3 = true → ρ 26 = .agg c3
  a4 : L 4 = true → ∃ b, ρ 10 = .pointer (some ⟨b, 0, none⟩) ∧ w0.heap.size ≤ b ∧ Blk W b (if L 6 = true then c1.toList else hz3)
  a5 : L 5 = true → ∃ b, ρ 11 = .pointer (some ⟨b, 0, none⟩) ∧ w0.heap.size ≤ b ∧ Blk W b (if L 7 = true then c3.toList else hz3)
  ne : L 4 = true → L 5 = true → ρ 10 ≠ ρ 11
  c6 : L 6 = true → L 4 = true
  c7 : L 7 = true → L 5 = true
section
variable {w0 W W' : World} {c1 c3 : Array Value} {L : Nat → Bool} {ρ : Nat → Value}
theorem TwPhi.bel (h : TwPhi w0 c1 c3 L ρ W) (hb : Below W.heap.size W W') : TwPhi w0 c1 c3 L ρ W' :=
  ⟨h.below.trans (hb.mono h.below.size), h.r1, h.r3, fun h4 => by
    obtain ⟨b, e1, e2, e3⟩ := h.a4 h4
    exact ⟨b, e1, e2, e3.below hb⟩, fun h5 => by
    obtain ⟨b, e1, e2, e3⟩ := h.a5 h5
    exact ⟨b, e1, e2, e3.below hb⟩, h.ne, h.c6, h.c7⟩
theorem TwPhi.s1 (h : TwPhi w0 c1 c3 L ρ W) : TwPhi w0 c1 c3 (updB L 1) (updV ρ 24 (.agg c1)) W :=
  ⟨h.below, fun _ => rfl, h.r3, h.a4, h.a5, h.ne, h.c6, h.c7⟩
theorem TwPhi.s3 (h : TwPhi w0 c1 c3 L ρ W) : TwPhi w0 c1 c3 (updB L 3) (updV ρ 26 (.agg c3)) W :=
  ⟨h.below, h.r1, fun _ => rfl, h.a4, h.a5, h.ne, h.c6, h.c7⟩
theorem TwPhi.s4 (h : TwPhi w0 c1 c3 L ρ W) (h4 : L 4 = false) (hW : W' = W.alloc (.cells hz3.toArray 58)) : TwPhi w0 c1 c3 (updB L 4) (updV ρ 10 (.pointer (some ⟨W.heap.size, 0, none⟩))) W' := by
  have hb : Below W.heap.size W W' := by rw [hW]; exact (Below.refl _ _).alloc (Nat.le_refl _) _
  have h2 := h.bel hb
  have h6 : L 6 = false := by
    cases e : L 6 with
    | false => rfl
    | true => have := h.c6 e; rw [h4] at this; cases this
  refine ⟨h2.below, h2.r1, h2.r3, fun _ => ⟨W.heap.size, rfl, h.below.size, ?_⟩, h2.a5, fun _ h5 e => ?_, fun _ => rfl, h.c7⟩
  · have : (if updB L 4 6 = true then c1.toList else hz3) = hz3 := by show (if L 6 = true then c1.toList else hz3) = hz3; rw [h6]; rfl
    rw [this, hW]
    exact Blk.new W hz3.toArray _
  · obtain ⟨b, e1, _, e3⟩ := h.a5 h5
    have e : Value.pointer (some ⟨W.heap.size, 0, none⟩) = ρ 11 := e
    rw [e1] at e
    injection e with e; injection e with e; injection e with e
    have := e3.lt
    omega
theorem TwPhi.s5 (h : TwPhi w0 c1 c3 L ρ W) (h5 : L 5 = false) (hW : W' = W.alloc (.cells hz3.toArray 58)) : TwPhi w0 c1 c3 (updB L 5) (updV ρ 11 (.pointer (some ⟨W.heap.size, 0, none⟩))) W' := by
  have hb : Below W.heap.size W W' := by rw [hW]; exact (Below.refl _ _).alloc (Nat.le_refl _) _
  have h2 := h.bel hb
  have h7 : L 7 = false := by
    cases e : L 7 with
    | false => rfl
    | true => have := h.c7 e; rw [h5] at this; cases this
  refine ⟨h2.below, h2.r1, h2.r3, h2.a4, fun _ => ⟨W.heap.size, rfl, h.below.size, ?_⟩, fun h4 _ e => ?_, h.c6, fun _ => rfl⟩
  · have : (if updB L 5 7 = true then c3.toList else hz3) = hz3 := by show (if L 7 = true then c3.toList else hz3) = hz3; rw [h7]; rfl
    rw [this, hW]
    exact Blk.new W hz3.toArray _
  · obtain ⟨b, e1, _, e3⟩ := h.a4 h4
    have e : ρ 10 = Value.pointer (some ⟨W.heap.size, 0, none⟩) := e
    rw [e1] at e
    injection e with e; injection e with e; injection e with e
    have := e3.lt
    omega
theorem TwPhi.s6 (h : TwPhi w0 c1 c3 L ρ W) (h4 : L 4 = true) {b : Nat} (hb : ρ 10 = .pointer (some ⟨b, 0, none⟩)) (hB : Blk W' b c1.toList) (hbut : But [b] W W') : TwPhi w0 c1 c3 (updB L 6) ρ W' := by
  obtain ⟨b', e1, e2, e3⟩ := h.a4 h4
  rw [hb] at e1
  injection e1 with e1; injection e1 with e1; injection e1 with e1
  subst e1
  refine ⟨h.below.trans (hbut.below h.below.size (by intro i hi; rw [List.mem_singleton] at hi; subst hi; exact e2)), h.r1, h.r3, fun _ => ⟨b, hb, e2, hB⟩, fun h5 => ?_, h.ne, fun _ => h4, h.c7⟩
  obtain ⟨d, d1, d2, d3⟩ := h.a5 h5
  refine ⟨d, d1, d2, d3.but hbut ?_⟩
  rw [List.mem_singleton]
  intro e; subst e
  exact h.ne h4 h5 (hb.trans d1.symm)
theorem TwPhi.s7 (h : TwPhi w0 c1 c3 L ρ W) (h5 : L 5 = true) {b : Nat} (hb : ρ 11 = .pointer (some ⟨b, 0, none⟩)) (hB : Blk W' b c3.toList) (hbut : But [b] W W') : TwPhi w0 c1 c3 (updB L 7) ρ W' := by
  obtain ⟨b', e1, e2, e3⟩ := h.a5 h5
  rw [hb] at e1
  injection e1 with e1; injection e1 with e1; injection e1 with e1
  subst e1
  refine ⟨h.below.trans (hbut.below h.below.size (by intro i hi; rw [List.mem_singleton] at hi; subst hi; exact e2)), h.r1, h.r3, fun h4 => ?_, fun _ => ⟨b, hb, e2, hB⟩, h.ne, h.c6, fun _ => h5⟩
  obtain ⟨d, d1, d2, d3⟩ := h.a4 h4
  refine ⟨d, d1, d2, d3.but hbut ?_⟩
  rw [List.mem_singleton]
  intro e; subst e
  exact h.ne h4 h5 (d1.trans hb.symm)
end
set_option maxHeartbeats 8000000 in
set_option maxRecDepth 100000 in
theorem twin_walk (w : World) (x y z x2 y2 z2 : Int) (hx : (-9223372036854775808 ≤ x ∧ x ≤ 9223372036854775807) ∧ (-9223372036854775808 ≤ y ∧ y ≤ 9223372036854775807) ∧ (-9223372036854775808 ≤ z ∧ z ≤ 9223372036854775807)) (hx2 : (-9223372036854775808 ≤ x2 ∧ x2 ≤ 9223372036854775807) ∧ (-9223372036854775808 ≤ y2 ∧ y2 ≤ 9223372036854775807) ∧ (-9223372036854775808 ≤ z2 ∧ z2 ≤ 9223372036854775807))
    (a : Option Addr) (c : Nat) (l : List FActT) (hR : Row w a (l.flatMap factL)) (hQ : ∀ q ∈ l, FActQ w q) (hc : l.length ≤ c) (hcm : c ≤ maxLen) (by_ : Nat) (hby : by_ < 18446744073709551616) :
    Calls Try.prog 10 #[.agg (howC x y z), .agg (howC x2 y2 z2), .slice a l.length c, .int .u64 by_] w (RetBool w true) := by
  have HR := Lib.hid hR
  have HQ := Lib.hid hQ
  have Hlc : Hid (l.length ≤ c ∧ c ≤ maxLen) := ⟨hc, hcm⟩
  obtain ⟨za, hza, hza2⟩ := zero_fact
  have Hza := Lib.hid hza2
  have Hx := Lib.hid hx
  have Hx2 := Lib.hid hx2
  obtain ⟨W0, hW0⟩ : ∃ W0, (w.alloc (.cells (howC x y z) 58)).alloc (.cells (howC x2 y2 z2) 58) = W0 := ⟨_, rfl⟩
  have hb0 : Below w.heap.size w W0 := by rw [← hW0]; exact ((Below.refl _ _).alloc (Nat.le_refl _) _).alloc (by simp) _
  have HH : Hid (Blk W0 w.heap.size (howC x y z).toList) := by
    unfold Hid; rw [← hW0]
    exact (Blk.new w (howC x y z) 58).below ((Below.refl _ _).alloc (Nat.le_refl _) _)
  have HG : Hid (Blk W0 (w.heap.size + 1) (howC x2 y2 z2).toList) := by
    unfold Hid; rw [← hW0]
    have h := Blk.new (w.alloc (.cells (howC x y z) 58)) (howC x2 y2 z2) 58
    rwa [show (w.alloc (.cells (howC x y z) 58)).heap.size = w.heap.size + 1 by simp] at h
  have Hb0 := Lib.hid hb0
  clear hR hQ hc hcm hza2 hx hx2 hb0
  obtain ⟨kb, hkb⟩ : ∃ kb, w.heap.size = kb := ⟨_, rfl⟩
  have Hkb := Lib.hid hkb
  rw [hkb] at HH HG
  obtain ⟨gb, hgb⟩ : ∃ gb, kb + 1 = gb := ⟨_, rfl⟩
  rw [hgb] at HG
  unfold howC at hW0 ⊢
  go_enter Try.func10, Try.ntmps10
  go_wp2_with fail
  clear hW0 hkb hgb
  refine (shown15_any _).mono ?_
  rintro e w1 ⟨rfl, hb1⟩
  have HH1 := Lib.hid (HH.out.below hb1)
  have HG1 := Lib.hid (HG.out.below hb1)
  have Hb1 := Lib.hid (Hb0.out.trans (hb1.mono Hb0.out.size))
  clear hb1 HH HG Hb0
  have a0 := HH1.out.cell (i := 0) rfl
  have a1 := HH1.out.cell (i := 1) rfl
  have a2 := HH1.out.cell (i := 2) rfl
  have g0 := HG1.out.cell (i := 0) rfl
  have g1 := HG1.out.cell (i := 1) rfl
  have g2 := HG1.out.cell (i := 2) rfl
  have hkl := HH1.out.lt
  have hgl := HG1.out.lt
  have HF1 : Hid (∀ W, Calls Try.prog 31 #[.agg #[.int .i64 x, .int .i64 y, .int .i64 z]] W fun e w' => e = .returned (.agg (howC (modF x 2001) (modF y 31) (modF z 20))) ∧ Below W.heap.size W w') := fun W => right_any W x y z Hx.out.1 Hx.out.2.1 Hx.out.2.2
  have HF2 : Hid (∀ W, Calls Try.prog 31 #[.agg #[.int .i64 x2, .int .i64 y2, .int .i64 z2]] W fun e w' => e = .returned (.agg (howC (modF x2 2001) (modF y2 31) (modF z2 20))) ∧ Below W.heap.size W w') := fun W => right_any W x2 y2 z2 Hx2.out.1 Hx2.out.2.1 Hx2.out.2.2
  have b1 := modF_b x (m := 2001) (by omega)
  have b2 := modF_b y (m := 31) (by omega)
  have b3 := modF_b z (m := 20) (by omega)
  have d1 := modF_b x2 (m := 2001) (by omega)
  have d2 := modF_b y2 (m := 31) (by omega)
  have d3 := modF_b z2 (m := 20) (by omega)
  generalize modF x 2001 = x' at *
  generalize modF y 31 = y' at *
  generalize modF z 20 = z' at *
  generalize modF x2 2001 = x2' at *
  generalize modF y2 31 = y2' at *
  generalize modF z2 20 = z2' at *
  have Hbd : Hid ((0 ≤ x' ∧ x' < 2001) ∧ (0 ≤ y' ∧ y' < 31) ∧ (0 ≤ z' ∧ z' < 20)) := ⟨b1, b2, b3⟩
  have Hbd2 : Hid ((0 ≤ x2' ∧ x2' < 2001) ∧ (0 ≤ y2' ∧ y2' < 31) ∧ (0 ≤ z2' ∧ z2' < 20)) := ⟨d1, d2, d3⟩
  clear b1 b2 b3 d1 d2 d3
  go_wp2
  have hS0 : Below w1.heap.size w1 w1.drew := (Below.refl _ _).drew
  refine Go.XR.region_phi (Below w1.heap.size w1) [(0, true), (2, true)] [1, 3, 4, 5, 6, 7] [] [24, 26, 10, 11] (TwPhi w1 (howC x' y' z') (howC x2' y2' z2')) Try.mixed (by kernel_rfl) (by kernel_rfl) (by kernel_rfl) (by kernel_rfl) (by kernel_rfl) (by kernel_rfl) ?_
  simp only [List.map_cons, List.map_nil, List.getElem?_cons_succ, List.getElem?_cons_zero]
  repeat (first | (refine Go.XR.S_light rfl rfl (by assumption) ?_ (fun w' hS K hK => ?_) (fun K hK => ?_); rotate_left 1; (have hS1 := bcell hS; go_step; exact hK); go_step; refine hK _ ?_; clear hK K))
  refine Go.XR.S_nil ?_
  refine Go.XR.PhQ.mk rfl ⟨hS0, fun h => (by cases h), fun h => (by cases h), fun h => (by cases h), fun h => (by cases h), fun h => (by cases h), fun h => (by cases h), fun h => (by cases h)⟩ ?_ (fun L ρ W h => h.below) ?_
  · simp only [List.map_cons, List.map_nil, List.getElem?_toArray, List.getElem?_cons_succ, List.getElem?_cons_zero]
    refine ⟨?_, ?_, ?_, ?_, ?_, ?_, trivial⟩
    · intro L ρ W hΦ hi hdep K hK
      simp only [Go.XR.putL]
      go_step
      refine (HF1.out W).mono ?_
      rintro e w' ⟨rfl, hb⟩
      exact hK _ _ ⟨updV ρ 24 (.agg (howC x' y' z')), rfl, (hΦ.bel hb).s1⟩
    · intro L ρ W hΦ hi hdep K hK
      simp only [Go.XR.putL]
      go_step
      refine (HF2.out W).mono ?_
      rintro e w' ⟨rfl, hb⟩
      exact hK _ _ ⟨updV ρ 26 (.agg (howC x2' y2' z2')), rfl, (hΦ.bel hb).s3⟩
    · intro L ρ W hΦ hi hdep K hK
      simp only [Go.XR.putL]
      go_step
      refine hK _ _ ⟨updV ρ 10 (.pointer (some ⟨W.heap.size, 0, none⟩)), rfl, hΦ.s4 hi rfl⟩
    · intro L ρ W hΦ hi hdep K hK
      simp only [Go.XR.putL]
      go_step
      refine hK _ _ ⟨updV ρ 11 (.pointer (some ⟨W.heap.size, 0, none⟩)), rfl, hΦ.s5 hi rfl⟩
    · intro L ρ W hΦ hi hdep K hK
      have l1 : L 1 = true := hdep ⟨1, .data⟩ (by simp) rfl
      have l4 : L 4 = true := hdep ⟨4, .data⟩ (by simp) rfl
      have e24 := hΦ.r1 l1
      obtain ⟨b, e10, hbl, hB⟩ := hΦ.a4 l4
      rw [hi] at hB
      have r0 : W.cell? ⟨b, 0, none⟩ = some (.int .i64 0) := hB.cell (i := 0) rfl
      have r1 : W.cell? ⟨b, 1, none⟩ = some (.int .i64 0) := hB.cell (i := 1) rfl
      have r2 : W.cell? ⟨b, 2, none⟩ = some (.int .i64 0) := hB.cell (i := 2) rfl
      have f0 := hB.free 0
      have f1 := hB.free 1
      have f2 := hB.free 2
      unfold howC at e24
      simp only [Go.XR.putL]
      go_step
      have hbut : But [b] W (((W.setCell ⟨b, 0, none⟩ (.int .i64 x')).setCell ⟨b, 1, none⟩ (.int .i64 y')).setCell ⟨b, 2, none⟩ (.int .i64 z')) := (((But.refl [b] W).setCell (.inl (by simp)) _).setCell (.inl (by simp)) _).setCell (.inl (by simp)) _
      refine hK _ _ ⟨ρ, ?_, hΦ.s6 l4 e10 (((hB.set 0 (.int .i64 x')).set 1 (.int .i64 y')).set 2 (.int .i64 z')) hbut⟩
      simp only [Go.XR.putL, e10, e24]
      rfl
    · intro L ρ W hΦ hi hdep K hK
      have l3 : L 3 = true := hdep ⟨3, .data⟩ (by simp) rfl
      have l5 : L 5 = true := hdep ⟨5, .data⟩ (by simp) rfl
      have e26 := hΦ.r3 l3
      obtain ⟨b, e11, hbl, hB⟩ := hΦ.a5 l5
      rw [hi] at hB
      have r0 : W.cell? ⟨b, 0, none⟩ = some (.int .i64 0) := hB.cell (i := 0) rfl
      have r1 : W.cell? ⟨b, 1, none⟩ = some (.int .i64 0) := hB.cell (i := 1) rfl
      have r2 : W.cell? ⟨b, 2, none⟩ = some (.int .i64 0) := hB.cell (i := 2) rfl
      have f0 := hB.free 0
      have f1 := hB.free 1
      have f2 := hB.free 2
      unfold howC at e26
      simp only [Go.XR.putL]
      go_step
      have hbut : But [b] W (((W.setCell ⟨b, 0, none⟩ (.int .i64 x2')).setCell ⟨b, 1, none⟩ (.int .i64 y2')).setCell ⟨b, 2, none⟩ (.int .i64 z2')) := (((But.refl [b] W).setCell (.inl (by simp)) _).setCell (.inl (by simp)) _).setCell (.inl (by simp)) _
      refine hK _ _ ⟨ρ, ?_, hΦ.s7 l5 e11 (((hB.set 0 (.int .i64 x2')).set 1 (.int .i64 y2')).set 2 (.int .i64 z2')) hbut⟩
      simp only [Go.XR.putL, e11, e26]
      rfl
  · intro L ρ W hL hΦ
    have e24 := hΦ.r1 (hL 1 (by decide))
    have e26 := hΦ.r3 (hL 3 (by decide))
    obtain ⟨b4, e10, hb4, hB4⟩ := hΦ.a4 (hL 4 (by decide))
    obtain ⟨b5, e11, hb5, hB5⟩ := hΦ.a5 (hL 5 (by decide))
    rw [hL 6 (by decide)] at hB4
    rw [hL 7 (by decide)] at hB5
    have HB4 : Hid (Blk W b4 [.int .i64 x', .int .i64 y', .int .i64 z']) := hB4
    have HB5 : Hid (Blk W b5 [.int .i64 x2', .int .i64 y2', .int .i64 z2']) := hB5
    have Hbw := Lib.hid (Hb1.out.trans (hΦ.below.mono Hb1.out.size))
    unfold howC at e24 e26
    simp only [Go.XR.putL, e10, e11, e24, e26]
    clear e10 e11 e24 e26 hb4 hb5 hB4 hB5 hΦ hL hS0 a0 a1 a2 g0 g1 g2 hkl hgl HH1 HG1 Hb1 HF1 HF2
    have r0 := HB4.out.cell (i := 0) rfl
    have r1 := HB4.out.cell (i := 1) rfl
    have r2 := HB4.out.cell (i := 2) rfl
    go_wp2_with fail
    refine (fnew_any W x' y' z').mono ?_
    intro e w4 h4
    rcases h4.on with ⟨hbad, _⟩ | ⟨fa, fb, fc, hfa, hfb, hfc, _, p, F, rfl, hF, hFB, hb4⟩
    · exact absurd ⟨⟨by have := Hbd.out; omega, by have := Hbd.out; omega⟩, ⟨by have := Hbd.out; omega, by have := Hbd.out; omega⟩, ⟨by have := Hbd.out; omega, by have := Hbd.out; omega⟩⟩ hbad
    have HF := Lib.hid hF
    have HFB : Hid (∀ b ∈ F, w.heap.size ≤ b) := fun b h => Nat.le_trans Hbw.out.size (hFB b h)
    have Hb4 := Lib.hid (Hbw.out.trans (hb4.mono Hbw.out.size))
    have HB5' := Lib.hid (HB5.out.below hb4)
    clear h4 hfa hfb hfc hF hFB hb4 Hbw HB5 HB4 r0 r1 r2
    have r0 := HB5'.out.cell (i := 0) rfl
    have r1 := HB5'.out.cell (i := 1) rfl
    have r2 := HB5'.out.cell (i := 2) rfl
    go_wp2_with fail
    refine (fnew_any w4 x2' y2' z2').mono ?_
    intro e w5 h5
    rcases h5.on with ⟨hbad, _⟩ | ⟨ga, gb', gc, hga, hgb2, hgc, _, xp, X, rfl, hG, hGB, hb5⟩
    · exact absurd ⟨⟨by have := Hbd2.out; omega, by have := Hbd2.out; omega⟩, ⟨by have := Hbd2.out; omega, by have := Hbd2.out; omega⟩, ⟨by have := Hbd2.out; omega, by have := Hbd2.out; omega⟩⟩ hbad
    have HI5 := Lib.hid hG
    have HF5 := Lib.hid (HF.out.below hb5)
    have Hdis5 : Hid (∀ b ∈ F, b ∉ X) := fun b h1 h2 => by have := HF.out.lt b h1; have := hGB b h2; omega
    have HXB5 : Hid (∀ b ∈ X, w.heap.size ≤ b) := fun b h => Nat.le_trans Hb4.out.size (hGB b h)
    have Hb5 := Lib.hid (Hb4.out.trans (hb5.mono Hb4.out.size))
    clear h5 hga hgb2 hgc hG hGB hb5 HF Hb4 HB5' r0 r1 r2 Hbd Hbd2 Hx Hx2
    go_wp2_with fail
    refine (ffew_any w5 a c l (HR.out.below (show Below w.heap.size w w5 from Hb5.out)) (Nat.le_trans Hlc.out.1 Hlc.out.2) Hlc.out.1 (fun q hq => Nat.le_trans (HQ.out q hq).2.1 (HQ.out q hq).2.2)).mono ?_
    rintro e w6 ⟨n, hnl, hn150, rfl, hw6, hbl⟩
    rw [hw6]
    have Hbl := Lib.hid hbl
    obtain ⟨S, hS⟩ : ∃ S, l.take n = S := ⟨_, rfl⟩
    have HSl : Hid (S.length = n) := by unfold Hid; rw [← hS, List.length_take]; omega
    have HRS : Hid (Row w a (S.flatMap factL)) := by
      have h1 := HR.out.take (n * 38)
      rw [flat_take factL_length l hnl, hS] at h1
      exact h1
    have HQS : Hid (∀ q ∈ S, FActQ w q ∧ q.b.length ≤ 2000) := fun q hq => by
      rw [← hS] at hq
      exact ⟨HQ.out q (List.mem_of_mem_take hq), Hbl.out q hq⟩
    have hnc : n ≤ c := Nat.le_trans hnl Hlc.out.1
    have Hby := Lib.hid hby
    clear hw6 hbl Hbl hS HR HQ Hlc hnl hby
    go_wp2
    go_loopg [64] n (fun m i wr => ∃ j : Nat, j ≤ n ∧ i = .int .i64 j ∧ Hid (m = n - j ∧ Below w.heap.size w wr ∧ ∃ M N F X, FOn wr p F M ∧ FOn wr xp X N ∧ Inv M ∧ Inv N ∧ N.D = M.D ∧ (∀ b ∈ F, b ∉ X) ∧ (∀ b ∈ F, w.heap.size ≤ b) ∧ (∀ b ∈ X, w.heap.size ≤ b) ∧ M.D.length ≤ j ∧ (M.asked ≤ j ∧ M.loaded ≤ j) ∧ (N.asked ≤ j ∧ N.loaded ≤ j)))
    case atStart => exact ⟨0, by omega, rfl, rfl, Hb5.out, _, _, F, X, HF5.out, HI5.out, fin0_inv _ _ _, fin0_inv _ _ _, rfl, Hdis5.out, HFB.out, HXB5.out, Nat.le_refl _, ⟨Nat.le_refl _, Nat.le_refl _⟩, ⟨Nat.le_refl _, Nat.le_refl _⟩⟩
    case round =>
      obtain ⟨j, hj, rfl, hr⟩ := hrel
      have Hm := Lib.hid hr.out.1
      have Hbw := Lib.hid hr.out.2.1
      obtain ⟨M, N, F1, X1, hF1, hI1, hinv, hinvN, hND, hdis, hFB1, hXB1, hDl, hal, halN⟩ := hr.out.2.2
      have HF1 := Lib.hid hF1
      have HI1 := Lib.hid hI1
      have HInv := Lib.hid hinv
      have HInvN := Lib.hid hinvN
      have HND := Lib.hid hND
      have Hdis1 := Lib.hid hdis
      have HFB1 := Lib.hid hFB1
      have HXB1 := Lib.hid hXB1
      have HDl : Hid (M.D.length ≤ j ∧ M.asked ≤ j ∧ M.loaded ≤ j) := ⟨hDl, hal⟩
      have HAN := Lib.hid halN
      clear hr hF1 hI1 hinv hinvN hND hdis hFB1 hXB1 hDl hal halN
      by_cases hlt : j < n
      · have hlt2 : (j : Int) < (n : Int) := by omega
        have hltS : j < S.length := by rw [HSl.out]; exact hlt
        obtain ⟨g, o, rfl, hX⟩ := row_at factL_length (HRS.out.below Hbw.out) hltS (by omega)
        have HX : Hid (At wr g (o + j * 38) (factC S[j])) := hX
        have Hact := Lib.hid (HQS.out _ (List.getElem_mem hltS))
        clear hX
        generalize S[j] = act at *
        clear hltS
        go_wp2_with (first | (refine opIs (X := .load 74 (.tmp 66)) rfl ?_; refine wpList_load_at rfl 74 (.tmp 66) rfl g (o + j * 38) (by kernel_rfl) (factC act) HX.out _ Try.underlying74 rfl (factSize act) ?_) | (refine wpList_alloc_new rfl 74 rfl za (Hza.out _) ?_) | (refine opIs (X := .store 74 (.tmp 17) (.tmp 67)) rfl ?_; refine wpList_store_new rfl 74 (.tmp 17) (.tmp 67) rfl za (factC act) 74 (by kernel_rfl) (by kernel_rfl) (by rw [hza, factC_size]) (one_factL act) (factSize act) ?_; refine Go.XR.stop (fun X hX => ?_)) | fail)
        refine hX.out ?_
        clear hX X
        obtain ⟨W3, hW3⟩ : ∃ W3, wr.alloc (.cells (factC act) 74) = W3 := ⟨_, rfl⟩
        have hb3 : Below wr.heap.size wr W3 := by rw [← hW3]; exact (Below.refl _ _).alloc (Nat.le_refl _) _
        have HA3 : Hid (At W3 wr.heap.size 0 (factC act)) := by unfold Hid; rw [← hW3]; exact At.new _ _ _
        have HF3 := Lib.hid (HF1.out.below hb3)
        have HI3 := Lib.hid (HI1.out.below hb3)
        have HaF3 : Hid (wr.heap.size ∉ F1 ∧ wr.heap.size ∉ X1) := ⟨fun h => by have := HF1.out.lt _ h; omega, fun h => by have := HI1.out.lt _ h; omega⟩
        have Hb3 := Lib.hid (Hbw.out.trans (hb3.mono Hbw.out.size))
        have HrowB : Hid (∀ G : List Nat, (∀ b ∈ G, w.heap.size ≤ b) → 0 < act.b.length → ∀ g o, act.ba = some ⟨g, o, none⟩ → g ∉ G) := fun G hG hl g o hg hm => by
          obtain ⟨g', o', hg', hcell⟩ := Hact.out.1.1.get (j := 0) (u := byV (act.b[0]'hl)) (by rw [List.getElem?_map, List.getElem?_eq_getElem hl]; rfl)
          rw [hg] at hg'
          cases hg'
          have h1 := cell_lt hcell
          have h2 := hG g hm
          have h3 : g < w.heap.size := h1
          omega
        obtain ⟨ab, hab⟩ : ∃ ab, wr.heap.size = ab := ⟨_, rfl⟩
        rw [hab] at HA3 HaF3 ⊢
        rw [hW3]
        clear hb3 hW3 hab HX HF1 HI1 Hbw
        go_wp2_with (first | (refine opIs (X := .load 74 (.tmp 17)) rfl ?_; refine wpList_load_at rfl 74 (.tmp 17) rfl ab 0 rfl (factC act) HA3.out _ Try.underlying74 rfl (factSize act) ?_) | fail)
        refine (does_any W3 p F1 M HF3.out (by have := HDl.out.1; omega) act (Hact.out.1.1.below Hb3.out) Hact.out.2 (HrowB.out F1 HFB1.out)).mono ?_
        rintro e w4 ⟨rfl, M', hdo, F4, hF4, hb4, hg4⟩
        have Hdo := Lib.hid hdo
        have HF4 := Lib.hid hF4
        have HI4 := Lib.hid (HI3.out.but hb4 (fun b h1 h2 => Hdis1.out b h2 h1))
        have Hdis4 := Lib.hid (dis_grew Hdis1.out hg4 HI3.out.lt)
        have HFB4 := Lib.hid (base_grew HFB1.out hg4 Hb3.out.size)
        have HA4 := Lib.hid (HA3.out.but hb4 HaF3.out.1)
        have hab3 : ab < W3.heap.size := HA3.out.lt (by rw [factC_size]; omega)
        have HaF4 : Hid (ab ∉ F4 ∧ ab ∉ X1) := ⟨fun h => by
          rcases hg4 _ h with h1 | h1
          · exact HaF3.out.1 h1
          · omega, HaF3.out.2⟩
        have Hb4 := Lib.hid (Hb3.out.trans (hb4.below Hb3.out.size HFB1.out))
        clear hdo hF4 hb4 hg4 hab3 HF3 HI3 HFB1 HA3 HaF3 Hb3 Hdis1
        have ck : w4.cell? ⟨ab, 0, none⟩ = some (.int .u8 (act.kind : Int)) := fact_at HA4.out (fact_kind act)
        have hk := act.hk
        obtain ⟨q, hq5⟩ : ∃ q, act.kind % 5 = q := ⟨_, rfl⟩
        have hqi : (act.kind : Int) % 5 = (q : Int) := by omega
        have hqlt : q < 5 := by omega
        have Hds : Hid (2 ≤ q → dStep M.D act.kind act.key act.place = M.D) := fun h => by
          unfold dStep; rw [hq5, if_neg (by omega), if_neg (by omega)]
        clear hq5
        by_cases hq2 : q < 2
        · have hq2i : (q : Int) < 2 := by omega
          go_wp2_with (first | (refine opIs (X := .load 74 (.tmp 17)) rfl ?_; refine wpList_load_at rfl 74 (.tmp 17) rfl ab 0 rfl (factC act) HA4.out _ Try.underlying74 rfl (factSize act) ?_) | fail)
          refine (does_any w4 xp X1 N HI4.out (by rw [HND.out]; have := HDl.out.1; omega) act (Hact.out.1.1.below Hb4.out) Hact.out.2 (HrowB.out X1 HXB1.out)).mono ?_
          rintro e w6 ⟨rfl, N', hdoN, X6, hI6, hb6, hg6⟩
          have HI6 := Lib.hid hI6
          have HInvN6 := Lib.hid (hdoN.inv HInvN.out)
          have HND6 : Hid (N'.D = M'.D) := by unfold Hid; rw [hdoN.d, Hdo.out.d, HND.out]
          have HAN6 : Hid (N'.asked ≤ j ∧ N'.loaded ≤ j) := ⟨by rw [hdoN.asked]; exact HAN.out.1, by rw [hdoN.loaded]; exact HAN.out.2⟩
          have HF6 := Lib.hid (HF4.out.but hb6 (fun b h1 h2 => Hdis4.out b h1 h2))
          have Hdis6 : Hid (∀ b ∈ F4, b ∉ X6) := fun b h1 h2 => dis_grew (fun b h1 h2 => Hdis4.out b h2 h1) hg6 HF4.out.lt b h2 h1
          have HXB6 := Lib.hid (base_grew HXB1.out hg6 Hb4.out.size)
          have HA6 := Lib.hid (HA4.out.but hb6 HaF4.out.2)
          have hab4 : ab < w4.heap.size := HA4.out.lt (by rw [factC_size]; omega)
          have HaF6 : Hid (ab ∉ F4 ∧ ab ∉ X6) := ⟨HaF4.out.1, fun h => by
            rcases hg6 _ h with h1 | h1
            · exact HaF4.out.2 h1
            · omega⟩
          have Hb6 := Lib.hid (Hb4.out.trans (hb6.below Hb4.out.size HXB1.out))
          clear hdoN hI6 hb6 hg6 hab4 HI4 HF4 Hdis4 HXB1 HA4 HaF4 Hb4 ck hqi hq2i HInvN HND HAN
          have hinv2 := Hdo.out.inv HInv.out
          have HInv2 := Lib.hid hinv2
          have hD2 : M'.D.length ≤ j + 1 := by
            rw [Hdo.out.d]
            have h1 := HDl.out.1
            unfold dStep
            split
            · have h2 := aput_le (adel M.D act.key) act.key act.place
              have h3 := adel_len M.D act.key
              omega
            · split
              · have h3 := adel_len M.D act.key
                omega
              · omega
          have HD2 : Hid (M'.D.length ≤ j + 1 ∧ M'.asked ≤ j ∧ M'.loaded ≤ j) := ⟨hD2, by rw [Hdo.out.asked]; exact HDl.out.2.1, by rw [Hdo.out.loaded]; exact HDl.out.2.2⟩
          have cd6 : w6.cell? ⟨ab, 36, none⟩ = some (.int .u64 (act.draw : Int)) := by have := fact_at HA6.out (fact_draw act); rwa [Nat.zero_add] at this
          have HK6 := Lib.hid (row_at_key (fact_row HA6.out))
          clear hinv2 hD2 HInv
          go_wp2_with (first | (refine opIs (X := .load 27 (.tmp 81)) rfl ?_; refine wpList_load_at rfl 27 (.tmp 81) rfl ab (0 + 1) rfl (keyC act.key) HK6.out _ Try.underlying27 rfl (keySize _) ?_) | fail)
          refine (fo_find HF6.out (by have := HD2.out.1; omega) (by have := HD2.out.2.1; omega) (by have := HD2.out.2.2; omega) act.key act.draw act.hd).mono ?_
          rintro e w7 ⟨L7, hL7, rfl, F7, hF7, hb7, hg7⟩
          have hval := fFind_val HInv2.out act.key act.draw L7
          have hinv7 := fFind_inv HInv2.out act.key act.draw L7 hL7 (fun v hv => (HF6.out.rng _ _ hv).1)
          have hfd := fFind_same M' act.key act.draw L7
          obtain ⟨M7, hM7⟩ : ∃ M7, (fFind M' act.key act.draw L7).2 = M7 := ⟨_, rfl⟩
          rw [hM7] at hF7 hinv7 hfd
          rw [hval]
          have HF7 := Lib.hid hF7
          have HInv7 := Lib.hid hinv7
          have HD7 : Hid (M7.D = M'.D ∧ M7.asked ≤ j + 1 ∧ M7.loaded ≤ j + 1) := ⟨hfd.1, by have := hfd.2.1; have := HD2.out.2.1; omega, by have := hfd.2.2; have := HD2.out.2.2; omega⟩
          have HI7 := Lib.hid (HI6.out.but hb7 (fun b h1 h2 => Hdis6.out b h2 h1))
          have Hdis7 := Lib.hid (dis_grew Hdis6.out hg7 HI6.out.lt)
          have HFB7 := Lib.hid (base_grew HFB4.out hg7 Hb6.out.size)
          have HA7 := Lib.hid (HA6.out.but hb7 (fun h => HaF6.out.1 h))
          have Hb7 := Lib.hid (Hb6.out.trans (hb7.below Hb6.out.size HFB4.out))
          obtain ⟨v, hv⟩ : ∃ v, (aget M'.D act.key).getD place0 = v := ⟨_, rfl⟩
          obtain ⟨is, his⟩ : ∃ b, (aget M'.D act.key).isSome = b := ⟨_, rfl⟩
          have Hv : Hid ((aget M'.D act.key).getD place0 = v ∧ (aget M'.D act.key).isSome = is) := ⟨hv, his⟩
          rw [hv, his, show placeV v = .agg #[.int .i64 v.shelf, .int .i64 v.slot] from rfl]
          clear hL7 hF7 hb7 hg7 hval hinv7 hfd hM7 hv his cd6 HK6 HF6 HI6 Hdis6 HFB4 HA6 HaF6 Hb6 HInv2
          obtain ⟨W8, hW8⟩ : ∃ W8, w7.alloc (.cells #[.int .i64 v.shelf, .int .i64 v.slot] 33) = W8 := ⟨_, rfl⟩
          have hb8 : Below w7.heap.size w7 W8 := by rw [← hW8]; exact (Below.refl _ _).alloc (Nat.le_refl _) _
          have HP8 : Hid (Blk W8 w7.heap.size [.int .i64 v.shelf, .int .i64 v.slot]) := by unfold Hid; rw [← hW8]; exact Blk.new w7 #[.int .i64 v.shelf, .int .i64 v.slot] _
          have HpX : Hid (w7.heap.size ∉ X6) := fun h => by have := HI7.out.lt _ h; omega
          obtain ⟨pb, hpb⟩ : ∃ pb, w7.heap.size = pb := ⟨_, rfl⟩
          rw [hpb] at HP8 HpX
          have HA8 := Lib.hid (HA7.out.below (by rw [factC_size]; omega) hb8)
          have HK8 := Lib.hid (row_at_key (fact_row HA8.out))
          have cd8 : W8.cell? ⟨ab, 36, none⟩ = some (.int .u64 (act.draw : Int)) := by have := fact_at HA8.out (fact_draw act); rwa [Nat.zero_add] at this
          have HI8 := Lib.hid (HI7.out.below hb8)
          have HF8 := Lib.hid (HF7.out.below hb8)
          have Hb8 := Lib.hid (Hb7.out.trans (hb8.mono Hb7.out.size))
          have hxor := bits_xor_u64_nat act.draw by_ act.hd Hby.out
          have hxlt : act.draw ^^^ by_ < 18446744073709551616 := Nat.xor_lt_two_pow (n := 64) act.hd Hby.out
          obtain ⟨dr, hdr⟩ : ∃ dr, act.draw ^^^ by_ = dr := ⟨_, rfl⟩
          rw [hdr] at hxor hxlt
          clear hb8 HA7 HI7 HF7 Hb7 hdr
          go_wp2_with (first | (refine opIs (X := .load 27 (.tmp 91)) rfl ?_; refine Go.XR.stop (fun X hX => ?_)) | fail)
          refine hX.out ?_
          clear hX X hW8 hpb
          go_wp2_with (first | (refine opIs (X := .load 27 (.tmp 91)) rfl ?_; refine wpList_load_at rfl 27 (.tmp 91) rfl ab (0 + 1) rfl (keyC act.key) HK8.out _ Try.underlying27 rfl (keySize _) ?_) | fail)
          refine (fo_find HI8.out (by rw [HND6.out]; have := HD2.out.1; omega) (by have := HAN6.out.1; omega) (by have := HAN6.out.2; omega) act.key dr hxlt).mono ?_
          rintro e w9 ⟨L9, hL9, rfl, X9, hI9, hb9, hg9⟩
          have hval := fFind_val HInvN6.out act.key dr L9
          have hinv9 := fFind_inv HInvN6.out act.key dr L9 hL9 (fun v hv => (HI8.out.rng _ _ hv).1)
          have hfd := fFind_same N' act.key dr L9
          obtain ⟨N9, hN9⟩ : ∃ N9, (fFind N' act.key dr L9).2 = N9 := ⟨_, rfl⟩
          rw [hN9] at hI9 hinv9 hfd
          rw [hval, HND6.out, Hv.out.1, Hv.out.2, show placeV v = .agg #[.int .i64 v.shelf, .int .i64 v.slot] from rfl]
          have HI9 := Lib.hid hI9
          have HInv9 := Lib.hid hinv9
          have HD9 : Hid (N9.D = M7.D ∧ N9.asked ≤ j + 1 ∧ N9.loaded ≤ j + 1) := ⟨by rw [hfd.1, HND6.out, HD7.out.1], by have := hfd.2.1; have := HAN6.out.1; omega, by have := hfd.2.2; have := HAN6.out.2; omega⟩
          have HF9 := Lib.hid (HF8.out.but hb9 (fun b h1 h2 => Hdis7.out b h1 h2))
          have Hdis9 : Hid (∀ b ∈ F7, b ∉ X9) := fun b h1 h2 => dis_grew (fun b h1 h2 => Hdis7.out b h2 h1) hg9 HF8.out.lt b h2 h1
          have HXB9 := Lib.hid (base_grew HXB6.out hg9 Hb8.out.size)
          have HP9 := Lib.hid (HP8.out.but hb9 HpX.out)
          have Hb9 := Lib.hid (Hb8.out.trans (hb9.below Hb8.out.size HXB6.out))
          clear hL9 hI9 hb9 hg9 hval hinv9 hfd hN9 cd8 HK8 HA8 HI8 HF8 Hb8 HP8 HXB6 Hdis7 hxor hxlt
          have d0 := HP9.out.cell (i := 0) rfl
          have d1 := HP9.out.cell (i := 1) rfl
          have hpl := HP9.out.lt
          have hbz := beq_self_eq_true is
          go_wp2
          have hb10 : Below w9.heap.size w9 (w9.alloc (.cells #[.int .i64 v.shelf, .int .i64 v.slot] 33)) := (Below.refl _ _).alloc (Nat.le_refl _) _
          go_roundg (n - (j + 1))
          case measure => have := Hm.out; omega
          case rel => exact ⟨j + 1, by omega, by go_num, rfl, Hb9.out.trans (hb10.mono Hb9.out.size), M7, N9, F7, X9, HF9.out.below hb10, HI9.out.below hb10, HInv7.out, HInv9.out, HD9.out.1, Hdis9.out, HFB7.out, HXB9.out, by rw [HD7.out.1]; exact HD2.out.1, HD7.out.2, HD9.out.2⟩
        · have hq2i : ¬ (q : Int) < 2 := by omega
          have HND6 : Hid (N.D = M'.D) := by unfold Hid; rw [Hdo.out.d, Hds.out (by omega), HND.out]
          obtain ⟨N', hN'⟩ : ∃ N', N = N' := ⟨_, rfl⟩
          obtain ⟨w6, hw6⟩ : ∃ w6, w4 = w6 := ⟨_, rfl⟩
          obtain ⟨X6, hX6⟩ : ∃ X6, X1 = X6 := ⟨_, rfl⟩
          have HI6 := Lib.hid HI4.out
          have HInvN6 := Lib.hid HInvN.out
          have HAN6 := Lib.hid HAN.out
          have HF6 := Lib.hid HF4.out
          have Hdis6 := Lib.hid Hdis4.out
          have HXB6 := Lib.hid HXB1.out
          have HA6 := Lib.hid HA4.out
          have HaF6 := Lib.hid HaF4.out
          have Hb6 := Lib.hid Hb4.out
          clear HI4 HF4 Hdis4 HXB1 HA4 HaF4 Hb4 HInvN HND HAN
          rw [hw6, hX6, hN'] at HI6
          rw [hN'] at HInvN6 HND6 HAN6
          rw [hX6] at Hdis6 HXB6 HaF6
          rw [hw6] at HF6 HA6 Hb6 ck ⊢
          clear hw6 hX6 hN'
          go_wp2_with (first | (refine opIs (X := .load 66 (.tmp 83)) rfl ?_; refine Go.XR.stop (fun X hX => ?_)) | (refine opIs (X := .load 27 (.tmp 81)) rfl ?_; refine Go.XR.stop (fun X hX => ?_)))
          refine hX.out ?_
          clear hX X ck hqi hq2i
          have hinv2 := Hdo.out.inv HInv.out
          have HInv2 := Lib.hid hinv2
          have hD2 : M'.D.length ≤ j + 1 := by
            rw [Hdo.out.d]
            have h1 := HDl.out.1
            unfold dStep
            split
            · have h2 := aput_le (adel M.D act.key) act.key act.place
              have h3 := adel_len M.D act.key
              omega
            · split
              · have h3 := adel_len M.D act.key
                omega
              · omega
          have HD2 : Hid (M'.D.length ≤ j + 1 ∧ M'.asked ≤ j ∧ M'.loaded ≤ j) := ⟨hD2, by rw [Hdo.out.asked]; exact HDl.out.2.1, by rw [Hdo.out.loaded]; exact HDl.out.2.2⟩
          have cd6 : w6.cell? ⟨ab, 36, none⟩ = some (.int .u64 (act.draw : Int)) := by have := fact_at HA6.out (fact_draw act); rwa [Nat.zero_add] at this
          have HK6 := Lib.hid (row_at_key (fact_row HA6.out))
          clear hinv2 hD2 HInv
          go_wp2_with (first | (refine opIs (X := .load 27 (.tmp 81)) rfl ?_; refine wpList_load_at rfl 27 (.tmp 81) rfl ab (0 + 1) rfl (keyC act.key) HK6.out _ Try.underlying27 rfl (keySize _) ?_) | fail)
          refine (fo_find HF6.out (by have := HD2.out.1; omega) (by have := HD2.out.2.1; omega) (by have := HD2.out.2.2; omega) act.key act.draw act.hd).mono ?_
          rintro e w7 ⟨L7, hL7, rfl, F7, hF7, hb7, hg7⟩
          have hval := fFind_val HInv2.out act.key act.draw L7
          have hinv7 := fFind_inv HInv2.out act.key act.draw L7 hL7 (fun v hv => (HF6.out.rng _ _ hv).1)
          have hfd := fFind_same M' act.key act.draw L7
          obtain ⟨M7, hM7⟩ : ∃ M7, (fFind M' act.key act.draw L7).2 = M7 := ⟨_, rfl⟩
          rw [hM7] at hF7 hinv7 hfd
          rw [hval]
          have HF7 := Lib.hid hF7
          have HInv7 := Lib.hid hinv7
          have HD7 : Hid (M7.D = M'.D ∧ M7.asked ≤ j + 1 ∧ M7.loaded ≤ j + 1) := ⟨hfd.1, by have := hfd.2.1; have := HD2.out.2.1; omega, by have := hfd.2.2; have := HD2.out.2.2; omega⟩
          have HI7 := Lib.hid (HI6.out.but hb7 (fun b h1 h2 => Hdis6.out b h2 h1))
          have Hdis7 := Lib.hid (dis_grew Hdis6.out hg7 HI6.out.lt)
          have HFB7 := Lib.hid (base_grew HFB4.out hg7 Hb6.out.size)
          have HA7 := Lib.hid (HA6.out.but hb7 (fun h => HaF6.out.1 h))
          have Hb7 := Lib.hid (Hb6.out.trans (hb7.below Hb6.out.size HFB4.out))
          obtain ⟨v, hv⟩ : ∃ v, (aget M'.D act.key).getD place0 = v := ⟨_, rfl⟩
          obtain ⟨is, his⟩ : ∃ b, (aget M'.D act.key).isSome = b := ⟨_, rfl⟩
          have Hv : Hid ((aget M'.D act.key).getD place0 = v ∧ (aget M'.D act.key).isSome = is) := ⟨hv, his⟩
          rw [hv, his, show placeV v = .agg #[.int .i64 v.shelf, .int .i64 v.slot] from rfl]
          clear hL7 hF7 hb7 hg7 hval hinv7 hfd hM7 hv his cd6 HK6 HF6 HI6 Hdis6 HFB4 HA6 HaF6 Hb6 HInv2
          obtain ⟨W8, hW8⟩ : ∃ W8, w7.alloc (.cells #[.int .i64 v.shelf, .int .i64 v.slot] 33) = W8 := ⟨_, rfl⟩
          have hb8 : Below w7.heap.size w7 W8 := by rw [← hW8]; exact (Below.refl _ _).alloc (Nat.le_refl _) _
          have HP8 : Hid (Blk W8 w7.heap.size [.int .i64 v.shelf, .int .i64 v.slot]) := by unfold Hid; rw [← hW8]; exact Blk.new w7 #[.int .i64 v.shelf, .int .i64 v.slot] _
          have HpX : Hid (w7.heap.size ∉ X6) := fun h => by have := HI7.out.lt _ h; omega
          obtain ⟨pb, hpb⟩ : ∃ pb, w7.heap.size = pb := ⟨_, rfl⟩
          rw [hpb] at HP8 HpX
          have HA8 := Lib.hid (HA7.out.below (by rw [factC_size]; omega) hb8)
          have HK8 := Lib.hid (row_at_key (fact_row HA8.out))
          have cd8 : W8.cell? ⟨ab, 36, none⟩ = some (.int .u64 (act.draw : Int)) := by have := fact_at HA8.out (fact_draw act); rwa [Nat.zero_add] at this
          have HI8 := Lib.hid (HI7.out.below hb8)
          have HF8 := Lib.hid (HF7.out.below hb8)
          have Hb8 := Lib.hid (Hb7.out.trans (hb8.mono Hb7.out.size))
          have hxor := bits_xor_u64_nat act.draw by_ act.hd Hby.out
          have hxlt : act.draw ^^^ by_ < 18446744073709551616 := Nat.xor_lt_two_pow (n := 64) act.hd Hby.out
          obtain ⟨dr, hdr⟩ : ∃ dr, act.draw ^^^ by_ = dr := ⟨_, rfl⟩
          rw [hdr] at hxor hxlt
          clear hb8 HA7 HI7 HF7 Hb7 hdr
          go_wp2_with (first | (refine opIs (X := .load 27 (.tmp 91)) rfl ?_; refine Go.XR.stop (fun X hX => ?_)) | fail)
          refine hX.out ?_
          clear hX X hW8 hpb
          go_wp2_with (first | (refine opIs (X := .load 27 (.tmp 91)) rfl ?_; refine wpList_load_at rfl 27 (.tmp 91) rfl ab (0 + 1) rfl (keyC act.key) HK8.out _ Try.underlying27 rfl (keySize _) ?_) | fail)
          refine (fo_find HI8.out (by rw [HND6.out]; have := HD2.out.1; omega) (by have := HAN6.out.1; omega) (by have := HAN6.out.2; omega) act.key dr hxlt).mono ?_
          rintro e w9 ⟨L9, hL9, rfl, X9, hI9, hb9, hg9⟩
          have hval := fFind_val HInvN6.out act.key dr L9
          have hinv9 := fFind_inv HInvN6.out act.key dr L9 hL9 (fun v hv => (HI8.out.rng _ _ hv).1)
          have hfd := fFind_same N' act.key dr L9
          obtain ⟨N9, hN9⟩ : ∃ N9, (fFind N' act.key dr L9).2 = N9 := ⟨_, rfl⟩
          rw [hN9] at hI9 hinv9 hfd
          rw [hval, HND6.out, Hv.out.1, Hv.out.2, show placeV v = .agg #[.int .i64 v.shelf, .int .i64 v.slot] from rfl]
          have HI9 := Lib.hid hI9
          have HInv9 := Lib.hid hinv9
          have HD9 : Hid (N9.D = M7.D ∧ N9.asked ≤ j + 1 ∧ N9.loaded ≤ j + 1) := ⟨by rw [hfd.1, HND6.out, HD7.out.1], by have := hfd.2.1; have := HAN6.out.1; omega, by have := hfd.2.2; have := HAN6.out.2; omega⟩
          have HF9 := Lib.hid (HF8.out.but hb9 (fun b h1 h2 => Hdis7.out b h1 h2))
          have Hdis9 : Hid (∀ b ∈ F7, b ∉ X9) := fun b h1 h2 => dis_grew (fun b h1 h2 => Hdis7.out b h2 h1) hg9 HF8.out.lt b h2 h1
          have HXB9 := Lib.hid (base_grew HXB6.out hg9 Hb8.out.size)
          have HP9 := Lib.hid (HP8.out.but hb9 HpX.out)
          have Hb9 := Lib.hid (Hb8.out.trans (hb9.below Hb8.out.size HXB6.out))
          clear hL9 hI9 hb9 hg9 hval hinv9 hfd hN9 cd8 HK8 HA8 HI8 HF8 Hb8 HP8 HXB6 Hdis7 hxor hxlt
          have d0 := HP9.out.cell (i := 0) rfl
          have d1 := HP9.out.cell (i := 1) rfl
          have hpl := HP9.out.lt
          have hbz := beq_self_eq_true is
          go_wp2
          have hb10 : Below w9.heap.size w9 (w9.alloc (.cells #[.int .i64 v.shelf, .int .i64 v.slot] 33)) := (Below.refl _ _).alloc (Nat.le_refl _) _
          go_roundg (n - (j + 1))
          case measure => have := Hm.out; omega
          case rel => exact ⟨j + 1, by omega, by go_num, rfl, Hb9.out.trans (hb10.mono Hb9.out.size), M7, N9, F7, X9, HF9.out.below hb10, HI9.out.below hb10, HInv7.out, HInv9.out, HD9.out.1, Hdis9.out, HFB7.out, HXB9.out, by rw [HD7.out.1]; exact HD2.out.1, HD7.out.2, HD9.out.2⟩
      · have hge : ¬ (j : Int) < (n : Int) := by omega
        go_wp2_with fail
        refine (fo_len HF1.out).mono ?_
        rintro e w8 ⟨rfl, hb8⟩
        have HI8 := Lib.hid (HI1.out.below hb8)
        have Hb8 := Lib.hid (Hbw.out.trans (hb8.mono Hbw.out.size))
        clear hb8
        go_wp2_with fail
        refine (fo_len HI8.out).mono ?_
        rintro e w9 ⟨rfl, hb9⟩
        rw [HND.out]
        have Hb9 := Lib.hid (Hb8.out.trans (hb9.mono Hb8.out.size))
        have hbz := beq_self_eq_true (M.D.length : Int)
        clear hb9
        go_wp2
        go_ret
        exact ⟨rfl, Hb9.out⟩
theorem twin_row (w : World) (x y z x2 y2 z2 : I64) (a : Option Addr) (c : Nat) (l : List FActT) (hR : Row w a (l.flatMap factL)) (hQ : ∀ q ∈ l, FActQ w q) (hc : l.length ≤ c) (hcm : c ≤ maxLen) (b : Int) (hb : (Lit.int .u64 b).wf = true) :
    Calls Try.prog 10 #[.agg (howC x.1 y.1 z.1), .agg (howC x2.1 y2.1 z2.1), .slice a l.length c, .int .u64 b] w (RetBool w true) := by
  have h1 := bounds_u64 hb
  have h := twin_walk w x.1 y.1 z.1 x2.1 y2.1 z2.1 ⟨x.2, y.2, z.2⟩ ⟨x2.2, y2.2, z2.2⟩ a c l hR hQ hc hcm b.toNat (by omega)
  rwa [Int.toNat_of_nonneg h1.1] at h
end Go.Proofs.Ytnfbchhbcinloaa

/- The statement FindTwins: it holds for every input.  No conditions. -/
namespace Go.Proofs.Ytnfbchhbcinloaa.findTwins
open Go.ChangeShapes Go.WideShapes Go.ChangeAt Go.RowKit Go.XR
open Go.ChangeMaps (open_string shut_string)
theorem own : ownKnob Try.prog.godebug = none := by kernel_rfl
theorem laidOut : laidOutB Try.prog = true := by kernel_rfl
set_option maxRecDepth 100000 in
theorem lifted (os : Os) (started : os.Started) (H : Type) (enc : TypeId × Value → H) :
    ReturnsInHanded {} Try.checked os 10 .any (Rows.findTwinsSpec.pre6 enc Try.prog Try.f10 Rows.findTwinsRow.domain false) (Rows.findTwinsSpec.post enc Try.prog Try.f10 false true false false) := by
  refine returnsInHanded_of_change_sized (C := Try.checked) own started (by kernel_rfl) Try.func10
    (ChangeSpec.witness6 (enc := enc) (C := Try.checked) false ⟨#[], #[.agg #[.int .i64 0, .int .i64 0, .int .i64 0], .agg #[.int .i64 0, .int .i64 0, .int .i64 0], .slice none 0 0, .int .u64 0], []⟩ 8 (by kernel_rfl) (by kernel_rfl) (by kernel_rfl) (by kernel_rfl)) ?_
  intro W base args ds gs before hval0 hW _ _ _
  have hval : ∀ (j : Nat) t v, Try.f10.params[j]? = some t → args[j]? = some v → Value.okWide Try.prog W .any base t v := hval0
  have hW' := hW
  obtain ⟨p, q, hA0, hV, rfl, _, _⟩ := hW
  have hA : DataW.TrodAll enc Try.prog W 0 (fun _ => true) true Try.f10.params.toList args.toList ds p := hA0
  rw [Try.params10] at hA hval
  obtain ⟨v0, vs0, d0, ds0, p0, q0, hargs, rfl, rfl, h0, r0⟩ := trodAll_cons hA
  obtain ⟨v1, vs1, d1, ds1, p1, q1, rfl, rfl, rfl, h1, r1⟩ := trodAll_cons r0
  obtain ⟨v2, vs2, d2, ds2, p2, q2, rfl, rfl, rfl, h2, r2⟩ := trodAll_cons r1
  obtain ⟨v3, vs3, d3, ds3, p3, q3, rfl, rfl, rfl, h3, r3⟩ := trodAll_cons r2
  obtain ⟨rfl, rfl, rfl⟩ := trodAll_nil r3
  obtain rfl : args = #[v0, v1, v2, v3] := by cases args; simp_all
  obtain ⟨rfl, rfl⟩ := trodVars_none hV
  have k0 := h0
  have lt0 : ∀ x ∈ p0, x.block < W.heap.size := by obtain ⟨m, hm⟩ := k0; exact DataW.trod_lt m _ _ _ hm
  obtain ⟨a0, rfl, hf0⟩ := agg_of (f := 8) (ls := (leafs Try.prog 8 58).getD []) Try.underlying58 (hval 0 58 v0 rfl rfl) (by kernel_rfl) h0
  obtain ⟨b0_0, b0_1, b0_2, rfl⟩ := how_agg hf0
  have k1 := h1
  have lt1 : ∀ x ∈ p1, x.block < W.heap.size := by obtain ⟨m, hm⟩ := k1; exact DataW.trod_lt m _ _ _ hm
  obtain ⟨a1, rfl, hf1⟩ := agg_of (f := 8) (ls := (leafs Try.prog 8 58).getD []) Try.underlying58 (hval 1 58 v1 rfl rfl) (by kernel_rfl) h1
  obtain ⟨b1_0, b1_1, b1_2, rfl⟩ := how_agg hf1
  have k2 := h2
  have lt2 : ∀ x ∈ p2, x.block < W.heap.size := by obtain ⟨m, hm⟩ := k2; exact DataW.trod_lt m _ _ _ hm
  obtain ⟨o2, len2, c2, rfl⟩ := okWide_slice Try.underlying70 (hval 2 70 v2 rfl rfl)
  obtain ⟨a2, hn2, hr2, hq2, hl2, hm2⟩ := slice_rel (w := W) (enc := enc) (base := 0) (spare := fun _ => true) (held := true) factL (FActQ W) fact_read factL_length Try.underlying70 (by decide) (by kernel_rfl) h2
  subst hn2
  have k3 := h3
  have lt3 : ∀ x ∈ p3, x.block < W.heap.size := by obtain ⟨m, hm⟩ := k3; exact DataW.trod_lt m _ _ _ hm
  obtain ⟨a3, rfl, rfl, rfl, w3⟩ := open_int Try.underlying66 (hval 3 66 v3 rfl rfl) h3
  clear hA0 hval0
  refine (twin_row W b0_0 b0_1 b0_2 b1_0 b1_1 b1_2 o2 c2 a2 hr2 hq2 (And.intro hl2 hm2).1 (And.intro hl2 hm2).2 a3 w3).mono fun e W' ⟨he, bel⟩ => ?_
  subst he
  exact ⟨_, rfl, _, _, _, [], _, [], hW', trodAll_mk1 (shut_bool Try.underlying4 _), (trodAll_cons_mk (Below.trod laidOut (by kernel_rfl) (of_decide_eq_true (by kernel_rfl)) k0 bel lt0) (trodAll_cons_mk (Below.trod laidOut (by kernel_rfl) (of_decide_eq_true (by kernel_rfl)) k1 bel lt1) (trodAll_cons_mk (Below.trod laidOut (by kernel_rfl) (of_decide_eq_true (by kernel_rfl)) k2 bel lt2) (trodAll_cons_mk (Below.trod laidOut (by kernel_rfl) (of_decide_eq_true (by kernel_rfl)) k3 bel lt3) trodAll_mk0)))), rfl, bel.frame _, fun h => by cases h⟩
theorem over : Rows.findTwinsRow.holds Try.pinned (OpenSpec.ofChange Rows.findTwinsSpec) :=
  OpenClaim.holds_of_wide 10 Try.f10 rfl rfl rfl rfl rfl rfl rfl ⟨rfl, rfl, rfl, rfl, rfl⟩ rfl rfl rfl rfl rfl (by kernel_rfl) Try.func10 (by kernel_rfl)
    (of_decide_eq_true (by kernel_rfl)) (by unfold Func.isWrapper; first | (rw [if_pos (by decide +kernel)]; kernel_rfl) | (rw [if_neg (by decide +kernel)]; exact ⟨rfl, rfl⟩))
    (fun os started H enc _ => lifted os started H enc)
theorem proved : Rows.FindTwinsSaid := over
#print axioms proved
end Go.Proofs.Ytnfbchhbcinloaa.findTwins
namespace Go.Proofs.Ytnfbchhbcinloaa
/-- the statement, under a short name -/
theorem findTwins_holds : Rows.FindTwinsSaid := findTwins.proved
end Go.Proofs.Ytnfbchhbcinloaa
