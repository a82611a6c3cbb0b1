/- The statement FindSame: it holds for every input.  No conditions. -/
import Derived.Test.YtnfbchhbcinloaaRows
import Derived.WalkKit
import Derived.ProofKit
import Derived.OpenShut
import Derived.ShutString
import Derived.ChangeOld
import Derived.Below
import Derived.SizedLaws
import Derived.Test.YtnfbchhbcinloaaQd
/- The walk over the statement FindSame. -/
namespace Go.FindPure
open Go Go.XR Go.IndexPure Go.CachePure
theorem fFind_same (M : FinT) (k : KeyT) (d : Nat) (L : List RowT) : (fFind M k d L).2.D = M.D ∧ (fFind M k d L).2.asked ≤ M.asked + 1 ∧ (fFind M k d L).2.loaded ≤ M.loaded + 1 := by
  unfold fFind
  split
  · cases cGet M.C k with
    | some v => exact ⟨rfl, Nat.le_succ _, Nat.le_succ _⟩
    | none =>
      cases aget M.D k with
      | none => exact ⟨rfl, Nat.le_refl _, Nat.le_succ _⟩
      | some v => exact ⟨rfl, Nat.le_refl _, Nat.le_refl _⟩
  · exact ⟨rfl, Nat.le_succ _, Nat.le_succ _⟩
theorem allof_uniq {D L M : List RowT} (hL : AllOf D L) (hM : AllOf D M) : L = M :=
  eq_of_strict (r := fun x y => cfA x y < 0) (fun x y h1 h2 => by have := cfK_swap x.1 y.1; unfold cfA at *; omega) L M hL.2 hM.2 fun r => by
    rw [hL.1.mem_iff, hM.1.mem_iff]
end Go.FindPure
namespace Go.Proofs.Ytnfbchhbcinloaa
open Go.RowKit Go.XR Go.IndexPure Go.CachePure Go.FindPure
theorem zero_fact : ∃ zs : Array Value, zs.size = 38 ∧ ∀ w, (zeroValue 74).run Try.prog w = .ok (.agg zs) w := ⟨_, rfl, fun w => Try.zeroValue74 w⟩
theorem factSize (a : FActT) : (Try.prog.info? 74).map (·.size) = some (factC a).size := by rw [factC_size]; kernel_rfl
set_option maxHeartbeats 8000000 in
set_option maxRecDepth 100000 in
theorem same_walk (w : World) (x y z : I64) (a : Option Addr) (c : Nat) (l : List FActT) (hR : Row w a (l.flatMap factL)) (hQ : ∀ q ∈ l, FActQ w q) (hc : l.length ≤ c) (hcm : c ≤ maxLen) :
    Calls Try.prog 9 #[.agg (howC x.1 y.1 z.1), .slice a l.length c] w (RetBool w true) := by
  have HR := Lib.hid hR
  have HQ := Lib.hid hQ
  have Hlc : Hid (l.length ≤ c ∧ c ≤ maxLen) := ⟨hc, hcm⟩
  obtain ⟨zr, hzr, hzr2⟩ := zero_row
  have Hzr := Lib.hid hzr2
  obtain ⟨za, hza, hza2⟩ := zero_fact
  have Hza := Lib.hid hza2
  clear hR hQ hc hcm hzr2 hza2
  obtain ⟨x, hx⟩ := x
  obtain ⟨y, hy⟩ := y
  obtain ⟨z, hz⟩ := z
  have Hxyz : Hid ((-9223372036854775808 ≤ x ∧ x ≤ 9223372036854775807) ∧ (-9223372036854775808 ≤ y ∧ y ≤ 9223372036854775807) ∧ (-9223372036854775808 ≤ z ∧ z ≤ 9223372036854775807)) := ⟨hx, hy, hz⟩
  show Calls Try.prog 9 #[.agg (howC x y z), .slice a l.length c] w (RetBool w true)
  clear hx hy hz
  unfold howC
  go_enter Try.func9, Try.ntmps9
  go_wp2_with fail
  refine (shown15_any _).mono ?_
  rintro e w1 ⟨rfl, hb1⟩
  have Hb1 : Hid (Below w.heap.size w w1) := ((Below.refl w.heap.size w).alloc (Nat.le_refl _) _).trans (hb1.mono (by simp))
  have hc0 : w1.cell? ⟨w.heap.size, 0, none⟩ = some (.int .i64 x) := by rw [hb1.cell (p := ⟨w.heap.size, 0, none⟩) (by simp)]; simp
  have hc1 : w1.cell? ⟨w.heap.size, 1, none⟩ = some (.int .i64 y) := by rw [hb1.cell (p := ⟨w.heap.size, 1, none⟩) (by simp)]; simp
  have hc2 : w1.cell? ⟨w.heap.size, 2, none⟩ = some (.int .i64 z) := by rw [hb1.cell (p := ⟨w.heap.size, 2, none⟩) (by simp)]; simp
  clear hb1
  go_wp2_with fail
  have hri := right_any w1 x y z Hxyz.out.1 Hxyz.out.2.1 Hxyz.out.2.2
  unfold howC at hri
  refine hri.mono ?_
  rintro e w2 ⟨rfl, hb2⟩
  have Hb2 := Lib.hid (Hb1.out.trans (hb2.mono Hb1.out.size))
  have b1 := modF_b x (m := 2001) (by omega)
  have b2 := modF_b y (m := 31) (by omega)
  have b3 := modF_b z (m := 20) (by omega)
  generalize modF x 2001 = x' at *
  generalize modF y 31 = y' at *
  generalize modF z 20 = z' at *
  clear hri hb2 hc0 hc1 hc2 Hb1
  go_wp2_with fail
  have hb3 : Below w2.heap.size w2 (w2.alloc (.cells #[.int .i64 x', .int .i64 y', .int .i64 z'] 58)) := (Below.refl _ _).alloc (Nat.le_refl _) _
  have Hb3 := Lib.hid (Hb2.out.trans (hb3.mono Hb2.out.size))
  generalize w2.alloc (.cells #[.int .i64 x', .int .i64 y', .int .i64 z'] 58) = w3 at *
  clear hb3 Hb2
  refine (fnew_any w3 x' y' z').mono ?_
  intro e w4 h4
  rcases h4.on with ⟨hbad, _⟩ | ⟨fa, fb, fc, hfa, hfb, hfc, _, p, F, rfl, hF, hFB, hb4⟩
  · exact absurd ⟨⟨by omega, by omega⟩, ⟨by omega, by omega⟩, ⟨by omega, by omega⟩⟩ hbad
  have HF := Lib.hid hF
  have HFB : Hid (∀ b ∈ F, w.heap.size ≤ b) := fun b h => Nat.le_trans Hb3.out.size (hFB b h)
  have Hb4 := Lib.hid (Hb3.out.trans (hb4.mono Hb3.out.size))
  clear h4 hfa hfb hfc hF hFB hb4 Hb3 b1 b2 b3
  go_wp2_with fail
  refine (new_any w4).mono ?_
  intro e w5 h5
  obtain ⟨xp, X, rfl, hix, hxn, hb5⟩ := RetNew.ix h5
  have HI5 := Lib.hid hix
  have HF5 := Lib.hid (HF.out.below hb5)
  have Hdis5 : Hid (∀ b ∈ F, b ∉ X) := fun b h1 h2 => by have := HF.out.lt b h1; have := hxn b h2; omega
  have HXB5 : Hid (∀ b ∈ X, w.heap.size ≤ b) := fun b h => Nat.le_trans Hb4.out.size (hxn b h)
  have Hb5 := Lib.hid (Hb4.out.trans (hb5.mono Hb4.out.size))
  clear h5 hix hxn hb5 HF Hb4
  go_wp2_with fail
  refine (ffew_any w5 a c l (HR.out.below (Below.mono (show Below w.heap.size w w5 from Hb5.out) (Nat.le_refl _))) (Nat.le_trans Hlc.out.1 Hlc.out.2) Hlc.out.1 (fun q hq => Nat.le_trans (HQ.out q hq).2.1 (HQ.out q hq).2.2)).mono ?_
  rintro e w6 ⟨n, hnl, hn150, rfl, hw6, hbl⟩
  rw [hw6]
  have Hbl := Lib.hid hbl
  obtain ⟨S, hS⟩ : ∃ S, l.take n = S := ⟨_, rfl⟩
  have HSl : Hid (S.length = n) := by unfold Hid; rw [← hS, List.length_take]; omega
  have HRS : Hid (Row w a (S.flatMap factL)) := by
    have h1 := HR.out.take (n * 38)
    rw [flat_take factL_length l hnl, hS] at h1
    exact h1
  have HQS : Hid (∀ q ∈ S, FActQ w q ∧ q.b.length ≤ 2000) := fun q hq => by
    rw [← hS] at hq
    exact ⟨HQ.out q (List.mem_of_mem_take hq), Hbl.out q hq⟩
  have hnc : n ≤ c := Nat.le_trans hnl Hlc.out.1
  clear hw6 hbl Hbl hS HR HQ Hlc hnl
  go_wp2
  go_loopg [47] n (fun m i wr => ∃ j : Nat, j ≤ n ∧ i = .int .i64 j ∧ Hid (m = n - j ∧ Below w.heap.size w wr ∧ ∃ M F X, FOn wr p F M ∧ Ix wr X xp M.D ∧ Inv M ∧ (∀ b ∈ F, b ∉ X) ∧ (∀ b ∈ F, w.heap.size ≤ b) ∧ (∀ b ∈ X, w.heap.size ≤ b) ∧ M.D.length ≤ j ∧ M.asked ≤ j ∧ M.loaded ≤ j))
  case atStart => exact ⟨0, by omega, rfl, rfl, Hb5.out, _, F, X, HF5.out, HI5.out, fin0_inv _ _ _, Hdis5.out, HFB.out, HXB5.out, Nat.le_refl _, Nat.le_refl _, Nat.le_refl _⟩
  case round =>
    obtain ⟨j, hj, rfl, hr⟩ := hrel
    have Hm := Lib.hid hr.out.1
    have Hbw := Lib.hid hr.out.2.1
    obtain ⟨M, F1, X1, hF1, hI1, hinv, hdis, hFB1, hXB1, hDl, hasked, hloaded⟩ := hr.out.2.2
    have HF1 := Lib.hid hF1
    have HI1 := Lib.hid hI1
    have HInv := Lib.hid hinv
    have Hdis1 := Lib.hid hdis
    have HFB1 := Lib.hid hFB1
    have HXB1 := Lib.hid hXB1
    have HDl : Hid (M.D.length ≤ j ∧ M.asked ≤ j ∧ M.loaded ≤ j) := ⟨hDl, hasked, hloaded⟩
    clear hr hF1 hI1 hinv hdis hFB1 hXB1 hDl hasked hloaded
    by_cases hlt : j < n
    · have hlt2 : (j : Int) < (n : Int) := by omega
      have hltS : j < S.length := by rw [HSl.out]; exact hlt
      obtain ⟨g, o, rfl, hX⟩ := row_at factL_length (HRS.out.below Hbw.out) hltS (by omega)
      have HX : Hid (At wr g (o + j * 38) (factC S[j])) := hX
      have Hact := Lib.hid (HQS.out _ (List.getElem_mem hltS))
      clear hX
      generalize S[j] = act at *
      clear hltS
      go_wp2_with (first | (refine opIs (X := .load 74 (.tmp 49)) rfl ?_; refine wpList_load_at rfl 74 (.tmp 49) rfl g (o + j * 38) (by kernel_rfl) (factC act) HX.out _ Try.underlying74 rfl (factSize act) ?_) | (refine wpList_alloc_new rfl 74 rfl za (Hza.out _) ?_) | (refine opIs (X := .store 74 (.tmp 11) (.tmp 50)) rfl ?_; refine wpList_store_new rfl 74 (.tmp 11) (.tmp 50) rfl za (factC act) 74 (by kernel_rfl) (by kernel_rfl) (by rw [hza, factC_size]) (one_factL act) (factSize act) ?_; refine Go.XR.stop (fun X hX => ?_)) | fail)
      refine hX.out ?_
      clear hX X
      obtain ⟨W3, hW3⟩ : ∃ W3, wr.alloc (.cells (factC act) 74) = W3 := ⟨_, rfl⟩
      have hb3 : Below wr.heap.size wr W3 := by rw [← hW3]; exact (Below.refl _ _).alloc (Nat.le_refl _) _
      have HA3 : Hid (At W3 wr.heap.size 0 (factC act)) := by unfold Hid; rw [← hW3]; exact At.new _ _ _
      have HF3 := Lib.hid (HF1.out.below hb3)
      have HI3 := Lib.hid (HI1.out.below hb3)
      have HaF3 : Hid (wr.heap.size ∉ F1 ∧ wr.heap.size ∉ X1) := ⟨fun h => by have := HF1.out.lt _ h; omega, fun h => by have := HI1.out.fin _ h; omega⟩
      have Hb3 := Lib.hid (Hbw.out.trans (hb3.mono Hbw.out.size))
      obtain ⟨ab, hab⟩ : ∃ ab, wr.heap.size = ab := ⟨_, rfl⟩
      rw [hab] at HA3 HaF3 ⊢
      rw [hW3]
      clear hb3 hW3 hab HX HF1 HI1 Hbw
      go_wp2_with (first | (refine opIs (X := .load 74 (.tmp 11)) rfl ?_; refine wpList_load_at rfl 74 (.tmp 11) rfl ab 0 rfl (factC act) HA3.out _ Try.underlying74 rfl (factSize act) ?_) | fail)
      refine (does_any W3 p F1 M HF3.out (by have := HDl.out.1; omega) act (Hact.out.1.1.below Hb3.out) Hact.out.2 (fun hl g o hg hm => by
        obtain ⟨g', o', hg', hcell⟩ := Hact.out.1.1.get (j := 0) (u := byV (act.b[0]'hl)) (by rw [List.getElem?_map, List.getElem?_eq_getElem hl]; rfl)
        rw [hg] at hg'
        cases hg'
        have h1 := cell_lt hcell
        have h2 := HFB1.out g hm
        have h3 : g < w.heap.size := h1
        omega)).mono ?_
      rintro e w4 ⟨rfl, M', hdo, F4, hF4, hb4, hg4⟩
      have Hdo := Lib.hid hdo
      have HF4 := Lib.hid hF4
      have HI4 := Lib.hid (HI3.out.but hb4 (fun b h1 h2 => Hdis1.out b h2 h1))
      have Hdis4 := Lib.hid (dis_grew Hdis1.out hg4 HI3.out.fin)
      have HFB4 := Lib.hid (base_grew HFB1.out hg4 Hb3.out.size)
      have HA4 := Lib.hid (HA3.out.but hb4 HaF3.out.1)
      have hab3 : ab < W3.heap.size := HA3.out.lt (by rw [factC_size]; omega)
      have HaF4 : Hid (ab ∉ F4 ∧ ab ∉ X1) := ⟨fun h => by
        rcases hg4 _ h with h1 | h1
        · exact HaF3.out.1 h1
        · omega, HaF3.out.2⟩
      have Hb4 := Lib.hid (Hb3.out.trans (hb4.below Hb3.out.size HFB1.out))
      clear hdo hF4 hb4 hg4 hab3 HF3 HI3 HFB1 HA3 HaF3 Hb3 Hdis1
      have ck : w4.cell? ⟨ab, 0, none⟩ = some (.int .u8 (act.kind : Int)) := fact_at HA4.out (fact_kind act)
      have hk := act.hk
      obtain ⟨q, hq5⟩ : ∃ q, act.kind % 5 = q := ⟨_, rfl⟩
      have hqi : (act.kind : Int) % 5 = (q : Int) := by omega
      have hqlt : q < 5 := by omega
      have HRow4 := fact_row HA4.out
      have HK4 := Lib.hid (row_at_key HRow4)
      have HP4 := Lib.hid (row_at_place HRow4)
      have Hds : Hid (dStep M.D act.kind act.key act.place = if q = 0 then aput (adel M.D act.key) act.key act.place else if q = 1 then adel M.D act.key else M.D) := by unfold Hid dStep; rw [hq5]
      clear hq5 HRow4
      by_cases hq0 : q = 0
      · subst hq0
        have hds : dStep M.D act.kind act.key act.place = aput (adel M.D act.key) act.key act.place := by rw [Hds.out, if_pos rfl]
        have Hds2 := Lib.hid hds
        clear hds
        go_wp2_with (first | (refine opIs (X := .load 27 (.tmp 61)) rfl ?_; refine wpList_load_at rfl 27 (.tmp 61) rfl ab (0 + 1) rfl (keyC act.key) HK4.out _ Try.underlying27 rfl (keySize _) ?_) | (refine opIs (X := .load 33 (.tmp 64)) rfl ?_; refine wpList_load_at rfl 33 (.tmp 64) rfl ab (0 + 1 + 33) rfl (placeC act.place) HP4.out _ Try.underlying33 rfl (placeSize _) ?_) | fail)
        refine (put_any w4 X1 xp M.D HI4.out (by have := HDl.out.1; omega) act.key act.place act.ok).mono ?_
        rintro e w6 ⟨rfl, X6, hI6, hb6, hg6⟩
        have HI6 : Hid (Ix w6 X6 xp M'.D) := by unfold Hid; rw [Hdo.out.d, Hds2.out]; exact hI6
        have HF6 := Lib.hid (HF4.out.but hb6 (fun b h1 h2 => Hdis4.out b h1 h2))
        have Hdis6 : Hid (∀ b ∈ F4, b ∉ X6) := fun b h1 h2 => dis_grew (fun b h1 h2 => Hdis4.out b h2 h1) hg6 HF4.out.lt b h2 h1
        have HFB6 := Lib.hid HFB4.out
        have HXB6 := Lib.hid (base_grew HXB1.out hg6 Hb4.out.size)
        have HA6 := Lib.hid (HA4.out.but hb6 HaF4.out.2)
        have hab4 : ab < w4.heap.size := HA4.out.lt (by rw [factC_size]; omega)
        have HaF6 : Hid (ab ∉ F4 ∧ ab ∉ X6) := ⟨HaF4.out.1, fun h => by
          rcases hg6 _ h with h1 | h1
          · exact HaF4.out.2 h1
          · omega⟩
        have Hb6 := Lib.hid (Hb4.out.trans (hb6.below Hb4.out.size HXB1.out))
        generalize (aget M.D act.key).isSome = u6
        clear hI6 hb6 hg6 hab4 HI4 HF4 Hdis4 HFB4 HXB1 HA4 HaF4 Hb4 ck HK4 HP4 Hds Hds2 hqi
        have hinv2 := Hdo.out.inv HInv.out
        have HInv2 := Lib.hid hinv2
        have hD2 : M'.D.length ≤ j + 1 := by
          rw [Hdo.out.d]
          have h1 := HDl.out.1
          unfold dStep
          split
          · have h2 := aput_le (adel M.D act.key) act.key act.place
            have h3 := adel_len M.D act.key
            omega
          · split
            · have h3 := adel_len M.D act.key
              omega
            · omega
        have HD2 : Hid (M'.D.length ≤ j + 1 ∧ M'.asked ≤ j ∧ M'.loaded ≤ j) := ⟨hD2, by rw [Hdo.out.asked]; exact HDl.out.2.1, by rw [Hdo.out.loaded]; exact HDl.out.2.2⟩
        have cd6 : w6.cell? ⟨ab, 36, none⟩ = some (.int .u64 (act.draw : Int)) := by have := fact_at HA6.out (fact_draw act); rwa [Nat.zero_add] at this
        have HK6 := Lib.hid (row_at_key (fact_row HA6.out))
        clear hinv2 hD2 HInv
        go_wp2_with (first | (refine opIs (X := .load 27 (.tmp 77)) rfl ?_; refine wpList_load_at rfl 27 (.tmp 77) rfl ab (0 + 1) rfl (keyC act.key) HK6.out _ Try.underlying27 rfl (keySize _) ?_) | fail)
        refine (fo_find HF6.out (by have := HD2.out.1; omega) (by have := HD2.out.2.1; omega) (by have := HD2.out.2.2; omega) act.key act.draw act.hd).mono ?_
        rintro e w7 ⟨L7, hL7, rfl, F7, hF7, hb7, hg7⟩
        have hval := fFind_val HInv2.out act.key act.draw L7
        have hinv7 := fFind_inv HInv2.out act.key act.draw L7 hL7 (fun v hv => (HF6.out.rng _ _ hv).1)
        have hfd := fFind_same M' act.key act.draw L7
        obtain ⟨M7, hM7⟩ : ∃ M7, (fFind M' act.key act.draw L7).2 = M7 := ⟨_, rfl⟩
        rw [hM7] at hF7 hinv7 hfd
        rw [hval]
        have HF7 := Lib.hid hF7
        have HInv7 := Lib.hid hinv7
        have HD7 : Hid (M7.D = M'.D ∧ M7.asked ≤ j + 1 ∧ M7.loaded ≤ j + 1) := ⟨hfd.1, by have := hfd.2.1; have := HD2.out.2.1; omega, by have := hfd.2.2; have := HD2.out.2.2; omega⟩
        have HI7 := Lib.hid (HI6.out.but hb7 (fun b h1 h2 => Hdis6.out b h2 h1))
        have Hdis7 := Lib.hid (dis_grew Hdis6.out hg7 HI6.out.fin)
        have HFB7 := Lib.hid (base_grew HFB6.out hg7 Hb6.out.size)
        have HA7 := Lib.hid (HA6.out.but hb7 (fun h => HaF6.out.1 h))
        have HaX7 := Lib.hid HaF6.out.2
        have Hb7 := Lib.hid (Hb6.out.trans (hb7.below Hb6.out.size HFB6.out))
        obtain ⟨v, hv⟩ : ∃ v, (aget M'.D act.key).getD place0 = v := ⟨_, rfl⟩
        obtain ⟨is, his⟩ : ∃ b, (aget M'.D act.key).isSome = b := ⟨_, rfl⟩
        have Hv : Hid ((aget M'.D act.key).getD place0 = v ∧ (aget M'.D act.key).isSome = is) := ⟨hv, his⟩
        rw [hv, his, show placeV v = .agg #[.int .i64 v.shelf, .int .i64 v.slot] from rfl]
        clear hL7 hF7 hb7 hg7 hval hinv7 hfd hM7 hv his cd6 HK6 HF6 HI6 Hdis6 HFB6 HA6 HaF6 Hb6 HInv2
        have HK7 := Lib.hid (row_at_key (fact_row HA7.out))
        obtain ⟨W8, hW8⟩ : ∃ W8, w7.alloc (.cells #[.int .i64 v.shelf, .int .i64 v.slot] 33) = W8 := ⟨_, rfl⟩
        have hb8 : Below w7.heap.size w7 W8 := by rw [← hW8]; exact (Below.refl _ _).alloc (Nat.le_refl _) _
        have HP8 : Hid (Blk W8 w7.heap.size [.int .i64 v.shelf, .int .i64 v.slot]) := by unfold Hid; rw [← hW8]; exact Blk.new w7 #[.int .i64 v.shelf, .int .i64 v.slot] _
        obtain ⟨pb, hpb⟩ : ∃ pb, w7.heap.size = pb := ⟨_, rfl⟩
        rw [hpb] at HP8
        have HK8 := Lib.hid (HK7.out.below (by rw [keyC_size]; omega) hb8)
        have HI8 := Lib.hid (HI7.out.below hb8)
        have HF8 := Lib.hid (HF7.out.below hb8)
        have Hb8 := Lib.hid (Hb7.out.trans (hb8.mono Hb7.out.size))
        clear hb8 HK7 HA7 HI7 HF7 Hb7 HaX7
        go_wp2_with (first | (refine opIs (X := .load 27 (.tmp 87)) rfl ?_; refine Go.XR.stop (fun X hX => ?_)) | fail)
        refine hX.out ?_
        clear hX X hW8 hpb
        go_wp2_with (first | (refine opIs (X := .load 27 (.tmp 87)) rfl ?_; refine wpList_load_at rfl 27 (.tmp 87) rfl ab (0 + 1) rfl (keyC act.key) HK8.out _ Try.underlying27 rfl (keySize _) ?_) | fail)
        refine (ix_get HI8.out act.key).mono ?_
        rintro e w9 ⟨rfl, hb9⟩
        rw [Hv.out.1, Hv.out.2, show placeV v = .agg #[.int .i64 v.shelf, .int .i64 v.slot] from rfl]
        have HP9 := Lib.hid (HP8.out.below hb9)
        have HI9 := Lib.hid (HI8.out.below hb9)
        have HF9 := Lib.hid (HF8.out.below hb9)
        have Hb9 := Lib.hid (Hb8.out.trans (hb9.mono Hb8.out.size))
        clear hb9 HP8 HI8 HF8 Hb8 HK8
        have d0 := HP9.out.cell (i := 0) rfl
        have d1 := HP9.out.cell (i := 1) rfl
        have hpl := HP9.out.lt
        have hbz := beq_self_eq_true is
        go_wp2
        have hb10 : Below w9.heap.size w9 (w9.alloc (.cells #[.int .i64 v.shelf, .int .i64 v.slot] 33)) := (Below.refl _ _).alloc (Nat.le_refl _) _
        go_roundg (n - (j + 1))
        case measure => have := Hm.out; omega
        case rel => exact ⟨j + 1, by omega, by go_num, rfl, Hb9.out.trans (hb10.mono Hb9.out.size), M7, F7, X6, HF9.out.below hb10, by rw [HD7.out.1]; exact HI9.out.below hb10, HInv7.out, Hdis7.out, HFB7.out, HXB6.out, by rw [HD7.out.1]; exact HD2.out.1, HD7.out.2⟩
      · by_cases hq1 : q = 1
        · subst hq1
          have hds : dStep M.D act.kind act.key act.place = adel M.D act.key := by rw [Hds.out]; rfl
          have Hds2 := Lib.hid hds
          clear hds hq0
          go_wp2_with (first | (refine opIs (X := .load 27 (.tmp 71)) rfl ?_; refine wpList_load_at rfl 27 (.tmp 71) rfl ab (0 + 1) rfl (keyC act.key) HK4.out _ Try.underlying27 rfl (keySize _) ?_) | fail)
          refine (drop_any w4 X1 xp M.D HI4.out (by have := HDl.out.1; omega) act.key).mono ?_
          rintro e w6 ⟨rfl, X6, hI6, hb6, hg6⟩
          have HI6 : Hid (Ix w6 X6 xp M'.D) := by unfold Hid; rw [Hdo.out.d, Hds2.out]; exact hI6
          have HF6 := Lib.hid (HF4.out.but hb6 (fun b h1 h2 => Hdis4.out b h1 h2))
          have Hdis6 : Hid (∀ b ∈ F4, b ∉ X6) := fun b h1 h2 => dis_grew (fun b h1 h2 => Hdis4.out b h2 h1) hg6 HF4.out.lt b h2 h1
          have HFB6 := Lib.hid HFB4.out
          have HXB6 := Lib.hid (base_grew HXB1.out hg6 Hb4.out.size)
          have HA6 := Lib.hid (HA4.out.but hb6 HaF4.out.2)
          have hab4 : ab < w4.heap.size := HA4.out.lt (by rw [factC_size]; omega)
          have HaF6 : Hid (ab ∉ F4 ∧ ab ∉ X6) := ⟨HaF4.out.1, fun h => by
            rcases hg6 _ h with h1 | h1
            · exact HaF4.out.2 h1
            · omega⟩
          have Hb6 := Lib.hid (Hb4.out.trans (hb6.below Hb4.out.size HXB1.out))
          generalize (aget M.D act.key).isSome = u6
          clear hI6 hb6 hg6 hab4 HI4 HF4 Hdis4 HFB4 HXB1 HA4 HaF4 Hb4 ck HK4 HP4 Hds Hds2 hqi
          have hinv2 := Hdo.out.inv HInv.out
          have HInv2 := Lib.hid hinv2
          have hD2 : M'.D.length ≤ j + 1 := by
            rw [Hdo.out.d]
            have h1 := HDl.out.1
            unfold dStep
            split
            · have h2 := aput_le (adel M.D act.key) act.key act.place
              have h3 := adel_len M.D act.key
              omega
            · split
              · have h3 := adel_len M.D act.key
                omega
              · omega
          have HD2 : Hid (M'.D.length ≤ j + 1 ∧ M'.asked ≤ j ∧ M'.loaded ≤ j) := ⟨hD2, by rw [Hdo.out.asked]; exact HDl.out.2.1, by rw [Hdo.out.loaded]; exact HDl.out.2.2⟩
          have cd6 : w6.cell? ⟨ab, 36, none⟩ = some (.int .u64 (act.draw : Int)) := by have := fact_at HA6.out (fact_draw act); rwa [Nat.zero_add] at this
          have HK6 := Lib.hid (row_at_key (fact_row HA6.out))
          clear hinv2 hD2 HInv
          go_wp2_with (first | (refine opIs (X := .load 27 (.tmp 77)) rfl ?_; refine wpList_load_at rfl 27 (.tmp 77) rfl ab (0 + 1) rfl (keyC act.key) HK6.out _ Try.underlying27 rfl (keySize _) ?_) | fail)
          refine (fo_find HF6.out (by have := HD2.out.1; omega) (by have := HD2.out.2.1; omega) (by have := HD2.out.2.2; omega) act.key act.draw act.hd).mono ?_
          rintro e w7 ⟨L7, hL7, rfl, F7, hF7, hb7, hg7⟩
          have hval := fFind_val HInv2.out act.key act.draw L7
          have hinv7 := fFind_inv HInv2.out act.key act.draw L7 hL7 (fun v hv => (HF6.out.rng _ _ hv).1)
          have hfd := fFind_same M' act.key act.draw L7
          obtain ⟨M7, hM7⟩ : ∃ M7, (fFind M' act.key act.draw L7).2 = M7 := ⟨_, rfl⟩
          rw [hM7] at hF7 hinv7 hfd
          rw [hval]
          have HF7 := Lib.hid hF7
          have HInv7 := Lib.hid hinv7
          have HD7 : Hid (M7.D = M'.D ∧ M7.asked ≤ j + 1 ∧ M7.loaded ≤ j + 1) := ⟨hfd.1, by have := hfd.2.1; have := HD2.out.2.1; omega, by have := hfd.2.2; have := HD2.out.2.2; omega⟩
          have HI7 := Lib.hid (HI6.out.but hb7 (fun b h1 h2 => Hdis6.out b h2 h1))
          have Hdis7 := Lib.hid (dis_grew Hdis6.out hg7 HI6.out.fin)
          have HFB7 := Lib.hid (base_grew HFB6.out hg7 Hb6.out.size)
          have HA7 := Lib.hid (HA6.out.but hb7 (fun h => HaF6.out.1 h))
          have HaX7 := Lib.hid HaF6.out.2
          have Hb7 := Lib.hid (Hb6.out.trans (hb7.below Hb6.out.size HFB6.out))
          obtain ⟨v, hv⟩ : ∃ v, (aget M'.D act.key).getD place0 = v := ⟨_, rfl⟩
          obtain ⟨is, his⟩ : ∃ b, (aget M'.D act.key).isSome = b := ⟨_, rfl⟩
          have Hv : Hid ((aget M'.D act.key).getD place0 = v ∧ (aget M'.D act.key).isSome = is) := ⟨hv, his⟩
          rw [hv, his, show placeV v = .agg #[.int .i64 v.shelf, .int .i64 v.slot] from rfl]
          clear hL7 hF7 hb7 hg7 hval hinv7 hfd hM7 hv his cd6 HK6 HF6 HI6 Hdis6 HFB6 HA6 HaF6 Hb6 HInv2
          have HK7 := Lib.hid (row_at_key (fact_row HA7.out))
          obtain ⟨W8, hW8⟩ : ∃ W8, w7.alloc (.cells #[.int .i64 v.shelf, .int .i64 v.slot] 33) = W8 := ⟨_, rfl⟩
          have hb8 : Below w7.heap.size w7 W8 := by rw [← hW8]; exact (Below.refl _ _).alloc (Nat.le_refl _) _
          have HP8 : Hid (Blk W8 w7.heap.size [.int .i64 v.shelf, .int .i64 v.slot]) := by unfold Hid; rw [← hW8]; exact Blk.new w7 #[.int .i64 v.shelf, .int .i64 v.slot] _
          obtain ⟨pb, hpb⟩ : ∃ pb, w7.heap.size = pb := ⟨_, rfl⟩
          rw [hpb] at HP8
          have HK8 := Lib.hid (HK7.out.below (by rw [keyC_size]; omega) hb8)
          have HI8 := Lib.hid (HI7.out.below hb8)
          have HF8 := Lib.hid (HF7.out.below hb8)
          have Hb8 := Lib.hid (Hb7.out.trans (hb8.mono Hb7.out.size))
          clear hb8 HK7 HA7 HI7 HF7 Hb7 HaX7
          go_wp2_with (first | (refine opIs (X := .load 27 (.tmp 87)) rfl ?_; refine Go.XR.stop (fun X hX => ?_)) | fail)
          refine hX.out ?_
          clear hX X hW8 hpb
          go_wp2_with (first | (refine opIs (X := .load 27 (.tmp 87)) rfl ?_; refine wpList_load_at rfl 27 (.tmp 87) rfl ab (0 + 1) rfl (keyC act.key) HK8.out _ Try.underlying27 rfl (keySize _) ?_) | fail)
          refine (ix_get HI8.out act.key).mono ?_
          rintro e w9 ⟨rfl, hb9⟩
          rw [Hv.out.1, Hv.out.2, show placeV v = .agg #[.int .i64 v.shelf, .int .i64 v.slot] from rfl]
          have HP9 := Lib.hid (HP8.out.below hb9)
          have HI9 := Lib.hid (HI8.out.below hb9)
          have HF9 := Lib.hid (HF8.out.below hb9)
          have Hb9 := Lib.hid (Hb8.out.trans (hb9.mono Hb8.out.size))
          clear hb9 HP8 HI8 HF8 Hb8 HK8
          have d0 := HP9.out.cell (i := 0) rfl
          have d1 := HP9.out.cell (i := 1) rfl
          have hpl := HP9.out.lt
          have hbz := beq_self_eq_true is
          go_wp2
          have hb10 : Below w9.heap.size w9 (w9.alloc (.cells #[.int .i64 v.shelf, .int .i64 v.slot] 33)) := (Below.refl _ _).alloc (Nat.le_refl _) _
          go_roundg (n - (j + 1))
          case measure => have := Hm.out; omega
          case rel => exact ⟨j + 1, by omega, by go_num, rfl, Hb9.out.trans (hb10.mono Hb9.out.size), M7, F7, X6, HF9.out.below hb10, by rw [HD7.out.1]; exact HI9.out.below hb10, HInv7.out, Hdis7.out, HFB7.out, HXB6.out, by rw [HD7.out.1]; exact HD2.out.1, HD7.out.2⟩
        · have hq0i : ¬ (q : Int) = 0 := by omega
          have hq1i : ¬ (q : Int) = 1 := by omega
          have hq0b : ((q : Int) == 0) = false := by rw [beq_eq_false_iff_ne]; exact hq0i
          have hq1b : ((q : Int) == 1) = false := by rw [beq_eq_false_iff_ne]; exact hq1i
          have hds : dStep M.D act.kind act.key act.place = M.D := by rw [Hds.out, if_neg hq0, if_neg hq1]
          have HI6 : Hid (Ix w4 X1 xp M'.D) := by unfold Hid; rw [Hdo.out.d, hds]; exact HI4.out
          clear hds hq0 hq1
          obtain ⟨w6, hw6⟩ : ∃ w6, w4 = w6 := ⟨_, rfl⟩
          obtain ⟨X6, hX6⟩ : ∃ X6, X1 = X6 := ⟨_, rfl⟩
          have HF6 := Lib.hid HF4.out
          have Hdis6 := Lib.hid Hdis4.out
          have HFB6 := Lib.hid HFB4.out
          have HXB6 := Lib.hid HXB1.out
          have HA6 := Lib.hid HA4.out
          have HaF6 := Lib.hid HaF4.out
          have Hb6 := Lib.hid Hb4.out
          clear HI4 HF4 Hdis4 HFB4 HXB1 HA4 HaF4 Hb4 HK4 HP4 Hds
          rw [hw6] at HI6 HF6 HA6 Hb6 ck ⊢
          rw [hX6] at HI6 Hdis6 HXB6 HaF6
          clear hw6 hX6
          go_wp2_with (first | (refine opIs (X := .load 66 (.tmp 79)) rfl ?_; refine Go.XR.stop (fun X hX => ?_)) | (refine opIs (X := .load 27 (.tmp 77)) rfl ?_; refine Go.XR.stop (fun X hX => ?_)))
          refine hX.out ?_
          clear hX X ck hqi hq0b hq1b hq0i hq1i
          have hinv2 := Hdo.out.inv HInv.out
          have HInv2 := Lib.hid hinv2
          have hD2 : M'.D.length ≤ j + 1 := by
            rw [Hdo.out.d]
            have h1 := HDl.out.1
            unfold dStep
            split
            · have h2 := aput_le (adel M.D act.key) act.key act.place
              have h3 := adel_len M.D act.key
              omega
            · split
              · have h3 := adel_len M.D act.key
                omega
              · omega
          have HD2 : Hid (M'.D.length ≤ j + 1 ∧ M'.asked ≤ j ∧ M'.loaded ≤ j) := ⟨hD2, by rw [Hdo.out.asked]; exact HDl.out.2.1, by rw [Hdo.out.loaded]; exact HDl.out.2.2⟩
          have cd6 : w6.cell? ⟨ab, 36, none⟩ = some (.int .u64 (act.draw : Int)) := by have := fact_at HA6.out (fact_draw act); rwa [Nat.zero_add] at this
          have HK6 := Lib.hid (row_at_key (fact_row HA6.out))
          clear hinv2 hD2 HInv
          go_wp2_with (first | (refine opIs (X := .load 27 (.tmp 77)) rfl ?_; refine wpList_load_at rfl 27 (.tmp 77) rfl ab (0 + 1) rfl (keyC act.key) HK6.out _ Try.underlying27 rfl (keySize _) ?_) | fail)
          refine (fo_find HF6.out (by have := HD2.out.1; omega) (by have := HD2.out.2.1; omega) (by have := HD2.out.2.2; omega) act.key act.draw act.hd).mono ?_
          rintro e w7 ⟨L7, hL7, rfl, F7, hF7, hb7, hg7⟩
          have hval := fFind_val HInv2.out act.key act.draw L7
          have hinv7 := fFind_inv HInv2.out act.key act.draw L7 hL7 (fun v hv => (HF6.out.rng _ _ hv).1)
          have hfd := fFind_same M' act.key act.draw L7
          obtain ⟨M7, hM7⟩ : ∃ M7, (fFind M' act.key act.draw L7).2 = M7 := ⟨_, rfl⟩
          rw [hM7] at hF7 hinv7 hfd
          rw [hval]
          have HF7 := Lib.hid hF7
          have HInv7 := Lib.hid hinv7
          have HD7 : Hid (M7.D = M'.D ∧ M7.asked ≤ j + 1 ∧ M7.loaded ≤ j + 1) := ⟨hfd.1, by have := hfd.2.1; have := HD2.out.2.1; omega, by have := hfd.2.2; have := HD2.out.2.2; omega⟩
          have HI7 := Lib.hid (HI6.out.but hb7 (fun b h1 h2 => Hdis6.out b h2 h1))
          have Hdis7 := Lib.hid (dis_grew Hdis6.out hg7 HI6.out.fin)
          have HFB7 := Lib.hid (base_grew HFB6.out hg7 Hb6.out.size)
          have HA7 := Lib.hid (HA6.out.but hb7 (fun h => HaF6.out.1 h))
          have HaX7 := Lib.hid HaF6.out.2
          have Hb7 := Lib.hid (Hb6.out.trans (hb7.below Hb6.out.size HFB6.out))
          obtain ⟨v, hv⟩ : ∃ v, (aget M'.D act.key).getD place0 = v := ⟨_, rfl⟩
          obtain ⟨is, his⟩ : ∃ b, (aget M'.D act.key).isSome = b := ⟨_, rfl⟩
          have Hv : Hid ((aget M'.D act.key).getD place0 = v ∧ (aget M'.D act.key).isSome = is) := ⟨hv, his⟩
          rw [hv, his, show placeV v = .agg #[.int .i64 v.shelf, .int .i64 v.slot] from rfl]
          clear hL7 hF7 hb7 hg7 hval hinv7 hfd hM7 hv his cd6 HK6 HF6 HI6 Hdis6 HFB6 HA6 HaF6 Hb6 HInv2
          have HK7 := Lib.hid (row_at_key (fact_row HA7.out))
          obtain ⟨W8, hW8⟩ : ∃ W8, w7.alloc (.cells #[.int .i64 v.shelf, .int .i64 v.slot] 33) = W8 := ⟨_, rfl⟩
          have hb8 : Below w7.heap.size w7 W8 := by rw [← hW8]; exact (Below.refl _ _).alloc (Nat.le_refl _) _
          have HP8 : Hid (Blk W8 w7.heap.size [.int .i64 v.shelf, .int .i64 v.slot]) := by unfold Hid; rw [← hW8]; exact Blk.new w7 #[.int .i64 v.shelf, .int .i64 v.slot] _
          obtain ⟨pb, hpb⟩ : ∃ pb, w7.heap.size = pb := ⟨_, rfl⟩
          rw [hpb] at HP8
          have HK8 := Lib.hid (HK7.out.below (by rw [keyC_size]; omega) hb8)
          have HI8 := Lib.hid (HI7.out.below hb8)
          have HF8 := Lib.hid (HF7.out.below hb8)
          have Hb8 := Lib.hid (Hb7.out.trans (hb8.mono Hb7.out.size))
          clear hb8 HK7 HA7 HI7 HF7 Hb7 HaX7
          go_wp2_with (first | (refine opIs (X := .load 27 (.tmp 87)) rfl ?_; refine Go.XR.stop (fun X hX => ?_)) | fail)
          refine hX.out ?_
          clear hX X hW8 hpb
          go_wp2_with (first | (refine opIs (X := .load 27 (.tmp 87)) rfl ?_; refine wpList_load_at rfl 27 (.tmp 87) rfl ab (0 + 1) rfl (keyC act.key) HK8.out _ Try.underlying27 rfl (keySize _) ?_) | fail)
          refine (ix_get HI8.out act.key).mono ?_
          rintro e w9 ⟨rfl, hb9⟩
          rw [Hv.out.1, Hv.out.2, show placeV v = .agg #[.int .i64 v.shelf, .int .i64 v.slot] from rfl]
          have HP9 := Lib.hid (HP8.out.below hb9)
          have HI9 := Lib.hid (HI8.out.below hb9)
          have HF9 := Lib.hid (HF8.out.below hb9)
          have Hb9 := Lib.hid (Hb8.out.trans (hb9.mono Hb8.out.size))
          clear hb9 HP8 HI8 HF8 Hb8 HK8
          have d0 := HP9.out.cell (i := 0) rfl
          have d1 := HP9.out.cell (i := 1) rfl
          have hpl := HP9.out.lt
          have hbz := beq_self_eq_true is
          go_wp2
          have hb10 : Below w9.heap.size w9 (w9.alloc (.cells #[.int .i64 v.shelf, .int .i64 v.slot] 33)) := (Below.refl _ _).alloc (Nat.le_refl _) _
          go_roundg (n - (j + 1))
          case measure => have := Hm.out; omega
          case rel => exact ⟨j + 1, by omega, by go_num, rfl, Hb9.out.trans (hb10.mono Hb9.out.size), M7, F7, X6, HF9.out.below hb10, by rw [HD7.out.1]; exact HI9.out.below hb10, HInv7.out, Hdis7.out, HFB7.out, HXB6.out, by rw [HD7.out.1]; exact HD2.out.1, HD7.out.2⟩
    · have hge : ¬ (j : Int) < (n : Int) := by omega
      have HDs : Hid (M.D.length ≤ 150 ∧ M.asked ≤ 150 ∧ M.loaded ≤ 150) := by have := HDl.out; exact ⟨by omega, by omega, by omega⟩
      have HO1 : Hid (Own w.heap.size wr xp M.D) := ⟨X1, HI1.out, HXB1.out⟩
      have HFd : Hid (FOn wr p F1 M) := HF1.out
      clear HDl hlt Hm HRS HQS HSl
      go_wp2_with fail
      refine (own_all HO1.out (by have := HDs.out.1; omega)).mono ?_
      rintro e w8 ⟨L, hL, a8, c8, rfl, hr8, ha8, hb8⟩
      have HL := Lib.hid hL
      have HR8 := Lib.hid hr8
      have HF8 := Lib.hid (HF1.out.below hb8)
      have HI8 := Lib.hid (HI1.out.below hb8)
      have Hb8 := Lib.hid (Hbw.out.trans (hb8.mono Hbw.out.size))
      have HaF8 : Hid (∀ g o, a8 = some ⟨g, o, none⟩ → g ∉ F1 ∧ g < w8.heap.size ∨ L = []) := fun g o hg => by
        by_cases hL0 : L = []
        · exact .inr hL0
        · left
          refine ⟨fun hm => by have h1 := ha8 _ hg; have h2 := HF1.out.lt g hm; have h3 : wr.heap.size ≤ g := h1; omega, ?_⟩
          have h0 : 0 < L.length := List.length_pos_iff.2 hL0
          obtain ⟨g', o', hg', hX'⟩ := row_at rowL_length hr8 h0 (by omega)
          rw [hg] at hg'
          cases hg'
          exact hX'.lt (by show 0 < (rowL L[0]).toArray.size; rw [List.size_toArray, rowL_length]; omega)
      have hLl : L.length ≤ 150 := by rw [hL.1.length_eq]; exact HDs.out.1
      have HLok : Hid (∀ r ∈ L, aget M.D r.1 = some r.2) := fun r hr => (aget_mem HInv.out.nd).2 (hL.1.mem_iff.1 hr)
      have Hrng := Lib.hid HF1.out.rng
      clear hL hr8 ha8 hb8 HF1 HI1 Hbw HO1 HFd
      go_wp2
      go_loopg [104] L.length (fun m i wr => ∃ j : Nat, j ≤ L.length ∧ i = .int .i64 j ∧ Hid (m = L.length - j ∧ Below w.heap.size w wr ∧ But F1 w8 wr ∧ ∃ M' F', FOn wr p F' M' ∧ Ix wr X1 xp M.D ∧ Inv M' ∧ M'.D = M.D ∧ (∀ b ∈ F', b ∉ X1) ∧ (∀ b ∈ F', w.heap.size ≤ b) ∧ Grew w8 F1 F' ∧ M'.asked ≤ 150 + j ∧ M'.loaded ≤ 150 + j))
      case atStart => exact ⟨0, by omega, rfl, rfl, Hb8.out, But.refl _ _, M, F1, HF8.out, HI8.out, HInv.out, rfl, Hdis1.out, HFB1.out, Grew.refl _ _, HDs.out.2.1, HDs.out.2.2⟩
      case round =>
        obtain ⟨j, hj, rfl, hr⟩ := hrel
        have Hm := Lib.hid hr.out.1
        have Hbw := Lib.hid hr.out.2.1
        have Hbut := Lib.hid hr.out.2.2.1
        obtain ⟨M', F', hF1, hI1, hinv, hMD, hdis, hFB1, hgr, hasked, hloaded⟩ := hr.out.2.2.2
        have HF1 := Lib.hid hF1
        have HI1 := Lib.hid hI1
        have HInv1 := Lib.hid hinv
        have Hdis2 := Lib.hid hdis
        have HFB2 := Lib.hid hFB1
        have HMD := Lib.hid hMD
        have Hgr := Lib.hid hgr
        have HAL : Hid (M'.asked ≤ 150 + j ∧ M'.loaded ≤ 150 + j) := ⟨hasked, hloaded⟩
        clear hr hF1 hI1 hinv hdis hFB1 hMD hgr hasked hloaded
        by_cases hlt : j < L.length
        · have hlt2 : (j : Int) < (L.length : Int) := by omega
          have HRr : Hid (Row wr a8 (L.flatMap rowL)) := HR8.out.but Hbut.out (fun g o hg => by
            rcases HaF8.out g o hg with h | h
            · exact h.1
            · rw [h] at hlt; cases hlt)
          obtain ⟨g2, o2, rfl, hX⟩ := row_at rowL_length HRr.out hlt (by omega)
          have HX : Hid (At wr g2 (o2 + j * 35) (rowC L[j])) := hX
          have Hget : Hid (aget M.D L[j].1 = some L[j].2) := HLok.out _ (List.getElem_mem hlt)
          clear hX HRr
          generalize L[j] = r at *
          go_wp2_with (first | (refine opIs (X := .load 35 (.tmp 106)) rfl ?_; refine wpList_load_at rfl 35 (.tmp 106) rfl g2 (o2 + j * 35) (by kernel_rfl) (rowC r) HX.out _ Try.underlying35 rfl (rowSize r) ?_) | (refine wpList_alloc_new rfl 35 rfl zr (Hzr.out _) ?_) | (refine opIs (X := .store 35 (.tmp 17) (.tmp 107)) rfl ?_; refine wpList_store_new rfl 35 (.tmp 17) (.tmp 107) rfl zr (rowC r) 35 (by kernel_rfl) (by kernel_rfl) (by rw [hzr, rowC_size]) (one_rowL r) (rowSize r) ?_; refine Go.XR.stop (fun X hX => ?_)) | fail)
          refine hX.out ?_
          clear hX X
          obtain ⟨W3, hW3⟩ : ∃ W3, wr.alloc (.cells (rowC r) 35) = W3 := ⟨_, rfl⟩
          have hb3 : Below wr.heap.size wr W3 := by rw [← hW3]; exact (Below.refl _ _).alloc (Nat.le_refl _) _
          have HR3 : Hid (At W3 wr.heap.size 0 (rowC r)) := by unfold Hid; rw [← hW3]; exact At.new _ _ _
          have HF3 := Lib.hid (HF1.out.below hb3)
          have HI3 := Lib.hid (HI1.out.below hb3)
          have Hrf : Hid (wr.heap.size ∉ F') := fun h => by have := HF1.out.lt _ h; omega
          have Hb3 := Lib.hid (Hbw.out.trans (hb3.mono Hbw.out.size))
          have Hbut3 := Lib.hid (Hbut.out.trans (But.of_below (S := F1) hb3))
          have HK3 := Lib.hid (row_at_key HR3.out)
          obtain ⟨rb, hrb⟩ : ∃ rb, wr.heap.size = rb := ⟨_, rfl⟩
          rw [hrb] at HR3 Hrf HK3 ⊢
          rw [hW3]
          clear hb3 hW3 hrb HX HF1 HI1 Hbw Hbut
          go_wp2_with (first | (refine opIs (X := .load 27 (.tmp 110)) rfl ?_; refine wpList_load_at rfl 27 (.tmp 110) rfl rb 0 rfl (keyC r.1) HK3.out _ Try.underlying27 rfl (keySize _) ?_) | fail)
          refine (fo_find HF3.out (by rw [HMD.out]; have := HDs.out.1; omega) (by have := HAL.out.1; omega) (by have := HAL.out.2; omega) r.1 7 (by decide)).mono ?_
          rintro e w7 ⟨L7, hL7, rfl, F7, hF7, hb7, hg7⟩
          have hval := fFind_val HInv1.out r.1 7 L7
          have hinv7 := fFind_inv HInv1.out r.1 7 L7 hL7 (fun v hv => (HF3.out.rng _ _ hv).1)
          have hfd := fFind_same M' r.1 7 L7
          obtain ⟨M7, hM7⟩ : ∃ M7, (fFind M' r.1 7 L7).2 = M7 := ⟨_, rfl⟩
          rw [hM7] at hF7 hinv7 hfd
          rw [hval, HMD.out, Hget.out, show (some r.2 : Option PlaceT).getD place0 = r.2 from rfl, show (some r.2 : Option PlaceT).isSome = true from rfl, show placeV r.2 = .agg #[.int .i64 r.2.shelf, .int .i64 r.2.slot] from rfl]
          have HF7 := Lib.hid hF7
          have HInv7 := Lib.hid hinv7
          have HD7 : Hid (M7.D = M.D ∧ M7.asked ≤ 150 + (j + 1) ∧ M7.loaded ≤ 150 + (j + 1)) := ⟨hfd.1.trans HMD.out, by have := hfd.2.1; have := HAL.out.1; omega, by have := hfd.2.2; have := HAL.out.2; omega⟩
          have HI7 := Lib.hid (HI3.out.but hb7 (fun b h1 h2 => Hdis2.out b h2 h1))
          have Hdis7 := Lib.hid (dis_grew Hdis2.out hg7 HI3.out.fin)
          have HFB7 := Lib.hid (base_grew HFB2.out hg7 Hb3.out.size)
          have HR7 := Lib.hid (HR3.out.but hb7 Hrf.out)
          have Hb7 := Lib.hid (Hb3.out.trans (hb7.below Hb3.out.size HFB2.out))
          have Hbut7 := Lib.hid (Hbut3.out.grew hb7 Hgr.out)
          have Hgr7 := Lib.hid (Hgr.out.trans hg7 Hbut3.out.size)
          clear hL7 hF7 hb7 hg7 hval hinv7 hfd hM7 HF3 HI3 HR3 HK3 Hb3 Hbut3 HInv1 Hdis2 HFB2 Hgr HAL
          have e0 : w7.cell? ⟨rb, 33, none⟩ = some (.int .i64 r.2.shelf) := row_at_shelf (o := 0) HR7.out
          have e1 : w7.cell? ⟨rb, 34, none⟩ = some (.int .i64 r.2.slot) := row_at_slot (o := 0) HR7.out
          have hrl : rb < w7.heap.size := HR7.out.lt (by rw [rowC_size]; omega)
          go_wp2
          have hb10 : Below w7.heap.size w7 (w7.alloc (.cells #[.int .i64 r.2.shelf, .int .i64 r.2.slot] 33)) := (Below.refl _ _).alloc (Nat.le_refl _) _
          go_roundg (L.length - (j + 1))
          case measure => have := Hm.out; omega
          case rel => exact ⟨j + 1, by omega, by go_num, rfl, Hb7.out.trans (hb10.mono Hb7.out.size), Hbut7.out.trans (But.of_below hb10), M7, F7, HF7.out.below hb10, HI7.out.below hb10, HInv7.out, HD7.out.1, Hdis7.out, HFB7.out, Hgr7.out, HD7.out.2.1, HD7.out.2.2⟩
        · have hge : ¬ (j : Int) < (L.length : Int) := by omega
          clear hlt HR8 HaF8 HLok
          go_wp2_with fail
          refine (fo_all HF1.out (by rw [HMD.out]; have := HDs.out.1; omega)).mono ?_
          rintro e w9 ⟨LA, hLA, aA, cA, rfl, hrA, haA, hbA⟩
          have HLA := Lib.hid hLA
          have HRA := Lib.hid hrA
          have HO9 : Hid (Own w.heap.size w9 xp M.D) := ⟨X1, HI1.out.below hbA, HXB1.out⟩
          have Hb9 := Lib.hid (Hbw.out.trans (hbA.mono Hbw.out.size))
          clear hLA hrA haA hbA HF1 HI1 Hbw
          go_wp2_with fail
          refine (own_all HO9.out (by have := HDs.out.1; omega)).mono ?_
          rintro e w10 ⟨LB, hLB, aB, cB, rfl, hrB, haB, hbB⟩
          have HLB := Lib.hid hLB
          have HRB := Lib.hid hrB
          have HRA10 := Lib.hid (HRA.out.below hbB)
          have Hb10 := Lib.hid (Hb9.out.trans (hbB.mono Hb9.out.size))
          clear hLB hrB haB hbB HRA HO9 Hb9
          go_wp2_with fail
          have hE : LA = LB := by
            have h1 := HLA.out
            rw [HMD.out] at h1
            exact allof_uniq h1 HLB.out
          have hLBl : LB.length ≤ 150 := by rw [HLB.out.1.length_eq]; exact HDs.out.1
          have hokB : RowsOk LB := AllOf.ok HLB.out HInv.out.nd Hrng.out
          refine (same_any w10 aA aB cA cB LA LB HRA10.out HRB.out (by rw [hE]; omega) (by omega) (by rw [hE]; exact hokB) hokB).mono ?_
          rintro e w11 ⟨rfl, hb11⟩
          rw [decide_eq_true hE]
          have Hb11 := Lib.hid (Hb10.out.trans (hb11.mono Hb10.out.size))
          clear hb11 hE hLBl
          go_wp2
          go_ret
          exact ⟨rfl, Hb11.out⟩
end Go.Proofs.Ytnfbchhbcinloaa

/- The statement FindSame: it holds for every input.  No conditions. -/
namespace Go.Proofs.Ytnfbchhbcinloaa.findSame
open Go.ChangeShapes Go.WideShapes Go.ChangeAt Go.RowKit Go.XR
open Go.ChangeMaps (open_string shut_string)
theorem own : ownKnob Try.prog.godebug = none := by kernel_rfl
theorem laidOut : laidOutB Try.prog = true := by kernel_rfl
set_option maxRecDepth 100000 in
theorem lifted (os : Os) (started : os.Started) (H : Type) (enc : TypeId × Value → H) :
    ReturnsInHanded {} Try.checked os 9 .any (Rows.findSameSpec.pre6 enc Try.prog Try.f9 Rows.findSameRow.domain false) (Rows.findSameSpec.post enc Try.prog Try.f9 false true false false) := by
  refine returnsInHanded_of_change_sized (C := Try.checked) own started (by kernel_rfl) Try.func9
    (ChangeSpec.witness6 (enc := enc) (C := Try.checked) false ⟨#[], #[.agg #[.int .i64 0, .int .i64 0, .int .i64 0], .slice none 0 0], []⟩ 8 (by kernel_rfl) (by kernel_rfl) (by kernel_rfl) (by kernel_rfl)) ?_
  intro W base args ds gs before hval0 hW _ _ _
  have hval : ∀ (j : Nat) t v, Try.f9.params[j]? = some t → args[j]? = some v → Value.okWide Try.prog W .any base t v := hval0
  have hW' := hW
  obtain ⟨p, q, hA0, hV, rfl, _, _⟩ := hW
  have hA : DataW.TrodAll enc Try.prog W 0 (fun _ => true) true Try.f9.params.toList args.toList ds p := hA0
  rw [Try.params9] at hA hval
  obtain ⟨v0, vs0, d0, ds0, p0, q0, hargs, rfl, rfl, h0, r0⟩ := trodAll_cons hA
  obtain ⟨v1, vs1, d1, ds1, p1, q1, rfl, rfl, rfl, h1, r1⟩ := trodAll_cons r0
  obtain ⟨rfl, rfl, rfl⟩ := trodAll_nil r1
  obtain rfl : args = #[v0, v1] := by cases args; simp_all
  obtain ⟨rfl, rfl⟩ := trodVars_none hV
  have k0 := h0
  have lt0 : ∀ x ∈ p0, x.block < W.heap.size := by obtain ⟨m, hm⟩ := k0; exact DataW.trod_lt m _ _ _ hm
  obtain ⟨a0, rfl, hf0⟩ := agg_of (f := 8) (ls := (leafs Try.prog 8 58).getD []) Try.underlying58 (hval 0 58 v0 rfl rfl) (by kernel_rfl) h0
  obtain ⟨b0_0, b0_1, b0_2, rfl⟩ := how_agg hf0
  have k1 := h1
  have lt1 : ∀ x ∈ p1, x.block < W.heap.size := by obtain ⟨m, hm⟩ := k1; exact DataW.trod_lt m _ _ _ hm
  obtain ⟨o1, len1, c1, rfl⟩ := okWide_slice Try.underlying70 (hval 1 70 v1 rfl rfl)
  obtain ⟨a1, hn1, hr1, hq1, hl1, hm1⟩ := slice_rel (w := W) (enc := enc) (base := 0) (spare := fun _ => true) (held := true) factL (FActQ W) fact_read factL_length Try.underlying70 (by decide) (by kernel_rfl) h1
  subst hn1
  clear hA0 hval0
  refine (same_walk W b0_0 b0_1 b0_2 o1 c1 a1 hr1 hq1 (And.intro hl1 hm1).1 (And.intro hl1 hm1).2).mono fun e W' ⟨he, bel⟩ => ?_
  subst he
  exact ⟨_, rfl, _, _, _, [], _, [], hW', trodAll_mk1 (shut_bool Try.underlying4 _), (trodAll_cons_mk (Below.trod laidOut (by kernel_rfl) (of_decide_eq_true (by kernel_rfl)) k0 bel lt0) (trodAll_cons_mk (Below.trod laidOut (by kernel_rfl) (of_decide_eq_true (by kernel_rfl)) k1 bel lt1) trodAll_mk0)), rfl, bel.frame _, fun h => by cases h⟩
theorem over : Rows.findSameRow.holds Try.pinned (OpenSpec.ofChange Rows.findSameSpec) :=
  OpenClaim.holds_of_wide 9 Try.f9 rfl rfl rfl rfl rfl rfl rfl ⟨rfl, rfl, rfl, rfl, rfl⟩ rfl rfl rfl rfl rfl (by kernel_rfl) Try.func9 (by kernel_rfl)
    (of_decide_eq_true (by kernel_rfl)) (by unfold Func.isWrapper; first | (rw [if_pos (by decide +kernel)]; kernel_rfl) | (rw [if_neg (by decide +kernel)]; exact ⟨rfl, rfl⟩))
    (fun os started H enc _ => lifted os started H enc)
theorem proved : Rows.FindSameSaid := over
#print axioms proved
end Go.Proofs.Ytnfbchhbcinloaa.findSame
namespace Go.Proofs.Ytnfbchhbcinloaa
/-- the statement, under a short name -/
theorem findSame_holds : Rows.FindSameSaid := findSame.proved
end Go.Proofs.Ytnfbchhbcinloaa
