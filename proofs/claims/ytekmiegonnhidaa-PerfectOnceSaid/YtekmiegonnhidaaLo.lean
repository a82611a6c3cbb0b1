/- The walk over the statement PerfectOnce. -/
import Derived.Test.YtekmiegonnhidaaLu
namespace Go.Proofs.Ytekmiegonnhidaa
open Go.RowKit Go.XR Go.PerfPure
set_option maxHeartbeats 4000000 in
set_option maxRecDepth 100000 in
theorem once_walk (w : World) (la : Option Addr) (lc : Nat) (l : List KeyT) (hL : Row w la (l.flatMap keyL)) (hl : l.length ≤ maxLen) (hc : l.length ≤ lc)
    (ma : Option Addr) (mc : Nat) (m : List KeyT) (hM : Row w ma (m.flatMap keyL)) (hm : m.length ≤ maxLen) (hmc : m.length ≤ mc) :
    Calls Try.prog 4 #[.slice la l.length lc, .slice ma m.length mc] w (RetBool w true) := by
  obtain ⟨zs, hzs, hz⟩ := zero_key
  have Hz := Lib.hid hz
  clear hz
  have HL := Lib.hid hL
  have HM := Lib.hid (row_few hM)
  have Hfew := Lib.hid (fun W => few_any W ma mc m hm hmc)
  have Hun := Lib.hid (fun W (h : Row W la (l.flatMap keyL)) => unlike_any W la lc l h hl hc)
  have hm4 := few_len m
  have Hul : Hid ((unlikeP (l.take 400)).length ≤ 400) := Nat.le_trans (unlike_len _) (few_len l)
  have Hud := Lib.hid (unlike_nodup (l.take 400))
  clear hL hM hl hc hm hmc
  go_enter Try.func4, Try.ntmps4
  go_wp2_with fail
  refine (shown_any _).mono ?_
  rintro e w1 ⟨rfl, hb1⟩
  have Hb1 := Lib.hid hb1
  clear hb1
  go_wp2_with fail
  refine (Hun.out _ (HL.out.below Hb1.out)).mono ?_
  rintro e w2 ⟨ua, uc, rfl, hown, hb2⟩
  have Hb2 := Lib.hid (Hb1.out.trans (hb2.mono Hb1.out.size))
  have HU2 := Lib.hid (Row.owned hown)
  clear hown hb2 Hun Hb1 HL
  generalize unlikeP (l.take 400) = U at *
  generalize l.length = n0 at *
  obtain ⟨n1, hn1⟩ : ∃ n1, m.length = n1 := ⟨_, rfl⟩
  rw [hn1] at Hfew ⊢
  generalize m.take 400 = M at *
  clear hn1
  have hul := Hul.out
  go_wp2_with fail
  refine (build_any _ ua uc U HU2.out (by omega)).mono ?_
  intro e w3 h3
  obtain ⟨hb3, p, rfl, hp⟩ := h3.okE (by omega) Hud.out
  have HU3 := Lib.hid (HU2.out.below hb3)
  have Hb3 := Lib.hid (Hb2.out.trans (hb3.mono Hb2.out.size))
  have Hp3 := Lib.hid hp
  clear h3 hb3 hp Hb2 HU2
  have Hok := Lib.hid (okB (l := U) (by omega))
  have Hin := Lib.hid (fun k (h : k ∈ U) => place_in Hud.out h)
  have Hinj := Lib.hid (fun k k' (h : k ∈ U) (h' : k' ∈ U) => place_inj Hud.out h h')
  have Hrg := Lib.hid (place_range U Hud.out)
  have hbn : (buildP U).n = U.length := rfl
  generalize buildP U = B at *
  go_wp2_with fail
  refine (len_any _ p _ Hp3.out).mono ?_
  rintro e w4 ⟨rfl, hb4⟩
  have HU4 := Lib.hid (HU3.out.below hb4)
  have Hb4 := Lib.hid (Hb3.out.trans (hb4.mono Hb3.out.size))
  have Hp4 := Lib.hid (Hp3.out.below hb4)
  clear hb4 Hp3 Hb3 HU3
  obtain ⟨C3, hC3, hmk3⟩ := make_any (P := Try.prog) (enc := fun b : Bool => [Value.bool b]) (k := 1) (fun _ => rfl) false 38 4 1 Try.underlying38 (by kernel_rfl) U.length (by omega) (by omega)
  have HC3 : Hid (C3.toList = boolsL (List.replicate U.length false)) := by
    unfold Hid; rw [hC3]; unfold boolsL
    generalize List.replicate U.length false = q
    induction q with
    | nil => rfl
    | cons a q ih => rw [List.flatMap_cons, List.map_cons, ih]; rfl
  clear hC3
  rw [hbn]
  clear hbn
  go_wp2
  clear hmk3
  obtain ⟨hb, hhb⟩ : ∃ hb, w4.heap.size = hb := ⟨_, rfl⟩
  have HT5 : Hid (Blk (w4.alloc (.cells C3 4)) hb (boolsL (List.replicate U.length false))) := by have h := Blk.new w4 C3 4; rw [HC3.out, hhb] at h; exact h
  have HB5 : Hid (Below hb w4 (w4.alloc (.cells C3 4))) := (Below.refl _ _).alloc (by omega) _
  rw [hhb]
  generalize w4.alloc (.cells C3 4) = W5 at *
  clear HC3
  go_loopg [41] U.length (fun n i w6 => Below hb w4 w6 ∧ ∃ j : Nat, j ≤ U.length ∧ i = .int .i64 j ∧ Hid (n = U.length - j ∧ Blk w6 hb (boolsL (markB true (List.replicate U.length false) ((U.take j).map fun k => (placeP B k).toNat)))))
  case atStart => exact ⟨HB5.out, 0, by omega, rfl, rfl, HT5.out⟩
  case round =>
    clear HT5 HB5
    obtain ⟨hb6, j, hj, rfl, hr⟩ := hrel
    have Hb6 : Hid (Below w4.heap.size w4 wr) := by unfold Hid; rw [hhb]; exact hb6
    have Hb6' := Lib.hid hb6
    clear hb6
    have HT6 := Lib.hid hr.out.2
    have hgn := hr.out.1
    clear hr
    by_cases hlt : j < U.length
    · have hlt2 : (j : Int) < (U.length : Int) := by omega
      obtain ⟨g, o, rfl⟩ := row_some HU4.out (by omega)
      have HA := Lib.hid (At.below (row_key HU4.out hlt) (by rw [keyC_size]; omega) Hb6.out)
      have hpi := Hin.out U[j] (List.getElem_mem hlt)
      obtain ⟨pn, hpn⟩ : ∃ pn : Nat, (placeP B U[j]).toNat = pn := ⟨_, rfl⟩
      have Hpn : Hid (placeP B U[j] = (pn : Int)) := by unfold Hid; omega
      have hpl : pn < U.length := by omega
      have Hmk : Hid (markB true (List.replicate U.length false) ((U.take (j + 1)).map fun k => (placeP B k).toNat) = (markB true (List.replicate U.length false) ((U.take j).map fun k => (placeP B k).toNat)).set pn true) := by
        unfold Hid
        rw [List.take_succ_eq_append_getElem hlt, List.map_append, List.map_cons, List.map_nil, markB_snoc, hpn]
      have Hfr : Hid ((markB true (List.replicate U.length false) ((U.take j).map fun k => (placeP B k).toNat))[pn]? = some false) := by
        unfold Hid
        rw [markB_get, if_neg, List.getElem?_replicate, if_pos hpl]
        intro hm
        obtain ⟨k, hk, e⟩ := List.mem_map.1 hm
        have hkU := List.mem_of_mem_take hk
        have h1 := Hin.out k hkU
        have h2 := Hinj.out k U[j] hkU (List.getElem_mem hlt) (by rw [Hpn.out]; omega)
        have h3 := Hud.out.sublist (List.take_sublist (j + 1) U)
        rw [List.take_succ_eq_append_getElem hlt, List.nodup_append] at h3
        exact h3.2.2 k hk U[j] (by simp) h2
      have hml : (markB true (List.replicate U.length false) ((U.take j).map fun k => (placeP B k).toNat)).length = U.length := by rw [markB_length, List.length_replicate]
      obtain ⟨tk, htk⟩ : ∃ tk, markB true (List.replicate U.length false) ((U.take j).map fun k => (placeP B k).toNat) = tk := ⟨_, rfl⟩
      rw [htk] at HT6 Hmk Hfr hml
      clear htk hpi hpn
      have Hml := Lib.hid hml
      clear hml
      generalize hkj : U[j] = kj at *
      clear hkj
      go_wp2_with (first | (refine wpList_alloc_new rfl 27 rfl zs (Hz.out _) ?_) | (refine wpList_store_new rfl 27 _ _ rfl zs (keyC kj) 27 rfl rfl (by rw [hzs, keyC_size]) (one_keyC kj) (keySize kj) ?_) | (refine wpList_load_at rfl 27 _ rfl g (o + j * 33) rfl (keyC kj) HA.out _ Try.underlying27 rfl (keySize kj) ?_) | (refine wpList_load_at rfl 27 _ rfl wr.heap.size 0 rfl (keyC kj) (At.new _ _ _) _ Try.underlying27 rfl (keySize kj) ?_))
      refine (place_any _ p _ ((Hp4.out.below Hb6.out).below ((Below.refl _ _).alloc (Nat.le_refl _) _)) Hok.out kj).mono ?_
      rintro e w7 ⟨rfl, hb7⟩
      rw [Hpn.out]
      have hb67 : Below wr.heap.size wr w7 := ((Below.refl _ _).alloc (Nat.le_refl _) _).trans (hb7.mono (by simp))
      have HT7 := Lib.hid (HT6.out.below hb67)
      have hbs : hb ≤ wr.heap.size := by have := Hb6.out.size; omega
      have HB7 := Lib.hid (Hb6'.out.trans (hb67.mono hbs))
      clear hb7 hb67
      have c7 := HT7.out.cell (i := pn) (v := .bool false) (by rw [boolsL, List.getElem?_map, Hfr.out]; rfl)
      have f7 := HT7.out.free pn
      have hd1 : decide ((pn : Int) < 0) = false := decide_eq_false (by omega)
      have hd2 : decide ((U.length : Int) ≤ (pn : Int)) = false := decide_eq_false (by omega)
      go_wp2
      go_roundg (U.length - (j + 1))
      case measure => omega
      case rel => exact ⟨HB7.out.trans (((But.refl [hb] w7).setCell (.inl (by simp)) _).below (by have := HT7.out.lt; omega) (by simp)), j + 1, by omega, by go_num, rfl, by rw [Hmk.out, ← boolsL_set]; exact HT7.out.set _ _⟩
    · have hge : ¬ (j : Int) < (U.length : Int) := by omega
      have HB6 := Lib.hid (Hb4.out.trans (Hb6.out.mono Hb4.out.size))
      have Hp6 := Lib.hid (Hp4.out.below Hb6.out)
      have HM6 := Lib.hid (HM.out.below HB6.out)
      clear HT6 Hb6 Hb6' HU4 Hp4 Hb4 hlt
      go_wp2_with fail
      refine (Hfew.out _).mono ?_
      rintro e w' ⟨rfl, hw⟩
      rw [hw]
      clear hw
      go_wp2
      clear hge hj
      obtain ⟨W6, hW6⟩ : ∃ W6, W6 = wr := ⟨_, rfl⟩
      rw [← hW6] at HB6 Hp6 HM6 ⊢
      clear hW6
      go_loopg [69] M.length (fun n i w7 => Below W6.heap.size W6 w7 ∧ ∃ j : Nat, j ≤ M.length ∧ i = .int .i64 j ∧ Hid (n = M.length - j))
      case atStart => exact ⟨Below.refl _ _, 0, by omega, rfl, rfl⟩
      case round =>
        obtain ⟨hb7, q, hq, rfl, hr⟩ := hrel
        have Hb7 := Lib.hid hb7
        have Hp7 := Lib.hid (Hp6.out.below hb7)
        clear hb7
        by_cases hlt : q < M.length
        · have hlt2 : (q : Int) < (M.length : Int) := by omega
          obtain ⟨g, o, rfl⟩ := row_some HM6.out (by omega)
          have HA := Lib.hid (At.below (row_key HM6.out hlt) (by rw [keyC_size]; omega) Hb7.out)
          generalize M[q] = kj at *
          have hrk := Hrg.out kj
          obtain ⟨z, hz⟩ : ∃ z, placeP B kj = z := ⟨_, rfl⟩
          rw [hz] at hrk
          have Hzz := Lib.hid hz
          clear hz
          have hd1 : decide (z < -1) = false := decide_eq_false (by omega)
          have hd2 : decide ((U.length : Int) ≤ z) = false := decide_eq_false (by omega)
          obtain ⟨hr1, hr2⟩ := hrk
          go_wp2_with (first | (refine wpList_alloc_new rfl 27 rfl zs (Hz.out _) ?_) | (refine wpList_store_new rfl 27 _ _ rfl zs (keyC kj) 27 rfl rfl (by rw [hzs, keyC_size]) (one_keyC kj) (keySize kj) ?_) | (refine wpList_load_at rfl 27 _ rfl g (o + q * 33) rfl (keyC kj) HA.out _ Try.underlying27 rfl (keySize kj) ?_) | (refine wpList_load_at rfl 27 _ rfl wr.heap.size 0 rfl (keyC kj) (At.new _ _ _) _ Try.underlying27 rfl (keySize kj) ?_))
          have hp8 := Hp7.out.below ((Below.refl _ _).alloc (Nat.le_refl _) (.cells (keyC kj) 27))
          refine (place_any _ p _ hp8 Hok.out kj).mono ?_
          rintro e w8 ⟨rfl, hb8⟩
          rw [Hzz.out]
          have Hp9 := Lib.hid (hp8.below hb8)
          have HK8 : Hid (At w8 wr.heap.size 0 (keyC kj)) := (At.new _ _ _).below (by rw [keyC_size]; omega) hb8
          have hb78 : Below wr.heap.size wr w8 := ((Below.refl _ _).alloc (Nat.le_refl _) _).trans (hb8.mono (by simp))
          have HB8 := Lib.hid (Hb7.out.trans (hb78.mono Hb7.out.size))
          clear hb8 hp8 hb78
          go_wp2_with (refine wpList_load_on rfl 27 _ rfl wr.heap.size 0 rfl (keyC kj) HK8.out _ Try.underlying27 rfl (keySize kj) ?_)
          refine (place_any _ p _ Hp9.out Hok.out kj).mono ?_
          rintro e w9 ⟨rfl, hb9⟩
          rw [Hzz.out]
          have HB9 := Lib.hid (HB8.out.trans (hb9.mono HB8.out.size))
          clear hb9
          go_wp2
          go_roundg (M.length - (q + 1))
          case measure => have := hr.out; omega
          case rel => exact ⟨HB9.out, q + 1, by omega, by go_num, rfl⟩
        · have hge : ¬ (q : Int) < (M.length : Int) := by omega
          go_wp2
          go_ret
          exact ⟨rfl, HB6.out.trans (Hb7.out.mono HB6.out.size)⟩
end Go.Proofs.Ytekmiegonnhidaa
