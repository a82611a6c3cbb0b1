/- The walk over the statement TreeOrder. -/
import Derived.Test.YtfblpabkkahmeaaH
namespace Go.Proofs.Ytfblpabkkahmeaa
open Go.RowKit Go.TreePure Go.XR

theorem RetTree.elim {w : World} {t : PT} {e : Ending} {w' : World} (h : RetTree w t e w') : ∃ p, e = .returned (.pointer p) ∧ Rep w' p t ∧ Below w.heap.size w w' := h

/-- From the empty key with room enough: all pairs -/
theorem all_pairs {t : PT} (h : Srt t.list) (hs : t.size ≤ 2^40) : (PT.fromL ⟨#[]⟩ t).take (4611686018427387904 : Int).toNat = t.list := by
  rw [PT.fromL_all h, List.take_of_length_le]
  rw [PT.list_length]
  have : (4611686018427387904 : Int).toNat = 4611686018427387904 := rfl
  omega

set_option maxHeartbeats 4000000 in
set_option maxRecDepth 100000 in
theorem order_walk (w : World) (a : Option Addr) (c : Nat) (L : List Deed) (hL : Row w a (cellsA L)) (hl : L.length ≤ maxLen) (hc : L.length ≤ c) :
    Calls Try.prog 5 #[.slice a L.length c] w fun e w' => e = .returned (.bool true) ∧ Below w.heap.size w w' := by
  have HL := Lib.hid hL
  clear hL
  go_enter Try.func5, Try.ntmps5
  go_wp2_with fail
  refine (shown_any _).mono ?_
  rintro e w1 ⟨rfl, hb1⟩
  go_wp2_with fail
  refine (few_any _ a c L (HL.out.below hb1) hl hc).mono ?_
  rintro e w2 ⟨m, hm1, hm2, rfl, hb2⟩
  have Hb2 := Lib.hid (hb1.trans (hb2.mono hb1.size))
  clear hb1 hb2
  have Hl := Lib.hid hl
  clear hl
  go_wp2_with fail
  go_loopg [15, 4, 7] m (fun n i p _ wr => Below w.heap.size w wr ∧ ∃ (k : Nat) (q : Option Addr) (T : PT), k ≤ m ∧ i = .int .i64 k ∧ p = .pointer q ∧ Hid (n = m - k ∧ Rep wr q T ∧ Srt T.list ∧ T.size ≤ k))
  case atStart => exact ⟨Hb2.out, 0, none, .nil, Nat.zero_le _, rfl, rfl, rfl, rfl, srt_nil, Nat.le_refl _⟩
  case round =>
    obtain ⟨hb, k, q, T, hk, rfl, rfl, hT⟩ := hrel
    by_cases hlt : k < m
    · have hltL : k < L.length := by omega
      obtain ⟨g, o, rfl, c0, c1, c2⟩ := act_at (HL.out.below hb) hltL
      have Hb := Lib.hid hb
      have hi1 : (k : Int) < (m : Int) := by omega
      clear hb
      go_wp2_with fail
      refine (does_any _ q T L[k] (hT.out.2.1.alloc _) (by have := hT.out.2.2.2; omega)).mono ?_
      rintro e w3 ⟨p3, rfl, hp3, hb3⟩
      have Hp3 := Lib.hid hp3
      have Hb3 := Lib.hid ((Hb.out.alloc Hb.out.size _).trans (hb3.mono (by have := Hb.out.size; simp; omega)))
      clear hp3 hb3 c0 c1 c2
      go_wp2
      go_roundg (m - (k + 1))
      case measure => have := hT.out.1; omega
      case rel => exact ⟨Hb3.out, k + 1, p3, PT.does T L[k], by omega, by go_num, rfl, rfl, Hp3.out, PT.does_srt hT.out.2.2.1 _, by have := PT.does_size T L[k]; have := hT.out.2.2.2; omega⟩
    · have hge : ¬ (k : Int) < (m : Int) := by omega
      have Hb := Lib.hid hb
      clear hb
      go_wp2_with fail
      refine (from_any ⟨#[]⟩ 4611686018427387904 T _ q hT.out.2.1 (by have := hT.out.2.2.2; omega)).mono ?_
      rintro e w3 ⟨a3, c3, rfl, hb3, ho3⟩
      rw [all_pairs hT.out.2.2.1 (by have := hT.out.2.2.2; omega)] at ho3 ⊢
      have Hro := Lib.hid (Row.owned ho3)
      have Hb3 := Lib.hid (Hb.out.trans (hb3.mono Hb.out.size))
      have HT3 := Lib.hid (hT.out.2.1.below hb3)
      have hlen : T.list.length ≤ 200 := by rw [PT.list_length]; have := hT.out.2.2.2; omega
      have Hsr := Lib.hid hT.out.2.2.1
      have Hty := Lib.hid hT.out.2.2.2
      clear hb3 ho3 hT
      go_wp2_with fail
      have Hk := Lib.hid hk
      clear hk hm1 hm2
      go_loopg [27, 9, 5] T.list.length (fun n i _ u wr => Below w3.heap.size w3 wr ∧ ∃ (k : Nat) (q : Option Addr) (U : PT), k ≤ T.list.length ∧ i = .int .i64 k ∧ u = .pointer q ∧ Hid (n = T.list.length - k ∧ Rep wr q U ∧ Srt U.list ∧ U.size ≤ k ∧ Sub U.list T.list))
      case atStart => exact ⟨Below.refl _ _, 0, none, .nil, Nat.zero_le _, rfl, rfl, by omega, rfl, srt_nil, Nat.le_refl _, fun k _ => rfl⟩
      case round =>
        obtain ⟨hb, k, q2, U, hk, rfl, rfl, hU⟩ := hrel
        by_cases hlt : k < T.list.length
        · obtain ⟨g, o, rfl, c0, _⟩ := pair_at (Hro.out.below hb) hlt
          have hpos : 0 < T.list.length := by omega
          have hmod : (k * 7 + 3) % T.list.length < T.list.length := Nat.mod_lt _ hpos
          obtain ⟨g', o', he, c1, _⟩ := pair_at (Hro.out.below hb) hmod
          cases he
          have Hb := Lib.hid hb
          clear hb
          have hi1 : (k : Int) < (T.list.length : Int) := by omega
          have hm3 : 0 ≤ ((k : Int) * 7 + 3) % (T.list.length : Int) := Int.emod_nonneg _ (by omega)
          have hm4 : ((k : Int) * 7 + 3) % (T.list.length : Int) < (T.list.length : Int) := Int.emod_lt_of_pos _ (by omega)
          by_cases h0 : (0 : Int) < (k : Int)
          · have hd : decide (0 < k) = true := decide_eq_true (by omega)
            have hk1 : k - 1 < T.list.length := by omega
            obtain ⟨g2, o2, he, c2, _⟩ := pair_at (Hro.out.below Hb.out) hk1
            cases he
            have hord : Op.bytesLess (T.list[k - 1].1).toList (T.list[k].1).toList = true := srt_get Hsr.out (show k - 1 < k by omega) hlt
            have hkk : (0 : Int) ≤ (k : Int) - 1 := by omega
            have hkk2 : (k : Int) - 1 < (T.list.length : Int) := by omega
            go_wp2_with fail
            refine Go.XR.region_sched ((· = wr.drew)) [(0, true), (1, true), (2, true), (3, true), (4, true), (5, true), (6, true), (7, true), (8, true), (9, true), (10, true), (11, true), (12, true), (13, true), (14, false), (15, false)] [14, 15] Try.mixed (by kernel_rfl) (by kernel_rfl) (by kernel_rfl) ?_
            simp only [List.map_cons, List.map_nil, List.getElem?_cons_succ, List.getElem?_cons_zero]
            repeat (first | (refine Go.XR.S_light rfl rfl rfl ?_ (fun w' hS K hK => ?_) (fun K hK => ?_); rotate_left 1; (cases hS; go_step; exact hK); go_step; refine hK _ ?_; clear hK K) | (refine Go.XR.S_light_off rfl rfl (fun K hK => ?_); go_step; refine hK _ ?_; clear hK K) | (refine Go.XR.S_light_on rfl rfl rfl rfl ?_ (fun w' hS K hK => ?_) (fun K hK => ?_); rotate_left 1; (cases hS; go_step; exact hK); go_step; refine hK _ ?_; clear hK K))
            repeat (first | (refine Go.XR.S_heavy (fun K hK => ?_); go_step; refine hK _ _ ⟨fun h => by simp at h, ?_⟩; clear hK K) | (refine Go.XR.S_heavy_off rfl (fun h => by simp at h) (fun K hK => ?_); go_step; refine hK _ ?_; clear hK K) | (refine Go.XR.S_heavy_on rfl (fun K hK => ?_); go_step; refine hK _ _ ⟨fun h => by simp at h, ?_⟩; clear hK K))
            refine Go.XR.S_nil ?_
            go_wp2_with fail
            refine (put_any T.list[(k * 7 + 3) % T.list.length].1 ⟨#[]⟩ U _ q2 (hU.out.2.1.below (Below.refl _ _).drew) (by have := hU.out.2.2.2.1; omega)).mono ?_
            rintro e w4 ⟨p4, rfl, hp4, hb4⟩
            have Hp4 := Lib.hid hp4
            have Hb4 := Lib.hid (Hb.out.drew.trans (hb4.mono Hb.out.size))
            clear hp4 hb4
            go_wp2
            go_roundg (T.list.length - (k + 1))
            case measure => have := hU.out.1; omega
            case rel => exact ⟨Hb4.out, k + 1, p4, _, by omega, by go_num, rfl, rfl, Hp4.out, PT.put_srt hU.out.2.2.1 _ _, by have := PT.put_size T.list[(k * 7 + 3) % T.list.length].1 ⟨#[]⟩ U; have := hU.out.2.2.2.1; omega, by rw [PT.put_list _ _ _ hU.out.2.2.1]; exact hU.out.2.2.2.2.ins Hsr.out hmod _⟩
          · have hd : decide (0 < k) = false := decide_eq_false (by omega)
            go_wp2_with fail
            refine Go.XR.region_sched ((· = wr.drew)) [(0, true), (1, true), (2, true), (3, true), (4, true), (5, true), (6, true), (7, true), (8, true), (9, true), (10, true), (11, true), (12, true), (13, true), (14, false), (15, false)] [14, 15] Try.mixed (by kernel_rfl) (by kernel_rfl) (by kernel_rfl) ?_
            simp only [List.map_cons, List.map_nil, List.getElem?_cons_succ, List.getElem?_cons_zero]
            repeat (first | (refine Go.XR.S_light rfl rfl rfl ?_ (fun w' hS K hK => ?_) (fun K hK => ?_); rotate_left 1; (cases hS; go_step; exact hK); go_step; refine hK _ ?_; clear hK K) | (refine Go.XR.S_light_off rfl rfl (fun K hK => ?_); go_step; refine hK _ ?_; clear hK K) | (refine Go.XR.S_light_on rfl rfl rfl rfl ?_ (fun w' hS K hK => ?_) (fun K hK => ?_); rotate_left 1; (cases hS; go_step; exact hK); go_step; refine hK _ ?_; clear hK K))
            repeat (first | (refine Go.XR.S_heavy (fun K hK => ?_); go_step; refine hK _ _ ⟨fun h => by simp at h, ?_⟩; clear hK K) | (refine Go.XR.S_heavy_off rfl (fun h => by simp at h) (fun K hK => ?_); go_step; refine hK _ ?_; clear hK K) | (refine Go.XR.S_heavy_on rfl (fun K hK => ?_); go_step; refine hK _ _ ⟨fun h => by simp at h, ?_⟩; clear hK K))
            refine Go.XR.S_nil ?_
            go_wp2_with fail
            refine (put_any T.list[(k * 7 + 3) % T.list.length].1 ⟨#[]⟩ U _ q2 (hU.out.2.1.below (Below.refl _ _).drew) (by have := hU.out.2.2.2.1; omega)).mono ?_
            rintro e w4 ⟨p4, rfl, hp4, hb4⟩
            have Hp4 := Lib.hid hp4
            have Hb4 := Lib.hid (Hb.out.drew.trans (hb4.mono Hb.out.size))
            clear hp4 hb4
            go_wp2
            go_roundg (T.list.length - (k + 1))
            case measure => have := hU.out.1; omega
            case rel => exact ⟨Hb4.out, k + 1, p4, _, by omega, by go_num, rfl, rfl, Hp4.out, PT.put_srt hU.out.2.2.1 _ _, by have := PT.put_size T.list[(k * 7 + 3) % T.list.length].1 ⟨#[]⟩ U; have := hU.out.2.2.2.1; omega, by rw [PT.put_list _ _ _ hU.out.2.2.1]; exact hU.out.2.2.2.2.ins Hsr.out hmod _⟩
        · have hge2 : ¬ (k : Int) < (T.list.length : Int) := by omega
          have Hb := Lib.hid hb
          have Hk2 := Lib.hid hk
          clear hb hk
          go_wp2_with fail
          go_loopg [61, 10, 5] T.list.length (fun n i _ u wr => Below w3.heap.size w3 wr ∧ ∃ (k : Nat) (q : Option Addr) (U : PT), k ≤ T.list.length ∧ i = .int .i64 k ∧ u = .pointer q ∧ Hid (n = T.list.length - k ∧ Rep wr q U ∧ Srt U.list ∧ U.size ≤ T.list.length + k ∧ Sub U.list T.list ∧ Has U.list T.list (T.list.length - k)))
          case atStart => exact ⟨Hb.out, 0, q2, U, Nat.zero_le _, rfl, rfl, by omega, hU.out.2.1, hU.out.2.2.1, by have := hU.out.2.2.2.1; have := Hk2.out; omega, hU.out.2.2.2.2, fun j h h' => by omega⟩
          case round =>
            clear Hb hU Hk2 hlt hge2
            obtain ⟨hb, k, q3, V, hk, rfl, rfl, hV⟩ := hrel
            by_cases hlt : k < T.list.length
            · have hj : T.list.length - 1 - k < T.list.length := by omega
              obtain ⟨g, o, rfl, c0, c1⟩ := pair_at (Hro.out.below hb) hj
              have Hb := Lib.hid hb
              clear hb
              have hi1 : (k : Int) < (T.list.length : Int) := by omega
              go_wp2_with fail
              refine Go.XR.region_sched ((· = wr.drew)) [(0, true), (1, true), (2, true), (3, true), (4, true), (5, true), (6, true), (7, true), (8, true), (9, true), (10, true), (11, true), (12, true), (13, true), (14, true), (15, true), (16, true), (17, true), (18, true), (19, false), (20, false)] [19, 20] Try.mixed (by kernel_rfl) (by kernel_rfl) (by kernel_rfl) ?_
              simp only [List.map_cons, List.map_nil, List.getElem?_cons_succ, List.getElem?_cons_zero]
              repeat (first | (refine Go.XR.S_light rfl rfl rfl ?_ (fun w' hS K hK => ?_) (fun K hK => ?_); rotate_left 1; (cases hS; go_step; exact hK); go_step; refine hK _ ?_; clear hK K))
              refine Go.XR.S_heavy (fun K hK => ?_)
              go_step
              ((with_reducible refine (put_any T.list[T.list.length - 1 - k].1 T.list[T.list.length - 1 - k].2 V _ q3 (hV.out.2.1.below (Below.refl _ _).drew) (by have := hV.out.2.2.2.1; omega)).mono ?_); rintro e w' ⟨p4, rfl, hp4, hb4⟩)
              refine hK _ _ ⟨fun h => by simp at h, ?_⟩
              clear hK K
              have Hp4 := Lib.hid hp4
              have Hb4 := Lib.hid (Hb.out.drew.trans (hb4.mono Hb.out.size))
              clear hp4 hb4
              repeat (first | (refine Go.XR.S_heavy (fun K hK => ?_); go_step; refine hK _ _ ⟨fun h => by simp at h, ?_⟩; clear hK K))
              refine Go.XR.S_nil ?_
              go_wp2
              go_roundg (T.list.length - (k + 1))
              case measure => have := hV.out.1; omega
              case rel =>
                refine ⟨Hb4.out, k + 1, p4, _, by omega, by go_num, rfl, rfl, Hp4.out, PT.put_srt hV.out.2.2.1 _ _, ?_, ?_, ?_⟩
                · have := PT.put_size T.list[T.list.length - 1 - k].1 T.list[T.list.length - 1 - k].2 V; have := hV.out.2.2.2.1; omega
                · rw [PT.put_list _ _ _ hV.out.2.2.1]; exact hV.out.2.2.2.2.1.ins Hsr.out hj _
                · rw [PT.put_list _ _ _ hV.out.2.2.1, show T.list.length - (k + 1) = T.list.length - 1 - k from by omega]
                  refine Has.ins Hsr.out hj ?_
                  rw [show T.list.length - 1 - k + 1 = T.list.length - k from by omega]
                  exact hV.out.2.2.2.2.2
            · have hge2 : ¬ (k : Int) < (T.list.length : Int) := by omega
              have hkl : k = T.list.length := by omega
              have Hfin : Hid (V.list = T.list) := by
                refine order_eq hV.out.2.2.1 Hsr.out hV.out.2.2.2.2.1 ?_
                have := hV.out.2.2.2.2.2
                rw [hkl, Nat.sub_self] at this
                exact this
              have Hb := Lib.hid hb
              have hVs : V.size ≤ 400 := by have := hV.out.2.2.2.1; omega
              clear hb hk hkl
              go_wp2_with fail
              refine (from_any ⟨#[]⟩ 4611686018427387904 V _ q3 hV.out.2.1 (by omega)).mono ?_
              rintro e w5 ⟨a5, c5, rfl, hb5, ho5⟩
              rw [all_pairs hV.out.2.2.1 (by omega), Hfin.out] at ho5 ⊢
              have Hro5 := Lib.hid (Row.owned ho5)
              have Hb5 := Lib.hid (Hb.out.trans (hb5.mono Hb.out.size))
              have HV5 := Lib.hid (hV.out.2.1.below hb5)
              clear hb5 ho5
              go_wp2_with fail
              refine (same_any _ a5 a3 c5 c3 T.list T.list Hro5.out (Hro.out.below Hb5.out) (by omega)).mono ?_
              rintro e w6 ⟨rfl, hb6⟩
              rw [show decide (T.list = T.list) = true from decide_eq_true rfl]
              have HV6 := Lib.hid (HV5.out.below hb6)
              have Hb6 := Lib.hid (Hb5.out.trans (hb6.mono Hb5.out.size))
              have HT6 := Lib.hid (HT3.out.below Hb6.out)
              clear hb6
              go_wp2_with fail
              refine (len_any _ q3 V HV6.out).mono ?_
              rintro e w7 ⟨rfl, rfl⟩
              rw [← PT.list_length V, Hfin.out]
              go_wp2_with fail
              refine (len_any _ q T HT6.out).mono ?_
              rintro e w7 ⟨rfl, rfl⟩
              rw [← PT.list_length T]
              go_wp2
              go_ret
              exact ⟨rfl, Hb3.out.trans (Hb6.out.mono Hb3.out.size)⟩
end Go.Proofs.Ytfblpabkkahmeaa
