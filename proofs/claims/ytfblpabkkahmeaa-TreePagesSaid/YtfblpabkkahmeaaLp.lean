/- The walk over the statement TreePages. -/
import Derived.Test.YtfblpabkkahmeaaLc
namespace Go.Proofs.Ytfblpabkkahmeaa
open Go.RowKit Go.TreePure Go.XR

set_option maxHeartbeats 4000000 in
set_option maxRecDepth 100000 in
theorem pages_walk (w : World) (a : Option Addr) (c : Nat) (L : List Deed) (hL : Row w a (cellsA L)) (hl : L.length ≤ maxLen) (hc : L.length ≤ c) (key : ByteArray) (n : Int) (hn0 : 0 ≤ n) (hn1 : n < 256) :
    Calls Try.prog 6 #[.slice a L.length c, .string key, .int .u8 n] w fun e w' => e = .returned (.bool true) ∧ Below w.heap.size w w' := by
  have HL := Lib.hid hL
  clear hL
  go_enter Try.func6, Try.ntmps6
  go_wp2_with fail
  refine (shown_any _).mono ?_
  rintro e w1 ⟨rfl, hb1⟩
  go_wp2_with fail
  refine (few_any _ a c L (HL.out.below hb1) hl hc).mono ?_
  rintro e w2 ⟨m, hm1, hm2, rfl, hb2⟩
  have Hb2 := Lib.hid (hb1.trans (hb2.mono hb1.size))
  clear hb1 hb2
  have Hl := Lib.hid hl
  clear hl
  go_wp2_with fail
  go_loopg [17, 8, 10] m (fun n i p _ wr => Below w.heap.size w wr ∧ ∃ (k : Nat) (q : Option Addr) (T : PT), k ≤ m ∧ i = .int .i64 k ∧ p = .pointer q ∧ Hid (n = m - k ∧ Rep wr q T ∧ Srt T.list ∧ T.size ≤ k))
  case atStart => exact ⟨Hb2.out, 0, none, .nil, Nat.zero_le _, rfl, rfl, rfl, rfl, srt_nil, Nat.le_refl _⟩
  case round =>
    obtain ⟨hb, k, q, T, hk, rfl, rfl, hT⟩ := hrel
    by_cases hlt : k < m
    · have hltL : k < L.length := by omega
      obtain ⟨g, o, rfl, c0, c1, c2⟩ := act_at (HL.out.below hb) hltL
      have Hb := Lib.hid hb
      have hi1 : (k : Int) < (m : Int) := by omega
      clear hb
      go_wp2_with fail
      refine (does_any _ q T L[k] (hT.out.2.1.alloc _) (by have := hT.out.2.2.2; omega)).mono ?_
      rintro e w3 ⟨p3, rfl, hp3, hb3⟩
      have Hp3 := Lib.hid hp3
      have Hb3 := Lib.hid ((Hb.out.alloc Hb.out.size _).trans (hb3.mono (by have := Hb.out.size; simp; omega)))
      clear hp3 hb3 c0 c1 c2
      go_wp2
      go_roundg (m - (k + 1))
      case measure => have := hT.out.1; omega
      case rel => exact ⟨Hb3.out, k + 1, p3, PT.does T L[k], by omega, by go_num, rfl, rfl, Hp3.out, PT.does_srt hT.out.2.2.1 _, by have := PT.does_size T L[k]; have := hT.out.2.2.2; omega⟩
    · have hge : ¬ (k : Int) < (m : Int) := by omega
      have Hb := Lib.hid hb
      clear hb
      have Hsr := Lib.hid hT.out.2.2.1
      have hty : T.size ≤ 200 := by have := hT.out.2.2.2; omega
      have Hk := Lib.hid hk
      clear hk hm1 hm2
      go_wp2_with fail
      refine (from_any key 4611686018427387904 T _ q hT.out.2.1 (by omega)).mono ?_
      rintro e w3 ⟨a3, c3, rfl, hb3, ho3⟩
      rw [from_big key (by omega)] at ho3 ⊢
      have Hro := Lib.hid (Row.owned ho3)
      obtain ⟨hcap, hcap2⟩ := owns_cap ho3
      unfold maxLen at hcap2
      have Hb3 := Lib.hid (Hb.out.trans (hb3.mono Hb.out.size))
      have HT3 := Lib.hid (hT.out.2.1.below hb3)
      have hfl := PT.fromL_le key T
      have Hsf := Lib.hid (PT.fromL_srt Hsr.out key)
      clear hb3 ho3 hT
      generalize hF : PT.fromL key T = F at *
      have HF := Lib.hid hF
      have Hdr : Hid (∀ (m : Nat) (hm : m < F.length), PT.fromL F[m].1 T = F.drop m) := fun m hm => PT.fromL_drop Hsr.out hF hm
      clear hF
      go_wp2_with fail
      refine (from_any key n T _ q HT3.out (by omega)).mono ?_
      rintro e w4 ⟨a4, c4, rfl, hb4, ho4⟩
      rw [HF.out] at ho4 ⊢
      have Hro4 := Lib.hid (Row.owned ho4)
      have Hb4 := Lib.hid (Hb3.out.trans (hb4.mono Hb3.out.size))
      have HT4 := Lib.hid (HT3.out.below hb4)
      have Hrf := Lib.hid (Hro.out.below hb4)
      clear hb4 ho4
      have hsl : ((F.take n.toNat).length : Int) = min n F.length := by rw [List.length_take]; omega
      have hsn : (F.take n.toNat).length ≤ F.length := by rw [List.length_take]; omega
      have Htk : Hid (F.take (F.take n.toNat).length = F.take n.toNat) := by unfold Hid; rw [List.length_take]; exact (List.take_eq_take_min).symm
      generalize hS : F.take n.toNat = Sm at *
      clear hS
      have c1 : ((Sm.length : Int) != min n (F.length : Int)) = false := by rw [bne_eq_false_iff_eq]; exact hsl
      clear hsl
      go_wp2_with fail
      have Hrs : Hid (Row w4 a3 (cellsOf Sm)) := by
        have := Hrf.out.take (Sm.length * 2)
        rw [← cellsOf_take, Htk.out] at this
        exact this
      refine (same_any _ a4 a3 c4 c3 Sm Sm Hro4.out Hrs.out (by omega)).mono ?_
      rintro e w5 ⟨rfl, hb5⟩
      rw [show decide (Sm = Sm) = true from decide_eq_true rfl]
      have Hb5 := Lib.hid (Hb4.out.trans (hb5.mono Hb4.out.size))
      have HT5 := Lib.hid (HT4.out.below hb5)
      have Hrf5 := Lib.hid (Hrf.out.below hb5)
      clear hb5
      by_cases he : Sm.length = F.length
      · have c2 : ((Sm.length : Int) == (F.length : Int)) = true := by rw [beq_iff_eq]; omega
        have c3' : (Sm.length == F.length) = true := by rw [beq_iff_eq]; exact he
        have He := Lib.hid he
        clear he
        go_wp2
        go_ret
        exact ⟨rfl, Hb5.out⟩
      · have c2 : ((Sm.length : Int) == (F.length : Int)) = false := by rw [beq_eq_false_iff_ne]; omega
        have c3' : (Sm.length == F.length) = false := by rw [beq_eq_false_iff_ne]; exact he
        have hlt2 : Sm.length < F.length := by omega
        have hlt3 : (Sm.length : Int) < (F.length : Int) := by omega
        have hne : ¬ c3 = Sm.length := by omega
        obtain ⟨g, o, rfl, d0, _⟩ := pair_at Hrf5.out hlt2
        have hg5 : g < w5.heap.size := cell_lt d0
        clear he
        go_wp2_with fail
        have hS0 : Below w5.heap.size w5 w5.drew := (Below.refl _ _).drew
        refine Go.XR.region_sched ((Below w5.heap.size w5)) [(0, true), (1, true), (2, true), (3, true), (4, true), (5, true), (6, true), (7, true), (8, true), (10, true), (11, true), (12, true), (13, true), (9, false), (14, false), (15, false), (16, false)] [14, 15, 16] Try.mixed (by kernel_rfl) (by kernel_rfl) (by kernel_rfl) ?_
        simp only [List.map_cons, List.map_nil, List.getElem?_cons_succ, List.getElem?_cons_zero]
        repeat (first | (refine Go.XR.S_light rfl rfl (by assumption) ?_ (fun w' hS K hK => ?_) (fun K hK => ?_); rotate_left 1; (have hS1 := bcell hS; go_step; exact hK); go_step; refine hK _ ?_; clear hK K) | (refine Go.XR.S_light_off rfl (by assumption) (fun K hK => ?_); go_step; refine hK _ ?_; clear hK K) | (refine Go.XR.S_light_on rfl rfl rfl (by assumption) ?_ (fun w' hS K hK => ?_) (fun K hK => ?_); rotate_left 1; (have hS1 := bcell hS; go_step; exact hK); go_step; refine hK _ ?_; clear hK K))
        refine Go.XR.S_heavy_on rfl (fun K hK => ?_)
        go_step
        ((with_reducible refine (from_any F[Sm.length].1 4611686018427387904 T _ q HT5.out.drew (by omega)).mono ?_); rintro e w' ⟨a6, c6, rfl, hb6, ho6⟩)
        rw [from_big _ (by omega), Hdr.out _ hlt2] at ho6 ⊢
        have hDl : F.length - Sm.length = (F.drop Sm.length).length := by rw [List.length_drop]
        have hD6 : Row w' (some ⟨g, o + Sm.length * 2, none⟩) (cellsOf (F.drop Sm.length)) := by
          rw [cellsOf_drop]; exact row_drop (Hrf5.out.below (hS0.trans hb6)) _
        generalize hD : F.drop Sm.length = D at *
        have HDl := Lib.hid hDl
        have HD := Lib.hid hD
        have HD6 := Lib.hid hD6
        have Hro6 := Lib.hid (Row.owned ho6)
        have Hb6 := Lib.hid (hS0.trans hb6)
        clear hb6 ho6 hDl hD hD6
        refine hK _ _ ⟨fun _ => Hb6.out, ?_⟩
        clear hK K
        refine Go.XR.S_heavy_on rfl (fun K hK => ?_)
        go_step
        rw [HDl.out]
        refine (same_any _ a6 _ c6 _ D D Hro6.out HD6.out (by have := HDl.out; omega)).mono ?_
        rintro e w7 ⟨rfl, hb7⟩
        rw [show decide (D = D) = true from decide_eq_true rfl]
        have Hb7 := Lib.hid (Hb6.out.trans (hb7.mono Hb6.out.size))
        clear hb7
        refine hK _ _ ⟨fun _ => Hb7.out, ?_⟩
        clear hK K
        repeat (first | (refine Go.XR.S_light rfl rfl (by assumption) ?_ (fun w' hS K hK => ?_) (fun K hK => ?_); rotate_left 1; (have hS1 := bcell hS; go_step; exact hK); go_step; refine hK _ ?_; clear hK K) | (refine Go.XR.S_light_off rfl (by assumption) (fun K hK => ?_); go_step; refine hK _ ?_; clear hK K) | (refine Go.XR.S_light_on rfl rfl rfl (by assumption) ?_ (fun w' hS K hK => ?_) (fun K hK => ?_); rotate_left 1; (have hS1 := bcell hS; go_step; exact hK); go_step; refine hK _ ?_; clear hK K))
        repeat (first | (refine Go.XR.S_heavy (fun K hK => ?_); go_step; refine hK _ _ ⟨fun h => by simp at h, ?_⟩; clear hK K) | (refine Go.XR.S_heavy_off rfl (fun h => by simp at h) (fun K hK => ?_); go_step; refine hK _ ?_; clear hK K) | (refine Go.XR.S_heavy_on rfl (fun K hK => ?_); go_step; refine hK _ _ ⟨fun h => by simp at h, ?_⟩; clear hK K))
        refine Go.XR.S_nil ?_
        go_wp2
        go_ret
        exact ⟨rfl, Hb5.out.trans (Hb7.out.mono Hb5.out.size)⟩
end Go.Proofs.Ytfblpabkkahmeaa
