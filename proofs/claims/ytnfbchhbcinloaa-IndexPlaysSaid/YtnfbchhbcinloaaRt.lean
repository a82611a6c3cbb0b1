/- The walk over the reference's Twins. -/
import Derived.Test.YtnfbchhbcinloaaRq
namespace Go.Proofs.Ytnfbchhbcinloaa
open Go.RowKit Go.XR Go.IndexPure
def ofSum (d : SumT) (r : RowT) : Bool := decide (r.1.sum = d)
def twinsL (R : List RowT) (d : SumT) : List KeyT := (R.filter (ofSum d)).map (·.1)
theorem twinsL_step (R : List RowT) (d : SumT) {j : Nat} (h : j < R.length) : twinsL (R.take (j + 1)) d = twinsL (R.take j) d ++ if R[j].1.sum = d then [R[j].1] else [] := by
  unfold twinsL
  rw [List.take_succ_eq_append_getElem h, List.filter_append, List.map_append]
  congr 1
  by_cases c : R[j].1.sum = d
  · rw [if_pos c, List.filter_cons_of_pos (by unfold ofSum; exact decide_eq_true c)]; rfl
  · rw [if_neg c, List.filter_cons_of_neg (by unfold ofSum; rw [decide_eq_false c]; simp)]; rfl
theorem twinsL_len (R : List RowT) (d : SumT) : (twinsL R d).length ≤ R.length := by unfold twinsL; rw [List.length_map]; exact List.length_filter_le _ _
set_option maxHeartbeats 2000000 in
set_option maxRecDepth 100000 in
theorem reftwins_any (w : World) (b : Nat) (R : List RowT) (F : List Nat) (h : RefIx w b R F) (hlen : R.length ≤ 2^20) (d : SumT) :
    Calls Try.prog 28 #[.pointer (some ⟨b, 0, none⟩), sumV d] w (RetTwins w (twinsL R d)) := by
  obtain ⟨zk, hzk, hzk2⟩ := zero_key
  have Hzk := Lib.hid hzk2
  obtain ⟨a, c, hB, hR, hc, hcm, hbF, hnil, hx⟩ := h
  obtain ⟨W0, hW0⟩ : ∃ W0, w.alloc (.cells (sumC d) 24) = W0 := ⟨_, rfl⟩
  have hb0 : Below w.heap.size w W0 := by rw [← hW0]; exact (Below.refl _ _).alloc (Nat.le_refl _) _
  have HK : Hid (At W0 w.heap.size 0 (sumC d)) := by unfold Hid; rw [← hW0]; exact At.new _ _ _
  have HB := Lib.hid (hB.below hb0)
  have HR := Lib.hid (hR.below hb0)
  have Hb0 := Lib.hid hb0
  clear hB hR hb0 hx hnil hzk2
  obtain ⟨kb, hkb⟩ : ∃ kb, w.heap.size = kb := ⟨_, rfl⟩
  rw [hkb] at HK
  go_enter Try.func28, Try.ntmps28
  go_wp2
  clear hkb hW0
  go_loopg [6, 5] R.length (fun n i out wr => Below W0.heap.size W0 wr ∧ ∃ (j : Nat) (o : List KeyT) (ka : Option Addr) (kc : Nat), i = .int .i64 j ∧ out = .slice ka o.length kc ∧ Hid (n = R.length - j ∧ j ≤ R.length ∧ o = twinsL (R.take j) d ∧ wr.ownsRow W0.heap.size 27 33 (.slice ka o.length kc) o.length (o.flatMap keyL)))
  case atStart => exact ⟨Below.refl _ _, 0, [], none, 0, rfl, rfl, rfl, Nat.zero_le _, rfl, rfl, .inl ⟨rfl, rfl⟩⟩
  case round =>
    obtain ⟨hb, j, o, ka, kc, rfl, rfl, hr⟩ := hrel
    have hgn := hr.out.1
    have hj := hr.out.2.1
    have Ho := Lib.hid hr.out.2.2.1
    have Hown := Lib.hid hr.out.2.2.2
    have Hb := Lib.hid hb
    have c0 := (HB.out.below hb).cell (i := 0) rfl
    have hbl : b < wr.heap.size := (HB.out.below hb).lt
    have HKr := Lib.hid (HK.out.below (by rw [sumC_size]; omega) hb)
    have hol : o.length ≤ 2^20 := by rw [Ho.out]; exact Nat.le_trans (twinsL_len _ _) (by rw [List.length_take]; omega)
    have hsz := hb.size
    clear hr hb
    by_cases hlt : j < R.length
    · have hlt2 : (j : Int) < (R.length : Int) := by omega
      obtain ⟨g, oo, rfl, hX⟩ := row_at rowL_length (HR.out.below Hb.out) hlt (by omega)
      have HX : Hid (At wr g (oo + j * 35) (rowC R[j])) := hX
      have Hst := Lib.hid (twinsL_step R d hlt)
      clear hX
      generalize R[j] = r at *
      have Heq := Lib.hid (sum_eq r.1.sum d wr.drew)
      go_wp2
      refine Go.XR.region_sched ((· = wr.drew)) [(0, true), (1, true), (2, true), (3, true), (4, true), (5, true), (6, true), (7, true), (8, true), (9, true), (10, false)] [10] Try.mixed (by kernel_rfl) (by kernel_rfl) (by kernel_rfl) ?_
      simp only [List.map_cons, List.map_nil, List.getElem?_cons_succ, List.getElem?_cons_zero]
      repeat (first | (refine Go.XR.S_light rfl rfl rfl ?_ (fun w' hS K hK => ?_) (fun K hK => ?_); rotate_left 1; (cases hS; (first | (first | (refine Go.XR.wp_load_at 24 (.tmp 23) rfl g (oo + j * 35) rfl (sumC r.1.sum) (At.drew (key_at_sum (row_at_key HX.out))) _ Try.underlying24 rfl (sumSize r.1.sum) ?_) | (refine Go.XR.wp_load_at 24 (.tmp 3) rfl kb 0 rfl (sumC d) (At.drew HKr.out) _ Try.underlying24 rfl (sumSize d) ?_)) | go_step); exact hK); go_step; refine hK _ ?_; clear hK K))
      refine Go.XR.S_heavy (fun K hK => ?_)
      refine Go.XR.wp_agg_eql 24 _ _ _ rfl (sumC r.1.sum) (sumC d) rfl rfl sumGuard _ Heq.out ?_
      refine hK _ _ ⟨fun h => by simp at h, ?_⟩
      clear hK K
      refine Go.XR.S_nil ?_
      by_cases hs : r.1.sum = d
      · rw [decide_eq_true hs]
        have Hn : Hid (o ++ [r.1] = twinsL (R.take (j + 1)) d) := by unfold Hid; rw [Hst.out, if_pos hs, Ho.out]
        clear hs
        go_wp2_with (first | (refine wpList_load_at rfl 27 (.tmp 34) rfl g (oo + j * 35) (by kernel_rfl) (keyC r.1) (At.drew (row_at_key HX.out)) _ Try.underlying27 rfl (keySize r.1) ?_) | (refine wpList_build_one rfl 42 (.tmp 35) rfl 27 33 Try.underlying42 (by kernel_rfl) (by omega) (by omega) _ (Hzk.out _) (keyC r.1) rfl (keyC_size _) ?_) | (at_builtin; refine Go.XR.stop (fun X hX => ?_)))
        refine hX.out ?_
        clear hX X
        have hsz2 : W0.heap.size ≤ wr.drew.heap.size := hsz
        refine wpList_plain rfl (fun K hK => ?_)
        refine append_enc (P := Try.prog) keyL 33 36 keyL_length one_keyL 27 Try.underlying42 (by kernel_rfl) (by decide) W0.heap.size ka kc o rfl (Hown.out.drew.alloc _) (some ⟨wr.drew.heap.size, 0, none⟩) 1 [r.1] rfl (by rw [List.flatMap_cons, List.flatMap_nil, List.append_nil]; exact Row.new wr.drew _ _) (fun e => by cases e) (by simp; omega) (by unfold maxLen; simp; omega) (by simp; omega) ?_
        intro a3 c3 w3 ho3 hb3 _ _
        have Ho3 := Lib.hid ho3
        have Hb3 := Lib.hid ((Hb.out.drew.trans ((Below.refl _ wr.drew).alloc hsz2 _)).trans hb3)
        clear ho3 hb3
        obtain ⟨o3, hoo⟩ : ∃ o3, o ++ [r.1] = o3 := ⟨_, rfl⟩
        rw [hoo] at Hn Ho3 ⊢
        clear hoo
        go_wp2
        go_roundg (R.length - (j + 1))
        case measure => omega
        case rel => exact ⟨Hb3.out, j + 1, o3, a3, c3, by go_num, rfl, rfl, by omega, Hn.out, Ho3.out⟩
      · rw [decide_eq_false hs]
        have Hn : Hid (o = twinsL (R.take (j + 1)) d) := by unfold Hid; rw [Hst.out, if_neg hs, List.append_nil, Ho.out]
        clear hs
        go_wp2
        go_roundg (R.length - (j + 1))
        case measure => omega
        case rel => exact ⟨Hb.out.drew, j + 1, o, ka, kc, by go_num, rfl, rfl, by omega, Hn.out, Hown.out.drew⟩
    · have hge : ¬ (j : Int) < (R.length : Int) := by omega
      have Hoe : Hid (o = twinsL R d) := by unfold Hid; rw [Ho.out, List.take_of_length_le (by omega)]
      go_wp2
      go_ret
      unfold RetTwins
      rw [← Hoe.out]
      exact ⟨ka, kc, rfl, owns_base Hown.out Hb0.out.size, Hb0.out.trans (Hb.out.mono Hb0.out.size)⟩
end Go.Proofs.Ytnfbchhbcinloaa
