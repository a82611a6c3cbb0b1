/- The walks over the statements' own helpers: SamePairs, few, does. -/
import Derived.Test.YtfblpabkkahmeaaW
import Derived.WalkSmall
namespace Go.Proofs.Ytfblpabkkahmeaa
open Go.RowKit Go.TreePure Go.XR

theorem eq_pair (d : Nat) (w : World) (x0 y0 x1 y1 : ByteArray) :
    (Op.equalIn (d + 2) 30 (.agg #[.string x0, .string x1]) (.agg #[.string y0, .string y1])).run Try.prog w = .ok (x0.toList == y0.toList && (x1.toList == y1.toList)) w := by
  refine eqs_of Try.underlying30 (by kernel_rfl) ?_
  refine eqs_cons (by rfl) (by go_simp; rfl) (by go_simp; rfl) (by go_simp) ?_
  exact eqs_last (by rfl) (by go_simp; rfl) (by go_simp; rfl) (by go_simp)
attribute [local go_sem high] eq_pair

theorem cellsOf_get : ∀ (L : List (ByteArray × ByteArray)) (i : Nat) (h : i < L.length), (cellsOf L)[i * 2]? = some (.string L[i].1) ∧ (cellsOf L)[i * 2 + 1]? = some (.string L[i].2)
  | p :: L, 0, _ => by simp [cellsOf]
  | p :: L, i + 1, h => by
    have := cellsOf_get L i (by simpa using h)
    rw [show (i + 1) * 2 = i * 2 + 1 + 1 from by omega, show cellsOf (p :: L) = .string p.1 :: .string p.2 :: cellsOf L from rfl]
    simpa using this

theorem pair_at {w : World} {a : Option Addr} {L : List (ByteArray × ByteArray)} (h : Row w a (cellsOf L)) {i : Nat} (hi : i < L.length) :
    ∃ g o, a = some ⟨g, o, none⟩ ∧ w.cell? ⟨g, o + i * 2, none⟩ = some (.string L[i].1) ∧ w.cell? ⟨g, o + i * 2 + 1, none⟩ = some (.string L[i].2) := by
  obtain ⟨h0, h1⟩ := cellsOf_get L i hi
  obtain ⟨g, o, ha, c0⟩ := h.get h0
  obtain ⟨g', o', ha', c1⟩ := h.get h1
  rw [ha] at ha'
  cases ha'
  exact ⟨g, o, ha, c0, c1⟩

theorem same_eq (p q : ByteArray × ByteArray) : (!(p.1.toList == q.1.toList && (p.2.toList == q.2.toList))) = decide (p ≠ q) := by
  obtain ⟨a, b⟩ := p
  obtain ⟨c, d⟩ := q
  by_cases h : a = c ∧ b = d
  · obtain ⟨rfl, rfl⟩ := h; simp
  · have hr : decide ((a, b) ≠ (c, d)) = true := by simp only [decide_eq_true_eq, ne_eq, Prod.mk.injEq]; exact h
    rw [hr, Bool.not_eq_true', Bool.and_eq_false_iff]
    rcases Classical.not_and_iff_not_or_not.1 h with h | h
    · left; rw [Bool.eq_false_iff]; intro e; exact h ((keq_iff _ _).1 e)
    · right; rw [Bool.eq_false_iff]; intro e; exact h ((keq_iff _ _).1 e)

set_option maxHeartbeats 1000000 in
theorem same_any (w : World) (a b : Option Addr) (c d : Nat) (L M : List (ByteArray × ByteArray)) (hL : Row w a (cellsOf L)) (hM : Row w b (cellsOf M)) (hl : L.length < 2^60) :
    Calls Try.prog 18 #[.slice a L.length c, .slice b M.length d] w fun e w' => e = .returned (.bool (decide (L = M))) ∧ Below w.heap.size w w' := by
  have HL := Lib.hid hL
  have HM := Lib.hid hM
  clear hL hM
  by_cases hlen : L.length = M.length
  · have c1 : ((L.length : Int) != (M.length : Int)) = false := by rw [bne_eq_false_iff_eq]; omega
    have c2 : (L.length == M.length) = true := by rw [beq_iff_eq]; exact hlen
    have Hlen := Lib.hid hlen
    clear hlen
    go_enter Try.func18, Try.ntmps18
    go_wp2
    go_loopg [5] L.length (fun n i wr => Below w.heap.size w wr ∧ ∃ k : Nat, k ≤ L.length ∧ i = .int .i64 k ∧ n = L.length - k ∧ Hid (L.take k = M.take k))
    case atStart => exact ⟨Below.refl _ _, 0, Nat.zero_le _, rfl, by omega, by unfold Hid; simp⟩
    case round =>
      obtain ⟨hb, k, hk, rfl, hn, ht⟩ := hrel
      by_cases hlt : k < L.length
      · have hltM : k < M.length := by have := Hlen.out; omega
        obtain ⟨g, o, rfl, c3, c4⟩ := pair_at (HL.out.below hb) hlt
        obtain ⟨g', o', rfl, c5, c6⟩ := pair_at (HM.out.below hb) hltM
        have hi1 : (k : Int) < (L.length : Int) := by omega
        have hi2 : (k : Int) < (M.length : Int) := by omega
        have Hn := Lib.hid hn
        clear hn
        have Hb := Lib.hid hb
        clear hb
        by_cases he : L[k] = M[k]
        · have hs : (!(L[k].1.toList == M[k].1.toList && (L[k].2.toList == M[k].2.toList))) = false := by rw [same_eq]; simpa using he
          have He := Lib.hid he
          clear he
          go_wp2
          go_quiet (fail)
          go_wp2
          go_roundg (L.length - (k + 1))
          case measure => have := Hn.out; omega
          case rel => exact ⟨below_drewN Hb.out _, k + 1, by omega, by go_num, rfl, by unfold Hid; rw [List.take_succ_eq_append_getElem hlt, List.take_succ_eq_append_getElem hltM, ht.out, He.out]⟩
        · have hs : (!(L[k].1.toList == M[k].1.toList && (L[k].2.toList == M[k].2.toList))) = true := by rw [same_eq]; simpa using he
          have He := Lib.hid he
          clear he
          go_wp2
          go_quiet (fail)
          go_wp2
          go_ret
          refine ⟨ret_bool (a := false) ?_, below_drewN Hb.out _⟩
          exact (decide_eq_false (fun e => He.out (by subst e; rfl))).symm
      · have hge : ¬ (k : Int) < (L.length : Int) := by omega
        have Hb := Lib.hid hb
        have Hn := Lib.hid hn
        clear hb hn
        go_wp2
        go_ret
        refine ⟨ret_bool (a := true) ?_, Hb.out⟩
        have h := ht.out
        rw [List.take_of_length_le (by omega), List.take_of_length_le (by have := Hlen.out; omega)] at h
        exact (decide_eq_true h).symm
  · have c1 : ((L.length : Int) != (M.length : Int)) = true := by rw [bne_iff_ne]; omega
    have c2 : (L.length == M.length) = false := by rw [beq_eq_false_iff_ne]; exact hlen
    have Hlen := Lib.hid hlen
    clear hlen
    go_enter Try.func18, Try.ntmps18
    go_wp2
    go_ret
    exact ⟨ret_bool (a := false) (decide_eq_false (fun e => Hlen.out (by rw [e]))).symm, Below.refl _ _⟩
end Go.Proofs.Ytfblpabkkahmeaa
