/- The walk over the reference's Parse, whole; SameTexts. -/
import Derived.Test.YtdillaedlpplhaaDoorPd
namespace Go.Proofs.YtdillaedlpplhaaDoor
open Go.RowKit Go.PathPure Go.XR

theorem parse_body {s : ByteArray} {l : List UInt8} (hd : s.data.toList = 47 :: l) (hl : l ≠ []) : parse s = chk [] ((pieces l).map B) := by
  have h1 : isP s = true := by unfold isP; rw [hd]; rfl
  have h2 : rest s = B l := by unfold rest Lib.trimPrefix; rw [hd]; rfl
  have h3 : ((B l).toList == []) = false := by
    rw [ByteArray.toList_eq, B_data, beq_eq_false_iff_ne]; exact hl
  unfold parse
  rw [h1, h2, h3, chk_names, names, B_data]; rfl

set_option maxHeartbeats 2000000 in
theorem refparse_any (w : World) (s : ByteArray) (hs : s.size ≤ 2^30) : Calls Tryd.prog 11 #[.string s] w (RetParse w s) := by
  have hsz : s.data.toList.length = s.size := Array.length_toList
  cases e0 : s.toList == [47] with
  | true =>
    have E : Hid (parse s = some []) := by
      unfold Hid parse
      have hd : s.data.toList = [47] := by rw [← ByteArray.toList_eq]; exact beq_iff_eq.1 e0
      have h1 : isP s = true := by unfold isP; rw [hd]; rfl
      have h2 : rest s = B [] := by unfold rest Lib.trimPrefix; rw [hd]; rfl
      have h3 : ((B []).toList == []) = true := by rw [ByteArray.toList_eq, B_data]; rfl
      rw [h1, h2, h3]; rfl
    clear hsz
    go_enter Tryd.func11, Tryd.ntmps11
    go_wp2
    go_ret2
    unfold RetParse
    rw [E.out]
    exact ⟨none, 0, rfl, .inl rfl, Nat.le_refl _, fun h => absurd rfl h, Below.refl _ _⟩
  | false =>
    cases e1 : s.toList == [] with
    | true =>
      have E : Hid (parse s = none) := by
        unfold Hid parse
        have hd : s.data.toList = [] := by rw [← ByteArray.toList_eq]; exact beq_iff_eq.1 e1
        have h1 : isP s = false := by unfold isP; rw [hd]; rfl
        rw [h1]; rfl
      clear hsz
      go_enter Tryd.func11, Tryd.ntmps11
      go_wp2
      go_ret2
      unfold RetParse
      rw [E.out]
      exact ⟨none, 0, rfl, .inl rfl, Nat.le_refl _, fun h => absurd rfl h, Below.refl _ _⟩
    | false =>
      cases hd : s.data.toList with
      | nil => rw [ByteArray.toList_eq, hd] at e1; cases e1
      | cons b l =>
        have hz : 0 < s.size := by rw [← hsz, hd]; simp
        by_cases c : b = 47
        · subst c
          have hl : l ≠ [] := fun e => by rw [ByteArray.toList_eq, hd, e] at e0; cases e0
          have := refparse_loop w s hs l hd hl e0 e1
          rw [← parse_body hd hl] at this
          exact this
        · have E : Hid (parse s = none) := by
            unfold Hid parse
            have h1 : isP s = false := by
              unfold isP Lib.hasPrefix; rw [hd]
              simp [List.isPrefixOf, Ne.symm c]
            rw [h1]; rfl
          have h0 : s[0] = b := by
            have h1 : s.data.toList[0]? = some b := by rw [hd]; rfl
            rw [Array.getElem?_toList] at h1
            exact (Array.getElem?_eq_some_iff.1 h1).2
          have c0 : ((s[0].toNat : Int) != 47) = true := by
            rw [bne_iff_ne, h0]
            intro h
            exact c (UInt8.toNat_inj.1 (by show b.toNat = 47; omega))
          clear hsz hd h0 c
          go_enter Tryd.func11, Tryd.ntmps11
          go_wp2
          go_ret2
          unfold RetParse
          rw [E.out]
          exact ⟨none, 0, rfl, .inl rfl, Nat.le_refl _, fun h => absurd rfl h, Below.refl _ _⟩

theorem ret_bool {a b : Bool} (h : a = b) : Ending.returned (.bool a) = .returned (.bool b) := by rw [h]
theorem keq_iff (a b : ByteArray) : (a.toList == b.toList) = true ↔ a = b := by
  rw [beq_iff_eq, ByteArray.toList_eq, ByteArray.toList_eq]
  constructor
  · intro h; rw [← B_eta a, ← B_eta b, h]
  · rintro rfl; rfl

set_option maxHeartbeats 2000000 in
set_option maxRecDepth 100000 in
theorem texts_any (w : World) (a b : Option Addr) (c d : Nat) (L M : List ByteArray) (hL : Row w a (strs L)) (hM : Row w b (strs M)) (hl : L.length < 2^60) :
    Calls Tryd.prog 14 #[.slice a L.length c, .slice b M.length d] w fun e w' => e = .returned (.bool (decide (L = M))) ∧ Below w.heap.size w w' := by
  have HL := Lib.hid hL
  have HM := Lib.hid hM
  clear hL hM
  by_cases hlen : L.length = M.length
  · have c1 : ((L.length : Int) != (M.length : Int)) = false := by rw [bne_eq_false_iff_eq]; omega
    have c2 : (L.length == M.length) = true := by rw [beq_iff_eq]; exact hlen
    have Hlen := Lib.hid hlen
    clear hlen
    go_enter Tryd.func14, Tryd.ntmps14
    go_wp2
    go_loopg [5] L.length (fun n i wr => Below w.heap.size w wr ∧ ∃ k : Nat, k ≤ L.length ∧ i = .int .i64 k ∧ n = L.length - k ∧ Hid (L.take k = M.take k))
    case atStart => exact ⟨Below.refl _ _, 0, Nat.zero_le _, rfl, by omega, by unfold Hid; simp⟩
    case round =>
      obtain ⟨hb, k, hk, rfl, hn, ht⟩ := hrel
      by_cases hlt : k < L.length
      · have hltM : k < M.length := by have := Hlen.out; omega
        obtain ⟨g, o, rfl, c3⟩ := str_at (HL.out.below hb) hlt
        obtain ⟨g', o', rfl, c5⟩ := str_at (HM.out.below hb) hltM
        have hi1 : (k : Int) < (L.length : Int) := by omega
        have hi2 : (k : Int) < (M.length : Int) := by omega
        have Hn := Lib.hid hn
        clear hn
        have Hb := Lib.hid hb
        clear hb
        by_cases he : L[k] = M[k]
        · have hs : (L[k].toList == M[k].toList) = true := (keq_iff _ _).2 he
          have He := Lib.hid he
          clear he
          go_wp2
          go_quiet (fail)
          go_wp2
          go_roundg (L.length - (k + 1))
          case measure => have := Hn.out; omega
          case rel => exact ⟨below_drewN Hb.out _, k + 1, by omega, by go_num, rfl, by unfold Hid; rw [List.take_succ_eq_append_getElem hlt, List.take_succ_eq_append_getElem hltM, ht.out, He.out]⟩
        · have hs : (L[k].toList == M[k].toList) = false := by rw [Bool.eq_false_iff]; intro h; exact he ((keq_iff _ _).1 h)
          have He := Lib.hid he
          clear he
          go_wp2
          go_quiet (fail)
          go_wp2
          go_ret
          refine ⟨ret_bool (a := false) ?_, below_drewN Hb.out _⟩
          exact (decide_eq_false (fun e => He.out (by subst e; rfl))).symm
      · have hge : ¬ (k : Int) < (L.length : Int) := by omega
        have Hb := Lib.hid hb
        have Hn := Lib.hid hn
        clear hb hn
        go_wp2
        go_ret
        refine ⟨ret_bool (a := true) ?_, Hb.out⟩
        have h := ht.out
        rw [List.take_of_length_le (by omega), List.take_of_length_le (by have := Hlen.out; omega)] at h
        exact (decide_eq_true h).symm
  · have c1 : ((L.length : Int) != (M.length : Int)) = true := by rw [bne_iff_ne]; omega
    have c2 : (L.length == M.length) = false := by rw [beq_eq_false_iff_ne]; exact hlen
    have Hlen := Lib.hid hlen
    clear hlen
    go_enter Tryd.func14, Tryd.ntmps14
    go_wp2
    go_ret
    exact ⟨ret_bool (a := false) (decide_eq_false (fun e => Hlen.out (by rw [e]))).symm, Below.refl _ _⟩
end Go.Proofs.YtdillaedlpplhaaDoor
