/- The walk over Name. -/
import Derived.Test.YtdillaedlpplhaaDoorNw
import Derived.Test.YtdillaedlpplhaaDoorSh
namespace Go.Proofs.YtdillaedlpplhaaDoor
open Go.RowKit Go.PathPure Go.XR

set_option maxHeartbeats 4000000 in
set_option maxRecDepth 100000 in
theorem name_loop (w : World) (hT : Lib.Utf8Tabs 0 1 w) (s : ByteArray) (hs : s.size ≤ 100) (e0 : (s.toList == []) = false) (e2 : (s.toList == [46]) = false) (e3 : (s.toList == [46, 46]) = false) : Calls Tryd.prog 15 #[.string s] w fun e w' => e = .returned (.bool (vscan s s.size 0 && scan s s.size 0)) ∧ Below w.heap.size w w' := by
  have hs2 : ¬ 100 < s.size := by omega
  obtain ⟨ANS, hA⟩ : ∃ A, scan s s.size 0 = A := ⟨_, rfl⟩
  rw [hA, vscan_valid s s.size 0 (by omega), List.drop_zero]
  have HA := Lib.hid hA
  clear hA
  have HT := Lib.hid hT
  clear hT
  go_enter Tryd.func15, Tryd.ntmps15
  go_wp2_with fail
  refine (Tryd.utf8_ValidString s w (by omega) HT.out).mono ?_
  rintro e w1 ⟨rfl, hb1⟩
  have Hb1 := Lib.hid hb1
  clear hb1
  cases hv : Lib.validD s.data.toList with
  | false =>
    have Hv := Lib.hid hv
    clear hv
    go_wp2
    go_ret
    exact ⟨by rw [Hv.out]; rfl, Hb1.out⟩
  | true =>
    have Hv := Lib.hid hv
    clear hv
    go_wp2_with fail
    go_loopg [4] s.size (fun n _ wr => ∃ pos : Nat, Hid (wr = w1.iter s pos) ∧ Hid (scan s n pos = ANS) ∧ s.size - pos ≤ n)
    case atStart => exact ⟨0, rfl, HA.out, by omega⟩
    case round =>
      obtain ⟨pos, hw, hr, hn⟩ := hrel
      cases hw.out
      have Hr := hr
      clear hr hw
      by_cases hp : pos < s.size
      · have hnx := fun ty => run_next_any (P := Tryd.prog) w1 s pos ty hp
        have hle := rune_le s pos
        have hwd := decode_pos s pos
        obtain ⟨n', rfl⟩ : ∃ n', gk = n' + 1 := ⟨gk - 1, by omega⟩
        have hr2 := Hr.out
        unfold scan at hr2
        rw [if_pos hp] at hr2
        have Hr := Lib.hid hr2
        clear hr2
        generalize (Utf8.decode s pos).1 = r at *
        generalize (Utf8.decode s pos).2 = wd at *
        go_wp2_with fail
        refine (bad_any _ r hle).mono ?_
        rintro e w2 ⟨rfl, rfl⟩
        cases hb : badR r with
        | true =>
          have E : Hid ((!badR r && scan s n' (pos + wd)) = false) := by unfold Hid; rw [hb]; rfl
          clear hb
          go_wp2
          go_ret
          exact ⟨by rw [← Hr.out, E.out, Hv.out]; rfl, Hb1.out.alloc Hb1.out.size _⟩
        | false =>
          have E : Hid (badR r = false) := hb
          clear hb
          go_wp2
          go_roundg n'
          case measure => omega
          case rel => exact ⟨pos + wd, rfl, by unfold Hid; rw [← Hr.out, E.out, Bool.not_false, Bool.true_and], by omega⟩
      · have hnx := fun ty => run_next_end (P := Tryd.prog) w1 s pos ty hp
        have E : Hid (scan s gk pos = true) := by
          unfold Hid
          cases gk with
          | zero => rfl
          | succ k => unfold scan; rw [if_neg hp]
        go_wp2
        go_ret
        exact ⟨by rw [← Hr.out, E.out, Hv.out]; rfl, Hb1.out.alloc Hb1.out.size _⟩

set_option maxHeartbeats 2000000 in
theorem name_any (w : World) (hT : Lib.Utf8Tabs 0 1 w) (s : ByteArray) : Calls Tryd.prog 15 #[.string s] w fun e w' => e = .returned (.bool (isName s)) ∧ Below w.heap.size w w' := by
  cases e0 : s.toList == [] with
  | true =>
    have E : Hid (isName s = false) := by unfold Hid isName; rw [e0]; rfl
    clear hT
    go_enter Tryd.func15, Tryd.ntmps15
    go_wp2
    go_ret
    exact ⟨by rw [E.out]; rfl, Below.refl _ _⟩
  | false =>
    cases e2 : s.toList == [46] with
    | true =>
      have E : Hid (isName s = false) := by unfold Hid isName; rw [e2]; simp
      clear hT
      go_enter Tryd.func15, Tryd.ntmps15
      go_wp2
      go_ret
      exact ⟨by rw [E.out]; rfl, Below.refl _ _⟩
    | false =>
      cases e3 : s.toList == [46, 46] with
      | true =>
        have E : Hid (isName s = false) := by unfold Hid isName; rw [e3]; simp
        clear hT
        go_enter Tryd.func15, Tryd.ntmps15
        go_wp2
        go_ret
        exact ⟨by rw [E.out]; rfl, Below.refl _ _⟩
      | false =>
        by_cases e1 : 100 < s.size
        · have E : Hid (isName s = false) := by unfold Hid isName; rw [decide_eq_false (by omega : ¬ s.size ≤ 100)]; simp
          have c1 : decide (100 < s.size) = true := decide_eq_true e1
          clear hT
          go_enter Tryd.func15, Tryd.ntmps15
          go_wp2
          go_ret
          exact ⟨by rw [E.out]; rfl, Below.refl _ _⟩
        · rw [isName_of e0 e2 e3 (by omega)]
          exact name_loop w hT s (by omega) e0 e2 e3
end Go.Proofs.YtdillaedlpplhaaDoor
