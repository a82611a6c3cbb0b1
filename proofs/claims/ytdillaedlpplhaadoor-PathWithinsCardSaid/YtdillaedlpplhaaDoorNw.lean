/- The walks over bad and the reference's Name. -/
import Derived.Test.YtdillaedlpplhaaDoorProg
import Derived.Test.YtdillaedlpplhaaDoorNp
import Derived.Test.YtdillaedlpplhaaDoorReg
import Derived.Test.YtdillaedlpplhaaDoorLaws
import Derived.WalkKit
import Derived.Deep.LoopGhost
import Derived.Laws.RangeAny
namespace Go.Proofs.YtdillaedlpplhaaDoor
open Go.RowKit Go.PathPure Go.XR

theorem rune_le (s : ByteArray) (pos : Nat) : (Utf8.decode s pos).1 ≤ 1114111 := by
  rw [← Go.Lib.decodeL_drop]; exact Go.Lib.decodeL_rune _

set_option maxHeartbeats 1000000 in
theorem bad_any (w : World) (r : Nat) (hr : r ≤ 1114111) : Calls Tryd.prog 27 #[.int .i32 r] w fun e w' => e = .returned (.bool (badR r)) ∧ w' = w := by
  by_cases h1 : r < 32
  · have e : badR r = true := by simp [badR, h1]
    have E := Lib.hid e
    have c1 : decide (r < 32) = true := decide_eq_true h1
    clear e
    go_enter Tryd.func27, Tryd.ntmps27
    go_wp2
    go_ret
    exact ⟨by rw [E.out]; rfl, rfl⟩
  · have c1 : decide (r < 32) = false := decide_eq_false h1
    by_cases h2 : r = 127
    · have e : badR r = true := by simp [badR, h2]
      subst h2
      have E := Lib.hid e
      clear e h1
      go_enter Tryd.func27, Tryd.ntmps27
      go_wp2
      go_ret
      exact ⟨by rw [E.out]; rfl, rfl⟩
    · by_cases h3 : r = 47
      · have e : badR r = true := by simp [badR, h3]
        subst h3
        have E := Lib.hid e
        clear e h1 h2
        go_enter Tryd.func27, Tryd.ntmps27
        go_wp2
        go_ret
        exact ⟨by rw [E.out]; rfl, rfl⟩
      · have e : badR r = false := by simp [badR, h1, h2, h3]
        have E := Lib.hid e
        have c2 : ((r : Int) == 127) = false := by rw [beq_eq_false_iff_ne]; omega
        have c3 : ((r : Int) == 47) = false := by rw [beq_eq_false_iff_ne]; omega
        clear e
        go_enter Tryd.func27, Tryd.ntmps27
        go_wp2
        go_ret
        exact ⟨by rw [E.out]; exact congrArg (fun b => Ending.returned (.bool b)) (decide_eq_false (by omega : ¬ (r : Int) < 32)), rfl⟩


set_option maxHeartbeats 4000000 in
set_option maxRecDepth 100000 in
theorem refname_loop (w : World) (s : ByteArray) (hs : s.size ≤ 100) (e0 : (s.toList == []) = false) (e2 : (s.toList == [46]) = false) (e3 : (s.toList == [46, 46]) = false) : Calls Tryd.prog 16 #[.string s] w fun e w' => e = .returned (.bool (rscan s s.size 0)) ∧ Below w.heap.size w w' := by
  have hs2 : ¬ 100 < s.size := by omega
  obtain ⟨ANS, hA⟩ : ∃ A, rscan s s.size 0 = A := ⟨_, rfl⟩
  rw [hA]
  have HA := Lib.hid hA
  clear hA
  go_enter Tryd.func16, Tryd.ntmps16
  go_wp2
  go_loopg [3] s.size (fun n _ wr => ∃ pos : Nat, Hid (wr = w.iter s pos) ∧ Hid (rscan s n pos = ANS) ∧ s.size - pos ≤ n)
  case atStart => exact ⟨0, rfl, HA.out, by omega⟩
  case round =>
    obtain ⟨pos, hw, hr, hn⟩ := hrel
    cases hw.out
    have Hr := hr
    clear hr hw
    by_cases hp : pos < s.size
    · have hnx := fun ty => run_next_any (P := Tryd.prog) w s pos ty hp
      have hle := rune_le s pos
      have hwd := decode_pos s pos
      obtain ⟨n', rfl⟩ : ∃ n', gk = n' + 1 := ⟨gk - 1, by omega⟩
      have hp2 : (pos : Int) < (s.size : Int) := by omega
      have hr2 := Hr.out
      unfold rscan at hr2
      rw [if_pos hp] at hr2
      have Hr := Lib.hid hr2
      clear hr2
      have hwr : Hid (wrong s pos = ((Utf8.decode s pos).1 == 65533 && (decide (s.size < pos + 3) || !((s.extract pos (pos + 3)).toList == [239, 191, 189])))) := rfl
      generalize (Utf8.decode s pos).1 = r at *
      generalize (Utf8.decode s pos).2 = wd at *
      by_cases h1 : r < 32
      · have c1 : decide (r < 32) = true := decide_eq_true h1
        have E : Hid ((!(badR r || wrong s pos) && rscan s n' (pos + wd)) = false) := by unfold Hid; simp [badR, h1]
        go_wp2
        go_ret
        exact ⟨by rw [← Hr.out, E.out]; rfl, (Below.refl w.heap.size w).alloc (Nat.le_refl _) _⟩
      have c1 : decide (r < 32) = false := decide_eq_false h1
      by_cases h2 : r = 127
      · subst h2
        have E : Hid ((!(badR 127 || wrong s pos) && rscan s n' (pos + wd)) = false) := by unfold Hid; simp [badR]
        clear h1
        go_wp2
        go_ret
        exact ⟨by rw [← Hr.out, E.out]; rfl, (Below.refl w.heap.size w).alloc (Nat.le_refl _) _⟩
      by_cases h3 : r = 47
      · subst h3
        have E : Hid ((!(badR 47 || wrong s pos) && rscan s n' (pos + wd)) = false) := by unfold Hid; simp [badR]
        clear h1 h2
        go_wp2
        go_ret
        exact ⟨by rw [← Hr.out, E.out]; rfl, (Below.refl w.heap.size w).alloc (Nat.le_refl _) _⟩
      have c2 : ((r : Int) == 127) = false := by rw [beq_eq_false_iff_ne]; omega
      have c3 : ((r : Int) == 47) = false := by rw [beq_eq_false_iff_ne]; omega
      have Hb : Hid (badR r = false) := by unfold Hid; simp [badR, h1, h2, h3]
      by_cases h4 : r = 65533
      · subst h4
        have Hw : Hid (wrong s pos = (decide (s.size < pos + 3) || !((s.extract pos (pos + 3)).toList == [239, 191, 189]))) := by unfold Hid; rw [hwr.out]; rfl
        clear hwr h1 h2 h3 c1 c2 c3
        by_cases h5 : s.size < pos + 3
        · have c5 : decide (s.size < pos + 3) = true := decide_eq_true h5
          have E : Hid ((!(badR 65533 || wrong s pos) && rscan s n' (pos + wd)) = false) := by unfold Hid; rw [Hw.out, c5]; simp
          have c6 : decide ((s.size : Int) < (pos : Int) + 3) = true := decide_eq_true (by omega)
          go_wp2
          go_ret
          exact ⟨by rw [← Hr.out, E.out]; rfl, (Below.refl w.heap.size w).alloc (Nat.le_refl _) _⟩
        · have c5 : decide (s.size < pos + 3) = false := decide_eq_false h5
          have c6 : decide ((s.size : Int) < (pos : Int) + 3) = false := decide_eq_false (by omega)
          have c7 : (pos : Int) + 3 ≤ (s.size : Int) := by omega
          cases h6 : (s.extract pos (pos + 3)).toList == [239, 191, 189] with
          | false =>
            have E : Hid ((!(badR 65533 || wrong s pos) && rscan s n' (pos + wd)) = false) := by unfold Hid; rw [Hw.out, c5, h6]; simp
            go_wp2
            go_ret
            exact ⟨by rw [← Hr.out, E.out]; rfl, (Below.refl w.heap.size w).alloc (Nat.le_refl _) _⟩
          | true =>
            have E : Hid ((badR 65533 || wrong s pos) = false) := by unfold Hid; rw [Hw.out, c5, h6]; rfl
            go_wp2
            go_roundg n'
            case measure => omega
            case rel => exact ⟨pos + wd, rfl, by unfold Hid; rw [← Hr.out, E.out, Bool.not_false, Bool.true_and], by omega⟩
      · have c4 : ((r : Int) == 65533) = false := by rw [beq_eq_false_iff_ne]; omega
        have E : Hid ((badR r || wrong s pos) = false) := by
          unfold Hid
          rw [Hb.out, hwr.out, show (r == 65533) = false from by rw [beq_eq_false_iff_ne]; exact h4]; rfl
        go_wp2
        go_roundg n'
        case measure => omega
        case rel => exact ⟨pos + wd, rfl, by unfold Hid; rw [← Hr.out, E.out, Bool.not_false, Bool.true_and], by omega⟩
    · have hnx := fun ty => run_next_end (P := Tryd.prog) w s pos ty hp
      have E : Hid (rscan s gk pos = true) := by
        unfold Hid
        cases gk with
        | zero => rfl
        | succ k => unfold rscan; rw [if_neg hp]
      go_wp2
      go_ret
      exact ⟨by rw [← Hr.out, E.out]; rfl, (Below.refl w.heap.size w).alloc (Nat.le_refl _) _⟩

theorem isName_of {s : ByteArray} (e0 : (s.toList == []) = false) (e2 : (s.toList == [46]) = false) (e3 : (s.toList == [46, 46]) = false) (hs : s.size ≤ 100) : isName s = (vscan s s.size 0 && scan s s.size 0) := by
  unfold isName
  rw [e0, e2, e3, decide_eq_true hs, vscan_valid s s.size 0 (by omega)]; rfl

set_option maxHeartbeats 2000000 in
theorem refname_any (w : World) (s : ByteArray) : Calls Tryd.prog 16 #[.string s] w fun e w' => e = .returned (.bool (isName s)) ∧ Below w.heap.size w w' := by
  cases e0 : s.toList == [] with
  | true =>
    have E : Hid (isName s = false) := by unfold Hid isName; rw [e0]; rfl
    go_enter Tryd.func16, Tryd.ntmps16
    go_wp2
    go_ret
    exact ⟨by rw [E.out]; rfl, Below.refl _ _⟩
  | false =>
    by_cases e1 : 100 < s.size
    · have E : Hid (isName s = false) := by unfold Hid isName; rw [decide_eq_false (by omega : ¬ s.size ≤ 100)]; simp
      have c1 : decide (100 < s.size) = true := decide_eq_true e1
      go_enter Tryd.func16, Tryd.ntmps16
      go_wp2
      go_ret
      exact ⟨by rw [E.out]; rfl, Below.refl _ _⟩
    · cases e2 : s.toList == [46] with
      | true =>
        have E : Hid (isName s = false) := by unfold Hid isName; rw [e2]; simp
        go_enter Tryd.func16, Tryd.ntmps16
        go_wp2
        go_ret
        exact ⟨by rw [E.out]; rfl, Below.refl _ _⟩
      | false =>
        cases e3 : s.toList == [46, 46] with
        | true =>
          have E : Hid (isName s = false) := by unfold Hid isName; rw [e3]; simp
          go_enter Tryd.func16, Tryd.ntmps16
          go_wp2
          go_ret
          exact ⟨by rw [E.out]; rfl, Below.refl _ _⟩
        | false =>
          rw [isName_of e0 e2 e3 (by omega), ← rscan_eq]
          exact refname_loop w s (by omega) e0 e2 e3
end Go.Proofs.YtdillaedlpplhaaDoor
