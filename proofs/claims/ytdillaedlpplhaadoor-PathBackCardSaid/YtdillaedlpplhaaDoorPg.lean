/- The walks over Within, Child. -/
import Derived.Test.YtdillaedlpplhaaDoorPf
namespace Go.Proofs.YtdillaedlpplhaaDoor
open Go.RowKit Go.PathPure Go.XR

theorem within_any (w : World) (hE : Env w) (s dir : ByteArray) (hs : s.size ≤ 2^30) (hd : dir.size ≤ 2^30) : Calls Tryd.prog 17 #[.string s, .string dir] w fun e w' => e = .returned (.bool (behindP s dir).isSome) ∧ Below w.heap.size w w' := by
  have HE := Lib.hid hE
  clear hE
  go_enter Tryd.func17, Tryd.ntmps17
  go_wp2_with fail
  refine (behind_any _ HE.out s dir hs hd).mono ?_
  rintro e w1 ⟨a, c, rfl, _, hb⟩
  have Hb := Lib.hid hb
  clear hb
  go_wp2
  go_ret
  exact ⟨rfl, Hb.out⟩

def childP (s dir : ByteArray) : Option ByteArray := match behindP s dir with
  | some (n :: _) => some n
  | _ => none
theorem child_any (w : World) (hE : Env w) (s dir : ByteArray) (hs : s.size ≤ 2^30) (hd : dir.size ≤ 2^30) : Calls Tryd.prog 18 #[.string s, .string dir] w fun e w' => e = .returned (.tuple #[.string ((childP s dir).getD ⟨#[]⟩), .bool (childP s dir).isSome]) ∧ Below w.heap.size w w' := by
  have HE := Lib.hid hE
  clear hE
  cases hp : behindP s dir with
  | none =>
    have E : Hid (childP s dir = none) := by unfold Hid childP; rw [hp]
    have Hp := Lib.hid hp
    clear hp
    go_enter Tryd.func18, Tryd.ntmps18
    go_wp2_with fail
    refine (behind_any _ HE.out s dir hs hd).mono ?_
    rintro e w1 ⟨a, c, rfl, _, hb⟩
    rw [Hp.out]
    have Hb := Lib.hid hb
    clear hb
    go_wp2
    go_ret2
    exact ⟨by rw [E.out]; rfl, Hb.out⟩
  | some l =>
    have Hp := Lib.hid hp
    cases l with
    | nil =>
      have E : Hid (childP s dir = none) := by unfold Hid childP; rw [hp]
      clear hp
      go_enter Tryd.func18, Tryd.ntmps18
      go_wp2_with fail
      refine (behind_any _ HE.out s dir hs hd).mono ?_
      rintro e w1 ⟨a, c, rfl, _, hb⟩
      rw [Hp.out]
      have Hb := Lib.hid hb
      clear hb
      go_wp2
      go_ret2
      exact ⟨by rw [E.out]; rfl, Hb.out⟩
    | cons n l =>
      have E : Hid (childP s dir = some n) := by unfold Hid childP; rw [hp]
      clear hp
      go_enter Tryd.func18, Tryd.ntmps18
      go_wp2_with fail
      refine (behind_any _ HE.out s dir hs hd).mono ?_
      rintro e w1 ⟨a, c, rfl, hr, hb⟩
      rw [Hp.out] at hr ⊢
      obtain ⟨g, o, rfl, c0⟩ := str_at (l := n :: l) hr (i := 0) (by simp)
      have Hb := Lib.hid hb
      clear hb hr
      have hl0 : ((some (n :: l)).getD ([] : List ByteArray)).length = l.length + 1 := rfl
      rw [hl0]
      have hz : (((l.length + 1 : Nat) : Int) == 0) = false := by rw [beq_eq_false_iff_ne]; omega
      clear hl0
      simp at c0
      go_wp2
      go_ret2
      exact ⟨by rw [E.out]; rfl, Hb.out⟩
end Go.Proofs.YtdillaedlpplhaaDoor
