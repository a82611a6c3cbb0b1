/- The walks over few, shown. -/
import Derived.Test.YtekmiegonnhidaaPq
import Derived.Test.YtekmiegonnhidaaRp
namespace Go.Proofs.Ytekmiegonnhidaa
open Go.RowKit Go.XR Go.PerfPure
theorem okB {l : List KeyT} (h : l.length ≤ 16384) : OkB (buildP l) :=
  ⟨by rw [build_tries]; omega, by rw [build_tries]; omega, h, build_small l⟩
theorem RetBuild.okE {w w' : World} {l : List KeyT} {e : Ending} (h : RetBuild w l e w') (h1 : l.length ≤ 16384) (h2 : l.Nodup) : Below w.heap.size w w' ∧ ∃ p, e = .returned (.tuple #[.pointer (some ⟨p, 0, none⟩), .int .i64 0]) ∧ MapRep w' p (buildP l) := by
  obtain ⟨hb, h⟩ := h
  rw [if_neg (by omega), if_pos h2] at h
  exact ⟨hb, h⟩
theorem RetBuild.twiceE {w w' : World} {l : List KeyT} {e : Ending} (h : RetBuild w l e w') (h1 : l.length ≤ 16384) (h2 : ¬ l.Nodup) : Below w.heap.size w w' ∧ e = .returned (.tuple #[.pointer none, .int .i64 3]) := by
  obtain ⟨hb, h⟩ := h
  rw [if_neg (by omega), if_neg h2] at h
  exact ⟨hb, h⟩
theorem RetBuild.longE {w w' : World} {l : List KeyT} {e : Ending} (h : RetBuild w l e w') (h1 : 16384 < l.length) : Below w.heap.size w w' ∧ e = .returned (.tuple #[.pointer none, .int .i64 4]) := by
  obtain ⟨hb, h⟩ := h
  rw [if_pos h1] at h
  exact ⟨hb, h⟩
set_option maxHeartbeats 1000000 in
set_option maxRecDepth 100000 in
theorem few_any (w : World) (a : Option Addr) (c : Nat) (l : List KeyT) (hl : l.length ≤ maxLen) (hc : l.length ≤ c) :
    Calls Try.prog 15 #[.slice a l.length c] w fun e w' => e = .returned (.slice a (l.take 400).length c) ∧ w' = w := by
  unfold maxLen at hl
  have e1 : (min (l.length : Int) 400) = ((l.take 400).length : Int) := by rw [List.length_take]; omega
  have e2 : (l.take 400).length ≤ l.length := by rw [List.length_take]; omega
  have e3 : (min 400 l.length) = (l.take 400).length := by rw [List.length_take]
  generalize (l.take 400).length = m at *
  generalize l.length = n at *
  go_enter Try.func15, Try.ntmps15
  go_wp2
  go_ret
  exact ⟨rfl, rfl⟩
def k7 : KeyT := ⟨Vector.replicate 32 0, 7⟩
def k0 : KeyT := ⟨Vector.replicate 32 0, 0⟩
set_option maxHeartbeats 4000000 in
set_option maxRecDepth 100000 in
theorem shown_any (w : World) : Calls Try.prog 8 #[] w (RetBool w true) := by
  go_enter Try.func8, Try.ntmps8
  go_wp2_with fail
  refine (build_any w none 0 [] (.inl rfl) (by decide)).mono ?_
  intro e w1 h1
  obtain ⟨hb1, p1, rfl, hp1⟩ := h1.okE (by decide) List.nodup_nil
  clear h1
  have Hb1 := Lib.hid hb1
  have Hp1 := Lib.hid hp1
  clear hb1 hp1
  go_wp2_with fail
  refine (build_any _ (some ⟨w1.heap.size, 0, none⟩) 1 [k7] (by rw [List.flatMap_cons, List.flatMap_nil, List.append_nil]; exact Row.new _ _ _) (by decide)).mono ?_
  intro e w2 h2
  obtain ⟨hb2, p2, rfl, hp2⟩ := h2.okE (by decide) (by simp)
  clear h2
  have Hb2 := Lib.hid (((Below.refl w1.heap.size w1).alloc (Nat.le_refl _) _).trans (hb2.mono (by simp)))
  have Hp1b := Lib.hid (Hp1.out.below Hb2.out)
  have Hp2 := Lib.hid hp2
  have Hbb := Lib.hid (Hb1.out.trans (Hb2.out.mono Hb1.out.size))
  clear hb2 hp2 Hp1 Hb1 Hb2
  go_wp2_with fail
  refine (build_any _ (some ⟨w2.heap.size, 0, none⟩) 2 [k7, k7] (by rw [List.flatMap_cons, List.flatMap_cons, List.flatMap_nil, List.append_nil]; exact Row.new _ _ _) (by decide)).mono ?_
  intro e w3 h3
  obtain ⟨hb3, rfl⟩ := h3.twiceE (by decide) (by simp)
  clear h3
  have Hb3 := Lib.hid (((Below.refl w2.heap.size w2).alloc (Nat.le_refl _) _).trans (hb3.mono (by simp)))
  have Hp1c := Lib.hid (Hp1b.out.below Hb3.out)
  have Hp2c := Lib.hid (Hp2.out.below Hb3.out)
  have Hbc := Lib.hid (Hbb.out.trans (Hb3.out.mono Hbb.out.size))
  clear hb3 Hp1b Hp2 Hbb Hb3
  go_wp2_with fail
  refine (len_any w3 p1 _ Hp1c.out).mono ?_
  rintro e w4 ⟨rfl, hb4⟩
  rw [show ((buildP []).n : Int) = 0 from rfl]
  have Hp1d := Lib.hid (Hp1c.out.below hb4)
  have Hp2d := Lib.hid (Hp2c.out.below hb4)
  have Hbd := Lib.hid (Hbc.out.trans (hb4.mono Hbc.out.size))
  clear hb4 Hp1c Hp2c Hbc
  go_wp2_with fail
  refine (place_any w4 p1 _ Hp1d.out (okB (by decide)) k0).mono ?_
  rintro e w5 ⟨rfl, hb5⟩
  rw [show placeP (buildP []) k0 = -1 from rfl]
  have Hp2e := Lib.hid (Hp2d.out.below hb5)
  have Hbe := Lib.hid (Hbd.out.trans (hb5.mono Hbd.out.size))
  clear hb5 Hp1d Hp2d Hbd
  go_wp2_with fail
  refine (place_any w5 p2 _ Hp2e.out (okB (by decide)) k7).mono ?_
  rintro e w6 ⟨rfl, hb6⟩
  rw [show placeP (buildP [k7]) k7 = 0 by
    have h := place_in (l := [k7]) (by simp) (k := k7) (by simp)
    have e : ([k7].length : Int) = 1 := rfl
    rw [e] at h
    omega]
  have Hbf := Lib.hid (Hbe.out.trans (hb6.mono Hbe.out.size))
  clear hb6
  go_wp2
  go_ret
  exact ⟨rfl, Hbf.out⟩
end Go.Proofs.Ytekmiegonnhidaa
