/- The walks over groups' closures; IndexFunc and DeleteFunc at groups. -/
import Derived.Test.YtekmiegonnhidaaTr
import Derived.Test.YtekmiegonnhidaaOr
import Derived.Test.YtekmiegonnhidaaSh
namespace Go.PerfPure
structure GrpT where
  at_ : Nat
  sl : Option Addr
  len : Nat
  cap : Nat
deriving Inhabited
def grpL (g : GrpT) : List Value := [.int .i64 g.at_, .slice g.sl g.len g.cap]
def cfG (x y : GrpT) : Int := Go.XR.or2 (Lib.compareInt y.len x.len) (Lib.compareInt x.at_ y.at_)
end Go.PerfPure
namespace Go.Proofs.Ytekmiegonnhidaa
open Go.RowKit Go.XR Go.PerfPure

theorem empty_any (w : World) (g : GrpT) : Calls Try.prog 27 #[.agg #[.int .i64 g.at_, .slice g.sl g.len g.cap]] w fun e w' => e = .returned (.bool (decide (g.len = 0))) ∧ Below w.heap.size w w' := by
  have h1 : (((g.len : Int) == 0)) = decide (g.len = 0) := by rw [Bool.eq_iff_iff]; simp
  have H1 := Lib.hid h1
  clear h1
  go_enter Try.func27, Try.ntmps27
  go_wp2
  go_ret
  exact ⟨by rw [← H1.out]; rfl, (Below.refl _ _).alloc (Nat.le_refl _) _⟩

set_option maxHeartbeats 1000000 in
theorem cmpg_any (x y : GrpT) (W : World) : Calls Try.prog 29 #[.agg (grpL x).toArray, .agg (grpL y).toArray] W fun e w' => e = .returned (.int .i64 (cfG x y)) ∧ ∃ q os', w' = Sort.grow (W.drewN q) os' := by
  obtain ⟨xa, xs, xl, xc⟩ := x
  obtain ⟨ya, ys, yl, yc⟩ := y
  show Calls Try.prog 29 #[.agg #[.int .i64 xa, .slice xs xl xc], .agg #[.int .i64 ya, .slice ys yl yc]] W fun e w' => e = .returned (.int .i64 (or2 (Lib.compareInt yl xl) (Lib.compareInt xa ya))) ∧ ∃ q os', w' = Sort.grow (W.drewN q) os'
  obtain ⟨c1, hc1⟩ : ∃ c, Lib.compareInt yl xl = c := ⟨_, rfl⟩
  obtain ⟨c2, hc2⟩ : ∃ c, Lib.compareInt xa ya = c := ⟨_, rfl⟩
  have k1 := fun w => Try.cmp_Compare_int yl xl w
  have k2 := fun w => Try.cmp_Compare_int xa ya w
  rw [hc1] at k1 ⊢
  rw [hc2] at k2 ⊢
  have K1 := Lib.hid k1
  have K2 := Lib.hid k2
  clear k1 k2 hc1 hc2
  obtain ⟨c3, hc3⟩ : ∃ c, or2 c1 c2 = c := ⟨_, rfl⟩
  have k3 := fun w b n cx cy => or_any w b n c1 c2 cx cy
  rw [hc3] at k3 ⊢
  have K3 := Lib.hid k3
  clear k3 hc3
  go_enter Try.func29, Try.ntmps29
  go_wp2
  refine Go.XR.region_sched ((· = ((W.alloc (.cells #[.int .i64 xa, .slice xs xl xc] 61)).alloc (.cells #[.int .i64 ya, .slice ys yl yc] 61)).drew)) [(0, true), (1, true), (2, true), (3, true), (4, true), (5, true), (7, true), (8, true), (9, true), (10, true), (6, false), (11, false), (12, false), (13, false), (14, false)] [11, 12, 13, 14] Try.mixed (by kernel_rfl) (by kernel_rfl) (by kernel_rfl) ?_
  simp only [List.map_cons, List.map_nil, List.getElem?_cons_succ, List.getElem?_cons_zero]
  repeat (first | (refine Go.XR.S_light rfl rfl rfl ?_ (fun w' hS K hK => ?_) (fun K hK => ?_); rotate_left 1; (cases hS; go_step; exact hK); go_step; refine hK _ ?_; clear hK K))
  refine Go.XR.S_heavy (fun K hK => ?_)
  go_step
  ((with_reducible refine (K1.out _).mono ?_); rintro e w' ⟨rfl, rfl⟩)
  refine hK _ _ ⟨fun _ => rfl, ?_⟩
  clear hK K
  repeat (first | (refine Go.XR.S_light rfl rfl rfl ?_ (fun w' hS K hK => ?_) (fun K hK => ?_); rotate_left 1; (cases hS; go_step; exact hK); go_step; refine hK _ ?_; clear hK K))
  refine Go.XR.S_heavy (fun K hK => ?_)
  go_step
  ((with_reducible refine (K2.out _).mono ?_); rintro e w' ⟨rfl, rfl⟩)
  refine hK _ _ ⟨fun _ => rfl, ?_⟩
  clear hK K
  repeat (first | (refine Go.XR.S_light rfl rfl rfl ?_ (fun w' hS K hK => ?_) (fun K hK => ?_); rotate_left 1; (cases hS; go_step; exact hK); go_step; refine hK _ ?_; clear hK K))
  refine Go.XR.S_heavy (fun K hK => ?_)
  go_step
  refine hK _ _ ⟨fun h => by simp at h, ?_⟩
  clear hK K
  refine Go.XR.S_heavy (fun K hK => ?_)
  go_step
  ((with_reducible refine (K3.out _ _ _ (by have h := World.cell?_alloc_new ((W.alloc (.cells #[.int .i64 xa, .slice xs xl xc] 61)).alloc (.cells #[.int .i64 ya, .slice ys yl yc] 61)) #[.int .i64 c1, .int .i64 c2] 3 0; simpa using h) (by have h := World.cell?_alloc_new ((W.alloc (.cells #[.int .i64 xa, .slice xs xl xc] 61)).alloc (.cells #[.int .i64 ya, .slice ys yl yc] 61)) #[.int .i64 c1, .int .i64 c2] 3 1; simpa using h)).mono ?_); rintro e w' ⟨rfl, rfl⟩)
  refine hK _ _ ⟨fun h => by simp at h, ?_⟩
  clear hK K
  repeat (first | (refine Go.XR.S_heavy (fun K hK => ?_); go_step; refine hK _ _ ⟨fun h => by simp at h, ?_⟩; clear hK K))
  refine Go.XR.S_nil ?_
  go_wp2
  go_ret
  refine ⟨rfl, 1, #[.cells #[.int .i64 xa, .slice xs xl xc] 61, .cells #[.int .i64 ya, .slice ys yl yc] 61, .cells #[.int .i64 c1, .int .i64 c2] 3], ?_⟩
  rw [Sort.alloc_eq_grow, Sort.alloc_eq_grow, Sort.alloc_eq_grow, Sort.grow_grow, Sort.grow_grow]
  rfl
end Go.Proofs.Ytekmiegonnhidaa
