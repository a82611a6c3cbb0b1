/- The statement TreeAgain: it holds for every input.  No conditions. -/
import Derived.Test.YtfblpabkkahmeaaRows
import Derived.Test.YtfblpabkkahmeaaRead
import Derived.Test.YtfblpabkkahmeaaCe
import Derived.Test.YtfblpabkkahmeaaLg
import Derived.WalkKit
import Derived.ProofKit
import Derived.OpenShut
import Derived.ShutString
import Derived.ChangeOld
import Derived.Below
import Derived.SizedLaws
namespace Go.Proofs.Ytfblpabkkahmeaa.treeAgain
open Go.ChangeShapes Go.WideShapes Go.ChangeAt Go.RowKit Go.XR
open Go.ChangeMaps (open_string shut_string)
theorem own : ownKnob Try.prog.godebug = none := by kernel_rfl
theorem laidOut : laidOutB Try.prog = true := by kernel_rfl
set_option maxRecDepth 100000 in
theorem lifted (os : Os) (started : os.Started) (H : Type) (enc : TypeId × Value → H) :
    ReturnsInHanded {} Try.checked os 7 .any (Rows.treeAgainSpec.pre6 enc Try.prog Try.f7 Rows.treeAgainRow.domain false) (Rows.treeAgainSpec.post enc Try.prog Try.f7 false true false false) := by
  refine returnsInHanded_of_change_sized (C := Try.checked) own started (by kernel_rfl) Try.func7
    (ChangeSpec.witness6 (enc := enc) (C := Try.checked) false ⟨#[], #[.slice none 0 0, .agg #[.string ByteArray.empty, .string ByteArray.empty], .agg #[.string ByteArray.empty, .string ByteArray.empty]], []⟩ 8 (by kernel_rfl) (by kernel_rfl) (by kernel_rfl) (by kernel_rfl)) ?_
  intro W base args ds gs before hval0 hW _ _ _
  have hval : ∀ (j : Nat) t v, Try.f7.params[j]? = some t → args[j]? = some v → Value.okWide Try.prog W .any base t v := hval0
  have hW' := hW
  obtain ⟨p, q, hA0, hV, rfl, _, _⟩ := hW
  have hA : DataW.TrodAll enc Try.prog W 0 (fun _ => true) true Try.f7.params.toList args.toList ds p := hA0
  rw [Try.params7] at hA hval
  obtain ⟨v0, vs0, d0, ds0, p0, q0, hargs, rfl, rfl, h0, r0⟩ := trodAll_cons hA
  obtain ⟨v1, vs1, d1, ds1, p1, q1, rfl, rfl, rfl, h1, r1⟩ := trodAll_cons r0
  obtain ⟨v2, vs2, d2, ds2, p2, q2, rfl, rfl, rfl, h2, r2⟩ := trodAll_cons r1
  obtain ⟨rfl, rfl, rfl⟩ := trodAll_nil r2
  obtain rfl : args = #[v0, v1, v2] := by cases args; simp_all
  obtain ⟨rfl, rfl⟩ := trodVars_none hV
  have k0 := h0
  have lt0 : ∀ x ∈ p0, x.block < W.heap.size := by obtain ⟨m, hm⟩ := k0; exact DataW.trod_lt m _ _ _ hm
  obtain ⟨o0, len0, c0, rfl⟩ := okWide_slice Try.underlying22 (hval 0 22 v0 rfl rfl)
  obtain ⟨a0, hn0, hr0, hl0⟩ := slice_of (f := 8) (fun p : TreePure.Deed => [Value.bool p.gone, .string p.k, .string p.x]) (ls := (leafs Try.prog 8 32).getD []) act_fits act_len Try.underlying22 (by kernel_rfl) (of_decide_eq_true (by kernel_rfl)) (by kernel_rfl) h0
  subst hn0
  have k1 := h1
  have lt1 : ∀ x ∈ p1, x.block < W.heap.size := by obtain ⟨m, hm⟩ := k1; exact DataW.trod_lt m _ _ _ hm
  obtain ⟨a1, rfl, hf1⟩ := agg_of (f := 8) (ls := (leafs Try.prog 8 30).getD []) Try.underlying30 (hval 1 30 v1 rfl rfl) (by kernel_rfl) h1
  obtain ⟨b1_0, b1_1, rfl⟩ := pair_fits hf1
  have k2 := h2
  have lt2 : ∀ x ∈ p2, x.block < W.heap.size := by obtain ⟨m, hm⟩ := k2; exact DataW.trod_lt m _ _ _ hm
  obtain ⟨a2, rfl, hf2⟩ := agg_of (f := 8) (ls := (leafs Try.prog 8 30).getD []) Try.underlying30 (hval 2 30 v2 rfl rfl) (by kernel_rfl) h2
  obtain ⟨b2_0, b2_1, rfl⟩ := pair_fits hf2
  clear hA0 hval0
  refine (again_walk W o0 c0 a0 hr0 (Nat.le_trans hl0.1 hl0.2) hl0.1 b1_0 b1_1 b2_0 b2_1).mono fun e W' ⟨he, bel⟩ => ?_
  subst he
  exact ⟨_, rfl, _, _, _, [], _, [], hW', trodAll_mk1 (shut_bool Try.underlying4 _), (trodAll_cons_mk (Below.trod laidOut (by kernel_rfl) (of_decide_eq_true (by kernel_rfl)) k0 bel lt0) (trodAll_cons_mk (Below.trod laidOut (by kernel_rfl) (of_decide_eq_true (by kernel_rfl)) k1 bel lt1) (trodAll_cons_mk (Below.trod laidOut (by kernel_rfl) (of_decide_eq_true (by kernel_rfl)) k2 bel lt2) trodAll_mk0))), rfl, bel.frame _, fun h => by cases h⟩
theorem over : Rows.treeAgainRow.holds Try.pinned (OpenSpec.ofChange Rows.treeAgainSpec) :=
  OpenClaim.holds_of_wide 7 Try.f7 rfl rfl rfl rfl rfl rfl rfl ⟨rfl, rfl, rfl, rfl, rfl⟩ rfl rfl rfl rfl rfl (by kernel_rfl) Try.func7 (by kernel_rfl)
    (of_decide_eq_true (by kernel_rfl)) (by unfold Func.isWrapper; first | (rw [if_pos (by decide +kernel)]; kernel_rfl) | (rw [if_neg (by decide +kernel)]; exact ⟨rfl, rfl⟩))
    (fun os started H enc _ => lifted os started H enc)
theorem proved : Rows.TreeAgainSaid := over
#print axioms proved
end Go.Proofs.Ytfblpabkkahmeaa.treeAgain
namespace Go.Proofs.Ytfblpabkkahmeaa
/-- the statement, under a short name -/
theorem treeAgain_holds : Rows.TreeAgainSaid := treeAgain.proved
end Go.Proofs.Ytfblpabkkahmeaa
