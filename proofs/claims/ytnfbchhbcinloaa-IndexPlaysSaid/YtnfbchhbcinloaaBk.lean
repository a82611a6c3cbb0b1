/- A key built of a fingerprint and a number. -/
import Derived.Test.YtnfbchhbcinloaaDl
import Derived.Test.YtnfbchhbcinloaaBld
namespace Go.Proofs.Ytnfbchhbcinloaa
open Go.RowKit Go.XR
theorem run_build_key (d : Vector UInt8 32) (n : UInt32) (w : World) : (Instr.build 27 #[(0, sumV d), (1, .int .u32 (n.toNat : Int))]).run Try.prog w = .ok (keyV ⟨d, n⟩) w := by
  obtain ⟨zs, hzs, hz⟩ : ∃ zs : Array Value, zs.size = 33 ∧ ∀ w, (zeroValue 27).run Try.prog w = .ok (.agg zs) w := ⟨_, rfl, fun w => Try.zeroValue27 w⟩
  obtain ⟨f1, f2, ht, o1, o2, t1, t2⟩ : ∃ f1 f2, Try.prog.underlying 27 = some (.struct #[f1, f2]) ∧ f1.offset = 0 ∧ f2.offset = 32 ∧ f1.type = 24 ∧ f2.type = 25 :=
    ⟨_, _, Try.underlying27, rfl, rfl, rfl, rfl⟩
  have hs1 : (sizeOf f1.type).run Try.prog w = .ok 32 w := by rw [t1]; exact run_sizeOf_eq (by kernel_rfl)
  have hs2 : (sizeOf f2.type).run Try.prog w = .ok 1 w := by rw [t2]; exact run_sizeOf_eq (by kernel_rfl)
  have hm : ((#[f1, f2] : Array Field).mapM fun (f : Field) => do pure (f.offset, ← sizeOf f.type) : Sem (Array (Nat × Nat))).run Try.prog w = .ok #[(0, 32), (32, 1)] w := by
    rw [Array.mapM_eq_mapM_toList]
    simp [Sem.run_bind, hs1, hs2, o1, o2, Result.andThen]
  have hfill : Instr.fill ((#[(0, 32), (32, 1)] : Array (Nat × Nat))[·]?) zs [(0, sumV d), (1, .int .u32 (n.toNat : Int))] = some (keyC ⟨d, n⟩) := by
    rw [fill_step (i := 0) (off := 0) (size := 32) (v := sumV d) ((#[(0, 32), (32, 1)] : Array (Nat × Nat))[·]?) zs _ rfl (sumC_size d) (by omega)]
    rw [fill_step (i := 1) (off := 32) (size := 1) (v := .int .u32 (n.toNat : Int)) ((#[(0, 32), (32, 1)] : Array (Nat × Nat))[·]?) _ [] rfl rfl (by simp [Value.cells, sumC_size, hzs])]
    unfold Instr.fill
    refine congrArg some ?_
    apply Array.ext'
    have e1 : (sumC d).toList = sumL d := rfl
    simp [Value.cells, keyC, keyL, e1, sumL_length, hzs]
  unfold Instr.build
  simp only [Sem.run_bind, hz, Result.andThen_ok, run_underlying ht, hm]
  have hz2 : (Value.agg zs).cells = zs := rfl
  rw [hz2]
  simp only [hfill, Sem.run_pure]
theorem wpList_build_key {w : World} {ops : Array Oper} {rest : List Oper} {o : Oper} {a : Act} {Q : Exit → Act → World → Prop} (hgd : o.guard = none) (x y : Operand) (ho : o.op = .build 27 #[(0, x), (1, y)]) (d : Vector UInt8 32) (n : UInt32)
    (hx : a.eval x = sumV d) (hy : a.eval y = .int .u32 (n.toNat : Int)) (hK : wpList Try.prog ops Q rest (a.put o.dst (keyV ⟨d, n⟩)) w) : wpList Try.prog ops Q (o :: rest) a w := by
  refine wpList_plain hgd fun _ hK' => ?_
  have h := hK' _ _ hK
  have hr := run_build_key d n w
  unfold Oper.wp execOp
  simp only [ho, List.map_toArray, List.map_cons, List.map_nil, hx, hy, Sem.run_bind, hr, Result.andThen_ok, Sem.run_pure]
  exact h
end Go.Proofs.Ytnfbchhbcinloaa
