/- Keys and fingerprints at this program: '==', map keys, reads. -/
import Derived.Test.YtnfbchhbcinloaaProg
import Derived.Test.YtnfbchhbcinloaaKp
import Derived.Test.YtnfbchhbcinloaaAgg
namespace Go.Proofs.Ytnfbchhbcinloaa
open Go.RowKit Go.XR
theorem laidOut : laidOutB Try.prog = true := by kernel_rfl
theorem typesSmall : Try.prog.types.size + 2 ≤ 10000 := of_decide_eq_true (by kernel_rfl)
theorem typesSize : Try.prog.types.size + 1 = (Try.prog.types.size - 2) + 3 := by kernel_rfl
theorem sum_lits (d : Nat) (s : Vector UInt8 32) : ∃ ls, Try.prog.keyLits (d + 2) 24 (sumL s) = some ls :=
  lits_array (n := 32) (e := 5) (q := .u8) (by kernel_rfl) (by kernel_rfl) (by kernel_rfl) (by kernel_rfl) (sumL_length s) fun v hv => by
    obtain ⟨b, _, rfl⟩ := List.mem_map.1 hv
    exact ⟨_, rfl, bV_wf b⟩
theorem key_fields : Try.prog.underlying 27 = some (.struct (Try.prog.fieldsOf 27)) := by kernel_rfl
set_option maxRecDepth 100000 in
theorem key_lits (d : Nat) (k : KeyT) : ∃ ls, Try.prog.keyLits (d + 3) 27 (keyL k) = some ls := by
  obtain ⟨f1, f2, ht, a1, a2, a3, a4, a5, a6⟩ : ∃ f1 f2, Try.prog.underlying 27 = some (.struct #[f1, f2]) ∧ (f1.name != "_") = true ∧ (f2.name != "_") = true ∧ f1.offset = 0 ∧ f2.offset = 32 ∧ f1.type = 24 ∧ f2.type = 25 :=
    ⟨_, _, Try.underlying27, rfl, rfl, rfl, rfl, rfl, rfl⟩
  refine lits_pair ht a1 a2 a3 (xs := sumL k.sum) (ys := [.int .u32 (k.n.toNat : Int)]) ?_ ?_ ?_ ?_ ?_ ?_
  · rw [a5, sumL_length]; exact (by kernel_rfl : (32 : Nat) = Try.prog.cellsOf 24)
  · rw [a6]; exact (by kernel_rfl : (1 : Nat) = Try.prog.cellsOf 25)
  · rw [a4, sumL_length]
  · rw [sumL_length]; exact (by kernel_rfl : Try.prog.cellsOf 27 = 33)
  · rw [a5]; exact sum_lits d k.sum
  · rw [a6]; exact lits_int (by kernel_rfl) (u32_wf k.n)
theorem key_of (k : KeyT) : ∃ l, keyOf Try.prog 27 (keyV k) = some l :=
  keyOf_of_lits (by kernel_rfl) (by kernel_rfl) (by rw [keyC_size]; kernel_rfl) (by rw [typesSize]; exact key_lits _ k)
theorem sum_of (s : Vector UInt8 32) : ∃ l, keyOf Try.prog 24 (sumV s) = some l :=
  keyOf_of_lits (by kernel_rfl) (by kernel_rfl) (by rw [sumC_size]; kernel_rfl) (by rw [typesSize]; exact sum_lits _ s)
theorem key_eq (a b : KeyT) (w : World) : (Op.equal 27 (keyV a) (keyV b)).run Try.prog w = .ok (decide (a = b)) w :=
  equal_cells laidOut typesSmall (of_decide_eq_true (by kernel_rfl)) (by kernel_rfl) (by kernel_rfl) key_of keyV_inj a b w
theorem sum_eq (a b : Vector UInt8 32) (w : World) : (Op.equal 24 (sumV a) (sumV b)).run Try.prog w = .ok (decide (a = b)) w :=
  equal_cells laidOut typesSmall (of_decide_eq_true (by kernel_rfl)) (by kernel_rfl) (by kernel_rfl) sum_of sumV_inj a b w
theorem keysKey : KeysOk Try.prog 27 keyV := ⟨Go.Maps.Keyed.of_law (deep_law_gate laidOut typesSmall (of_decide_eq_true (by kernel_rfl)) (by kernel_rfl) (by kernel_rfl)), key_of, keyV_inj⟩
theorem keysSum : KeysOk Try.prog 24 sumV := ⟨Go.Maps.Keyed.of_law (deep_law_gate laidOut typesSmall (of_decide_eq_true (by kernel_rfl)) (by kernel_rfl) (by kernel_rfl)), sum_of, sumV_inj⟩
theorem keySize (k : KeyT) : (Try.prog.info? 27).map (·.size) = some (keyC k).size := by rw [keyC_size]; kernel_rfl
theorem sumSize (s : Vector UInt8 32) : (Try.prog.info? 24).map (·.size) = some (sumC s).size := by rw [sumC_size]; kernel_rfl
/-- an element of a fingerprint -/
theorem sum_index (s : Vector UInt8 32) {i : Nat} (h : i < 32) (w : World) : (Instr.index 24 (sumV s) (.int .i64 (i : Int))).run Try.prog w = .ok (.int .u8 (s[i].toNat : Int)) w := by
  have hu : Try.prog.underlying 24 = some (.array 32 5) := by kernel_rfl
  have he : (isAgg 5).run Try.prog w = .ok false w := by
    unfold isAgg
    rw [Sem.run_bind, run_underlying (P := Try.prog) (show Try.prog.underlying 5 = some (.int .u8) by kernel_rfl) w]; rfl
  have hs : (sizeOf 5).run Try.prog w = .ok 1 w := run_sizeOf_eq (by kernel_rfl)
  have hlt : 0 ≤ (i : Int) ∧ (i : Int) < 32 := by omega
  simp [Instr.index, asIntOf, run_underlying hu, hlt, hs, part, he, sumC_get s h, Result.andThen]
  intro h'
  omega
end Go.Proofs.Ytnfbchhbcinloaa
