/- The acts as cells, and back. -/
import Derived.Test.YtfblpabkkahmeaaF
import Derived.Test.YtfblpabkkahmeaaRead
namespace Go.Proofs.Ytfblpabkkahmeaa
open Go.XR Go.TreePure
theorem act_fits : ∀ cs, Fits ((leafs Try.prog 8 32).getD []) cs → ∃ x : Deed, (fun p : Deed => [Value.bool p.gone, .string p.k, .string p.x]) x = cs := by
  have h : (leafs Try.prog 8 32).getD [] = [.bool, .str, .str] := by kernel_rfl
  rw [h]
  intro cs hf
  obtain _ | ⟨⟨g, rfl⟩, hf⟩ := hf
  obtain _ | ⟨⟨k, rfl, _⟩, hf⟩ := hf
  obtain _ | ⟨⟨x, rfl, _⟩, hf⟩ := hf
  cases hf
  exact ⟨⟨g, k, x⟩, rfl⟩
theorem act_len (x : Deed) : ((fun p : Deed => [Value.bool p.gone, .string p.k, .string p.x]) x).length = ((leafs Try.prog 8 32).getD []).length := by
  have h : (leafs Try.prog 8 32).getD [] = [.bool, .str, .str] := by kernel_rfl
  rw [h]; rfl
theorem pair_fits {cs : Array Value} (hf : Fits ((leafs Try.prog 8 30).getD []) cs.toList) : ∃ k x, cs = #[.string k, .string x] := by
  have h : (leafs Try.prog 8 30).getD [] = [.str, .str] := by kernel_rfl
  rw [h] at hf
  obtain ⟨l⟩ := cs
  obtain _ | ⟨⟨k, rfl, _⟩, hf⟩ := hf
  obtain _ | ⟨⟨x, rfl, _⟩, hf⟩ := hf
  cases hf
  exact ⟨k, x, rfl⟩
end Go.Proofs.Ytfblpabkkahmeaa
