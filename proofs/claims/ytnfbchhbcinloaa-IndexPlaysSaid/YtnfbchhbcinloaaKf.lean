/- What a key's cells look like at the opening, and back. -/
import Derived.Test.YtnfbchhbcinloaaKy
import Derived.Test.YtnfbchhbcinloaaRead
namespace Go.Proofs.Ytnfbchhbcinloaa
open Go.RowKit Go.XR
theorem fits_split : ∀ {a b : List Leaf} {cs : List Value}, Fits (a ++ b) cs → ∃ x y, cs = x ++ y ∧ Fits a x ∧ Fits b y
  | [], _, cs, h => ⟨[], cs, rfl, .nil, h⟩
  | _ :: a, b, _, h => by
    obtain _ | ⟨h1, h2⟩ := h
    obtain ⟨x, y, rfl, h3, h4⟩ := fits_split (a := a) h2
    exact ⟨_, y, rfl, .cons h1 h3, h4⟩
theorem bytes_fits : ∀ {n : Nat} {cs : List Value}, Fits (List.replicate n (.int .u8)) cs → ∃ bs : List UInt8, bs.length = n ∧ bs.map bV = cs
  | 0, _, h => by cases h; exact ⟨[], rfl, rfl⟩
  | n + 1, _, h => by
    rw [List.replicate_succ] at h
    obtain _ | ⟨⟨z, rfl, hz⟩, h⟩ := h
    obtain ⟨bs, h1, h2⟩ := bytes_fits h
    have hb := bounds_u8 hz
    refine ⟨UInt8.ofNat z.toNat :: bs, by rw [List.length_cons, h1], ?_⟩
    rw [List.map_cons, h2]
    congr 1
    unfold bV
    rw [UInt8.toNat_ofNat_of_lt' (by show z.toNat < 256; omega)]
    congr 1; omega
theorem key_leafs : (leafs Try.prog 8 27).getD [] = List.replicate 32 (.int .u8) ++ [.int .u32] := by kernel_rfl
theorem key_fits : ∀ cs, Fits ((leafs Try.prog 8 27).getD []) cs → ∃ k : KeyT, keyL k = cs := by
  rw [key_leafs]
  intro cs hf
  obtain ⟨x, y, rfl, h1, h2⟩ := fits_split hf
  obtain ⟨bs, hb, rfl⟩ := bytes_fits h1
  obtain _ | ⟨⟨z, rfl, hz⟩, h2⟩ := h2
  cases h2
  have hb3 := bounds_u32 hz
  refine ⟨⟨⟨bs.toArray, by simpa using hb⟩, UInt32.ofNat z.toNat⟩, ?_⟩
  unfold keyL sumL
  congr 1
  rw [UInt32.toNat_ofNat_of_lt' (by show z.toNat < 4294967296; omega)]
  congr 2; omega
theorem key_len (k : KeyT) : (keyL k).length = ((leafs Try.prog 8 27).getD []).length := by
  rw [key_leafs, keyL_length]; rfl
theorem key_agg {cs : Array Value} (hf : Fits ((leafs Try.prog 8 27).getD []) cs.toList) : ∃ k : KeyT, cs = keyC k := by
  obtain ⟨k, hk⟩ := key_fits _ hf
  exact ⟨k, by unfold keyC; rw [hk]⟩
end Go.Proofs.Ytnfbchhbcinloaa
