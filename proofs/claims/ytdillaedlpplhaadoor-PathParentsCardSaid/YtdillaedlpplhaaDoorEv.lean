/- What the library's functions read of the world, at the rows; the witness's world. -/
import Derived.Test.YtdillaedlpplhaaDoorRows
import Derived.Test.YtdillaedlpplhaaDoorPb
import Derived.Lib.LaidU8T
import Derived.Lib.LaidIn
import Derived.Deep.DeepHandedRow
import Derived.Shelf.Vars
import Derived.Test.YtdillaedlpplhaaDoorRead
namespace Go.Proofs.YtdillaedlpplhaaDoor
open Go.RowKit Go.Lib

theorem first_eq : Rows.laid_unicode_utf8_first = Lib.firstData := by kernel_rfl
theorem accept_eq : Rows.laid_unicode_utf8_acceptRanges (H := Unit) = Lib.acceptData := by kernel_rfl
theorem env_of {W : World} (hL : laidMet Tryd.prog [("unicode/utf8.acceptRanges", Rows.laid_unicode_utf8_acceptRanges), ("unicode/utf8.first", Rows.laid_unicode_utf8_first)] W) (hsh : W.ShapedOpen Tryd.prog) : Env W := by
  refine ⟨?_, Go.Proofs.cell_of_shapedOpen_int (g := 2) (t := 3) (zero := #[.int .i64 0]) hsh (of_decide_eq_true (by kernel_rfl)) (by kernel_rfl) rfl (by kernel_rfl) (by kernel_rfl) Tryd.underlying3⟩
  have h1 := Lib.laidMet.reads hL (.head _)
  have h2 := Lib.laidMet.reads hL (.tail _ (.head _))
  rw [accept_eq] at h1
  rw [first_eq] at h2
  exact utf8Tabs_of_readsT (U8Types.of196 Tryd.lays196) ⟨by kernel_rfl, by kernel_rfl, by kernel_rfl, by kernel_rfl, by kernel_rfl, by kernel_rfl, by kernel_rfl⟩ h2 h1

/-- the settled world, the two tables holding what their initialisers lay -/
noncomputable def laidWorld (os : Os) : World :=
  let w0 := World.holding Tryd.prog os ⟨#[], #[], []⟩
  let put (h : Array Obj) (g : Nat) (cs : Array Value) : Array Obj := h.modify g fun
    | .cells _ t frozen => .cells cs t frozen
    | o => o
  let h1 := put w0.heap 0 (Lib.firstTab.map fun z => Value.int .u8 z).toArray
  let h2 := put h1 1 ((List.range 16).flatMap fun i => [Value.int .u8 (Lib.accLo i), Value.int .u8 (Lib.accHi i)]).toArray
  { w0 with heap := h2 }
open Go.XR in
theorem str_fits : ∀ cs, Fits ((leafs Tryd.prog 8 9).getD []) cs → ∃ x : ByteArray, (fun s : ByteArray => [Value.string s]) x = cs := by
  have h : (leafs Tryd.prog 8 9).getD [] = [.str] := by kernel_rfl
  rw [h]
  intro cs hf
  obtain _ | ⟨⟨k, rfl, _⟩, hf⟩ := hf
  cases hf
  exact ⟨k, rfl⟩
open Go.XR in
theorem str_len (x : ByteArray) : ((fun s : ByteArray => [Value.string s]) x).length = ((leafs Tryd.prog 8 9).getD []).length := by
  have h : (leafs Tryd.prog 8 9).getD [] = [.str] := by kernel_rfl
  rw [h]; rfl
theorem strs_flat (l : List ByteArray) : l.flatMap (fun s : ByteArray => [Value.string s]) = strs l := by
  induction l with
  | nil => rfl
  | cons a l ih => rw [List.flatMap_cons, ih]; rfl
end Go.Proofs.YtdillaedlpplhaaDoor
