/-
  No cell of these rows narrows 'for every input' (looked for: loops, veiled, ifaces, maps, wideKeys, modest, calm, conditions, laid).
  DERIVED. THE GIVEN ROWS OF THIS SEAT. 9 by the template 'for every input the law returns true; each argument reads behind the call as it read before'; 0 by the template 'total and deterministic' (their statements: YtnfbchhbcinloaaTotals.lean).
  GIVEN WITH THE SEED: the statements are not yours to turn. If you find one false, say at which input.
  Laid BY PROGRAM, IN A SANDBOX (cutbox-rows.mjs): the forced cells as the released guide's own fill.sh prints them over the translation 50fd320b41e5a7e9… (all of the seat's roots in one cut). By AI agents, Wed Nov 11 2026. No macro, syntax, notation, axiom, sorry.
-/
import Derived.Test.YtnfbchhbcinloaaChecked
import GoSem.Claim
import GoSem.ClaimJoined
import GoSem.ClaimMapViews
import Derived.JoinedTies
import Derived.KernelRfl
namespace Go.Proofs.Ytnfbchhbcinloaa
/- THE CELL 'sum', in the pinned program and in every row, IS THE sha256 OF THE DUMP (.gsa) THAT YtnfbchhbcinloaaProg.lean LOADS. Nothing in Lean hashes anything: it is a label: what it is worth is what the hold of that sum in a sandbox is worth. -/
noncomputable def Try.pinned : Pinned := { name := "ytnfbchhbcinloaa", sum := "50fd320b41e5a7e9847ee9c240700c694c23fef8c8319e117e46514cf19ab9d4", checked := Try.checked }
namespace Rows
def none {H : Type} : Left H := { results := [], args := [] }

/-- 'cellaragelaw13.IndexTwins': WHATEVER THE INPUT: true; the input reads as it did. -/
def indexTwinsSpec : ChangeSpec := { name := "indexTwins", fn := fun _ => fun
  | [d1, d2] => { results := [.lit (.bool true)], args := [d1, d2] }
  | _ => none }
def indexTwinsRow : OpenClaim := { program := "ytnfbchhbcinloaa", sum := "50fd320b41e5a7e9847ee9c240700c694c23fef8c8319e117e46514cf19ab9d4", func := "cellarage/cellaragelaw13.IndexTwins", spec := "indexTwins", inPlace := ["slices.overlaps[uint32]"], plainKeys := false, apart := false }
def IndexTwinsSaid : Prop := indexTwinsRow.holds Try.pinned (OpenSpec.ofChange indexTwinsSpec)

/-- ITS FALSE NEIGHBOUR: 'it returns false'. Refute it at one input. -/
def indexTwinsWrong : ChangeSpec := { name := "indexTwins", fn := fun _ => fun
  | [d1, d2] => { results := [.lit (.bool false)], args := [d1, d2] }
  | _ => none }
def IndexTwinsWrongFalsely : Prop := indexTwinsRow.holds Try.pinned (OpenSpec.ofChange indexTwinsWrong)

/-- 'cellaragelaw13.IndexOrder': WHATEVER THE INPUT: true; the input reads as it did. -/
def indexOrderSpec : ChangeSpec := { name := "indexOrder", fn := fun _ => fun
  | [d] => { results := [.lit (.bool true)], args := [d] }
  | _ => none }
def indexOrderRow : OpenClaim := { program := "ytnfbchhbcinloaa", sum := "50fd320b41e5a7e9847ee9c240700c694c23fef8c8319e117e46514cf19ab9d4", func := "cellarage/cellaragelaw13.IndexOrder", spec := "indexOrder", inPlace := ["slices.overlaps[uint32]", "internal/bytealg.Compare"], unfollowed := true, recurses := true, plainKeys := false, apart := false }
def IndexOrderSaid : Prop := indexOrderRow.holds Try.pinned (OpenSpec.ofChange indexOrderSpec)

/-- ITS FALSE NEIGHBOUR: 'it returns false'. Refute it at one input. -/
def indexOrderWrong : ChangeSpec := { name := "indexOrder", fn := fun _ => fun
  | [d] => { results := [.lit (.bool false)], args := [d] }
  | _ => none }
def IndexOrderWrongFalsely : Prop := indexOrderRow.holds Try.pinned (OpenSpec.ofChange indexOrderWrong)

/-- 'cellaragelaw13.IndexPlays': WHATEVER THE INPUT: true; the input reads as it did. -/
def indexPlaysSpec : ChangeSpec := { name := "indexPlays", fn := fun _ => fun
  | [d1, d2, d3] => { results := [.lit (.bool true)], args := [d1, d2, d3] }
  | _ => none }
def indexPlaysRow : OpenClaim := { program := "ytnfbchhbcinloaa", sum := "50fd320b41e5a7e9847ee9c240700c694c23fef8c8319e117e46514cf19ab9d4", func := "cellarage/cellaragelaw13.IndexPlays", spec := "indexPlays", inPlace := ["slices.overlaps[uint32]", "internal/bytealg.Compare"], unfollowed := true, recurses := true, plainKeys := false, apart := false }
def IndexPlaysSaid : Prop := indexPlaysRow.holds Try.pinned (OpenSpec.ofChange indexPlaysSpec)

/-- ITS FALSE NEIGHBOUR: 'it returns false'. Refute it at one input. -/
def indexPlaysWrong : ChangeSpec := { name := "indexPlays", fn := fun _ => fun
  | [d1, d2, d3] => { results := [.lit (.bool false)], args := [d1, d2, d3] }
  | _ => none }
def IndexPlaysWrongFalsely : Prop := indexPlaysRow.holds Try.pinned (OpenSpec.ofChange indexPlaysWrong)

/-- 'cellaragelaw13.IndexParts': WHATEVER THE INPUT: true; the input reads as it did. -/
def indexPartsSpec : ChangeSpec := { name := "indexParts", fn := fun _ => fun
  | [d] => { results := [.lit (.bool true)], args := [d] }
  | _ => none }
def indexPartsRow : OpenClaim := { program := "ytnfbchhbcinloaa", sum := "50fd320b41e5a7e9847ee9c240700c694c23fef8c8319e117e46514cf19ab9d4", func := "cellarage/cellaragelaw13.IndexParts", spec := "indexParts", inPlace := ["slices.overlaps[uint32]", "internal/bytealg.Compare"], unfollowed := true, recurses := true, plainKeys := false, apart := false }
def IndexPartsSaid : Prop := indexPartsRow.holds Try.pinned (OpenSpec.ofChange indexPartsSpec)

/-- ITS FALSE NEIGHBOUR: 'it returns false'. Refute it at one input. -/
def indexPartsWrong : ChangeSpec := { name := "indexParts", fn := fun _ => fun
  | [d] => { results := [.lit (.bool false)], args := [d] }
  | _ => none }
def IndexPartsWrongFalsely : Prop := indexPartsRow.holds Try.pinned (OpenSpec.ofChange indexPartsWrong)

/-- 'cellaragelaw13.IndexNil': WHATEVER THE INPUT: true; the input reads as it did. -/
def indexNilSpec : ChangeSpec := { name := "indexNil", fn := fun _ => fun
  | [d1, d2] => { results := [.lit (.bool true)], args := [d1, d2] }
  | _ => none }
def indexNilRow : OpenClaim := { program := "ytnfbchhbcinloaa", sum := "50fd320b41e5a7e9847ee9c240700c694c23fef8c8319e117e46514cf19ab9d4", func := "cellarage/cellaragelaw13.IndexNil", spec := "indexNil", inPlace := ["slices.overlaps[uint32]", "internal/bytealg.Compare"], unfollowed := true, recurses := true, plainKeys := false, apart := false }
def IndexNilSaid : Prop := indexNilRow.holds Try.pinned (OpenSpec.ofChange indexNilSpec)

/-- ITS FALSE NEIGHBOUR: 'it returns false'. Refute it at one input. -/
def indexNilWrong : ChangeSpec := { name := "indexNil", fn := fun _ => fun
  | [d1, d2] => { results := [.lit (.bool false)], args := [d1, d2] }
  | _ => none }
def IndexNilWrongFalsely : Prop := indexNilRow.holds Try.pinned (OpenSpec.ofChange indexNilWrong)

/-- 'cellaragelaw15.FindCheap': WHATEVER THE INPUT: true; the input reads as it did. -/
def findCheapSpec : ChangeSpec := { name := "findCheap", fn := fun _ => fun
  | [d1, d2, d3] => { results := [.lit (.bool true)], args := [d1, d2, d3] }
  | _ => none }
def findCheapRow : OpenClaim := { program := "ytnfbchhbcinloaa", sum := "50fd320b41e5a7e9847ee9c240700c694c23fef8c8319e117e46514cf19ab9d4", func := "cellarage/cellaragelaw15.FindCheap", spec := "findCheap", inPlace := ["slices.overlaps[uint32]", "internal/bytealg.Compare"], unfollowed := true, recurses := true, plainKeys := false, apart := false }
def FindCheapSaid : Prop := findCheapRow.holds Try.pinned (OpenSpec.ofChange findCheapSpec)

/-- ITS FALSE NEIGHBOUR: 'it returns false'. Refute it at one input. -/
def findCheapWrong : ChangeSpec := { name := "findCheap", fn := fun _ => fun
  | [d1, d2, d3] => { results := [.lit (.bool false)], args := [d1, d2, d3] }
  | _ => none }
def FindCheapWrongFalsely : Prop := findCheapRow.holds Try.pinned (OpenSpec.ofChange findCheapWrong)

/-- 'cellaragelaw15.FindSame': WHATEVER THE INPUT: true; the input reads as it did. -/
def findSameSpec : ChangeSpec := { name := "findSame", fn := fun _ => fun
  | [d1, d2] => { results := [.lit (.bool true)], args := [d1, d2] }
  | _ => none }
def findSameRow : OpenClaim := { program := "ytnfbchhbcinloaa", sum := "50fd320b41e5a7e9847ee9c240700c694c23fef8c8319e117e46514cf19ab9d4", func := "cellarage/cellaragelaw15.FindSame", spec := "findSame", inPlace := ["slices.overlaps[uint32]", "internal/bytealg.Compare"], unfollowed := true, recurses := true, plainKeys := false, apart := false }
def FindSameSaid : Prop := findSameRow.holds Try.pinned (OpenSpec.ofChange findSameSpec)

/-- ITS FALSE NEIGHBOUR: 'it returns false'. Refute it at one input. -/
def findSameWrong : ChangeSpec := { name := "findSame", fn := fun _ => fun
  | [d1, d2] => { results := [.lit (.bool false)], args := [d1, d2] }
  | _ => none }
def FindSameWrongFalsely : Prop := findSameRow.holds Try.pinned (OpenSpec.ofChange findSameWrong)

/-- 'cellaragelaw15.FindTwins': WHATEVER THE INPUT: true; the input reads as it did. -/
def findTwinsSpec : ChangeSpec := { name := "findTwins", fn := fun _ => fun
  | [d1, d2, d3, d4] => { results := [.lit (.bool true)], args := [d1, d2, d3, d4] }
  | _ => none }
def findTwinsRow : OpenClaim := { program := "ytnfbchhbcinloaa", sum := "50fd320b41e5a7e9847ee9c240700c694c23fef8c8319e117e46514cf19ab9d4", func := "cellarage/cellaragelaw15.FindTwins", spec := "findTwins", inPlace := ["slices.overlaps[uint32]", "internal/bytealg.Compare"], unfollowed := true, recurses := true, plainKeys := false, apart := false }
def FindTwinsSaid : Prop := findTwinsRow.holds Try.pinned (OpenSpec.ofChange findTwinsSpec)

/-- ITS FALSE NEIGHBOUR: 'it returns false'. Refute it at one input. -/
def findTwinsWrong : ChangeSpec := { name := "findTwins", fn := fun _ => fun
  | [d1, d2, d3, d4] => { results := [.lit (.bool false)], args := [d1, d2, d3, d4] }
  | _ => none }
def FindTwinsWrongFalsely : Prop := findTwinsRow.holds Try.pinned (OpenSpec.ofChange findTwinsWrong)

/-- 'cellaragelaw15.FindNil': WHATEVER THE INPUT: true; the input reads as it did. -/
def findNilSpec : ChangeSpec := { name := "findNil", fn := fun _ => fun
  | [d1, d2] => { results := [.lit (.bool true)], args := [d1, d2] }
  | _ => none }
def findNilRow : OpenClaim := { program := "ytnfbchhbcinloaa", sum := "50fd320b41e5a7e9847ee9c240700c694c23fef8c8319e117e46514cf19ab9d4", func := "cellarage/cellaragelaw15.FindNil", spec := "findNil", inPlace := ["slices.overlaps[uint32]", "internal/bytealg.Compare"], unfollowed := true, recurses := true, plainKeys := false, apart := false }
def FindNilSaid : Prop := findNilRow.holds Try.pinned (OpenSpec.ofChange findNilSpec)

/-- ITS FALSE NEIGHBOUR: 'it returns false'. Refute it at one input. -/
def findNilWrong : ChangeSpec := { name := "findNil", fn := fun _ => fun
  | [d1, d2] => { results := [.lit (.bool false)], args := [d1, d2] }
  | _ => none }
def FindNilWrongFalsely : Prop := findNilRow.holds Try.pinned (OpenSpec.ofChange findNilWrong)

/- THE SECOND FORM. 'bulk': how many values and letters a reading holds, each counted each time it is reached (what is shared counts as often as it is met; a slice's spare places count too). A statement '..UptoSaid' is the law's where the arguments, and the package variables that the reading takes, are together of bulk at most 1048576: NARROWER than '..Said'. Prove '..Said' where nothing that the law and all that it calls make is longer than what came in: it says more and counts as full. Else prove '..UptoSaid'. A law counts once. -/
mutual
def uptoBulk {H : Type} : DataW H → Nat
  | .lit (.string bytes) => bytes.length + 1
  | .lit _ => 1
  | .nil => 1
  | .ptr d => uptoBulk d + 1
  | .slice elems spare => uptoBulkAll elems + uptoBulkAll spare + 1
  | .agg parts => uptoBulkAll parts + 1
  | .iface _ d => uptoBulk d + 1
  | .map entries => uptoBulkEntries entries + 1
  | .held _ => 1
def uptoBulkAll {H : Type} : List (DataW H) → Nat
  | [] => 0
  | d :: r => uptoBulk d + uptoBulkAll r
def uptoBulkEntries {H : Type} : List (Lit × DataW H) → Nat
  | [] => 0
  | x :: r => uptoBulkEntry x + uptoBulkEntries r
def uptoBulkEntry {H : Type} : Lit × DataW H → Nat
  | (.string bytes, d) => bytes.length + uptoBulk d + 1
  | (_, d) => uptoBulk d + 1
 end
def uptoSmall : (H : Type) → List (DataW H) → Bool := fun _ ds => decide (uptoBulkAll ds ≤ 1048576)
def OpenSpec.upto (s : _root_.Go.ChangeSpec) : _root_.Go.OpenSpec := { _root_.Go.OpenSpec.ofChange s with cond := some uptoSmall }

/-- 'cellaragelaw13.IndexTwins', WHERE WHAT IT READS IS OF BULK AT MOST 1048576: true; the input reads as it did. -/
def indexTwinsUptoRow : OpenClaim := { program := "ytnfbchhbcinloaa", sum := "50fd320b41e5a7e9847ee9c240700c694c23fef8c8319e117e46514cf19ab9d4", func := "cellarage/cellaragelaw13.IndexTwins", spec := "indexTwins", inPlace := ["slices.overlaps[uint32]"], plainKeys := false, apart := false, narrowed := true }
def IndexTwinsUptoSaid : Prop := indexTwinsUptoRow.holds Try.pinned (OpenSpec.upto indexTwinsSpec)

/-- 'cellaragelaw13.IndexOrder', WHERE WHAT IT READS IS OF BULK AT MOST 1048576: true; the input reads as it did. -/
def indexOrderUptoRow : OpenClaim := { program := "ytnfbchhbcinloaa", sum := "50fd320b41e5a7e9847ee9c240700c694c23fef8c8319e117e46514cf19ab9d4", func := "cellarage/cellaragelaw13.IndexOrder", spec := "indexOrder", inPlace := ["slices.overlaps[uint32]", "internal/bytealg.Compare"], unfollowed := true, recurses := true, plainKeys := false, apart := false, narrowed := true }
def IndexOrderUptoSaid : Prop := indexOrderUptoRow.holds Try.pinned (OpenSpec.upto indexOrderSpec)

/-- 'cellaragelaw13.IndexPlays', WHERE WHAT IT READS IS OF BULK AT MOST 1048576: true; the input reads as it did. -/
def indexPlaysUptoRow : OpenClaim := { program := "ytnfbchhbcinloaa", sum := "50fd320b41e5a7e9847ee9c240700c694c23fef8c8319e117e46514cf19ab9d4", func := "cellarage/cellaragelaw13.IndexPlays", spec := "indexPlays", inPlace := ["slices.overlaps[uint32]", "internal/bytealg.Compare"], unfollowed := true, recurses := true, plainKeys := false, apart := false, narrowed := true }
def IndexPlaysUptoSaid : Prop := indexPlaysUptoRow.holds Try.pinned (OpenSpec.upto indexPlaysSpec)

/-- 'cellaragelaw13.IndexParts', WHERE WHAT IT READS IS OF BULK AT MOST 1048576: true; the input reads as it did. -/
def indexPartsUptoRow : OpenClaim := { program := "ytnfbchhbcinloaa", sum := "50fd320b41e5a7e9847ee9c240700c694c23fef8c8319e117e46514cf19ab9d4", func := "cellarage/cellaragelaw13.IndexParts", spec := "indexParts", inPlace := ["slices.overlaps[uint32]", "internal/bytealg.Compare"], unfollowed := true, recurses := true, plainKeys := false, apart := false, narrowed := true }
def IndexPartsUptoSaid : Prop := indexPartsUptoRow.holds Try.pinned (OpenSpec.upto indexPartsSpec)

/-- 'cellaragelaw13.IndexNil', WHERE WHAT IT READS IS OF BULK AT MOST 1048576: true; the input reads as it did. -/
def indexNilUptoRow : OpenClaim := { program := "ytnfbchhbcinloaa", sum := "50fd320b41e5a7e9847ee9c240700c694c23fef8c8319e117e46514cf19ab9d4", func := "cellarage/cellaragelaw13.IndexNil", spec := "indexNil", inPlace := ["slices.overlaps[uint32]", "internal/bytealg.Compare"], unfollowed := true, recurses := true, plainKeys := false, apart := false, narrowed := true }
def IndexNilUptoSaid : Prop := indexNilUptoRow.holds Try.pinned (OpenSpec.upto indexNilSpec)

/-- 'cellaragelaw15.FindCheap', WHERE WHAT IT READS IS OF BULK AT MOST 1048576: true; the input reads as it did. -/
def findCheapUptoRow : OpenClaim := { program := "ytnfbchhbcinloaa", sum := "50fd320b41e5a7e9847ee9c240700c694c23fef8c8319e117e46514cf19ab9d4", func := "cellarage/cellaragelaw15.FindCheap", spec := "findCheap", inPlace := ["slices.overlaps[uint32]", "internal/bytealg.Compare"], unfollowed := true, recurses := true, plainKeys := false, apart := false, narrowed := true }
def FindCheapUptoSaid : Prop := findCheapUptoRow.holds Try.pinned (OpenSpec.upto findCheapSpec)

/-- 'cellaragelaw15.FindSame', WHERE WHAT IT READS IS OF BULK AT MOST 1048576: true; the input reads as it did. -/
def findSameUptoRow : OpenClaim := { program := "ytnfbchhbcinloaa", sum := "50fd320b41e5a7e9847ee9c240700c694c23fef8c8319e117e46514cf19ab9d4", func := "cellarage/cellaragelaw15.FindSame", spec := "findSame", inPlace := ["slices.overlaps[uint32]", "internal/bytealg.Compare"], unfollowed := true, recurses := true, plainKeys := false, apart := false, narrowed := true }
def FindSameUptoSaid : Prop := findSameUptoRow.holds Try.pinned (OpenSpec.upto findSameSpec)

/-- 'cellaragelaw15.FindTwins', WHERE WHAT IT READS IS OF BULK AT MOST 1048576: true; the input reads as it did. -/
def findTwinsUptoRow : OpenClaim := { program := "ytnfbchhbcinloaa", sum := "50fd320b41e5a7e9847ee9c240700c694c23fef8c8319e117e46514cf19ab9d4", func := "cellarage/cellaragelaw15.FindTwins", spec := "findTwins", inPlace := ["slices.overlaps[uint32]", "internal/bytealg.Compare"], unfollowed := true, recurses := true, plainKeys := false, apart := false, narrowed := true }
def FindTwinsUptoSaid : Prop := findTwinsUptoRow.holds Try.pinned (OpenSpec.upto findTwinsSpec)

/-- 'cellaragelaw15.FindNil', WHERE WHAT IT READS IS OF BULK AT MOST 1048576: true; the input reads as it did. -/
def findNilUptoRow : OpenClaim := { program := "ytnfbchhbcinloaa", sum := "50fd320b41e5a7e9847ee9c240700c694c23fef8c8319e117e46514cf19ab9d4", func := "cellarage/cellaragelaw15.FindNil", spec := "findNil", inPlace := ["slices.overlaps[uint32]", "internal/bytealg.Compare"], unfollowed := true, recurses := true, plainKeys := false, apart := false, narrowed := true }
def FindNilUptoSaid : Prop := findNilUptoRow.holds Try.pinned (OpenSpec.upto findNilSpec)

end Rows
end Go.Proofs.Ytnfbchhbcinloaa
