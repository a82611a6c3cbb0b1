/-
  No cell of these rows narrows 'for every input' (looked for: loops, veiled, ifaces, maps, wideKeys, modest, calm, conditions, laid).
  DERIVED. THE GIVEN ROWS OF THIS SEAT. 6 by the template 'for every input the law returns true; each argument reads behind the call as it read before'; 0 by the template 'total and deterministic' (their statements: YtfblpabkkahmeaaTotals.lean).
  GIVEN WITH THE SEED: the statements are not yours to turn. If you find one false, say at which input.
  Laid BY PROGRAM, IN A SANDBOX (cutbox-rows.mjs): the forced cells as the released guide's own fill.sh prints them over the translation 0c7fee679e8abe9c… (all of the seat's roots in one cut). By AI agents, Wed Nov 11 2026. No macro, syntax, notation, axiom, sorry.
-/
import Derived.Test.YtfblpabkkahmeaaChecked
import GoSem.Claim
import GoSem.ClaimJoined
import GoSem.ClaimMapViews
import Derived.JoinedTies
import Derived.KernelRfl
namespace Go.Proofs.Ytfblpabkkahmeaa
/- THE CELL 'sum', in the pinned program and in every row, IS THE sha256 OF THE DUMP (.gsa) THAT YtfblpabkkahmeaaProg.lean LOADS. Nothing in Lean hashes anything: it is a label: what it is worth is what the hold of that sum in a sandbox is worth. -/
noncomputable def Try.pinned : Pinned := { name := "ytfblpabkkahmeaa", sum := "0c7fee679e8abe9cb72af4d3246fb1cdf98dbf07c5f3e6f5c1012fb0b683e2e0", checked := Try.checked }
namespace Rows
def none {H : Type} : Left H := { results := [], args := [] }

/-- 'cellaragelaw18.TreePlays': WHATEVER THE INPUT: true; the input reads as it did. -/
def treePlaysSpec : ChangeSpec := { name := "treePlays", fn := fun _ => fun
  | [d1, d2, d3] => { results := [.lit (.bool true)], args := [d1, d2, d3] }
  | _ => none }
def treePlaysRow : OpenClaim := { program := "ytfblpabkkahmeaa", sum := "0c7fee679e8abe9cb72af4d3246fb1cdf98dbf07c5f3e6f5c1012fb0b683e2e0", func := "cellarage/cellaragelaw18.TreePlays", spec := "treePlays", unfollowed := true, recurses := true, apart := false }
def TreePlaysSaid : Prop := treePlaysRow.holds Try.pinned (OpenSpec.ofChange treePlaysSpec)

/-- ITS FALSE NEIGHBOUR: 'it returns false'. Refute it at one input. -/
def treePlaysWrong : ChangeSpec := { name := "treePlays", fn := fun _ => fun
  | [d1, d2, d3] => { results := [.lit (.bool false)], args := [d1, d2, d3] }
  | _ => none }
def TreePlaysWrongFalsely : Prop := treePlaysRow.holds Try.pinned (OpenSpec.ofChange treePlaysWrong)

/-- 'cellaragelaw18.TreeKept': WHATEVER THE INPUT: true; the input reads as it did. -/
def treeKeptSpec : ChangeSpec := { name := "treeKept", fn := fun _ => fun
  | [d1, d2] => { results := [.lit (.bool true)], args := [d1, d2] }
  | _ => none }
def treeKeptRow : OpenClaim := { program := "ytfblpabkkahmeaa", sum := "0c7fee679e8abe9cb72af4d3246fb1cdf98dbf07c5f3e6f5c1012fb0b683e2e0", func := "cellarage/cellaragelaw18.TreeKept", spec := "treeKept", unfollowed := true, recurses := true, apart := false }
def TreeKeptSaid : Prop := treeKeptRow.holds Try.pinned (OpenSpec.ofChange treeKeptSpec)

/-- ITS FALSE NEIGHBOUR: 'it returns false'. Refute it at one input. -/
def treeKeptWrong : ChangeSpec := { name := "treeKept", fn := fun _ => fun
  | [d1, d2] => { results := [.lit (.bool false)], args := [d1, d2] }
  | _ => none }
def TreeKeptWrongFalsely : Prop := treeKeptRow.holds Try.pinned (OpenSpec.ofChange treeKeptWrong)

/-- 'cellaragelaw18.TreeOrder': WHATEVER THE INPUT: true; the input reads as it did. -/
def treeOrderSpec : ChangeSpec := { name := "treeOrder", fn := fun _ => fun
  | [d] => { results := [.lit (.bool true)], args := [d] }
  | _ => none }
def treeOrderRow : OpenClaim := { program := "ytfblpabkkahmeaa", sum := "0c7fee679e8abe9cb72af4d3246fb1cdf98dbf07c5f3e6f5c1012fb0b683e2e0", func := "cellarage/cellaragelaw18.TreeOrder", spec := "treeOrder", unfollowed := true, recurses := true, apart := false }
def TreeOrderSaid : Prop := treeOrderRow.holds Try.pinned (OpenSpec.ofChange treeOrderSpec)

/-- ITS FALSE NEIGHBOUR: 'it returns false'. Refute it at one input. -/
def treeOrderWrong : ChangeSpec := { name := "treeOrder", fn := fun _ => fun
  | [d] => { results := [.lit (.bool false)], args := [d] }
  | _ => none }
def TreeOrderWrongFalsely : Prop := treeOrderRow.holds Try.pinned (OpenSpec.ofChange treeOrderWrong)

/-- 'cellaragelaw18.TreePages': WHATEVER THE INPUT: true; the input reads as it did. -/
def treePagesSpec : ChangeSpec := { name := "treePages", fn := fun _ => fun
  | [d1, d2, d3] => { results := [.lit (.bool true)], args := [d1, d2, d3] }
  | _ => none }
def treePagesRow : OpenClaim := { program := "ytfblpabkkahmeaa", sum := "0c7fee679e8abe9cb72af4d3246fb1cdf98dbf07c5f3e6f5c1012fb0b683e2e0", func := "cellarage/cellaragelaw18.TreePages", spec := "treePages", unfollowed := true, recurses := true, apart := false }
def TreePagesSaid : Prop := treePagesRow.holds Try.pinned (OpenSpec.ofChange treePagesSpec)

/-- ITS FALSE NEIGHBOUR: 'it returns false'. Refute it at one input. -/
def treePagesWrong : ChangeSpec := { name := "treePages", fn := fun _ => fun
  | [d1, d2, d3] => { results := [.lit (.bool false)], args := [d1, d2, d3] }
  | _ => none }
def TreePagesWrongFalsely : Prop := treePagesRow.holds Try.pinned (OpenSpec.ofChange treePagesWrong)

/-- 'cellaragelaw18.TreeAgain': WHATEVER THE INPUT: true; the input reads as it did. -/
def treeAgainSpec : ChangeSpec := { name := "treeAgain", fn := fun _ => fun
  | [d1, d2, d3] => { results := [.lit (.bool true)], args := [d1, d2, d3] }
  | _ => none }
def treeAgainRow : OpenClaim := { program := "ytfblpabkkahmeaa", sum := "0c7fee679e8abe9cb72af4d3246fb1cdf98dbf07c5f3e6f5c1012fb0b683e2e0", func := "cellarage/cellaragelaw18.TreeAgain", spec := "treeAgain", unfollowed := true, recurses := true, apart := false }
def TreeAgainSaid : Prop := treeAgainRow.holds Try.pinned (OpenSpec.ofChange treeAgainSpec)

/-- ITS FALSE NEIGHBOUR: 'it returns false'. Refute it at one input. -/
def treeAgainWrong : ChangeSpec := { name := "treeAgain", fn := fun _ => fun
  | [d1, d2, d3] => { results := [.lit (.bool false)], args := [d1, d2, d3] }
  | _ => none }
def TreeAgainWrongFalsely : Prop := treeAgainRow.holds Try.pinned (OpenSpec.ofChange treeAgainWrong)

/-- 'cellaragelaw18.TreeLow': WHATEVER THE INPUT: true; the input reads as it did. -/
def treeLowSpec : ChangeSpec := { name := "treeLow", fn := fun _ => fun
  | [d] => { results := [.lit (.bool true)], args := [d] }
  | _ => none }
def treeLowRow : OpenClaim := { program := "ytfblpabkkahmeaa", sum := "0c7fee679e8abe9cb72af4d3246fb1cdf98dbf07c5f3e6f5c1012fb0b683e2e0", func := "cellarage/cellaragelaw18.TreeLow", spec := "treeLow", unfollowed := true, recurses := true, apart := false }
def TreeLowSaid : Prop := treeLowRow.holds Try.pinned (OpenSpec.ofChange treeLowSpec)

/-- ITS FALSE NEIGHBOUR: 'it returns false'. Refute it at one input. -/
def treeLowWrong : ChangeSpec := { name := "treeLow", fn := fun _ => fun
  | [d] => { results := [.lit (.bool false)], args := [d] }
  | _ => none }
def TreeLowWrongFalsely : Prop := treeLowRow.holds Try.pinned (OpenSpec.ofChange treeLowWrong)

/- THE SECOND FORM. 'bulk': how many values and letters a reading holds, each counted each time it is reached (what is shared counts as often as it is met; a slice's spare places count too). A statement '..UptoSaid' is the law's where the arguments, and the package variables that the reading takes, are together of bulk at most 1048576: NARROWER than '..Said'. Prove '..Said' where nothing that the law and all that it calls make is longer than what came in: it says more and counts as full. Else prove '..UptoSaid'. A law counts once. -/
mutual
def uptoBulk {H : Type} : DataW H → Nat
  | .lit (.string bytes) => bytes.length + 1
  | .lit _ => 1
  | .nil => 1
  | .ptr d => uptoBulk d + 1
  | .slice elems spare => uptoBulkAll elems + uptoBulkAll spare + 1
  | .agg parts => uptoBulkAll parts + 1
  | .iface _ d => uptoBulk d + 1
  | .map entries => uptoBulkEntries entries + 1
  | .held _ => 1
def uptoBulkAll {H : Type} : List (DataW H) → Nat
  | [] => 0
  | d :: r => uptoBulk d + uptoBulkAll r
def uptoBulkEntries {H : Type} : List (Lit × DataW H) → Nat
  | [] => 0
  | x :: r => uptoBulkEntry x + uptoBulkEntries r
def uptoBulkEntry {H : Type} : Lit × DataW H → Nat
  | (.string bytes, d) => bytes.length + uptoBulk d + 1
  | (_, d) => uptoBulk d + 1
 end
def uptoSmall : (H : Type) → List (DataW H) → Bool := fun _ ds => decide (uptoBulkAll ds ≤ 1048576)
def OpenSpec.upto (s : _root_.Go.ChangeSpec) : _root_.Go.OpenSpec := { _root_.Go.OpenSpec.ofChange s with cond := some uptoSmall }

/-- 'cellaragelaw18.TreePlays', WHERE WHAT IT READS IS OF BULK AT MOST 1048576: true; the input reads as it did. -/
def treePlaysUptoRow : OpenClaim := { program := "ytfblpabkkahmeaa", sum := "0c7fee679e8abe9cb72af4d3246fb1cdf98dbf07c5f3e6f5c1012fb0b683e2e0", func := "cellarage/cellaragelaw18.TreePlays", spec := "treePlays", unfollowed := true, recurses := true, apart := false, narrowed := true }
def TreePlaysUptoSaid : Prop := treePlaysUptoRow.holds Try.pinned (OpenSpec.upto treePlaysSpec)

/-- 'cellaragelaw18.TreeKept', WHERE WHAT IT READS IS OF BULK AT MOST 1048576: true; the input reads as it did. -/
def treeKeptUptoRow : OpenClaim := { program := "ytfblpabkkahmeaa", sum := "0c7fee679e8abe9cb72af4d3246fb1cdf98dbf07c5f3e6f5c1012fb0b683e2e0", func := "cellarage/cellaragelaw18.TreeKept", spec := "treeKept", unfollowed := true, recurses := true, apart := false, narrowed := true }
def TreeKeptUptoSaid : Prop := treeKeptUptoRow.holds Try.pinned (OpenSpec.upto treeKeptSpec)

/-- 'cellaragelaw18.TreeOrder', WHERE WHAT IT READS IS OF BULK AT MOST 1048576: true; the input reads as it did. -/
def treeOrderUptoRow : OpenClaim := { program := "ytfblpabkkahmeaa", sum := "0c7fee679e8abe9cb72af4d3246fb1cdf98dbf07c5f3e6f5c1012fb0b683e2e0", func := "cellarage/cellaragelaw18.TreeOrder", spec := "treeOrder", unfollowed := true, recurses := true, apart := false, narrowed := true }
def TreeOrderUptoSaid : Prop := treeOrderUptoRow.holds Try.pinned (OpenSpec.upto treeOrderSpec)

/-- 'cellaragelaw18.TreePages', WHERE WHAT IT READS IS OF BULK AT MOST 1048576: true; the input reads as it did. -/
def treePagesUptoRow : OpenClaim := { program := "ytfblpabkkahmeaa", sum := "0c7fee679e8abe9cb72af4d3246fb1cdf98dbf07c5f3e6f5c1012fb0b683e2e0", func := "cellarage/cellaragelaw18.TreePages", spec := "treePages", unfollowed := true, recurses := true, apart := false, narrowed := true }
def TreePagesUptoSaid : Prop := treePagesUptoRow.holds Try.pinned (OpenSpec.upto treePagesSpec)

/-- 'cellaragelaw18.TreeAgain', WHERE WHAT IT READS IS OF BULK AT MOST 1048576: true; the input reads as it did. -/
def treeAgainUptoRow : OpenClaim := { program := "ytfblpabkkahmeaa", sum := "0c7fee679e8abe9cb72af4d3246fb1cdf98dbf07c5f3e6f5c1012fb0b683e2e0", func := "cellarage/cellaragelaw18.TreeAgain", spec := "treeAgain", unfollowed := true, recurses := true, apart := false, narrowed := true }
def TreeAgainUptoSaid : Prop := treeAgainUptoRow.holds Try.pinned (OpenSpec.upto treeAgainSpec)

/-- 'cellaragelaw18.TreeLow', WHERE WHAT IT READS IS OF BULK AT MOST 1048576: true; the input reads as it did. -/
def treeLowUptoRow : OpenClaim := { program := "ytfblpabkkahmeaa", sum := "0c7fee679e8abe9cb72af4d3246fb1cdf98dbf07c5f3e6f5c1012fb0b683e2e0", func := "cellarage/cellaragelaw18.TreeLow", spec := "treeLow", unfollowed := true, recurses := true, apart := false, narrowed := true }
def TreeLowUptoSaid : Prop := treeLowUptoRow.holds Try.pinned (OpenSpec.upto treeLowSpec)

end Rows
end Go.Proofs.Ytfblpabkkahmeaa
