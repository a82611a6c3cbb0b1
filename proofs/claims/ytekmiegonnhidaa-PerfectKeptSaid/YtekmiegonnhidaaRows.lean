/-
  No cell of these rows narrows 'for every input' (looked for: loops, veiled, ifaces, maps, wideKeys, modest, calm, conditions, laid).
  DERIVED. THE GIVEN ROWS OF THIS SEAT. 5 by the template 'for every input the law returns true; each argument reads behind the call as it read before'; 0 by the template 'total and deterministic' (their statements: YtekmiegonnhidaaTotals.lean).
  GIVEN WITH THE SEED: the statements are not yours to turn. If you find one false, say at which input.
  Laid BY PROGRAM, IN A SANDBOX (cutbox-rows.mjs): the forced cells as the released guide's own fill.sh prints them over the translation 2220c066935d337d… (all of the seat's roots in one cut). By AI agents, Wed Nov 11 2026. No macro, syntax, notation, axiom, sorry.
-/
import Derived.Test.YtekmiegonnhidaaChecked
import GoSem.Claim
import GoSem.ClaimJoined
import GoSem.ClaimMapViews
import Derived.JoinedTies
import Derived.KernelRfl
namespace Go.Proofs.Ytekmiegonnhidaa
/- THE CELL 'sum', in the pinned program and in every row, IS THE sha256 OF THE DUMP (.gsa) THAT YtekmiegonnhidaaProg.lean LOADS. Nothing in Lean hashes anything: it is a label: what it is worth is what the hold of that sum in a sandbox is worth. -/
noncomputable def Try.pinned : Pinned := { name := "ytekmiegonnhidaa", sum := "2220c066935d337d0c9d2caa922ba1f7f293f9ad05d1ddbd6e13d8877a1b2c0c", checked := Try.checked }
namespace Rows
def none {H : Type} : Left H := { results := [], args := [] }

/-- 'cellaragelaw07.PerfectHashes': WHATEVER THE INPUT: true; the input reads as it did. -/
def perfectHashesSpec : ChangeSpec := { name := "perfectHashes", fn := fun _ => fun
  | [d1, d2] => { results := [.lit (.bool true)], args := [d1, d2] }
  | _ => none }
def perfectHashesRow : OpenClaim := { program := "ytekmiegonnhidaa", sum := "2220c066935d337d0c9d2caa922ba1f7f293f9ad05d1ddbd6e13d8877a1b2c0c", func := "cellarage/cellaragelaw07.PerfectHashes", spec := "perfectHashes", unfollowed := true, recurses := true, plainKeys := false, apart := false }
def PerfectHashesSaid : Prop := perfectHashesRow.holds Try.pinned (OpenSpec.ofChange perfectHashesSpec)

/-- ITS FALSE NEIGHBOUR: 'it returns false'. Refute it at one input. -/
def perfectHashesWrong : ChangeSpec := { name := "perfectHashes", fn := fun _ => fun
  | [d1, d2] => { results := [.lit (.bool false)], args := [d1, d2] }
  | _ => none }
def PerfectHashesWrongFalsely : Prop := perfectHashesRow.holds Try.pinned (OpenSpec.ofChange perfectHashesWrong)

/-- 'cellaragelaw07.PerfectOnce': WHATEVER THE INPUT: true; the input reads as it did. -/
def perfectOnceSpec : ChangeSpec := { name := "perfectOnce", fn := fun _ => fun
  | [d1, d2] => { results := [.lit (.bool true)], args := [d1, d2] }
  | _ => none }
def perfectOnceRow : OpenClaim := { program := "ytekmiegonnhidaa", sum := "2220c066935d337d0c9d2caa922ba1f7f293f9ad05d1ddbd6e13d8877a1b2c0c", func := "cellarage/cellaragelaw07.PerfectOnce", spec := "perfectOnce", unfollowed := true, recurses := true, plainKeys := false, apart := false }
def PerfectOnceSaid : Prop := perfectOnceRow.holds Try.pinned (OpenSpec.ofChange perfectOnceSpec)

/-- ITS FALSE NEIGHBOUR: 'it returns false'. Refute it at one input. -/
def perfectOnceWrong : ChangeSpec := { name := "perfectOnce", fn := fun _ => fun
  | [d1, d2] => { results := [.lit (.bool false)], args := [d1, d2] }
  | _ => none }
def PerfectOnceWrongFalsely : Prop := perfectOnceRow.holds Try.pinned (OpenSpec.ofChange perfectOnceWrong)

/-- 'cellaragelaw07.PerfectKept': WHATEVER THE INPUT: true; the input reads as it did. -/
def perfectKeptSpec : ChangeSpec := { name := "perfectKept", fn := fun _ => fun
  | [d] => { results := [.lit (.bool true)], args := [d] }
  | _ => none }
def perfectKeptRow : OpenClaim := { program := "ytekmiegonnhidaa", sum := "2220c066935d337d0c9d2caa922ba1f7f293f9ad05d1ddbd6e13d8877a1b2c0c", func := "cellarage/cellaragelaw07.PerfectKept", spec := "perfectKept", unfollowed := true, recurses := true, plainKeys := false, apart := false }
def PerfectKeptSaid : Prop := perfectKeptRow.holds Try.pinned (OpenSpec.ofChange perfectKeptSpec)

/-- ITS FALSE NEIGHBOUR: 'it returns false'. Refute it at one input. -/
def perfectKeptWrong : ChangeSpec := { name := "perfectKept", fn := fun _ => fun
  | [d] => { results := [.lit (.bool false)], args := [d] }
  | _ => none }
def PerfectKeptWrongFalsely : Prop := perfectKeptRow.holds Try.pinned (OpenSpec.ofChange perfectKeptWrong)

/-- 'cellaragelaw07.PerfectBuilds': WHATEVER THE INPUT: true; the input reads as it did. -/
def perfectBuildsSpec : ChangeSpec := { name := "perfectBuilds", fn := fun _ => fun
  | [d1, d2] => { results := [.lit (.bool true)], args := [d1, d2] }
  | _ => none }
def perfectBuildsRow : OpenClaim := { program := "ytekmiegonnhidaa", sum := "2220c066935d337d0c9d2caa922ba1f7f293f9ad05d1ddbd6e13d8877a1b2c0c", func := "cellarage/cellaragelaw07.PerfectBuilds", spec := "perfectBuilds", unfollowed := true, recurses := true, plainKeys := false, apart := false }
def PerfectBuildsSaid : Prop := perfectBuildsRow.holds Try.pinned (OpenSpec.ofChange perfectBuildsSpec)

/-- ITS FALSE NEIGHBOUR: 'it returns false'. Refute it at one input. -/
def perfectBuildsWrong : ChangeSpec := { name := "perfectBuilds", fn := fun _ => fun
  | [d1, d2] => { results := [.lit (.bool false)], args := [d1, d2] }
  | _ => none }
def PerfectBuildsWrongFalsely : Prop := perfectBuildsRow.holds Try.pinned (OpenSpec.ofChange perfectBuildsWrong)

/-- 'cellaragelaw07.PerfectNil': WHATEVER THE INPUT: true; the input reads as it did. -/
def perfectNilSpec : ChangeSpec := { name := "perfectNil", fn := fun _ => fun
  | [d] => { results := [.lit (.bool true)], args := [d] }
  | _ => none }
def perfectNilRow : OpenClaim := { program := "ytekmiegonnhidaa", sum := "2220c066935d337d0c9d2caa922ba1f7f293f9ad05d1ddbd6e13d8877a1b2c0c", func := "cellarage/cellaragelaw07.PerfectNil", spec := "perfectNil", unfollowed := true, recurses := true, plainKeys := false, apart := false }
def PerfectNilSaid : Prop := perfectNilRow.holds Try.pinned (OpenSpec.ofChange perfectNilSpec)

/-- ITS FALSE NEIGHBOUR: 'it returns false'. Refute it at one input. -/
def perfectNilWrong : ChangeSpec := { name := "perfectNil", fn := fun _ => fun
  | [d] => { results := [.lit (.bool false)], args := [d] }
  | _ => none }
def PerfectNilWrongFalsely : Prop := perfectNilRow.holds Try.pinned (OpenSpec.ofChange perfectNilWrong)

/- THE SECOND FORM. 'bulk': how many values and letters a reading holds, each counted each time it is reached (what is shared counts as often as it is met; a slice's spare places count too). A statement '..UptoSaid' is the law's where the arguments, and the package variables that the reading takes, are together of bulk at most 1048576: NARROWER than '..Said'. Prove '..Said' where nothing that the law and all that it calls make is longer than what came in: it says more and counts as full. Else prove '..UptoSaid'. A law counts once. -/
mutual
def uptoBulk {H : Type} : DataW H → Nat
  | .lit (.string bytes) => bytes.length + 1
  | .lit _ => 1
  | .nil => 1
  | .ptr d => uptoBulk d + 1
  | .slice elems spare => uptoBulkAll elems + uptoBulkAll spare + 1
  | .agg parts => uptoBulkAll parts + 1
  | .iface _ d => uptoBulk d + 1
  | .map entries => uptoBulkEntries entries + 1
  | .held _ => 1
def uptoBulkAll {H : Type} : List (DataW H) → Nat
  | [] => 0
  | d :: r => uptoBulk d + uptoBulkAll r
def uptoBulkEntries {H : Type} : List (Lit × DataW H) → Nat
  | [] => 0
  | x :: r => uptoBulkEntry x + uptoBulkEntries r
def uptoBulkEntry {H : Type} : Lit × DataW H → Nat
  | (.string bytes, d) => bytes.length + uptoBulk d + 1
  | (_, d) => uptoBulk d + 1
 end
def uptoSmall : (H : Type) → List (DataW H) → Bool := fun _ ds => decide (uptoBulkAll ds ≤ 1048576)
def OpenSpec.upto (s : _root_.Go.ChangeSpec) : _root_.Go.OpenSpec := { _root_.Go.OpenSpec.ofChange s with cond := some uptoSmall }

/-- 'cellaragelaw07.PerfectHashes', WHERE WHAT IT READS IS OF BULK AT MOST 1048576: true; the input reads as it did. -/
def perfectHashesUptoRow : OpenClaim := { program := "ytekmiegonnhidaa", sum := "2220c066935d337d0c9d2caa922ba1f7f293f9ad05d1ddbd6e13d8877a1b2c0c", func := "cellarage/cellaragelaw07.PerfectHashes", spec := "perfectHashes", unfollowed := true, recurses := true, plainKeys := false, apart := false, narrowed := true }
def PerfectHashesUptoSaid : Prop := perfectHashesUptoRow.holds Try.pinned (OpenSpec.upto perfectHashesSpec)

/-- 'cellaragelaw07.PerfectOnce', WHERE WHAT IT READS IS OF BULK AT MOST 1048576: true; the input reads as it did. -/
def perfectOnceUptoRow : OpenClaim := { program := "ytekmiegonnhidaa", sum := "2220c066935d337d0c9d2caa922ba1f7f293f9ad05d1ddbd6e13d8877a1b2c0c", func := "cellarage/cellaragelaw07.PerfectOnce", spec := "perfectOnce", unfollowed := true, recurses := true, plainKeys := false, apart := false, narrowed := true }
def PerfectOnceUptoSaid : Prop := perfectOnceUptoRow.holds Try.pinned (OpenSpec.upto perfectOnceSpec)

/-- 'cellaragelaw07.PerfectKept', WHERE WHAT IT READS IS OF BULK AT MOST 1048576: true; the input reads as it did. -/
def perfectKeptUptoRow : OpenClaim := { program := "ytekmiegonnhidaa", sum := "2220c066935d337d0c9d2caa922ba1f7f293f9ad05d1ddbd6e13d8877a1b2c0c", func := "cellarage/cellaragelaw07.PerfectKept", spec := "perfectKept", unfollowed := true, recurses := true, plainKeys := false, apart := false, narrowed := true }
def PerfectKeptUptoSaid : Prop := perfectKeptUptoRow.holds Try.pinned (OpenSpec.upto perfectKeptSpec)

/-- 'cellaragelaw07.PerfectBuilds', WHERE WHAT IT READS IS OF BULK AT MOST 1048576: true; the input reads as it did. -/
def perfectBuildsUptoRow : OpenClaim := { program := "ytekmiegonnhidaa", sum := "2220c066935d337d0c9d2caa922ba1f7f293f9ad05d1ddbd6e13d8877a1b2c0c", func := "cellarage/cellaragelaw07.PerfectBuilds", spec := "perfectBuilds", unfollowed := true, recurses := true, plainKeys := false, apart := false, narrowed := true }
def PerfectBuildsUptoSaid : Prop := perfectBuildsUptoRow.holds Try.pinned (OpenSpec.upto perfectBuildsSpec)

/-- 'cellaragelaw07.PerfectNil', WHERE WHAT IT READS IS OF BULK AT MOST 1048576: true; the input reads as it did. -/
def perfectNilUptoRow : OpenClaim := { program := "ytekmiegonnhidaa", sum := "2220c066935d337d0c9d2caa922ba1f7f293f9ad05d1ddbd6e13d8877a1b2c0c", func := "cellarage/cellaragelaw07.PerfectNil", spec := "perfectNil", unfollowed := true, recurses := true, plainKeys := false, apart := false, narrowed := true }
def PerfectNilUptoSaid : Prop := perfectNilUptoRow.holds Try.pinned (OpenSpec.upto perfectNilSpec)

end Rows
end Go.Proofs.Ytekmiegonnhidaa
