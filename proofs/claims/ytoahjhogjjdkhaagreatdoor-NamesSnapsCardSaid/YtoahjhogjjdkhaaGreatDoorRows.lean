/-
  NARROWER THAN 'FOR EVERY INPUT', by the rows' own cells (each row's printed sentence says how): NamesSnaps: laid · NamesStands: laid · NamesRenames: laid · NamesTakes: laid · NamesBack: laid · NamesPlays: laid · NamesNil: laid.
  DERIVED. THE GIVEN ROWS OF THIS SEAT. 7 by the template 'for every input the law returns true; each argument reads behind the call as it read before'; 0 by the template 'total and deterministic' (their statements: YtoahjhogjjdkhaaGreatDoorTotals.lean).
  GIVEN WITH THE SEED: the statements are not yours to turn. If you find one false, say at which input.
  Laid BY PROGRAM, IN A SANDBOX (cutbox-rows.mjs): the forced cells as the released guide's own fill.sh prints them over the translation 9e621332a6035682… (all of the seat's roots in one cut). By AI agents, Wed Nov 11 2026. No macro, syntax, notation, axiom, sorry.
-/
import Derived.Test.YtoahjhogjjdkhaaGreatDoorChecked
import GoSem.PinnedTables
import GoSem.Claim
import GoSem.ClaimJoined
import GoSem.ClaimMapViews
import Derived.JoinedTies
import Derived.KernelRfl
namespace Go.Proofs.YtoahjhogjjdkhaaGreatDoor
/- THE CELL 'sum', in the pinned program and in every row, IS THE sha256 OF THE DUMP (.gsa) THAT YtoahjhogjjdkhaaGreatDoorProg.lean LOADS. Nothing in Lean hashes anything: it is a label: what it is worth is what the hold of that sum in a sandbox is worth. -/
noncomputable def Tryz.pinned : Pinned := { name := "ytoahjhogjjdkhaagreatdoor", sum := "9e621332a60356824156388214f472ed50d6ce4c2122e99c30b5275deb74f1b3", checked := Tryz.checked }
namespace Rows
def none {H : Type} : Left H := { results := [], args := [] }

/- WHAT THE LISTED PACKAGE-LEVEL VARIABLES READ AS WHEN THE CALL BEGINS. Each datum BY PROGRAM (the guide's laid-datum.mjs) off the statement by which the dump's own 'gosem.cut.vars' lays the variable. In a bare row this is a premise. The card (YtoahjhogjjdkhaaGreatDoorCards.lean) ties it to the program's text. -/
def laid_unicode_utf8_acceptRanges {H : Type} : DataW H := .agg [.agg [.lit (.int .u8 128), .lit (.int .u8 191)], .agg [.lit (.int .u8 160), .lit (.int .u8 191)], .agg [.lit (.int .u8 128), .lit (.int .u8 159)], .agg [.lit (.int .u8 144), .lit (.int .u8 191)], .agg [.lit (.int .u8 128), .lit (.int .u8 143)], .agg [.lit (.int .u8 0), .lit (.int .u8 0)], .agg [.lit (.int .u8 0), .lit (.int .u8 0)], .agg [.lit (.int .u8 0), .lit (.int .u8 0)], .agg [.lit (.int .u8 0), .lit (.int .u8 0)], .agg [.lit (.int .u8 0), .lit (.int .u8 0)], .agg [.lit (.int .u8 0), .lit (.int .u8 0)], .agg [.lit (.int .u8 0), .lit (.int .u8 0)], .agg [.lit (.int .u8 0), .lit (.int .u8 0)], .agg [.lit (.int .u8 0), .lit (.int .u8 0)], .agg [.lit (.int .u8 0), .lit (.int .u8 0)], .agg [.lit (.int .u8 0), .lit (.int .u8 0)]]
/-- One of Go's own tables, pinned by name: the form's constant. -/
def laid_unicode_utf8_first : DataW Unit := Go.Pinned.utf8First

/-- 'cellaragelaw19.NamesSnaps': WHATEVER THE INPUT: true; the input reads as it did. -/
def namesSnapsSpec : ChangeSpec := { name := "namesSnaps", fn := fun _ => fun
  | [d1, d2] => { results := [.lit (.bool true)], args := [d1, d2] }
  | _ => none }
def namesSnapsRow : OpenClaim := { program := "ytoahjhogjjdkhaagreatdoor", sum := "9e621332a60356824156388214f472ed50d6ce4c2122e99c30b5275deb74f1b3", func := "cellarage/cellaragelaw19.NamesSnaps", spec := "namesSnaps", inPlace := ["internal/bytealg.CountString", "internal/bytealg.IndexByteString", "internal/bytealg.IndexString"], unfollowed := true, recurses := true, named := ["unicode/utf8.first", "unicode/utf8.acceptRanges", "internal/bytealg.MaxLen"], plainKeys := false, apart := false, laid := [("unicode/utf8.acceptRanges", laid_unicode_utf8_acceptRanges), ("unicode/utf8.first", laid_unicode_utf8_first)] }
def NamesSnapsSaid : Prop := namesSnapsRow.holds Tryz.pinned (OpenSpec.ofChange namesSnapsSpec)

/-- ITS FALSE NEIGHBOUR: 'it returns false'. Refute it at one input. -/
def namesSnapsWrong : ChangeSpec := { name := "namesSnaps", fn := fun _ => fun
  | [d1, d2] => { results := [.lit (.bool false)], args := [d1, d2] }
  | _ => none }
def NamesSnapsWrongFalsely : Prop := namesSnapsRow.holds Tryz.pinned (OpenSpec.ofChange namesSnapsWrong)

/-- 'cellaragelaw19.NamesStands': WHATEVER THE INPUT: true; the input reads as it did. -/
def namesStandsSpec : ChangeSpec := { name := "namesStands", fn := fun _ => fun
  | [d] => { results := [.lit (.bool true)], args := [d] }
  | _ => none }
def namesStandsRow : OpenClaim := { program := "ytoahjhogjjdkhaagreatdoor", sum := "9e621332a60356824156388214f472ed50d6ce4c2122e99c30b5275deb74f1b3", func := "cellarage/cellaragelaw19.NamesStands", spec := "namesStands", inPlace := ["internal/bytealg.CountString", "internal/bytealg.IndexByteString", "internal/bytealg.IndexString"], unfollowed := true, recurses := true, named := ["unicode/utf8.first", "unicode/utf8.acceptRanges", "internal/bytealg.MaxLen"], plainKeys := false, apart := false, laid := [("unicode/utf8.acceptRanges", laid_unicode_utf8_acceptRanges), ("unicode/utf8.first", laid_unicode_utf8_first)] }
def NamesStandsSaid : Prop := namesStandsRow.holds Tryz.pinned (OpenSpec.ofChange namesStandsSpec)

/-- ITS FALSE NEIGHBOUR: 'it returns false'. Refute it at one input. -/
def namesStandsWrong : ChangeSpec := { name := "namesStands", fn := fun _ => fun
  | [d] => { results := [.lit (.bool false)], args := [d] }
  | _ => none }
def NamesStandsWrongFalsely : Prop := namesStandsRow.holds Tryz.pinned (OpenSpec.ofChange namesStandsWrong)

/-- 'cellaragelaw19.NamesRenames': WHATEVER THE INPUT: true; the input reads as it did. -/
def namesRenamesSpec : ChangeSpec := { name := "namesRenames", fn := fun _ => fun
  | [d1, d2, d3] => { results := [.lit (.bool true)], args := [d1, d2, d3] }
  | _ => none }
def namesRenamesRow : OpenClaim := { program := "ytoahjhogjjdkhaagreatdoor", sum := "9e621332a60356824156388214f472ed50d6ce4c2122e99c30b5275deb74f1b3", func := "cellarage/cellaragelaw19.NamesRenames", spec := "namesRenames", inPlace := ["internal/bytealg.CountString", "internal/bytealg.IndexByteString", "internal/bytealg.IndexString"], unfollowed := true, recurses := true, named := ["unicode/utf8.first", "unicode/utf8.acceptRanges", "internal/bytealg.MaxLen"], plainKeys := false, apart := false, laid := [("unicode/utf8.acceptRanges", laid_unicode_utf8_acceptRanges), ("unicode/utf8.first", laid_unicode_utf8_first)] }
def NamesRenamesSaid : Prop := namesRenamesRow.holds Tryz.pinned (OpenSpec.ofChange namesRenamesSpec)

/-- ITS FALSE NEIGHBOUR: 'it returns false'. Refute it at one input. -/
def namesRenamesWrong : ChangeSpec := { name := "namesRenames", fn := fun _ => fun
  | [d1, d2, d3] => { results := [.lit (.bool false)], args := [d1, d2, d3] }
  | _ => none }
def NamesRenamesWrongFalsely : Prop := namesRenamesRow.holds Tryz.pinned (OpenSpec.ofChange namesRenamesWrong)

/-- 'cellaragelaw19.NamesTakes': WHATEVER THE INPUT: true; the input reads as it did. -/
def namesTakesSpec : ChangeSpec := { name := "namesTakes", fn := fun _ => fun
  | [d] => { results := [.lit (.bool true)], args := [d] }
  | _ => none }
def namesTakesRow : OpenClaim := { program := "ytoahjhogjjdkhaagreatdoor", sum := "9e621332a60356824156388214f472ed50d6ce4c2122e99c30b5275deb74f1b3", func := "cellarage/cellaragelaw19.NamesTakes", spec := "namesTakes", inPlace := ["internal/bytealg.CountString", "internal/bytealg.IndexByteString", "internal/bytealg.IndexString"], unfollowed := true, recurses := true, named := ["unicode/utf8.first", "unicode/utf8.acceptRanges", "internal/bytealg.MaxLen"], plainKeys := false, apart := false, laid := [("unicode/utf8.acceptRanges", laid_unicode_utf8_acceptRanges), ("unicode/utf8.first", laid_unicode_utf8_first)] }
def NamesTakesSaid : Prop := namesTakesRow.holds Tryz.pinned (OpenSpec.ofChange namesTakesSpec)

/-- ITS FALSE NEIGHBOUR: 'it returns false'. Refute it at one input. -/
def namesTakesWrong : ChangeSpec := { name := "namesTakes", fn := fun _ => fun
  | [d] => { results := [.lit (.bool false)], args := [d] }
  | _ => none }
def NamesTakesWrongFalsely : Prop := namesTakesRow.holds Tryz.pinned (OpenSpec.ofChange namesTakesWrong)

/-- 'cellaragelaw19.NamesBack': WHATEVER THE INPUT: true; the input reads as it did. -/
def namesBackSpec : ChangeSpec := { name := "namesBack", fn := fun _ => fun
  | [d1, d2] => { results := [.lit (.bool true)], args := [d1, d2] }
  | _ => none }
def namesBackRow : OpenClaim := { program := "ytoahjhogjjdkhaagreatdoor", sum := "9e621332a60356824156388214f472ed50d6ce4c2122e99c30b5275deb74f1b3", func := "cellarage/cellaragelaw19.NamesBack", spec := "namesBack", inPlace := ["internal/bytealg.CountString", "internal/bytealg.IndexByteString", "internal/bytealg.IndexString"], unfollowed := true, recurses := true, named := ["unicode/utf8.first", "unicode/utf8.acceptRanges", "internal/bytealg.MaxLen"], plainKeys := false, apart := false, laid := [("unicode/utf8.acceptRanges", laid_unicode_utf8_acceptRanges), ("unicode/utf8.first", laid_unicode_utf8_first)] }
def NamesBackSaid : Prop := namesBackRow.holds Tryz.pinned (OpenSpec.ofChange namesBackSpec)

/-- ITS FALSE NEIGHBOUR: 'it returns false'. Refute it at one input. -/
def namesBackWrong : ChangeSpec := { name := "namesBack", fn := fun _ => fun
  | [d1, d2] => { results := [.lit (.bool false)], args := [d1, d2] }
  | _ => none }
def NamesBackWrongFalsely : Prop := namesBackRow.holds Tryz.pinned (OpenSpec.ofChange namesBackWrong)

/-- 'cellaragelaw19.NamesPlays': WHATEVER THE INPUT: true; the input reads as it did. -/
def namesPlaysSpec : ChangeSpec := { name := "namesPlays", fn := fun _ => fun
  | [d1, d2] => { results := [.lit (.bool true)], args := [d1, d2] }
  | _ => none }
def namesPlaysRow : OpenClaim := { program := "ytoahjhogjjdkhaagreatdoor", sum := "9e621332a60356824156388214f472ed50d6ce4c2122e99c30b5275deb74f1b3", func := "cellarage/cellaragelaw19.NamesPlays", spec := "namesPlays", inPlace := ["internal/bytealg.CountString", "internal/bytealg.IndexByteString", "internal/bytealg.IndexString", "internal/bytealg.Compare"], unfollowed := true, recurses := true, named := ["unicode/utf8.first", "unicode/utf8.acceptRanges", "internal/bytealg.MaxLen"], plainKeys := false, apart := false, laid := [("unicode/utf8.acceptRanges", laid_unicode_utf8_acceptRanges), ("unicode/utf8.first", laid_unicode_utf8_first)] }
def NamesPlaysSaid : Prop := namesPlaysRow.holds Tryz.pinned (OpenSpec.ofChange namesPlaysSpec)

/-- ITS FALSE NEIGHBOUR: 'it returns false'. Refute it at one input. -/
def namesPlaysWrong : ChangeSpec := { name := "namesPlays", fn := fun _ => fun
  | [d1, d2] => { results := [.lit (.bool false)], args := [d1, d2] }
  | _ => none }
def NamesPlaysWrongFalsely : Prop := namesPlaysRow.holds Tryz.pinned (OpenSpec.ofChange namesPlaysWrong)

/-- 'cellaragelaw19.NamesNil': WHATEVER THE INPUT: true; the input reads as it did. -/
def namesNilSpec : ChangeSpec := { name := "namesNil", fn := fun _ => fun
  | [d] => { results := [.lit (.bool true)], args := [d] }
  | _ => none }
def namesNilRow : OpenClaim := { program := "ytoahjhogjjdkhaagreatdoor", sum := "9e621332a60356824156388214f472ed50d6ce4c2122e99c30b5275deb74f1b3", func := "cellarage/cellaragelaw19.NamesNil", spec := "namesNil", inPlace := ["internal/bytealg.CountString", "internal/bytealg.IndexByteString", "internal/bytealg.IndexString", "internal/bytealg.Compare"], unfollowed := true, recurses := true, named := ["unicode/utf8.first", "unicode/utf8.acceptRanges", "internal/bytealg.MaxLen"], plainKeys := false, apart := false, laid := [("unicode/utf8.acceptRanges", laid_unicode_utf8_acceptRanges), ("unicode/utf8.first", laid_unicode_utf8_first)] }
def NamesNilSaid : Prop := namesNilRow.holds Tryz.pinned (OpenSpec.ofChange namesNilSpec)

/-- ITS FALSE NEIGHBOUR: 'it returns false'. Refute it at one input. -/
def namesNilWrong : ChangeSpec := { name := "namesNil", fn := fun _ => fun
  | [d] => { results := [.lit (.bool false)], args := [d] }
  | _ => none }
def NamesNilWrongFalsely : Prop := namesNilRow.holds Tryz.pinned (OpenSpec.ofChange namesNilWrong)

/- THE SECOND FORM. 'bulk': how many values and letters a reading holds, each counted each time it is reached (what is shared counts as often as it is met; a slice's spare places count too). A statement '..UptoSaid' is the law's where the arguments, and the package variables that the reading takes, are together of bulk at most 1048576: NARROWER than '..Said'. Prove '..Said' where nothing that the law and all that it calls make is longer than what came in: it says more and counts as full. Else prove '..UptoSaid'. A law counts once. -/
mutual
def uptoBulk {H : Type} : DataW H → Nat
  | .lit (.string bytes) => bytes.length + 1
  | .lit _ => 1
  | .nil => 1
  | .ptr d => uptoBulk d + 1
  | .slice elems spare => uptoBulkAll elems + uptoBulkAll spare + 1
  | .agg parts => uptoBulkAll parts + 1
  | .iface _ d => uptoBulk d + 1
  | .map entries => uptoBulkEntries entries + 1
  | .held _ => 1
def uptoBulkAll {H : Type} : List (DataW H) → Nat
  | [] => 0
  | d :: r => uptoBulk d + uptoBulkAll r
def uptoBulkEntries {H : Type} : List (Lit × DataW H) → Nat
  | [] => 0
  | x :: r => uptoBulkEntry x + uptoBulkEntries r
def uptoBulkEntry {H : Type} : Lit × DataW H → Nat
  | (.string bytes, d) => bytes.length + uptoBulk d + 1
  | (_, d) => uptoBulk d + 1
 end
def uptoSmall : (H : Type) → List (DataW H) → Bool := fun _ ds => decide (uptoBulkAll ds ≤ 1048576)
def OpenSpec.upto (s : _root_.Go.ChangeSpec) : _root_.Go.OpenSpec := { _root_.Go.OpenSpec.ofChange s with cond := some uptoSmall }

/-- 'cellaragelaw19.NamesSnaps', WHERE WHAT IT READS IS OF BULK AT MOST 1048576: true; the input reads as it did. -/
def namesSnapsUptoRow : OpenClaim := { program := "ytoahjhogjjdkhaagreatdoor", sum := "9e621332a60356824156388214f472ed50d6ce4c2122e99c30b5275deb74f1b3", func := "cellarage/cellaragelaw19.NamesSnaps", spec := "namesSnaps", inPlace := ["internal/bytealg.CountString", "internal/bytealg.IndexByteString", "internal/bytealg.IndexString"], unfollowed := true, recurses := true, named := ["unicode/utf8.first", "unicode/utf8.acceptRanges", "internal/bytealg.MaxLen"], plainKeys := false, apart := false, laid := [("unicode/utf8.acceptRanges", laid_unicode_utf8_acceptRanges), ("unicode/utf8.first", laid_unicode_utf8_first)], narrowed := true }
def NamesSnapsUptoSaid : Prop := namesSnapsUptoRow.holds Tryz.pinned (OpenSpec.upto namesSnapsSpec)

/-- 'cellaragelaw19.NamesStands', WHERE WHAT IT READS IS OF BULK AT MOST 1048576: true; the input reads as it did. -/
def namesStandsUptoRow : OpenClaim := { program := "ytoahjhogjjdkhaagreatdoor", sum := "9e621332a60356824156388214f472ed50d6ce4c2122e99c30b5275deb74f1b3", func := "cellarage/cellaragelaw19.NamesStands", spec := "namesStands", inPlace := ["internal/bytealg.CountString", "internal/bytealg.IndexByteString", "internal/bytealg.IndexString"], unfollowed := true, recurses := true, named := ["unicode/utf8.first", "unicode/utf8.acceptRanges", "internal/bytealg.MaxLen"], plainKeys := false, apart := false, laid := [("unicode/utf8.acceptRanges", laid_unicode_utf8_acceptRanges), ("unicode/utf8.first", laid_unicode_utf8_first)], narrowed := true }
def NamesStandsUptoSaid : Prop := namesStandsUptoRow.holds Tryz.pinned (OpenSpec.upto namesStandsSpec)

/-- 'cellaragelaw19.NamesRenames', WHERE WHAT IT READS IS OF BULK AT MOST 1048576: true; the input reads as it did. -/
def namesRenamesUptoRow : OpenClaim := { program := "ytoahjhogjjdkhaagreatdoor", sum := "9e621332a60356824156388214f472ed50d6ce4c2122e99c30b5275deb74f1b3", func := "cellarage/cellaragelaw19.NamesRenames", spec := "namesRenames", inPlace := ["internal/bytealg.CountString", "internal/bytealg.IndexByteString", "internal/bytealg.IndexString"], unfollowed := true, recurses := true, named := ["unicode/utf8.first", "unicode/utf8.acceptRanges", "internal/bytealg.MaxLen"], plainKeys := false, apart := false, laid := [("unicode/utf8.acceptRanges", laid_unicode_utf8_acceptRanges), ("unicode/utf8.first", laid_unicode_utf8_first)], narrowed := true }
def NamesRenamesUptoSaid : Prop := namesRenamesUptoRow.holds Tryz.pinned (OpenSpec.upto namesRenamesSpec)

/-- 'cellaragelaw19.NamesTakes', WHERE WHAT IT READS IS OF BULK AT MOST 1048576: true; the input reads as it did. -/
def namesTakesUptoRow : OpenClaim := { program := "ytoahjhogjjdkhaagreatdoor", sum := "9e621332a60356824156388214f472ed50d6ce4c2122e99c30b5275deb74f1b3", func := "cellarage/cellaragelaw19.NamesTakes", spec := "namesTakes", inPlace := ["internal/bytealg.CountString", "internal/bytealg.IndexByteString", "internal/bytealg.IndexString"], unfollowed := true, recurses := true, named := ["unicode/utf8.first", "unicode/utf8.acceptRanges", "internal/bytealg.MaxLen"], plainKeys := false, apart := false, laid := [("unicode/utf8.acceptRanges", laid_unicode_utf8_acceptRanges), ("unicode/utf8.first", laid_unicode_utf8_first)], narrowed := true }
def NamesTakesUptoSaid : Prop := namesTakesUptoRow.holds Tryz.pinned (OpenSpec.upto namesTakesSpec)

/-- 'cellaragelaw19.NamesBack', WHERE WHAT IT READS IS OF BULK AT MOST 1048576: true; the input reads as it did. -/
def namesBackUptoRow : OpenClaim := { program := "ytoahjhogjjdkhaagreatdoor", sum := "9e621332a60356824156388214f472ed50d6ce4c2122e99c30b5275deb74f1b3", func := "cellarage/cellaragelaw19.NamesBack", spec := "namesBack", inPlace := ["internal/bytealg.CountString", "internal/bytealg.IndexByteString", "internal/bytealg.IndexString"], unfollowed := true, recurses := true, named := ["unicode/utf8.first", "unicode/utf8.acceptRanges", "internal/bytealg.MaxLen"], plainKeys := false, apart := false, laid := [("unicode/utf8.acceptRanges", laid_unicode_utf8_acceptRanges), ("unicode/utf8.first", laid_unicode_utf8_first)], narrowed := true }
def NamesBackUptoSaid : Prop := namesBackUptoRow.holds Tryz.pinned (OpenSpec.upto namesBackSpec)

/-- 'cellaragelaw19.NamesPlays', WHERE WHAT IT READS IS OF BULK AT MOST 1048576: true; the input reads as it did. -/
def namesPlaysUptoRow : OpenClaim := { program := "ytoahjhogjjdkhaagreatdoor", sum := "9e621332a60356824156388214f472ed50d6ce4c2122e99c30b5275deb74f1b3", func := "cellarage/cellaragelaw19.NamesPlays", spec := "namesPlays", inPlace := ["internal/bytealg.CountString", "internal/bytealg.IndexByteString", "internal/bytealg.IndexString", "internal/bytealg.Compare"], unfollowed := true, recurses := true, named := ["unicode/utf8.first", "unicode/utf8.acceptRanges", "internal/bytealg.MaxLen"], plainKeys := false, apart := false, laid := [("unicode/utf8.acceptRanges", laid_unicode_utf8_acceptRanges), ("unicode/utf8.first", laid_unicode_utf8_first)], narrowed := true }
def NamesPlaysUptoSaid : Prop := namesPlaysUptoRow.holds Tryz.pinned (OpenSpec.upto namesPlaysSpec)

/-- 'cellaragelaw19.NamesNil', WHERE WHAT IT READS IS OF BULK AT MOST 1048576: true; the input reads as it did. -/
def namesNilUptoRow : OpenClaim := { program := "ytoahjhogjjdkhaagreatdoor", sum := "9e621332a60356824156388214f472ed50d6ce4c2122e99c30b5275deb74f1b3", func := "cellarage/cellaragelaw19.NamesNil", spec := "namesNil", inPlace := ["internal/bytealg.CountString", "internal/bytealg.IndexByteString", "internal/bytealg.IndexString", "internal/bytealg.Compare"], unfollowed := true, recurses := true, named := ["unicode/utf8.first", "unicode/utf8.acceptRanges", "internal/bytealg.MaxLen"], plainKeys := false, apart := false, laid := [("unicode/utf8.acceptRanges", laid_unicode_utf8_acceptRanges), ("unicode/utf8.first", laid_unicode_utf8_first)], narrowed := true }
def NamesNilUptoSaid : Prop := namesNilUptoRow.holds Tryz.pinned (OpenSpec.upto namesNilSpec)

end Rows
end Go.Proofs.YtoahjhogjjdkhaaGreatDoor
