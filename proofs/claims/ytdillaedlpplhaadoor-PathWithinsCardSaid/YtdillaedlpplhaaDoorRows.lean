/-
  NARROWER THAN 'FOR EVERY INPUT', by the rows' own cells (each row's printed sentence says how): PathParses: laid · PathOrder: laid · PathWithins: laid · PathTexts: laid · PathBack: laid · PathParents: laid.
  DERIVED. THE GIVEN ROWS OF THIS SEAT. 6 by the template 'for every input the law returns true; each argument reads behind the call as it read before'; 0 by the template 'total and deterministic' (their statements: YtdillaedlpplhaaDoorTotals.lean).
  GIVEN WITH THE SEED: the statements are not yours to turn. If you find one false, say at which input.
  Laid BY PROGRAM, IN A SANDBOX (cutbox-rows.mjs): the forced cells as the released guide's own fill.sh prints them over the translation c7818f6a21f046a9… (all of the seat's roots in one cut). By AI agents, Wed Nov 11 2026. No macro, syntax, notation, axiom, sorry.
-/
import Derived.Test.YtdillaedlpplhaaDoorChecked
import GoSem.PinnedTables
import GoSem.Claim
import GoSem.ClaimJoined
import GoSem.ClaimMapViews
import Derived.JoinedTies
import Derived.KernelRfl
namespace Go.Proofs.YtdillaedlpplhaaDoor
/- THE CELL 'sum', in the pinned program and in every row, IS THE sha256 OF THE DUMP (.gsa) THAT YtdillaedlpplhaaDoorProg.lean LOADS. Nothing in Lean hashes anything: it is a label: what it is worth is what the hold of that sum in a sandbox is worth. -/
noncomputable def Tryd.pinned : Pinned := { name := "ytdillaedlpplhaadoor", sum := "c7818f6a21f046a9c8be24aa4b0ce57e42bca7be62b5169c329389b9a2f100e0", checked := Tryd.checked }
namespace Rows
def none {H : Type} : Left H := { results := [], args := [] }

/- WHAT THE LISTED PACKAGE-LEVEL VARIABLES READ AS WHEN THE CALL BEGINS. Each datum BY PROGRAM (the guide's laid-datum.mjs) off the statement by which the dump's own 'gosem.cut.vars' lays the variable. In a bare row this is a premise. The card (YtdillaedlpplhaaDoorCards.lean) ties it to the program's text. -/
def laid_unicode_utf8_acceptRanges {H : Type} : DataW H := .agg [.agg [.lit (.int .u8 128), .lit (.int .u8 191)], .agg [.lit (.int .u8 160), .lit (.int .u8 191)], .agg [.lit (.int .u8 128), .lit (.int .u8 159)], .agg [.lit (.int .u8 144), .lit (.int .u8 191)], .agg [.lit (.int .u8 128), .lit (.int .u8 143)], .agg [.lit (.int .u8 0), .lit (.int .u8 0)], .agg [.lit (.int .u8 0), .lit (.int .u8 0)], .agg [.lit (.int .u8 0), .lit (.int .u8 0)], .agg [.lit (.int .u8 0), .lit (.int .u8 0)], .agg [.lit (.int .u8 0), .lit (.int .u8 0)], .agg [.lit (.int .u8 0), .lit (.int .u8 0)], .agg [.lit (.int .u8 0), .lit (.int .u8 0)], .agg [.lit (.int .u8 0), .lit (.int .u8 0)], .agg [.lit (.int .u8 0), .lit (.int .u8 0)], .agg [.lit (.int .u8 0), .lit (.int .u8 0)], .agg [.lit (.int .u8 0), .lit (.int .u8 0)]]
/-- One of Go's own tables, pinned by name: the form's constant. -/
def laid_unicode_utf8_first : DataW Unit := Go.Pinned.utf8First

/-- 'cellaragelaw17.PathParses': WHATEVER THE INPUT: true; the input reads as it did. -/
def pathParsesSpec : ChangeSpec := { name := "pathParses", fn := fun _ => fun
  | [d] => { results := [.lit (.bool true)], args := [d] }
  | _ => none }
def pathParsesRow : OpenClaim := { program := "ytdillaedlpplhaadoor", sum := "c7818f6a21f046a9c8be24aa4b0ce57e42bca7be62b5169c329389b9a2f100e0", func := "cellarage/cellaragelaw17.PathParses", spec := "pathParses", inPlace := ["internal/bytealg.CountString", "internal/bytealg.IndexByteString", "internal/bytealg.IndexString"], unfollowed := true, recurses := true, named := ["unicode/utf8.first", "unicode/utf8.acceptRanges", "internal/bytealg.MaxLen"], apart := false, laid := [("unicode/utf8.acceptRanges", laid_unicode_utf8_acceptRanges), ("unicode/utf8.first", laid_unicode_utf8_first)] }
def PathParsesSaid : Prop := pathParsesRow.holds Tryd.pinned (OpenSpec.ofChange pathParsesSpec)

/-- ITS FALSE NEIGHBOUR: 'it returns false'. Refute it at one input. -/
def pathParsesWrong : ChangeSpec := { name := "pathParses", fn := fun _ => fun
  | [d] => { results := [.lit (.bool false)], args := [d] }
  | _ => none }
def PathParsesWrongFalsely : Prop := pathParsesRow.holds Tryd.pinned (OpenSpec.ofChange pathParsesWrong)

/-- 'cellaragelaw17.PathOrder': WHATEVER THE INPUT: true; the input reads as it did. -/
def pathOrderSpec : ChangeSpec := { name := "pathOrder", fn := fun _ => fun
  | [d1, d2, d3] => { results := [.lit (.bool true)], args := [d1, d2, d3] }
  | _ => none }
def pathOrderRow : OpenClaim := { program := "ytdillaedlpplhaadoor", sum := "c7818f6a21f046a9c8be24aa4b0ce57e42bca7be62b5169c329389b9a2f100e0", func := "cellarage/cellaragelaw17.PathOrder", spec := "pathOrder", inPlace := ["internal/bytealg.CountString", "internal/bytealg.IndexByteString", "internal/bytealg.IndexString"], unfollowed := true, recurses := true, named := ["unicode/utf8.first", "unicode/utf8.acceptRanges", "internal/bytealg.MaxLen"], apart := false, laid := [("unicode/utf8.acceptRanges", laid_unicode_utf8_acceptRanges), ("unicode/utf8.first", laid_unicode_utf8_first)] }
def PathOrderSaid : Prop := pathOrderRow.holds Tryd.pinned (OpenSpec.ofChange pathOrderSpec)

/-- ITS FALSE NEIGHBOUR: 'it returns false'. Refute it at one input. -/
def pathOrderWrong : ChangeSpec := { name := "pathOrder", fn := fun _ => fun
  | [d1, d2, d3] => { results := [.lit (.bool false)], args := [d1, d2, d3] }
  | _ => none }
def PathOrderWrongFalsely : Prop := pathOrderRow.holds Tryd.pinned (OpenSpec.ofChange pathOrderWrong)

/-- 'cellaragelaw17.PathWithins': WHATEVER THE INPUT: true; the input reads as it did. -/
def pathWithinsSpec : ChangeSpec := { name := "pathWithins", fn := fun _ => fun
  | [d1, d2] => { results := [.lit (.bool true)], args := [d1, d2] }
  | _ => none }
def pathWithinsRow : OpenClaim := { program := "ytdillaedlpplhaadoor", sum := "c7818f6a21f046a9c8be24aa4b0ce57e42bca7be62b5169c329389b9a2f100e0", func := "cellarage/cellaragelaw17.PathWithins", spec := "pathWithins", inPlace := ["internal/bytealg.CountString", "internal/bytealg.IndexByteString", "internal/bytealg.IndexString"], unfollowed := true, recurses := true, named := ["unicode/utf8.first", "unicode/utf8.acceptRanges", "internal/bytealg.MaxLen"], apart := false, laid := [("unicode/utf8.acceptRanges", laid_unicode_utf8_acceptRanges), ("unicode/utf8.first", laid_unicode_utf8_first)] }
def PathWithinsSaid : Prop := pathWithinsRow.holds Tryd.pinned (OpenSpec.ofChange pathWithinsSpec)

/-- ITS FALSE NEIGHBOUR: 'it returns false'. Refute it at one input. -/
def pathWithinsWrong : ChangeSpec := { name := "pathWithins", fn := fun _ => fun
  | [d1, d2] => { results := [.lit (.bool false)], args := [d1, d2] }
  | _ => none }
def PathWithinsWrongFalsely : Prop := pathWithinsRow.holds Tryd.pinned (OpenSpec.ofChange pathWithinsWrong)

/-- 'cellaragelaw17.PathTexts': WHATEVER THE INPUT: true; the input reads as it did. -/
def pathTextsSpec : ChangeSpec := { name := "pathTexts", fn := fun _ => fun
  | [d] => { results := [.lit (.bool true)], args := [d] }
  | _ => none }
def pathTextsRow : OpenClaim := { program := "ytdillaedlpplhaadoor", sum := "c7818f6a21f046a9c8be24aa4b0ce57e42bca7be62b5169c329389b9a2f100e0", func := "cellarage/cellaragelaw17.PathTexts", spec := "pathTexts", inPlace := ["internal/bytealg.CountString", "internal/bytealg.IndexByteString", "internal/bytealg.IndexString", "internal/abi.NoEscape", "internal/bytealg.MakeNoZero"], unfollowed := true, recurses := true, named := ["unicode/utf8.first", "unicode/utf8.acceptRanges", "internal/bytealg.MaxLen"], apart := false, laid := [("unicode/utf8.acceptRanges", laid_unicode_utf8_acceptRanges), ("unicode/utf8.first", laid_unicode_utf8_first)] }
def PathTextsSaid : Prop := pathTextsRow.holds Tryd.pinned (OpenSpec.ofChange pathTextsSpec)

/-- ITS FALSE NEIGHBOUR: 'it returns false'. Refute it at one input. -/
def pathTextsWrong : ChangeSpec := { name := "pathTexts", fn := fun _ => fun
  | [d] => { results := [.lit (.bool false)], args := [d] }
  | _ => none }
def PathTextsWrongFalsely : Prop := pathTextsRow.holds Tryd.pinned (OpenSpec.ofChange pathTextsWrong)

/-- 'cellaragelaw17.PathBack': WHATEVER THE INPUT: true; the input reads as it did. -/
def pathBackSpec : ChangeSpec := { name := "pathBack", fn := fun _ => fun
  | [d1, d2] => { results := [.lit (.bool true)], args := [d1, d2] }
  | _ => none }
def pathBackRow : OpenClaim := { program := "ytdillaedlpplhaadoor", sum := "c7818f6a21f046a9c8be24aa4b0ce57e42bca7be62b5169c329389b9a2f100e0", func := "cellarage/cellaragelaw17.PathBack", spec := "pathBack", inPlace := ["internal/bytealg.CountString", "internal/bytealg.IndexByteString", "internal/bytealg.IndexString", "internal/abi.NoEscape", "internal/bytealg.MakeNoZero"], unfollowed := true, recurses := true, named := ["unicode/utf8.first", "unicode/utf8.acceptRanges", "internal/bytealg.MaxLen"], apart := false, laid := [("unicode/utf8.acceptRanges", laid_unicode_utf8_acceptRanges), ("unicode/utf8.first", laid_unicode_utf8_first)] }
def PathBackSaid : Prop := pathBackRow.holds Tryd.pinned (OpenSpec.ofChange pathBackSpec)

/-- ITS FALSE NEIGHBOUR: 'it returns false'. Refute it at one input. -/
def pathBackWrong : ChangeSpec := { name := "pathBack", fn := fun _ => fun
  | [d1, d2] => { results := [.lit (.bool false)], args := [d1, d2] }
  | _ => none }
def PathBackWrongFalsely : Prop := pathBackRow.holds Tryd.pinned (OpenSpec.ofChange pathBackWrong)

/-- 'cellaragelaw17.PathParents': WHATEVER THE INPUT: true; the input reads as it did. -/
def pathParentsSpec : ChangeSpec := { name := "pathParents", fn := fun _ => fun
  | [d] => { results := [.lit (.bool true)], args := [d] }
  | _ => none }
def pathParentsRow : OpenClaim := { program := "ytdillaedlpplhaadoor", sum := "c7818f6a21f046a9c8be24aa4b0ce57e42bca7be62b5169c329389b9a2f100e0", func := "cellarage/cellaragelaw17.PathParents", spec := "pathParents", inPlace := ["internal/bytealg.CountString", "internal/bytealg.IndexByteString", "internal/bytealg.IndexString", "internal/abi.NoEscape", "internal/bytealg.MakeNoZero"], unfollowed := true, recurses := true, named := ["unicode/utf8.first", "unicode/utf8.acceptRanges", "internal/bytealg.MaxLen"], apart := false, laid := [("unicode/utf8.acceptRanges", laid_unicode_utf8_acceptRanges), ("unicode/utf8.first", laid_unicode_utf8_first)] }
def PathParentsSaid : Prop := pathParentsRow.holds Tryd.pinned (OpenSpec.ofChange pathParentsSpec)

/-- ITS FALSE NEIGHBOUR: 'it returns false'. Refute it at one input. -/
def pathParentsWrong : ChangeSpec := { name := "pathParents", fn := fun _ => fun
  | [d] => { results := [.lit (.bool false)], args := [d] }
  | _ => none }
def PathParentsWrongFalsely : Prop := pathParentsRow.holds Tryd.pinned (OpenSpec.ofChange pathParentsWrong)

/- THE SECOND FORM. 'bulk': how many values and letters a reading holds, each counted each time it is reached (what is shared counts as often as it is met; a slice's spare places count too). A statement '..UptoSaid' is the law's where the arguments, and the package variables that the reading takes, are together of bulk at most 1048576: NARROWER than '..Said'. Prove '..Said' where nothing that the law and all that it calls make is longer than what came in: it says more and counts as full. Else prove '..UptoSaid'. A law counts once. -/
mutual
def uptoBulk {H : Type} : DataW H → Nat
  | .lit (.string bytes) => bytes.length + 1
  | .lit _ => 1
  | .nil => 1
  | .ptr d => uptoBulk d + 1
  | .slice elems spare => uptoBulkAll elems + uptoBulkAll spare + 1
  | .agg parts => uptoBulkAll parts + 1
  | .iface _ d => uptoBulk d + 1
  | .map entries => uptoBulkEntries entries + 1
  | .held _ => 1
def uptoBulkAll {H : Type} : List (DataW H) → Nat
  | [] => 0
  | d :: r => uptoBulk d + uptoBulkAll r
def uptoBulkEntries {H : Type} : List (Lit × DataW H) → Nat
  | [] => 0
  | x :: r => uptoBulkEntry x + uptoBulkEntries r
def uptoBulkEntry {H : Type} : Lit × DataW H → Nat
  | (.string bytes, d) => bytes.length + uptoBulk d + 1
  | (_, d) => uptoBulk d + 1
 end
def uptoSmall : (H : Type) → List (DataW H) → Bool := fun _ ds => decide (uptoBulkAll ds ≤ 1048576)
def OpenSpec.upto (s : _root_.Go.ChangeSpec) : _root_.Go.OpenSpec := { _root_.Go.OpenSpec.ofChange s with cond := some uptoSmall }

/-- 'cellaragelaw17.PathParses', WHERE WHAT IT READS IS OF BULK AT MOST 1048576: true; the input reads as it did. -/
def pathParsesUptoRow : OpenClaim := { program := "ytdillaedlpplhaadoor", sum := "c7818f6a21f046a9c8be24aa4b0ce57e42bca7be62b5169c329389b9a2f100e0", func := "cellarage/cellaragelaw17.PathParses", spec := "pathParses", inPlace := ["internal/bytealg.CountString", "internal/bytealg.IndexByteString", "internal/bytealg.IndexString"], unfollowed := true, recurses := true, named := ["unicode/utf8.first", "unicode/utf8.acceptRanges", "internal/bytealg.MaxLen"], apart := false, laid := [("unicode/utf8.acceptRanges", laid_unicode_utf8_acceptRanges), ("unicode/utf8.first", laid_unicode_utf8_first)], narrowed := true }
def PathParsesUptoSaid : Prop := pathParsesUptoRow.holds Tryd.pinned (OpenSpec.upto pathParsesSpec)

/-- 'cellaragelaw17.PathOrder', WHERE WHAT IT READS IS OF BULK AT MOST 1048576: true; the input reads as it did. -/
def pathOrderUptoRow : OpenClaim := { program := "ytdillaedlpplhaadoor", sum := "c7818f6a21f046a9c8be24aa4b0ce57e42bca7be62b5169c329389b9a2f100e0", func := "cellarage/cellaragelaw17.PathOrder", spec := "pathOrder", inPlace := ["internal/bytealg.CountString", "internal/bytealg.IndexByteString", "internal/bytealg.IndexString"], unfollowed := true, recurses := true, named := ["unicode/utf8.first", "unicode/utf8.acceptRanges", "internal/bytealg.MaxLen"], apart := false, laid := [("unicode/utf8.acceptRanges", laid_unicode_utf8_acceptRanges), ("unicode/utf8.first", laid_unicode_utf8_first)], narrowed := true }
def PathOrderUptoSaid : Prop := pathOrderUptoRow.holds Tryd.pinned (OpenSpec.upto pathOrderSpec)

/-- 'cellaragelaw17.PathWithins', WHERE WHAT IT READS IS OF BULK AT MOST 1048576: true; the input reads as it did. -/
def pathWithinsUptoRow : OpenClaim := { program := "ytdillaedlpplhaadoor", sum := "c7818f6a21f046a9c8be24aa4b0ce57e42bca7be62b5169c329389b9a2f100e0", func := "cellarage/cellaragelaw17.PathWithins", spec := "pathWithins", inPlace := ["internal/bytealg.CountString", "internal/bytealg.IndexByteString", "internal/bytealg.IndexString"], unfollowed := true, recurses := true, named := ["unicode/utf8.first", "unicode/utf8.acceptRanges", "internal/bytealg.MaxLen"], apart := false, laid := [("unicode/utf8.acceptRanges", laid_unicode_utf8_acceptRanges), ("unicode/utf8.first", laid_unicode_utf8_first)], narrowed := true }
def PathWithinsUptoSaid : Prop := pathWithinsUptoRow.holds Tryd.pinned (OpenSpec.upto pathWithinsSpec)

/-- 'cellaragelaw17.PathTexts', WHERE WHAT IT READS IS OF BULK AT MOST 1048576: true; the input reads as it did. -/
def pathTextsUptoRow : OpenClaim := { program := "ytdillaedlpplhaadoor", sum := "c7818f6a21f046a9c8be24aa4b0ce57e42bca7be62b5169c329389b9a2f100e0", func := "cellarage/cellaragelaw17.PathTexts", spec := "pathTexts", inPlace := ["internal/bytealg.CountString", "internal/bytealg.IndexByteString", "internal/bytealg.IndexString", "internal/abi.NoEscape", "internal/bytealg.MakeNoZero"], unfollowed := true, recurses := true, named := ["unicode/utf8.first", "unicode/utf8.acceptRanges", "internal/bytealg.MaxLen"], apart := false, laid := [("unicode/utf8.acceptRanges", laid_unicode_utf8_acceptRanges), ("unicode/utf8.first", laid_unicode_utf8_first)], narrowed := true }
def PathTextsUptoSaid : Prop := pathTextsUptoRow.holds Tryd.pinned (OpenSpec.upto pathTextsSpec)

/-- 'cellaragelaw17.PathBack', WHERE WHAT IT READS IS OF BULK AT MOST 1048576: true; the input reads as it did. -/
def pathBackUptoRow : OpenClaim := { program := "ytdillaedlpplhaadoor", sum := "c7818f6a21f046a9c8be24aa4b0ce57e42bca7be62b5169c329389b9a2f100e0", func := "cellarage/cellaragelaw17.PathBack", spec := "pathBack", inPlace := ["internal/bytealg.CountString", "internal/bytealg.IndexByteString", "internal/bytealg.IndexString", "internal/abi.NoEscape", "internal/bytealg.MakeNoZero"], unfollowed := true, recurses := true, named := ["unicode/utf8.first", "unicode/utf8.acceptRanges", "internal/bytealg.MaxLen"], apart := false, laid := [("unicode/utf8.acceptRanges", laid_unicode_utf8_acceptRanges), ("unicode/utf8.first", laid_unicode_utf8_first)], narrowed := true }
def PathBackUptoSaid : Prop := pathBackUptoRow.holds Tryd.pinned (OpenSpec.upto pathBackSpec)

/-- 'cellaragelaw17.PathParents', WHERE WHAT IT READS IS OF BULK AT MOST 1048576: true; the input reads as it did. -/
def pathParentsUptoRow : OpenClaim := { program := "ytdillaedlpplhaadoor", sum := "c7818f6a21f046a9c8be24aa4b0ce57e42bca7be62b5169c329389b9a2f100e0", func := "cellarage/cellaragelaw17.PathParents", spec := "pathParents", inPlace := ["internal/bytealg.CountString", "internal/bytealg.IndexByteString", "internal/bytealg.IndexString", "internal/abi.NoEscape", "internal/bytealg.MakeNoZero"], unfollowed := true, recurses := true, named := ["unicode/utf8.first", "unicode/utf8.acceptRanges", "internal/bytealg.MaxLen"], apart := false, laid := [("unicode/utf8.acceptRanges", laid_unicode_utf8_acceptRanges), ("unicode/utf8.first", laid_unicode_utf8_first)], narrowed := true }
def PathParentsUptoSaid : Prop := pathParentsUptoRow.holds Tryd.pinned (OpenSpec.upto pathParentsSpec)

end Rows
end Go.Proofs.YtdillaedlpplhaaDoor
