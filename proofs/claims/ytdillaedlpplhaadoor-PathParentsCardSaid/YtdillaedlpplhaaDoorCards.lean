/-
  DERIVED. GIVEN WITH THE SEED: THE CARDS: each row of YtdillaedlpplhaaDoorRows.lean that lists a variable, with what it lists TIED to the program's text (the seventh form; the later family's looks); each row that meets fmt, with fmt's text TOLD by the authors' own Lean function (tested against real Go, not proved from fmt's source: count such statements apart). THE CARD IS WHAT COUNTS. Prove the row's statement (the work); the ties are given (YtdillaedlpplhaaDoorTie.lean); close each card by the builder's one call (the guide's Derived/Test/ToyasCard.lean, 'card_holds'). Laid BY PROGRAM, IN A SANDBOX (cutbox-door.mjs). By AI agents, Wed Nov 11 2026. No macro, syntax, notation, axiom, sorry.
-/
import Derived.Test.YtdillaedlpplhaaDoorRows
import GoSem.ClaimSeven
namespace Go.Proofs.YtdillaedlpplhaaDoor
namespace Rows

/-- THE TIED CARD OF 'cellaragelaw17.PathParses'. -/
def pathParsesCard : Claim7 := { stood := { row := pathParsesRow, standIns := [], harness := (true, "44d8c5baa2336e9657e88bff56991f10612990bc2e936a01329fa434acbb607b"), looks := false }, kinds := [], alts := [], laidByText := true, laidKinds := [.data, .pinned], laidTests := true, laidLooks := .later }
def PathParsesCardSaid : Prop := Claim7.holds Tryd.pinned (.plain (OpenSpec.ofChange pathParsesSpec)) pathParsesCard

/-- THE TIED CARD OF 'cellaragelaw17.PathOrder'. -/
def pathOrderCard : Claim7 := { stood := { row := pathOrderRow, standIns := [], harness := (true, "44d8c5baa2336e9657e88bff56991f10612990bc2e936a01329fa434acbb607b"), looks := false }, kinds := [], alts := [], laidByText := true, laidKinds := [.data, .pinned], laidTests := true, laidLooks := .later }
def PathOrderCardSaid : Prop := Claim7.holds Tryd.pinned (.plain (OpenSpec.ofChange pathOrderSpec)) pathOrderCard

/-- THE TIED CARD OF 'cellaragelaw17.PathWithins'. -/
def pathWithinsCard : Claim7 := { stood := { row := pathWithinsRow, standIns := [], harness := (true, "44d8c5baa2336e9657e88bff56991f10612990bc2e936a01329fa434acbb607b"), looks := false }, kinds := [], alts := [], laidByText := true, laidKinds := [.data, .pinned], laidTests := true, laidLooks := .later }
def PathWithinsCardSaid : Prop := Claim7.holds Tryd.pinned (.plain (OpenSpec.ofChange pathWithinsSpec)) pathWithinsCard

/-- THE TIED CARD OF 'cellaragelaw17.PathTexts'. -/
def pathTextsCard : Claim7 := { stood := { row := pathTextsRow, standIns := [], harness := (true, "44d8c5baa2336e9657e88bff56991f10612990bc2e936a01329fa434acbb607b"), looks := false }, kinds := [], alts := [], laidByText := true, laidKinds := [.data, .pinned], laidTests := true, laidLooks := .later }
def PathTextsCardSaid : Prop := Claim7.holds Tryd.pinned (.plain (OpenSpec.ofChange pathTextsSpec)) pathTextsCard

/-- THE TIED CARD OF 'cellaragelaw17.PathBack'. -/
def pathBackCard : Claim7 := { stood := { row := pathBackRow, standIns := [], harness := (true, "44d8c5baa2336e9657e88bff56991f10612990bc2e936a01329fa434acbb607b"), looks := false }, kinds := [], alts := [], laidByText := true, laidKinds := [.data, .pinned], laidTests := true, laidLooks := .later }
def PathBackCardSaid : Prop := Claim7.holds Tryd.pinned (.plain (OpenSpec.ofChange pathBackSpec)) pathBackCard

/-- THE TIED CARD OF 'cellaragelaw17.PathParents'. -/
def pathParentsCard : Claim7 := { stood := { row := pathParentsRow, standIns := [], harness := (true, "44d8c5baa2336e9657e88bff56991f10612990bc2e936a01329fa434acbb607b"), looks := false }, kinds := [], alts := [], laidByText := true, laidKinds := [.data, .pinned], laidTests := true, laidLooks := .later }
def PathParentsCardSaid : Prop := Claim7.holds Tryd.pinned (.plain (OpenSpec.ofChange pathParentsSpec)) pathParentsCard

/-- THE SECOND FORM's CARD OF 'cellaragelaw17.PathParses'. -/
def pathParsesUptoCard : Claim7 := { stood := { row := pathParsesUptoRow, standIns := [], harness := (true, "44d8c5baa2336e9657e88bff56991f10612990bc2e936a01329fa434acbb607b"), looks := false }, kinds := [], alts := [], laidByText := true, laidKinds := [.data, .pinned], laidTests := true, laidLooks := .later }
def PathParsesUptoCardSaid : Prop := Claim7.holds Tryd.pinned (.plain (OpenSpec.upto pathParsesSpec)) pathParsesUptoCard

/-- THE SECOND FORM's CARD OF 'cellaragelaw17.PathOrder'. -/
def pathOrderUptoCard : Claim7 := { stood := { row := pathOrderUptoRow, standIns := [], harness := (true, "44d8c5baa2336e9657e88bff56991f10612990bc2e936a01329fa434acbb607b"), looks := false }, kinds := [], alts := [], laidByText := true, laidKinds := [.data, .pinned], laidTests := true, laidLooks := .later }
def PathOrderUptoCardSaid : Prop := Claim7.holds Tryd.pinned (.plain (OpenSpec.upto pathOrderSpec)) pathOrderUptoCard

/-- THE SECOND FORM's CARD OF 'cellaragelaw17.PathWithins'. -/
def pathWithinsUptoCard : Claim7 := { stood := { row := pathWithinsUptoRow, standIns := [], harness := (true, "44d8c5baa2336e9657e88bff56991f10612990bc2e936a01329fa434acbb607b"), looks := false }, kinds := [], alts := [], laidByText := true, laidKinds := [.data, .pinned], laidTests := true, laidLooks := .later }
def PathWithinsUptoCardSaid : Prop := Claim7.holds Tryd.pinned (.plain (OpenSpec.upto pathWithinsSpec)) pathWithinsUptoCard

/-- THE SECOND FORM's CARD OF 'cellaragelaw17.PathTexts'. -/
def pathTextsUptoCard : Claim7 := { stood := { row := pathTextsUptoRow, standIns := [], harness := (true, "44d8c5baa2336e9657e88bff56991f10612990bc2e936a01329fa434acbb607b"), looks := false }, kinds := [], alts := [], laidByText := true, laidKinds := [.data, .pinned], laidTests := true, laidLooks := .later }
def PathTextsUptoCardSaid : Prop := Claim7.holds Tryd.pinned (.plain (OpenSpec.upto pathTextsSpec)) pathTextsUptoCard

/-- THE SECOND FORM's CARD OF 'cellaragelaw17.PathBack'. -/
def pathBackUptoCard : Claim7 := { stood := { row := pathBackUptoRow, standIns := [], harness := (true, "44d8c5baa2336e9657e88bff56991f10612990bc2e936a01329fa434acbb607b"), looks := false }, kinds := [], alts := [], laidByText := true, laidKinds := [.data, .pinned], laidTests := true, laidLooks := .later }
def PathBackUptoCardSaid : Prop := Claim7.holds Tryd.pinned (.plain (OpenSpec.upto pathBackSpec)) pathBackUptoCard

/-- THE SECOND FORM's CARD OF 'cellaragelaw17.PathParents'. -/
def pathParentsUptoCard : Claim7 := { stood := { row := pathParentsUptoRow, standIns := [], harness := (true, "44d8c5baa2336e9657e88bff56991f10612990bc2e936a01329fa434acbb607b"), looks := false }, kinds := [], alts := [], laidByText := true, laidKinds := [.data, .pinned], laidTests := true, laidLooks := .later }
def PathParentsUptoCardSaid : Prop := Claim7.holds Tryd.pinned (.plain (OpenSpec.upto pathParentsSpec)) pathParentsUptoCard
end Rows
end Go.Proofs.YtdillaedlpplhaaDoor
