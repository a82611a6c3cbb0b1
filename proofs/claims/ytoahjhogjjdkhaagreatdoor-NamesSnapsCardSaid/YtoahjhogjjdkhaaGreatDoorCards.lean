/-
  DERIVED. GIVEN WITH THE SEED: THE CARDS: each row of YtoahjhogjjdkhaaGreatDoorRows.lean that lists a variable, with what it lists TIED to the program's text (the seventh form; the later family's looks); each row that meets fmt, with fmt's text TOLD by the authors' own Lean function (tested against real Go, not proved from fmt's source: count such statements apart). THE CARD IS WHAT COUNTS. Prove the row's statement (the work); the ties are given (YtoahjhogjjdkhaaGreatDoorTie.lean); close each card by the builder's one call (the guide's Derived/Test/ToyasCard.lean, 'card_holds'). Laid BY PROGRAM, IN A SANDBOX (cutbox-door.mjs). By AI agents, Wed Nov 11 2026. No macro, syntax, notation, axiom, sorry.
-/
import Derived.Test.YtoahjhogjjdkhaaGreatDoorRows
import GoSem.ClaimSeven
namespace Go.Proofs.YtoahjhogjjdkhaaGreatDoor
namespace Rows

/-- THE TIED CARD OF 'cellaragelaw19.NamesSnaps'. -/
def namesSnapsCard : Claim7 := { stood := { row := namesSnapsRow, standIns := [], harness := (true, "919d2c4f29dafa518b0e2819fe96360007aa1241f4bf00221264f83c6d32fd1c"), looks := false }, kinds := [], alts := [], laidByText := true, laidKinds := [.data, .pinned], laidTests := true, laidLooks := .later }
def NamesSnapsCardSaid : Prop := Claim7.holds Tryz.pinned (.plain (OpenSpec.ofChange namesSnapsSpec)) namesSnapsCard

/-- THE TIED CARD OF 'cellaragelaw19.NamesStands'. -/
def namesStandsCard : Claim7 := { stood := { row := namesStandsRow, standIns := [], harness := (true, "919d2c4f29dafa518b0e2819fe96360007aa1241f4bf00221264f83c6d32fd1c"), looks := false }, kinds := [], alts := [], laidByText := true, laidKinds := [.data, .pinned], laidTests := true, laidLooks := .later }
def NamesStandsCardSaid : Prop := Claim7.holds Tryz.pinned (.plain (OpenSpec.ofChange namesStandsSpec)) namesStandsCard

/-- THE TIED CARD OF 'cellaragelaw19.NamesRenames'. -/
def namesRenamesCard : Claim7 := { stood := { row := namesRenamesRow, standIns := [], harness := (true, "919d2c4f29dafa518b0e2819fe96360007aa1241f4bf00221264f83c6d32fd1c"), looks := false }, kinds := [], alts := [], laidByText := true, laidKinds := [.data, .pinned], laidTests := true, laidLooks := .later }
def NamesRenamesCardSaid : Prop := Claim7.holds Tryz.pinned (.plain (OpenSpec.ofChange namesRenamesSpec)) namesRenamesCard

/-- THE TIED CARD OF 'cellaragelaw19.NamesTakes'. -/
def namesTakesCard : Claim7 := { stood := { row := namesTakesRow, standIns := [], harness := (true, "919d2c4f29dafa518b0e2819fe96360007aa1241f4bf00221264f83c6d32fd1c"), looks := false }, kinds := [], alts := [], laidByText := true, laidKinds := [.data, .pinned], laidTests := true, laidLooks := .later }
def NamesTakesCardSaid : Prop := Claim7.holds Tryz.pinned (.plain (OpenSpec.ofChange namesTakesSpec)) namesTakesCard

/-- THE TIED CARD OF 'cellaragelaw19.NamesBack'. -/
def namesBackCard : Claim7 := { stood := { row := namesBackRow, standIns := [], harness := (true, "919d2c4f29dafa518b0e2819fe96360007aa1241f4bf00221264f83c6d32fd1c"), looks := false }, kinds := [], alts := [], laidByText := true, laidKinds := [.data, .pinned], laidTests := true, laidLooks := .later }
def NamesBackCardSaid : Prop := Claim7.holds Tryz.pinned (.plain (OpenSpec.ofChange namesBackSpec)) namesBackCard

/-- THE TIED CARD OF 'cellaragelaw19.NamesPlays'. -/
def namesPlaysCard : Claim7 := { stood := { row := namesPlaysRow, standIns := [], harness := (true, "919d2c4f29dafa518b0e2819fe96360007aa1241f4bf00221264f83c6d32fd1c"), looks := false }, kinds := [], alts := [], laidByText := true, laidKinds := [.data, .pinned], laidTests := true, laidLooks := .later }
def NamesPlaysCardSaid : Prop := Claim7.holds Tryz.pinned (.plain (OpenSpec.ofChange namesPlaysSpec)) namesPlaysCard

/-- THE TIED CARD OF 'cellaragelaw19.NamesNil'. -/
def namesNilCard : Claim7 := { stood := { row := namesNilRow, standIns := [], harness := (true, "919d2c4f29dafa518b0e2819fe96360007aa1241f4bf00221264f83c6d32fd1c"), looks := false }, kinds := [], alts := [], laidByText := true, laidKinds := [.data, .pinned], laidTests := true, laidLooks := .later }
def NamesNilCardSaid : Prop := Claim7.holds Tryz.pinned (.plain (OpenSpec.ofChange namesNilSpec)) namesNilCard

/-- THE SECOND FORM's CARD OF 'cellaragelaw19.NamesSnaps'. -/
def namesSnapsUptoCard : Claim7 := { stood := { row := namesSnapsUptoRow, standIns := [], harness := (true, "919d2c4f29dafa518b0e2819fe96360007aa1241f4bf00221264f83c6d32fd1c"), looks := false }, kinds := [], alts := [], laidByText := true, laidKinds := [.data, .pinned], laidTests := true, laidLooks := .later }
def NamesSnapsUptoCardSaid : Prop := Claim7.holds Tryz.pinned (.plain (OpenSpec.upto namesSnapsSpec)) namesSnapsUptoCard

/-- THE SECOND FORM's CARD OF 'cellaragelaw19.NamesStands'. -/
def namesStandsUptoCard : Claim7 := { stood := { row := namesStandsUptoRow, standIns := [], harness := (true, "919d2c4f29dafa518b0e2819fe96360007aa1241f4bf00221264f83c6d32fd1c"), looks := false }, kinds := [], alts := [], laidByText := true, laidKinds := [.data, .pinned], laidTests := true, laidLooks := .later }
def NamesStandsUptoCardSaid : Prop := Claim7.holds Tryz.pinned (.plain (OpenSpec.upto namesStandsSpec)) namesStandsUptoCard

/-- THE SECOND FORM's CARD OF 'cellaragelaw19.NamesRenames'. -/
def namesRenamesUptoCard : Claim7 := { stood := { row := namesRenamesUptoRow, standIns := [], harness := (true, "919d2c4f29dafa518b0e2819fe96360007aa1241f4bf00221264f83c6d32fd1c"), looks := false }, kinds := [], alts := [], laidByText := true, laidKinds := [.data, .pinned], laidTests := true, laidLooks := .later }
def NamesRenamesUptoCardSaid : Prop := Claim7.holds Tryz.pinned (.plain (OpenSpec.upto namesRenamesSpec)) namesRenamesUptoCard

/-- THE SECOND FORM's CARD OF 'cellaragelaw19.NamesTakes'. -/
def namesTakesUptoCard : Claim7 := { stood := { row := namesTakesUptoRow, standIns := [], harness := (true, "919d2c4f29dafa518b0e2819fe96360007aa1241f4bf00221264f83c6d32fd1c"), looks := false }, kinds := [], alts := [], laidByText := true, laidKinds := [.data, .pinned], laidTests := true, laidLooks := .later }
def NamesTakesUptoCardSaid : Prop := Claim7.holds Tryz.pinned (.plain (OpenSpec.upto namesTakesSpec)) namesTakesUptoCard

/-- THE SECOND FORM's CARD OF 'cellaragelaw19.NamesBack'. -/
def namesBackUptoCard : Claim7 := { stood := { row := namesBackUptoRow, standIns := [], harness := (true, "919d2c4f29dafa518b0e2819fe96360007aa1241f4bf00221264f83c6d32fd1c"), looks := false }, kinds := [], alts := [], laidByText := true, laidKinds := [.data, .pinned], laidTests := true, laidLooks := .later }
def NamesBackUptoCardSaid : Prop := Claim7.holds Tryz.pinned (.plain (OpenSpec.upto namesBackSpec)) namesBackUptoCard

/-- THE SECOND FORM's CARD OF 'cellaragelaw19.NamesPlays'. -/
def namesPlaysUptoCard : Claim7 := { stood := { row := namesPlaysUptoRow, standIns := [], harness := (true, "919d2c4f29dafa518b0e2819fe96360007aa1241f4bf00221264f83c6d32fd1c"), looks := false }, kinds := [], alts := [], laidByText := true, laidKinds := [.data, .pinned], laidTests := true, laidLooks := .later }
def NamesPlaysUptoCardSaid : Prop := Claim7.holds Tryz.pinned (.plain (OpenSpec.upto namesPlaysSpec)) namesPlaysUptoCard

/-- THE SECOND FORM's CARD OF 'cellaragelaw19.NamesNil'. -/
def namesNilUptoCard : Claim7 := { stood := { row := namesNilUptoRow, standIns := [], harness := (true, "919d2c4f29dafa518b0e2819fe96360007aa1241f4bf00221264f83c6d32fd1c"), looks := false }, kinds := [], alts := [], laidByText := true, laidKinds := [.data, .pinned], laidTests := true, laidLooks := .later }
def NamesNilUptoCardSaid : Prop := Claim7.holds Tryz.pinned (.plain (OpenSpec.upto namesNilSpec)) namesNilUptoCard
end Rows
end Go.Proofs.YtoahjhogjjdkhaaGreatDoor
