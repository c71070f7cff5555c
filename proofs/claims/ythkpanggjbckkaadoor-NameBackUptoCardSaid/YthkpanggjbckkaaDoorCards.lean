/-
  DERIVED. GIVEN WITH THE SEED: THE CARDS: each row of YthkpanggjbckkaaDoorRows.lean that lists a variable, with what it lists TIED to the program's text (the seventh form; the later family's looks); each row that meets fmt, with fmt's text TOLD by the authors' own Lean function (tested against real Go, not proved from fmt's source: count such statements apart). THE CARD IS WHAT COUNTS. Prove the row's statement (the work); the ties are given (YthkpanggjbckkaaDoorTie.lean); close each card by the builder's one call (the guide's Derived/Test/ToyasCard.lean, 'card_holds'). Laid BY PROGRAM, IN A SANDBOX (cutbox-door.mjs). By AI agents, Wed Nov 11 2026. No macro, syntax, notation, axiom, sorry.
-/
import Derived.Test.YthkpanggjbckkaaDoorRows
import GoSem.ClaimSeven
namespace Go.Proofs.YthkpanggjbckkaaDoor
namespace Rows

/-- THE TIED CARD OF 'derricklaw02.NameFolds'. -/
def nameFoldsCard : Claim7 := { stood := { row := nameFoldsRow, standIns := [], harness := (true, "3d47de7fb06ae355c66f4ab428bb462d080cb1f7e630adab0536a51d2eab5cd2"), looks := false }, kinds := [], alts := [], laidByText := true, laidKinds := [.data, .data, .data], laidTests := true, laidLooks := .later }
def NameFoldsCardSaid : Prop := Claim7.holds Tryd.pinned (.plain (OpenSpec.ofChange nameFoldsSpec)) nameFoldsCard

/-- THE TIED CARD OF 'derricklaw02.NameTells'. -/
def nameTellsCard : Claim7 := { stood := { row := nameTellsRow, standIns := [], harness := (true, "3d47de7fb06ae355c66f4ab428bb462d080cb1f7e630adab0536a51d2eab5cd2"), looks := false }, kinds := [], alts := [], laidByText := true, laidKinds := [.data, .data, .data], laidTests := true, laidLooks := .later }
def NameTellsCardSaid : Prop := Claim7.holds Tryd.pinned (.plain (OpenSpec.ofChange nameTellsSpec)) nameTellsCard

/-- THE TIED CARD OF 'derricklaw02.NameParents'. -/
def nameParentsCard : Claim7 := { stood := { row := nameParentsRow, standIns := [], harness := (true, "3d47de7fb06ae355c66f4ab428bb462d080cb1f7e630adab0536a51d2eab5cd2"), looks := false }, kinds := [], alts := [], laidByText := true, laidKinds := [.data, .data, .data], laidTests := true, laidLooks := .later }
def NameParentsCardSaid : Prop := Claim7.holds Tryd.pinned (.plain (OpenSpec.ofChange nameParentsSpec)) nameParentsCard

/-- THE TIED CARD OF 'derricklaw02.NameUnder'. -/
def nameUnderCard : Claim7 := { stood := { row := nameUnderRow, standIns := [], harness := (true, "3d47de7fb06ae355c66f4ab428bb462d080cb1f7e630adab0536a51d2eab5cd2"), looks := false }, kinds := [], alts := [], laidByText := true, laidKinds := [.data, .data, .data], laidTests := true, laidLooks := .later }
def NameUnderCardSaid : Prop := Claim7.holds Tryd.pinned (.plain (OpenSpec.ofChange nameUnderSpec)) nameUnderCard

/-- THE TIED CARD OF 'derricklaw02.NameTexts'. -/
def nameTextsCard : Claim7 := { stood := { row := nameTextsRow, standIns := [], harness := (true, "3d47de7fb06ae355c66f4ab428bb462d080cb1f7e630adab0536a51d2eab5cd2"), looks := false }, kinds := [], alts := [], laidByText := true, laidKinds := [.data, .data, .data], laidTests := true, laidLooks := .later }
def NameTextsCardSaid : Prop := Claim7.holds Tryd.pinned (.plain (OpenSpec.ofChange nameTextsSpec)) nameTextsCard

/-- THE TIED CARD OF 'derricklaw02.NameBack'. -/
def nameBackCard : Claim7 := { stood := { row := nameBackRow, standIns := [], harness := (true, "3d47de7fb06ae355c66f4ab428bb462d080cb1f7e630adab0536a51d2eab5cd2"), looks := false }, kinds := [], alts := [], laidByText := true, laidKinds := [.data, .data, .data], laidTests := true, laidLooks := .later }
def NameBackCardSaid : Prop := Claim7.holds Tryd.pinned (.plain (OpenSpec.ofChange nameBackSpec)) nameBackCard

/-- THE TIED CARD OF 'derricklaw02.NameJoins'. -/
def nameJoinsCard : Claim7 := { stood := { row := nameJoinsRow, standIns := [], harness := (true, "3d47de7fb06ae355c66f4ab428bb462d080cb1f7e630adab0536a51d2eab5cd2"), looks := false }, kinds := [], alts := [], laidByText := true, laidKinds := [.data, .data, .data], laidTests := true, laidLooks := .later }
def NameJoinsCardSaid : Prop := Claim7.holds Tryd.pinned (.plain (OpenSpec.ofChange nameJoinsSpec)) nameJoinsCard

/-- THE SECOND FORM's CARD OF 'derricklaw02.NameFolds'. -/
def nameFoldsUptoCard : Claim7 := { stood := { row := nameFoldsUptoRow, standIns := [], harness := (true, "3d47de7fb06ae355c66f4ab428bb462d080cb1f7e630adab0536a51d2eab5cd2"), looks := false }, kinds := [], alts := [], laidByText := true, laidKinds := [.data, .data, .data], laidTests := true, laidLooks := .later }
def NameFoldsUptoCardSaid : Prop := Claim7.holds Tryd.pinned (.plain (OpenSpec.upto nameFoldsSpec)) nameFoldsUptoCard

/-- THE SECOND FORM's CARD OF 'derricklaw02.NameTells'. -/
def nameTellsUptoCard : Claim7 := { stood := { row := nameTellsUptoRow, standIns := [], harness := (true, "3d47de7fb06ae355c66f4ab428bb462d080cb1f7e630adab0536a51d2eab5cd2"), looks := false }, kinds := [], alts := [], laidByText := true, laidKinds := [.data, .data, .data], laidTests := true, laidLooks := .later }
def NameTellsUptoCardSaid : Prop := Claim7.holds Tryd.pinned (.plain (OpenSpec.upto nameTellsSpec)) nameTellsUptoCard

/-- THE SECOND FORM's CARD OF 'derricklaw02.NameParents'. -/
def nameParentsUptoCard : Claim7 := { stood := { row := nameParentsUptoRow, standIns := [], harness := (true, "3d47de7fb06ae355c66f4ab428bb462d080cb1f7e630adab0536a51d2eab5cd2"), looks := false }, kinds := [], alts := [], laidByText := true, laidKinds := [.data, .data, .data], laidTests := true, laidLooks := .later }
def NameParentsUptoCardSaid : Prop := Claim7.holds Tryd.pinned (.plain (OpenSpec.upto nameParentsSpec)) nameParentsUptoCard

/-- THE SECOND FORM's CARD OF 'derricklaw02.NameUnder'. -/
def nameUnderUptoCard : Claim7 := { stood := { row := nameUnderUptoRow, standIns := [], harness := (true, "3d47de7fb06ae355c66f4ab428bb462d080cb1f7e630adab0536a51d2eab5cd2"), looks := false }, kinds := [], alts := [], laidByText := true, laidKinds := [.data, .data, .data], laidTests := true, laidLooks := .later }
def NameUnderUptoCardSaid : Prop := Claim7.holds Tryd.pinned (.plain (OpenSpec.upto nameUnderSpec)) nameUnderUptoCard

/-- THE SECOND FORM's CARD OF 'derricklaw02.NameTexts'. -/
def nameTextsUptoCard : Claim7 := { stood := { row := nameTextsUptoRow, standIns := [], harness := (true, "3d47de7fb06ae355c66f4ab428bb462d080cb1f7e630adab0536a51d2eab5cd2"), looks := false }, kinds := [], alts := [], laidByText := true, laidKinds := [.data, .data, .data], laidTests := true, laidLooks := .later }
def NameTextsUptoCardSaid : Prop := Claim7.holds Tryd.pinned (.plain (OpenSpec.upto nameTextsSpec)) nameTextsUptoCard

/-- THE SECOND FORM's CARD OF 'derricklaw02.NameBack'. -/
def nameBackUptoCard : Claim7 := { stood := { row := nameBackUptoRow, standIns := [], harness := (true, "3d47de7fb06ae355c66f4ab428bb462d080cb1f7e630adab0536a51d2eab5cd2"), looks := false }, kinds := [], alts := [], laidByText := true, laidKinds := [.data, .data, .data], laidTests := true, laidLooks := .later }
def NameBackUptoCardSaid : Prop := Claim7.holds Tryd.pinned (.plain (OpenSpec.upto nameBackSpec)) nameBackUptoCard

/-- THE SECOND FORM's CARD OF 'derricklaw02.NameJoins'. -/
def nameJoinsUptoCard : Claim7 := { stood := { row := nameJoinsUptoRow, standIns := [], harness := (true, "3d47de7fb06ae355c66f4ab428bb462d080cb1f7e630adab0536a51d2eab5cd2"), looks := false }, kinds := [], alts := [], laidByText := true, laidKinds := [.data, .data, .data], laidTests := true, laidLooks := .later }
def NameJoinsUptoCardSaid : Prop := Claim7.holds Tryd.pinned (.plain (OpenSpec.upto nameJoinsSpec)) nameJoinsUptoCard
end Rows
end Go.Proofs.YthkpanggjbckkaaDoor
