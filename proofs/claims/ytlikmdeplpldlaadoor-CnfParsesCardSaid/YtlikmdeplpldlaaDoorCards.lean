/-
  DERIVED. GIVEN WITH THE SEED: THE CARDS: each row of YtlikmdeplpldlaaDoorRows.lean that lists a variable, with what it lists TIED to the program's text (the seventh form; the later family's looks); each row that meets fmt, with fmt's text TOLD by the authors' own Lean function (tested against real Go, not proved from fmt's source: count such statements apart). THE CARD IS WHAT COUNTS. Prove the row's statement (the work); the ties are given (YtlikmdeplpldlaaDoorTie.lean); close each card by the builder's one call (the guide's Derived/Test/ToyasCard.lean, 'card_holds'). Laid BY PROGRAM, IN A SANDBOX (cutbox-door.mjs). By AI agents, Wed Nov 11 2026. No macro, syntax, notation, axiom, sorry.
-/
import Derived.Test.YtlikmdeplpldlaaDoorRows
import GoSem.ClaimSeven
namespace Go.Proofs.YtlikmdeplpldlaaDoor
namespace Rows

/-- THE TIED CARD OF 'metronomelaw23.CnfHolds'. -/
def cnfHoldsCard : Claim7 := { stood := { row := cnfHoldsRow, standIns := [], harness := (true, "754ab03034ea4332e14fbfa2ea5608a4b7c2b35e68488c49ec3fea7a978339f8"), looks := true }, kinds := [], alts := [], laidByText := true, laidKinds := [.data, .data, .data], laidTests := true, laidLooks := .later }
def CnfHoldsCardSaid : Prop := Claim7.holds Tryd.pinned (.plain (OpenSpec.ofChange cnfHoldsSpec)) cnfHoldsCard

/-- THE TIED CARD OF 'metronomelaw23.CnfOf'. -/
def cnfOfCard : Claim7 := { stood := { row := cnfOfRow, standIns := [], harness := (true, "754ab03034ea4332e14fbfa2ea5608a4b7c2b35e68488c49ec3fea7a978339f8"), looks := true }, kinds := [], alts := [], laidByText := true, laidKinds := [.data, .data, .data], laidTests := true, laidLooks := .later }
def CnfOfCardSaid : Prop := Claim7.holds Tryd.pinned (.plain (OpenSpec.ofChange cnfOfSpec)) cnfOfCard

/-- THE TIED CARD OF 'metronomelaw23.CnfMeans'. -/
def cnfMeansCard : Claim7 := { stood := { row := cnfMeansRow, standIns := [], harness := (true, "754ab03034ea4332e14fbfa2ea5608a4b7c2b35e68488c49ec3fea7a978339f8"), looks := true }, kinds := [], alts := [], laidByText := true, laidKinds := [.data, .data, .data], laidTests := true, laidLooks := .later }
def CnfMeansCardSaid : Prop := Claim7.holds Tryd.pinned (.plain (OpenSpec.ofChange cnfMeansSpec)) cnfMeansCard

/-- THE TIED CARD OF 'metronomelaw23.CnfTexts'. -/
def cnfTextsCard : Claim7 := { stood := { row := cnfTextsRow, standIns := [], harness := (true, "754ab03034ea4332e14fbfa2ea5608a4b7c2b35e68488c49ec3fea7a978339f8"), looks := true }, kinds := [], alts := [], laidByText := true, laidKinds := [.data, .data, .data, .data, .sentinel, .sentinel, .pinned], laidTests := true, laidLooks := .later }
def CnfTextsCardSaid : Prop := Claim7.holds Tryd.pinned (.plain (OpenSpec.ofChange cnfTextsSpec)) cnfTextsCard

/-- THE TIED CARD OF 'metronomelaw23.CnfParses'. -/
def cnfParsesCard : Claim7 := { stood := { row := cnfParsesRow, standIns := [], harness := (true, "754ab03034ea4332e14fbfa2ea5608a4b7c2b35e68488c49ec3fea7a978339f8"), looks := true }, kinds := [], alts := [], laidByText := true, laidKinds := [.data, .data, .data, .data, .sentinel, .sentinel, .pinned], laidTests := true, laidLooks := .later }
def CnfParsesCardSaid : Prop := Claim7.holds Tryd.pinned (.plain (OpenSpec.ofChange cnfParsesSpec)) cnfParsesCard

/-- THE SECOND FORM's CARD OF 'metronomelaw23.CnfHolds'. -/
def cnfHoldsUptoCard : Claim7 := { stood := { row := cnfHoldsUptoRow, standIns := [], harness := (true, "754ab03034ea4332e14fbfa2ea5608a4b7c2b35e68488c49ec3fea7a978339f8"), looks := true }, kinds := [], alts := [], laidByText := true, laidKinds := [.data, .data, .data], laidTests := true, laidLooks := .later }
def CnfHoldsUptoCardSaid : Prop := Claim7.holds Tryd.pinned (.plain (OpenSpec.upto cnfHoldsSpec)) cnfHoldsUptoCard

/-- THE SECOND FORM's CARD OF 'metronomelaw23.CnfOf'. -/
def cnfOfUptoCard : Claim7 := { stood := { row := cnfOfUptoRow, standIns := [], harness := (true, "754ab03034ea4332e14fbfa2ea5608a4b7c2b35e68488c49ec3fea7a978339f8"), looks := true }, kinds := [], alts := [], laidByText := true, laidKinds := [.data, .data, .data], laidTests := true, laidLooks := .later }
def CnfOfUptoCardSaid : Prop := Claim7.holds Tryd.pinned (.plain (OpenSpec.upto cnfOfSpec)) cnfOfUptoCard

/-- THE SECOND FORM's CARD OF 'metronomelaw23.CnfMeans'. -/
def cnfMeansUptoCard : Claim7 := { stood := { row := cnfMeansUptoRow, standIns := [], harness := (true, "754ab03034ea4332e14fbfa2ea5608a4b7c2b35e68488c49ec3fea7a978339f8"), looks := true }, kinds := [], alts := [], laidByText := true, laidKinds := [.data, .data, .data], laidTests := true, laidLooks := .later }
def CnfMeansUptoCardSaid : Prop := Claim7.holds Tryd.pinned (.plain (OpenSpec.upto cnfMeansSpec)) cnfMeansUptoCard

/-- THE SECOND FORM's CARD OF 'metronomelaw23.CnfTexts'. -/
def cnfTextsUptoCard : Claim7 := { stood := { row := cnfTextsUptoRow, standIns := [], harness := (true, "754ab03034ea4332e14fbfa2ea5608a4b7c2b35e68488c49ec3fea7a978339f8"), looks := true }, kinds := [], alts := [], laidByText := true, laidKinds := [.data, .data, .data, .data, .sentinel, .sentinel, .pinned], laidTests := true, laidLooks := .later }
def CnfTextsUptoCardSaid : Prop := Claim7.holds Tryd.pinned (.plain (OpenSpec.upto cnfTextsSpec)) cnfTextsUptoCard

/-- THE SECOND FORM's CARD OF 'metronomelaw23.CnfParses'. -/
def cnfParsesUptoCard : Claim7 := { stood := { row := cnfParsesUptoRow, standIns := [], harness := (true, "754ab03034ea4332e14fbfa2ea5608a4b7c2b35e68488c49ec3fea7a978339f8"), looks := true }, kinds := [], alts := [], laidByText := true, laidKinds := [.data, .data, .data, .data, .sentinel, .sentinel, .pinned], laidTests := true, laidLooks := .later }
def CnfParsesUptoCardSaid : Prop := Claim7.holds Tryd.pinned (.plain (OpenSpec.upto cnfParsesSpec)) cnfParsesUptoCard
end Rows
end Go.Proofs.YtlikmdeplpldlaaDoor
