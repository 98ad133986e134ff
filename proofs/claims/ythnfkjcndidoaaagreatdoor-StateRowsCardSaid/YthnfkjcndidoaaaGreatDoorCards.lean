/-
  DERIVED. GIVEN WITH THE SEED: THE CARDS: each row of YthnfkjcndidoaaaGreatDoorRows.lean that lists a variable, with what it lists TIED to the program's text (the seventh form; the later family's looks); each row that meets fmt, with fmt's text TOLD by the authors' own Lean function (tested against real Go, not proved from fmt's source: count such statements apart). THE CARD IS WHAT COUNTS. Prove the row's statement (the work); the ties are given (YthnfkjcndidoaaaGreatDoorTie.lean); close each card by the builder's one call (the guide's Derived/Test/ToyasCard.lean, 'card_holds'). Laid BY PROGRAM, IN A SANDBOX (cutbox-door.mjs). By AI agents, Wed Nov 11 2026. No macro, syntax, notation, axiom, sorry.
-/
import Derived.Test.YthnfkjcndidoaaaGreatDoorRows
import GoSem.ClaimSeven
namespace Go.Proofs.YthnfkjcndidoaaaGreatDoor
namespace Rows

/-- THE TIED CARD OF 'centolaw13.StateGrows'. -/
def stateGrowsCard : Claim7 := { stood := { row := stateGrowsRow, standIns := [], harness := (true, "a3b3f0c1ad3a747f73764953d713ee35587c52d50e7be33668ac1edc37677683"), looks := false }, kinds := [], alts := [], laidByText := true, laidKinds := [.data], laidTests := true, laidLooks := .later }
def StateGrowsCardSaid : Prop := Claim7.holds Tryz.pinned (.plain (OpenSpec.ofChange stateGrowsSpec)) stateGrowsCard

/-- THE TIED CARD OF 'centolaw13.StatePaths'. -/
def statePathsCard : Claim7 := { stood := { row := statePathsRow, standIns := [], harness := (true, "a3b3f0c1ad3a747f73764953d713ee35587c52d50e7be33668ac1edc37677683"), looks := false }, kinds := [], alts := [], laidByText := true, laidKinds := [.data], laidTests := true, laidLooks := .later }
def StatePathsCardSaid : Prop := Claim7.holds Tryz.pinned (.plain (OpenSpec.ofChange statePathsSpec)) statePathsCard

/-- THE TIED CARD OF 'centolaw13.StateRows'. -/
def stateRowsCard : Claim7 := { stood := { row := stateRowsRow, standIns := [], harness := (true, "a3b3f0c1ad3a747f73764953d713ee35587c52d50e7be33668ac1edc37677683"), looks := false }, kinds := [], alts := [], laidByText := true, laidKinds := [.data], laidTests := true, laidLooks := .later }
def StateRowsCardSaid : Prop := Claim7.holds Tryz.pinned (.plain (OpenSpec.ofChange stateRowsSpec)) stateRowsCard

/-- THE TIED CARD OF 'centolaw13.StateTells'. -/
def stateTellsCard : Claim7 := { stood := { row := stateTellsRow, standIns := [], harness := (true, "a3b3f0c1ad3a747f73764953d713ee35587c52d50e7be33668ac1edc37677683"), looks := false }, kinds := [], alts := [], laidByText := true, laidKinds := [.data], laidTests := true, laidLooks := .later }
def StateTellsCardSaid : Prop := Claim7.holds Tryz.pinned (.plain (OpenSpec.ofChange stateTellsSpec)) stateTellsCard

/-- THE TIED CARD OF 'centolaw13.StateFiles'. -/
def stateFilesCard : Claim7 := { stood := { row := stateFilesRow, standIns := [], harness := (true, "a3b3f0c1ad3a747f73764953d713ee35587c52d50e7be33668ac1edc37677683"), looks := false }, kinds := [], alts := [], laidByText := true, laidKinds := [.data], laidTests := true, laidLooks := .later }
def StateFilesCardSaid : Prop := Claim7.holds Tryz.pinned (.plain (OpenSpec.ofChange stateFilesSpec)) stateFilesCard

/-- THE TIED CARD OF 'centolaw13.StateOrder'. -/
def stateOrderCard : Claim7 := { stood := { row := stateOrderRow, standIns := [], harness := (true, "a3b3f0c1ad3a747f73764953d713ee35587c52d50e7be33668ac1edc37677683"), looks := false }, kinds := [], alts := [], laidByText := true, laidKinds := [.data], laidTests := true, laidLooks := .later }
def StateOrderCardSaid : Prop := Claim7.holds Tryz.pinned (.plain (OpenSpec.ofChange stateOrderSpec)) stateOrderCard

/-- THE SECOND FORM's CARD OF 'centolaw13.StateGrows'. -/
def stateGrowsUptoCard : Claim7 := { stood := { row := stateGrowsUptoRow, standIns := [], harness := (true, "a3b3f0c1ad3a747f73764953d713ee35587c52d50e7be33668ac1edc37677683"), looks := false }, kinds := [], alts := [], laidByText := true, laidKinds := [.data], laidTests := true, laidLooks := .later }
def StateGrowsUptoCardSaid : Prop := Claim7.holds Tryz.pinned (.plain (OpenSpec.upto stateGrowsSpec)) stateGrowsUptoCard

/-- THE SECOND FORM's CARD OF 'centolaw13.StatePaths'. -/
def statePathsUptoCard : Claim7 := { stood := { row := statePathsUptoRow, standIns := [], harness := (true, "a3b3f0c1ad3a747f73764953d713ee35587c52d50e7be33668ac1edc37677683"), looks := false }, kinds := [], alts := [], laidByText := true, laidKinds := [.data], laidTests := true, laidLooks := .later }
def StatePathsUptoCardSaid : Prop := Claim7.holds Tryz.pinned (.plain (OpenSpec.upto statePathsSpec)) statePathsUptoCard

/-- THE SECOND FORM's CARD OF 'centolaw13.StateRows'. -/
def stateRowsUptoCard : Claim7 := { stood := { row := stateRowsUptoRow, standIns := [], harness := (true, "a3b3f0c1ad3a747f73764953d713ee35587c52d50e7be33668ac1edc37677683"), looks := false }, kinds := [], alts := [], laidByText := true, laidKinds := [.data], laidTests := true, laidLooks := .later }
def StateRowsUptoCardSaid : Prop := Claim7.holds Tryz.pinned (.plain (OpenSpec.upto stateRowsSpec)) stateRowsUptoCard

/-- THE SECOND FORM's CARD OF 'centolaw13.StateTells'. -/
def stateTellsUptoCard : Claim7 := { stood := { row := stateTellsUptoRow, standIns := [], harness := (true, "a3b3f0c1ad3a747f73764953d713ee35587c52d50e7be33668ac1edc37677683"), looks := false }, kinds := [], alts := [], laidByText := true, laidKinds := [.data], laidTests := true, laidLooks := .later }
def StateTellsUptoCardSaid : Prop := Claim7.holds Tryz.pinned (.plain (OpenSpec.upto stateTellsSpec)) stateTellsUptoCard

/-- THE SECOND FORM's CARD OF 'centolaw13.StateFiles'. -/
def stateFilesUptoCard : Claim7 := { stood := { row := stateFilesUptoRow, standIns := [], harness := (true, "a3b3f0c1ad3a747f73764953d713ee35587c52d50e7be33668ac1edc37677683"), looks := false }, kinds := [], alts := [], laidByText := true, laidKinds := [.data], laidTests := true, laidLooks := .later }
def StateFilesUptoCardSaid : Prop := Claim7.holds Tryz.pinned (.plain (OpenSpec.upto stateFilesSpec)) stateFilesUptoCard

/-- THE SECOND FORM's CARD OF 'centolaw13.StateOrder'. -/
def stateOrderUptoCard : Claim7 := { stood := { row := stateOrderUptoRow, standIns := [], harness := (true, "a3b3f0c1ad3a747f73764953d713ee35587c52d50e7be33668ac1edc37677683"), looks := false }, kinds := [], alts := [], laidByText := true, laidKinds := [.data], laidTests := true, laidLooks := .later }
def StateOrderUptoCardSaid : Prop := Claim7.holds Tryz.pinned (.plain (OpenSpec.upto stateOrderSpec)) stateOrderUptoCard
end Rows
end Go.Proofs.YthnfkjcndidoaaaGreatDoor
