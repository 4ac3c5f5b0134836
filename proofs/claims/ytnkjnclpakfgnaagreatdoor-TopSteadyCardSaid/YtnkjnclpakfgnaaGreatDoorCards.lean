/-
  DERIVED. GIVEN WITH THE SEED: THE CARDS: each row of YtnkjnclpakfgnaaGreatDoorRows.lean that lists a variable, with what it lists TIED to the program's text (the seventh form; the later family's looks); each row that meets fmt, with fmt's text TOLD by the authors' own Lean function (tested against real Go, not proved from fmt's source: count such statements apart). THE CARD IS WHAT COUNTS. Prove the row's statement (the work); the ties are given (YtnkjnclpakfgnaaGreatDoorTie.lean); close each card by the builder's one call (the guide's Derived/Test/ToyasCard.lean, 'card_holds'). Laid BY PROGRAM, IN A SANDBOX (cutbox-door.mjs). By AI agents, Wed Nov 11 2026. No macro, syntax, notation, axiom, sorry.
-/
import Derived.Test.YtnkjnclpakfgnaaGreatDoorRows
import GoSem.ClaimSeven
namespace Go.Proofs.YtnkjnclpakfgnaaGreatDoor
namespace Rows

/-- THE TIED CARD OF 'lapidarytop.TopKeeps'. -/
def topKeepsCard : Claim7 := { stood := { row := topKeepsRow, standIns := [], harness := (true, "e7a091989406db25b270c03f74c52c767b701b592caaf9a1c5f4471d88b6c6a2"), looks := true }, kinds := [], alts := [], laidByText := true, laidKinds := [.data, .widerDeep, .pinned, .pinned], laidTests := true, laidLooks := .later }
def TopKeepsCardSaid : Prop := Claim7.holds Tryz.pinned (.plain (OpenSpec.ofChange topKeepsSpec)) topKeepsCard

/-- THE TIED CARD OF 'lapidarytop.TopSteady'. -/
def topSteadyCard : Claim7 := { stood := { row := topSteadyRow, standIns := [], harness := (true, "e7a091989406db25b270c03f74c52c767b701b592caaf9a1c5f4471d88b6c6a2"), looks := true }, kinds := [], alts := [], laidByText := true, laidKinds := [.data, .widerDeep, .pinned, .pinned], laidTests := true, laidLooks := .later }
def TopSteadyCardSaid : Prop := Claim7.holds Tryz.pinned (.plain (OpenSpec.ofChange topSteadySpec)) topSteadyCard

/-- THE SECOND FORM's CARD OF 'lapidarytop.TopKeeps'. -/
def topKeepsUptoCard : Claim7 := { stood := { row := topKeepsUptoRow, standIns := [], harness := (true, "e7a091989406db25b270c03f74c52c767b701b592caaf9a1c5f4471d88b6c6a2"), looks := true }, kinds := [], alts := [], laidByText := true, laidKinds := [.data, .widerDeep, .pinned, .pinned], laidTests := true, laidLooks := .later }
def TopKeepsUptoCardSaid : Prop := Claim7.holds Tryz.pinned (.plain (OpenSpec.upto topKeepsSpec)) topKeepsUptoCard

/-- THE SECOND FORM's CARD OF 'lapidarytop.TopSteady'. -/
def topSteadyUptoCard : Claim7 := { stood := { row := topSteadyUptoRow, standIns := [], harness := (true, "e7a091989406db25b270c03f74c52c767b701b592caaf9a1c5f4471d88b6c6a2"), looks := true }, kinds := [], alts := [], laidByText := true, laidKinds := [.data, .widerDeep, .pinned, .pinned], laidTests := true, laidLooks := .later }
def TopSteadyUptoCardSaid : Prop := Claim7.holds Tryz.pinned (.plain (OpenSpec.upto topSteadySpec)) topSteadyUptoCard
end Rows
end Go.Proofs.YtnkjnclpakfgnaaGreatDoor
