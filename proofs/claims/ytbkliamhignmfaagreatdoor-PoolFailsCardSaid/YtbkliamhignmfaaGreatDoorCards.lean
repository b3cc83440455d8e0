/-
  DERIVED. GIVEN WITH THE SEED: THE CARDS: each row of YtbkliamhignmfaaGreatDoorRows.lean that lists a variable, with what it lists TIED to the program's text (the seventh form; the later family's looks); each row that meets fmt, with fmt's text TOLD by the authors' own Lean function (tested against real Go, not proved from fmt's source: count such statements apart). THE CARD IS WHAT COUNTS. Prove the row's statement (the work); the ties are given (YtbkliamhignmfaaGreatDoorTie.lean); close each card by the builder's one call (the guide's Derived/Test/ToyasCard.lean, 'card_holds'). Laid BY PROGRAM, IN A SANDBOX (cutbox-door.mjs). By AI agents, Wed Nov 11 2026. No macro, syntax, notation, axiom, sorry.
-/
import Derived.Test.YtbkliamhignmfaaGreatDoorRows
import GoSem.ClaimSeven
namespace Go.Proofs.YtbkliamhignmfaaGreatDoor
namespace Rows

/-- THE TIED CARD OF 'quartermasterlaw06.PoolActs'. -/
def poolActsCard : Claim7 := { stood := { row := poolActsRow, standIns := [], harness := (true, "296b7793d5b761c41138a117b78686301e4d396bb3b841addf3d123733a5600f"), looks := false }, kinds := [], alts := [], laidByText := true, laidKinds := [.data, .data, .data], laidTests := true, laidLooks := .later }
def PoolActsCardSaid : Prop := Claim7.holds Tryz.pinned (.plain (OpenSpec.ofChange poolActsSpec)) poolActsCard

/-- THE TIED CARD OF 'quartermasterlaw06.PoolFails'. -/
def poolFailsCard : Claim7 := { stood := { row := poolFailsRow, standIns := [], harness := (true, "296b7793d5b761c41138a117b78686301e4d396bb3b841addf3d123733a5600f"), looks := false }, kinds := [], alts := [], laidByText := true, laidKinds := [.data, .data, .data], laidTests := true, laidLooks := .later }
def PoolFailsCardSaid : Prop := Claim7.holds Tryz.pinned (.plain (OpenSpec.ofChange poolFailsSpec)) poolFailsCard

/-- THE SECOND FORM's CARD OF 'quartermasterlaw06.PoolActs'. -/
def poolActsUptoCard : Claim7 := { stood := { row := poolActsUptoRow, standIns := [], harness := (true, "296b7793d5b761c41138a117b78686301e4d396bb3b841addf3d123733a5600f"), looks := false }, kinds := [], alts := [], laidByText := true, laidKinds := [.data, .data, .data], laidTests := true, laidLooks := .later }
def PoolActsUptoCardSaid : Prop := Claim7.holds Tryz.pinned (.plain (OpenSpec.upto poolActsSpec)) poolActsUptoCard

/-- THE SECOND FORM's CARD OF 'quartermasterlaw06.PoolFails'. -/
def poolFailsUptoCard : Claim7 := { stood := { row := poolFailsUptoRow, standIns := [], harness := (true, "296b7793d5b761c41138a117b78686301e4d396bb3b841addf3d123733a5600f"), looks := false }, kinds := [], alts := [], laidByText := true, laidKinds := [.data, .data, .data], laidTests := true, laidLooks := .later }
def PoolFailsUptoCardSaid : Prop := Claim7.holds Tryz.pinned (.plain (OpenSpec.upto poolFailsSpec)) poolFailsUptoCard
end Rows
end Go.Proofs.YtbkliamhignmfaaGreatDoor
