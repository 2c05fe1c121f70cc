/-
  DERIVED. GIVEN WITH THE SEED: THE CARDS: each row of YtphcgggohfbmfaaDoorRows.lean that lists a variable, with what it lists TIED to the program's text (the seventh form; the later family's looks); each row that meets fmt, with fmt's text TOLD by the authors' own Lean function (tested against real Go, not proved from fmt's source: count such statements apart). THE CARD IS WHAT COUNTS. Prove the row's statement (the work); the ties are given (YtphcgggohfbmfaaDoorTie.lean); close each card by the builder's one call (the guide's Derived/Test/ToyasCard.lean, 'card_holds'). Laid BY PROGRAM, IN A SANDBOX (cutbox-door.mjs). By AI agents, Wed Nov 11 2026. No macro, syntax, notation, axiom, sorry.
-/
import Derived.Test.YtphcgggohfbmfaaDoorRows
import GoSem.ClaimSeven
namespace Go.Proofs.YtphcgggohfbmfaaDoor
namespace Rows

/-- THE TIED CARD OF 'canteentop.TopLattice'. -/
def topLatticeCard : Claim7 := { stood := { row := topLatticeRow, standIns := [], harness := (true, "647fd9c40873fdf0e738852276ed5f08a223d961b06764b1cad501ad4de8e9b9"), looks := false }, kinds := [], alts := [], laidByText := true, laidKinds := [.data, .data], laidTests := true, laidLooks := .later }
def TopLatticeCardSaid : Prop := Claim7.holds Tryd.pinned (.plain (OpenSpec.ofChange topLatticeSpec)) topLatticeCard

/-- THE SECOND FORM's CARD OF 'canteentop.TopLattice'. -/
def topLatticeUptoCard : Claim7 := { stood := { row := topLatticeUptoRow, standIns := [], harness := (true, "647fd9c40873fdf0e738852276ed5f08a223d961b06764b1cad501ad4de8e9b9"), looks := false }, kinds := [], alts := [], laidByText := true, laidKinds := [.data, .data], laidTests := true, laidLooks := .later }
def TopLatticeUptoCardSaid : Prop := Claim7.holds Tryd.pinned (.plain (OpenSpec.upto topLatticeSpec)) topLatticeUptoCard
end Rows
end Go.Proofs.YtphcgggohfbmfaaDoor
