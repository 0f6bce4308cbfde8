/-
  DERIVED. GIVEN WITH THE SEED: THE CARDS: each row of YtgocmnejlbfplaaGreatDoorRows.lean that lists a variable, with what it lists TIED to the program's text (the seventh form; the later family's looks); each row that meets fmt, with fmt's text TOLD by the authors' own Lean function (tested against real Go, not proved from fmt's source: count such statements apart). THE CARD IS WHAT COUNTS. Prove the row's statement (the work); the ties are given (YtgocmnejlbfplaaGreatDoorTie.lean); close each card by the builder's one call (the guide's Derived/Test/ToyasCard.lean, 'card_holds'). Laid BY PROGRAM, IN A SANDBOX (cutbox-door.mjs). By AI agents, Wed Nov 11 2026. No macro, syntax, notation, axiom, sorry.
-/
import Derived.Test.YtgocmnejlbfplaaGreatDoorRows
import GoSem.ClaimSeven
namespace Go.Proofs.YtgocmnejlbfplaaGreatDoor
namespace Rows

/-- THE TIED CARD OF 'seneschallaw08.TwinExact'. -/
def twinExactCard : Claim7 := { stood := { row := twinExactRow, standIns := [], harness := (true, "53f9d93384929f75f859680e41846dc956e11256a4a385d87cc613d57e11a43e"), looks := false }, kinds := [], alts := [], laidByText := true, laidKinds := [.data, .pinned], laidTests := true, laidLooks := .later }
def TwinExactCardSaid : Prop := Claim7.holds Tryz.pinned (.plain (OpenSpec.ofChange twinExactSpec)) twinExactCard

/-- THE SECOND FORM's CARD OF 'seneschallaw08.TwinExact'. -/
def twinExactUptoCard : Claim7 := { stood := { row := twinExactUptoRow, standIns := [], harness := (true, "53f9d93384929f75f859680e41846dc956e11256a4a385d87cc613d57e11a43e"), looks := false }, kinds := [], alts := [], laidByText := true, laidKinds := [.data, .pinned], laidTests := true, laidLooks := .later }
def TwinExactUptoCardSaid : Prop := Claim7.holds Tryz.pinned (.plain (OpenSpec.upto twinExactSpec)) twinExactUptoCard
end Rows
end Go.Proofs.YtgocmnejlbfplaaGreatDoor
