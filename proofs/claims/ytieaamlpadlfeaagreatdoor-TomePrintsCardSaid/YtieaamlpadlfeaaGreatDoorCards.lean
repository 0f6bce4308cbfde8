/-
  DERIVED. GIVEN WITH THE SEED: THE CARDS: each row of YtieaamlpadlfeaaGreatDoorRows.lean that lists a variable, with what it lists TIED to the program's text (the seventh form; the later family's looks); each row that meets fmt, with fmt's text TOLD by the authors' own Lean function (tested against real Go, not proved from fmt's source: count such statements apart). THE CARD IS WHAT COUNTS. Prove the row's statement (the work); the ties are given (YtieaamlpadlfeaaGreatDoorTie.lean); close each card by the builder's one call (the guide's Derived/Test/ToyasCard.lean, 'card_holds'). Laid BY PROGRAM, IN A SANDBOX (cutbox-door.mjs). By AI agents, Wed Nov 11 2026. No macro, syntax, notation, axiom, sorry.
-/
import Derived.Test.YtieaamlpadlfeaaGreatDoorRows
import GoSem.ClaimSeven
namespace Go.Proofs.YtieaamlpadlfeaaGreatDoor
namespace Rows

/-- THE TIED CARD OF 'seneschallaw23.TomePrints'. -/
def tomePrintsCard : Claim7 := { stood := { row := tomePrintsRow, standIns := [], harness := (true, "a1b95e45583a72f16150a2004a39e8c413470ccc016f355a8d15f6f6c0888397"), looks := true }, kinds := [], alts := [], laidByText := true, laidKinds := [.data, .data, .data, .data, .sentinel, .sentinel, .listed, .data, .pinned], laidTests := true, laidLooks := .later }
def TomePrintsCardSaid : Prop := Claim7.holds Tryz.pinned (.plain (OpenSpec.ofChange tomePrintsSpec)) tomePrintsCard

/-- THE SECOND FORM's CARD OF 'seneschallaw23.TomePrints'. -/
def tomePrintsUptoCard : Claim7 := { stood := { row := tomePrintsUptoRow, standIns := [], harness := (true, "a1b95e45583a72f16150a2004a39e8c413470ccc016f355a8d15f6f6c0888397"), looks := true }, kinds := [], alts := [], laidByText := true, laidKinds := [.data, .data, .data, .data, .sentinel, .sentinel, .listed, .data, .pinned], laidTests := true, laidLooks := .later }
def TomePrintsUptoCardSaid : Prop := Claim7.holds Tryz.pinned (.plain (OpenSpec.upto tomePrintsSpec)) tomePrintsUptoCard
end Rows
end Go.Proofs.YtieaamlpadlfeaaGreatDoor
