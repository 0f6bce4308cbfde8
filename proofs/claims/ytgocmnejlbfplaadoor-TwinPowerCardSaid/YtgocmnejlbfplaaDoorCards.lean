/-
  DERIVED. GIVEN WITH THE SEED: THE CARDS: each row of YtgocmnejlbfplaaDoorRows.lean that lists a variable, with what it lists TIED to the program's text (the seventh form; the later family's looks); each row that meets fmt, with fmt's text TOLD by the authors' own Lean function (tested against real Go, not proved from fmt's source: count such statements apart). THE CARD IS WHAT COUNTS. Prove the row's statement (the work); the ties are given (YtgocmnejlbfplaaDoorTie.lean); close each card by the builder's one call (the guide's Derived/Test/ToyasCard.lean, 'card_holds'). Laid BY PROGRAM, IN A SANDBOX (cutbox-door.mjs). By AI agents, Wed Nov 11 2026. No macro, syntax, notation, axiom, sorry.
-/
import Derived.Test.YtgocmnejlbfplaaDoorRows
import GoSem.ClaimSeven
namespace Go.Proofs.YtgocmnejlbfplaaDoor
namespace Rows

/-- THE TIED CARD OF 'seneschallaw08.TwinRefuses'. -/
def twinRefusesCard : Claim7 := { stood := { row := twinRefusesRow, standIns := [], harness := (true, "9f6f20be98bcb8dab47355fda79db8d8a1f382e3af839bed833afcc07f8620fb"), looks := false }, kinds := [], alts := [], laidByText := true, laidKinds := [.data, .pinned], laidTests := true, laidLooks := .later }
def TwinRefusesCardSaid : Prop := Claim7.holds Tryd.pinned (.plain (OpenSpec.ofChange twinRefusesSpec)) twinRefusesCard

/-- THE TIED CARD OF 'seneschallaw08.TwinPower'. -/
def twinPowerCard : Claim7 := { stood := { row := twinPowerRow, standIns := [], harness := (true, "9f6f20be98bcb8dab47355fda79db8d8a1f382e3af839bed833afcc07f8620fb"), looks := false }, kinds := [], alts := [], laidByText := true, laidKinds := [.data, .pinned], laidTests := true, laidLooks := .later }
def TwinPowerCardSaid : Prop := Claim7.holds Tryd.pinned (.plain (OpenSpec.ofChange twinPowerSpec)) twinPowerCard

/-- THE SECOND FORM's CARD OF 'seneschallaw08.TwinRefuses'. -/
def twinRefusesUptoCard : Claim7 := { stood := { row := twinRefusesUptoRow, standIns := [], harness := (true, "9f6f20be98bcb8dab47355fda79db8d8a1f382e3af839bed833afcc07f8620fb"), looks := false }, kinds := [], alts := [], laidByText := true, laidKinds := [.data, .pinned], laidTests := true, laidLooks := .later }
def TwinRefusesUptoCardSaid : Prop := Claim7.holds Tryd.pinned (.plain (OpenSpec.upto twinRefusesSpec)) twinRefusesUptoCard

/-- THE SECOND FORM's CARD OF 'seneschallaw08.TwinPower'. -/
def twinPowerUptoCard : Claim7 := { stood := { row := twinPowerUptoRow, standIns := [], harness := (true, "9f6f20be98bcb8dab47355fda79db8d8a1f382e3af839bed833afcc07f8620fb"), looks := false }, kinds := [], alts := [], laidByText := true, laidKinds := [.data, .pinned], laidTests := true, laidLooks := .later }
def TwinPowerUptoCardSaid : Prop := Claim7.holds Tryd.pinned (.plain (OpenSpec.upto twinPowerSpec)) twinPowerUptoCard
end Rows
end Go.Proofs.YtgocmnejlbfplaaDoor
