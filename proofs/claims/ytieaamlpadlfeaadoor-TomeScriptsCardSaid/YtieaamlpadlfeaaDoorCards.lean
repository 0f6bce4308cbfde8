/-
  DERIVED. GIVEN WITH THE SEED: THE CARDS: each row of YtieaamlpadlfeaaDoorRows.lean that lists a variable, with what it lists TIED to the program's text (the seventh form; the later family's looks); each row that meets fmt, with fmt's text TOLD by the authors' own Lean function (tested against real Go, not proved from fmt's source: count such statements apart). THE CARD IS WHAT COUNTS. Prove the row's statement (the work); the ties are given (YtieaamlpadlfeaaDoorTie.lean); close each card by the builder's one call (the guide's Derived/Test/ToyasCard.lean, 'card_holds'). Laid BY PROGRAM, IN A SANDBOX (cutbox-door.mjs). By AI agents, Wed Nov 11 2026. No macro, syntax, notation, axiom, sorry.
-/
import Derived.Test.YtieaamlpadlfeaaDoorRows
import GoSem.ClaimSeven
namespace Go.Proofs.YtieaamlpadlfeaaDoor
namespace Rows

/-- THE TIED CARD OF 'seneschallaw23.TomeReads'. -/
def tomeReadsCard : Claim7 := { stood := { row := tomeReadsRow, standIns := [], harness := (true, "efccca5dec36f575d3a8fef6651cea96dfdc2ec3a879a8e0c5a39ba1e9de9729"), looks := true }, kinds := [], alts := [], laidByText := true, laidKinds := [.data, .data, .data, .data, .sentinel, .sentinel, .listed, .data, .pinned], laidTests := true, laidLooks := .later }
def TomeReadsCardSaid : Prop := Claim7.holds Tryd.pinned (.plain (OpenSpec.ofChange tomeReadsSpec)) tomeReadsCard

/-- THE TIED CARD OF 'seneschallaw23.TomeScripts'. -/
def tomeScriptsCard : Claim7 := { stood := { row := tomeScriptsRow, standIns := [], harness := (true, "efccca5dec36f575d3a8fef6651cea96dfdc2ec3a879a8e0c5a39ba1e9de9729"), looks := true }, kinds := [], alts := [], laidByText := true, laidKinds := [.data, .data, .data, .data, .sentinel, .sentinel, .listed, .data, .pinned], laidTests := true, laidLooks := .later }
def TomeScriptsCardSaid : Prop := Claim7.holds Tryd.pinned (.plain (OpenSpec.ofChange tomeScriptsSpec)) tomeScriptsCard

/-- THE TIED CARD OF 'seneschallaw23.TomeBack'. -/
def tomeBackCard : Claim7 := { stood := { row := tomeBackRow, standIns := [], harness := (true, "efccca5dec36f575d3a8fef6651cea96dfdc2ec3a879a8e0c5a39ba1e9de9729"), looks := true }, kinds := [], alts := [], laidByText := true, laidKinds := [.data, .data, .data, .data, .sentinel, .sentinel, .listed, .data, .pinned], laidTests := true, laidLooks := .later }
def TomeBackCardSaid : Prop := Claim7.holds Tryd.pinned (.plain (OpenSpec.ofChange tomeBackSpec)) tomeBackCard

/-- THE TIED CARD OF 'seneschallaw23.TomeWords'. -/
def tomeWordsCard : Claim7 := { stood := { row := tomeWordsRow, standIns := [], harness := (true, "efccca5dec36f575d3a8fef6651cea96dfdc2ec3a879a8e0c5a39ba1e9de9729"), looks := true }, kinds := [], alts := [], laidByText := true, laidKinds := [.data, .data, .data, .data, .sentinel, .sentinel, .listed, .data, .pinned], laidTests := true, laidLooks := .later }
def TomeWordsCardSaid : Prop := Claim7.holds Tryd.pinned (.plain (OpenSpec.ofChange tomeWordsSpec)) tomeWordsCard

/-- THE SECOND FORM's CARD OF 'seneschallaw23.TomeReads'. -/
def tomeReadsUptoCard : Claim7 := { stood := { row := tomeReadsUptoRow, standIns := [], harness := (true, "efccca5dec36f575d3a8fef6651cea96dfdc2ec3a879a8e0c5a39ba1e9de9729"), looks := true }, kinds := [], alts := [], laidByText := true, laidKinds := [.data, .data, .data, .data, .sentinel, .sentinel, .listed, .data, .pinned], laidTests := true, laidLooks := .later }
def TomeReadsUptoCardSaid : Prop := Claim7.holds Tryd.pinned (.plain (OpenSpec.upto tomeReadsSpec)) tomeReadsUptoCard

/-- THE SECOND FORM's CARD OF 'seneschallaw23.TomeScripts'. -/
def tomeScriptsUptoCard : Claim7 := { stood := { row := tomeScriptsUptoRow, standIns := [], harness := (true, "efccca5dec36f575d3a8fef6651cea96dfdc2ec3a879a8e0c5a39ba1e9de9729"), looks := true }, kinds := [], alts := [], laidByText := true, laidKinds := [.data, .data, .data, .data, .sentinel, .sentinel, .listed, .data, .pinned], laidTests := true, laidLooks := .later }
def TomeScriptsUptoCardSaid : Prop := Claim7.holds Tryd.pinned (.plain (OpenSpec.upto tomeScriptsSpec)) tomeScriptsUptoCard

/-- THE SECOND FORM's CARD OF 'seneschallaw23.TomeBack'. -/
def tomeBackUptoCard : Claim7 := { stood := { row := tomeBackUptoRow, standIns := [], harness := (true, "efccca5dec36f575d3a8fef6651cea96dfdc2ec3a879a8e0c5a39ba1e9de9729"), looks := true }, kinds := [], alts := [], laidByText := true, laidKinds := [.data, .data, .data, .data, .sentinel, .sentinel, .listed, .data, .pinned], laidTests := true, laidLooks := .later }
def TomeBackUptoCardSaid : Prop := Claim7.holds Tryd.pinned (.plain (OpenSpec.upto tomeBackSpec)) tomeBackUptoCard

/-- THE SECOND FORM's CARD OF 'seneschallaw23.TomeWords'. -/
def tomeWordsUptoCard : Claim7 := { stood := { row := tomeWordsUptoRow, standIns := [], harness := (true, "efccca5dec36f575d3a8fef6651cea96dfdc2ec3a879a8e0c5a39ba1e9de9729"), looks := true }, kinds := [], alts := [], laidByText := true, laidKinds := [.data, .data, .data, .data, .sentinel, .sentinel, .listed, .data, .pinned], laidTests := true, laidLooks := .later }
def TomeWordsUptoCardSaid : Prop := Claim7.holds Tryd.pinned (.plain (OpenSpec.upto tomeWordsSpec)) tomeWordsUptoCard
end Rows
end Go.Proofs.YtieaamlpadlfeaaDoor
