/-
  No cell of these rows narrows 'for every input' (looked for: loops, veiled, ifaces, maps, wideKeys, modest, calm, conditions, laid).
  DERIVED. THE GIVEN ROWS OF THIS SEAT. 9 by the template 'for every input the law returns true; each argument reads behind the call as it read before'; 0 by the template 'total and deterministic' (their statements: YtbjomkbiljpjmaaTotals.lean).
  GIVEN WITH THE SEED: the statements are not yours to turn. If you find one false, say at which input.
  Laid BY PROGRAM, IN A SANDBOX (cutbox-rows.mjs): the forced cells as the released guide's own fill.sh prints them over the translation 11c56fdd2eaf1f00… (all of the seat's roots in one cut). By AI agents, Wed Nov 11 2026. No macro, syntax, notation, axiom, sorry.
-/
import Derived.Test.YtbjomkbiljpjmaaChecked
import GoSem.Claim
import GoSem.ClaimJoined
import GoSem.ClaimMapViews
import Derived.JoinedTies
import Derived.KernelRfl
namespace Go.Proofs.Ytbjomkbiljpjmaa
/- THE CELL 'sum', in the pinned program and in every row, IS THE sha256 OF THE DUMP (.gsa) THAT YtbjomkbiljpjmaaProg.lean LOADS. Nothing in Lean hashes anything: it is a label: what it is worth is what the hold of that sum in a sandbox is worth. -/
noncomputable def Try.pinned : Pinned := { name := "ytbjomkbiljpjmaa", sum := "11c56fdd2eaf1f006a6d73c78cb524051b2c065d953e36f9d01882563567031f", checked := Try.checked }
namespace Rows
def none {H : Type} : Left H := { results := [], args := [] }

/-- 'seneschallaw10.PurseKeeps': WHATEVER THE INPUT: true; the input reads as it did. -/
def purseKeepsSpec : ChangeSpec := { name := "purseKeeps", fn := fun _ => fun
  | [d1, d2] => { results := [.lit (.bool true)], args := [d1, d2] }
  | _ => none }
def purseKeepsRow : OpenClaim := { program := "ytbjomkbiljpjmaa", sum := "11c56fdd2eaf1f006a6d73c78cb524051b2c065d953e36f9d01882563567031f", func := "seneschal/seneschallaw10.PurseKeeps", spec := "purseKeeps", apart := false }
def PurseKeepsSaid : Prop := purseKeepsRow.holds Try.pinned (OpenSpec.ofChange purseKeepsSpec)

/-- ITS FALSE NEIGHBOUR: 'it returns false'. Refute it at one input. -/
def purseKeepsWrong : ChangeSpec := { name := "purseKeeps", fn := fun _ => fun
  | [d1, d2] => { results := [.lit (.bool false)], args := [d1, d2] }
  | _ => none }
def PurseKeepsWrongFalsely : Prop := purseKeepsRow.holds Try.pinned (OpenSpec.ofChange purseKeepsWrong)

/-- 'seneschallaw10.PurseBack': WHATEVER THE INPUT: true; the input reads as it did. -/
def purseBackSpec : ChangeSpec := { name := "purseBack", fn := fun _ => fun
  | [d1, d2] => { results := [.lit (.bool true)], args := [d1, d2] }
  | _ => none }
def purseBackRow : OpenClaim := { program := "ytbjomkbiljpjmaa", sum := "11c56fdd2eaf1f006a6d73c78cb524051b2c065d953e36f9d01882563567031f", func := "seneschal/seneschallaw10.PurseBack", spec := "purseBack", apart := false }
def PurseBackSaid : Prop := purseBackRow.holds Try.pinned (OpenSpec.ofChange purseBackSpec)

/-- ITS FALSE NEIGHBOUR: 'it returns false'. Refute it at one input. -/
def purseBackWrong : ChangeSpec := { name := "purseBack", fn := fun _ => fun
  | [d1, d2] => { results := [.lit (.bool false)], args := [d1, d2] }
  | _ => none }
def PurseBackWrongFalsely : Prop := purseBackRow.holds Try.pinned (OpenSpec.ofChange purseBackWrong)

/-- 'seneschallaw09.RingSecond': WHATEVER THE INPUT: true; the input reads as it did. -/
def ringSecondSpec : ChangeSpec := { name := "ringSecond", fn := fun _ => fun
  | [d1, d2] => { results := [.lit (.bool true)], args := [d1, d2] }
  | _ => none }
def ringSecondRow : OpenClaim := { program := "ytbjomkbiljpjmaa", sum := "11c56fdd2eaf1f006a6d73c78cb524051b2c065d953e36f9d01882563567031f", func := "seneschal/seneschallaw09.RingSecond", spec := "ringSecond", apart := false }
def RingSecondSaid : Prop := ringSecondRow.holds Try.pinned (OpenSpec.ofChange ringSecondSpec)

/-- ITS FALSE NEIGHBOUR: 'it returns false'. Refute it at one input. -/
def ringSecondWrong : ChangeSpec := { name := "ringSecond", fn := fun _ => fun
  | [d1, d2] => { results := [.lit (.bool false)], args := [d1, d2] }
  | _ => none }
def RingSecondWrongFalsely : Prop := ringSecondRow.holds Try.pinned (OpenSpec.ofChange ringSecondWrong)

/-- 'seneschallaw09.RingRoom': WHATEVER THE INPUT: true; the input reads as it did. -/
def ringRoomSpec : ChangeSpec := { name := "ringRoom", fn := fun _ => fun
  | [d1, d2, d3] => { results := [.lit (.bool true)], args := [d1, d2, d3] }
  | _ => none }
def ringRoomRow : OpenClaim := { program := "ytbjomkbiljpjmaa", sum := "11c56fdd2eaf1f006a6d73c78cb524051b2c065d953e36f9d01882563567031f", func := "seneschal/seneschallaw09.RingRoom", spec := "ringRoom", apart := false }
def RingRoomSaid : Prop := ringRoomRow.holds Try.pinned (OpenSpec.ofChange ringRoomSpec)

/-- ITS FALSE NEIGHBOUR: 'it returns false'. Refute it at one input. -/
def ringRoomWrong : ChangeSpec := { name := "ringRoom", fn := fun _ => fun
  | [d1, d2, d3] => { results := [.lit (.bool false)], args := [d1, d2, d3] }
  | _ => none }
def RingRoomWrongFalsely : Prop := ringRoomRow.holds Try.pinned (OpenSpec.ofChange ringRoomWrong)

/-- 'seneschallaw09.RingKeeps': WHATEVER THE INPUT: true; the input reads as it did. -/
def ringKeepsSpec : ChangeSpec := { name := "ringKeeps", fn := fun _ => fun
  | [d1, d2] => { results := [.lit (.bool true)], args := [d1, d2] }
  | _ => none }
def ringKeepsRow : OpenClaim := { program := "ytbjomkbiljpjmaa", sum := "11c56fdd2eaf1f006a6d73c78cb524051b2c065d953e36f9d01882563567031f", func := "seneschal/seneschallaw09.RingKeeps", spec := "ringKeeps", apart := false }
def RingKeepsSaid : Prop := ringKeepsRow.holds Try.pinned (OpenSpec.ofChange ringKeepsSpec)

/-- ITS FALSE NEIGHBOUR: 'it returns false'. Refute it at one input. -/
def ringKeepsWrong : ChangeSpec := { name := "ringKeeps", fn := fun _ => fun
  | [d1, d2] => { results := [.lit (.bool false)], args := [d1, d2] }
  | _ => none }
def RingKeepsWrongFalsely : Prop := ringKeepsRow.holds Try.pinned (OpenSpec.ofChange ringKeepsWrong)

/-- 'seneschallaw09.RingExact': WHATEVER THE INPUT: true; the input reads as it did. -/
def ringExactSpec : ChangeSpec := { name := "ringExact", fn := fun _ => fun
  | [d1, d2] => { results := [.lit (.bool true)], args := [d1, d2] }
  | _ => none }
def ringExactRow : OpenClaim := { program := "ytbjomkbiljpjmaa", sum := "11c56fdd2eaf1f006a6d73c78cb524051b2c065d953e36f9d01882563567031f", func := "seneschal/seneschallaw09.RingExact", spec := "ringExact", unfollowed := true, recurses := true, apart := false }
def RingExactSaid : Prop := ringExactRow.holds Try.pinned (OpenSpec.ofChange ringExactSpec)

/-- ITS FALSE NEIGHBOUR: 'it returns false'. Refute it at one input. -/
def ringExactWrong : ChangeSpec := { name := "ringExact", fn := fun _ => fun
  | [d1, d2] => { results := [.lit (.bool false)], args := [d1, d2] }
  | _ => none }
def RingExactWrongFalsely : Prop := ringExactRow.holds Try.pinned (OpenSpec.ofChange ringExactWrong)

/-- 'seneschallaw09.RingGoes': WHATEVER THE INPUT: true; the input reads as it did. -/
def ringGoesSpec : ChangeSpec := { name := "ringGoes", fn := fun _ => fun
  | [d1, d2] => { results := [.lit (.bool true)], args := [d1, d2] }
  | _ => none }
def ringGoesRow : OpenClaim := { program := "ytbjomkbiljpjmaa", sum := "11c56fdd2eaf1f006a6d73c78cb524051b2c065d953e36f9d01882563567031f", func := "seneschal/seneschallaw09.RingGoes", spec := "ringGoes", unfollowed := true, recurses := true, apart := false }
def RingGoesSaid : Prop := ringGoesRow.holds Try.pinned (OpenSpec.ofChange ringGoesSpec)

/-- ITS FALSE NEIGHBOUR: 'it returns false'. Refute it at one input. -/
def ringGoesWrong : ChangeSpec := { name := "ringGoes", fn := fun _ => fun
  | [d1, d2] => { results := [.lit (.bool false)], args := [d1, d2] }
  | _ => none }
def RingGoesWrongFalsely : Prop := ringGoesRow.holds Try.pinned (OpenSpec.ofChange ringGoesWrong)

/-- 'seneschallaw10.PurseExact': WHATEVER THE INPUT: true; the input reads as it did. -/
def purseExactSpec : ChangeSpec := { name := "purseExact", fn := fun _ => fun
  | [d] => { results := [.lit (.bool true)], args := [d] }
  | _ => none }
def purseExactRow : OpenClaim := { program := "ytbjomkbiljpjmaa", sum := "11c56fdd2eaf1f006a6d73c78cb524051b2c065d953e36f9d01882563567031f", func := "seneschal/seneschallaw10.PurseExact", spec := "purseExact", inPlace := ["maps.clone"], unfollowed := true, recurses := true, apart := false }
def PurseExactSaid : Prop := purseExactRow.holds Try.pinned (OpenSpec.ofChange purseExactSpec)

/-- ITS FALSE NEIGHBOUR: 'it returns false'. Refute it at one input. -/
def purseExactWrong : ChangeSpec := { name := "purseExact", fn := fun _ => fun
  | [d] => { results := [.lit (.bool false)], args := [d] }
  | _ => none }
def PurseExactWrongFalsely : Prop := purseExactRow.holds Try.pinned (OpenSpec.ofChange purseExactWrong)

/-- 'seneschallaw10.PurseRows': WHATEVER THE INPUT: true; the input reads as it did. -/
def purseRowsSpec : ChangeSpec := { name := "purseRows", fn := fun _ => fun
  | [d] => { results := [.lit (.bool true)], args := [d] }
  | _ => none }
def purseRowsRow : OpenClaim := { program := "ytbjomkbiljpjmaa", sum := "11c56fdd2eaf1f006a6d73c78cb524051b2c065d953e36f9d01882563567031f", func := "seneschal/seneschallaw10.PurseRows", spec := "purseRows", inPlace := ["maps.clone"], unfollowed := true, recurses := true, apart := false }
def PurseRowsSaid : Prop := purseRowsRow.holds Try.pinned (OpenSpec.ofChange purseRowsSpec)

/-- ITS FALSE NEIGHBOUR: 'it returns false'. Refute it at one input. -/
def purseRowsWrong : ChangeSpec := { name := "purseRows", fn := fun _ => fun
  | [d] => { results := [.lit (.bool false)], args := [d] }
  | _ => none }
def PurseRowsWrongFalsely : Prop := purseRowsRow.holds Try.pinned (OpenSpec.ofChange purseRowsWrong)

/- THE SECOND FORM. 'bulk': how many values and letters a reading holds, each counted each time it is reached (what is shared counts as often as it is met; a slice's spare places count too). A statement '..UptoSaid' is the law's where the arguments, and the package variables that the reading takes, are together of bulk at most 1048576: NARROWER than '..Said'. Prove '..Said' where nothing that the law and all that it calls make is longer than what came in: it says more and counts as full. Else prove '..UptoSaid'. A law counts once. -/
mutual
def uptoBulk {H : Type} : DataW H → Nat
  | .lit (.string bytes) => bytes.length + 1
  | .lit _ => 1
  | .nil => 1
  | .ptr d => uptoBulk d + 1
  | .slice elems spare => uptoBulkAll elems + uptoBulkAll spare + 1
  | .agg parts => uptoBulkAll parts + 1
  | .iface _ d => uptoBulk d + 1
  | .map entries => uptoBulkEntries entries + 1
  | .held _ => 1
def uptoBulkAll {H : Type} : List (DataW H) → Nat
  | [] => 0
  | d :: r => uptoBulk d + uptoBulkAll r
def uptoBulkEntries {H : Type} : List (Lit × DataW H) → Nat
  | [] => 0
  | x :: r => uptoBulkEntry x + uptoBulkEntries r
def uptoBulkEntry {H : Type} : Lit × DataW H → Nat
  | (.string bytes, d) => bytes.length + uptoBulk d + 1
  | (_, d) => uptoBulk d + 1
 end
def uptoSmall : (H : Type) → List (DataW H) → Bool := fun _ ds => decide (uptoBulkAll ds ≤ 1048576)
def OpenSpec.upto (s : _root_.Go.ChangeSpec) : _root_.Go.OpenSpec := { _root_.Go.OpenSpec.ofChange s with cond := some uptoSmall }

/-- 'seneschallaw10.PurseKeeps', WHERE WHAT IT READS IS OF BULK AT MOST 1048576: true; the input reads as it did. -/
def purseKeepsUptoRow : OpenClaim := { program := "ytbjomkbiljpjmaa", sum := "11c56fdd2eaf1f006a6d73c78cb524051b2c065d953e36f9d01882563567031f", func := "seneschal/seneschallaw10.PurseKeeps", spec := "purseKeeps", apart := false, narrowed := true }
def PurseKeepsUptoSaid : Prop := purseKeepsUptoRow.holds Try.pinned (OpenSpec.upto purseKeepsSpec)

/-- 'seneschallaw10.PurseBack', WHERE WHAT IT READS IS OF BULK AT MOST 1048576: true; the input reads as it did. -/
def purseBackUptoRow : OpenClaim := { program := "ytbjomkbiljpjmaa", sum := "11c56fdd2eaf1f006a6d73c78cb524051b2c065d953e36f9d01882563567031f", func := "seneschal/seneschallaw10.PurseBack", spec := "purseBack", apart := false, narrowed := true }
def PurseBackUptoSaid : Prop := purseBackUptoRow.holds Try.pinned (OpenSpec.upto purseBackSpec)

/-- 'seneschallaw09.RingSecond', WHERE WHAT IT READS IS OF BULK AT MOST 1048576: true; the input reads as it did. -/
def ringSecondUptoRow : OpenClaim := { program := "ytbjomkbiljpjmaa", sum := "11c56fdd2eaf1f006a6d73c78cb524051b2c065d953e36f9d01882563567031f", func := "seneschal/seneschallaw09.RingSecond", spec := "ringSecond", apart := false, narrowed := true }
def RingSecondUptoSaid : Prop := ringSecondUptoRow.holds Try.pinned (OpenSpec.upto ringSecondSpec)

/-- 'seneschallaw09.RingRoom', WHERE WHAT IT READS IS OF BULK AT MOST 1048576: true; the input reads as it did. -/
def ringRoomUptoRow : OpenClaim := { program := "ytbjomkbiljpjmaa", sum := "11c56fdd2eaf1f006a6d73c78cb524051b2c065d953e36f9d01882563567031f", func := "seneschal/seneschallaw09.RingRoom", spec := "ringRoom", apart := false, narrowed := true }
def RingRoomUptoSaid : Prop := ringRoomUptoRow.holds Try.pinned (OpenSpec.upto ringRoomSpec)

/-- 'seneschallaw09.RingKeeps', WHERE WHAT IT READS IS OF BULK AT MOST 1048576: true; the input reads as it did. -/
def ringKeepsUptoRow : OpenClaim := { program := "ytbjomkbiljpjmaa", sum := "11c56fdd2eaf1f006a6d73c78cb524051b2c065d953e36f9d01882563567031f", func := "seneschal/seneschallaw09.RingKeeps", spec := "ringKeeps", apart := false, narrowed := true }
def RingKeepsUptoSaid : Prop := ringKeepsUptoRow.holds Try.pinned (OpenSpec.upto ringKeepsSpec)

/-- 'seneschallaw09.RingExact', WHERE WHAT IT READS IS OF BULK AT MOST 1048576: true; the input reads as it did. -/
def ringExactUptoRow : OpenClaim := { program := "ytbjomkbiljpjmaa", sum := "11c56fdd2eaf1f006a6d73c78cb524051b2c065d953e36f9d01882563567031f", func := "seneschal/seneschallaw09.RingExact", spec := "ringExact", unfollowed := true, recurses := true, apart := false, narrowed := true }
def RingExactUptoSaid : Prop := ringExactUptoRow.holds Try.pinned (OpenSpec.upto ringExactSpec)

/-- 'seneschallaw09.RingGoes', WHERE WHAT IT READS IS OF BULK AT MOST 1048576: true; the input reads as it did. -/
def ringGoesUptoRow : OpenClaim := { program := "ytbjomkbiljpjmaa", sum := "11c56fdd2eaf1f006a6d73c78cb524051b2c065d953e36f9d01882563567031f", func := "seneschal/seneschallaw09.RingGoes", spec := "ringGoes", unfollowed := true, recurses := true, apart := false, narrowed := true }
def RingGoesUptoSaid : Prop := ringGoesUptoRow.holds Try.pinned (OpenSpec.upto ringGoesSpec)

/-- 'seneschallaw10.PurseExact', WHERE WHAT IT READS IS OF BULK AT MOST 1048576: true; the input reads as it did. -/
def purseExactUptoRow : OpenClaim := { program := "ytbjomkbiljpjmaa", sum := "11c56fdd2eaf1f006a6d73c78cb524051b2c065d953e36f9d01882563567031f", func := "seneschal/seneschallaw10.PurseExact", spec := "purseExact", inPlace := ["maps.clone"], unfollowed := true, recurses := true, apart := false, narrowed := true }
def PurseExactUptoSaid : Prop := purseExactUptoRow.holds Try.pinned (OpenSpec.upto purseExactSpec)

/-- 'seneschallaw10.PurseRows', WHERE WHAT IT READS IS OF BULK AT MOST 1048576: true; the input reads as it did. -/
def purseRowsUptoRow : OpenClaim := { program := "ytbjomkbiljpjmaa", sum := "11c56fdd2eaf1f006a6d73c78cb524051b2c065d953e36f9d01882563567031f", func := "seneschal/seneschallaw10.PurseRows", spec := "purseRows", inPlace := ["maps.clone"], unfollowed := true, recurses := true, apart := false, narrowed := true }
def PurseRowsUptoSaid : Prop := purseRowsUptoRow.holds Try.pinned (OpenSpec.upto purseRowsSpec)

end Rows
end Go.Proofs.Ytbjomkbiljpjmaa
