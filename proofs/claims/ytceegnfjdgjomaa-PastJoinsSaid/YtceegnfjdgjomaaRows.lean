/-
  No cell of these rows narrows 'for every input' (looked for: loops, veiled, ifaces, maps, wideKeys, modest, calm, conditions, laid).
  DERIVED. THE GIVEN ROWS OF THIS SEAT. 5 by the template 'for every input the law returns true; each argument reads behind the call as it read before'; 0 by the template 'total and deterministic' (their statements: YtceegnfjdgjomaaTotals.lean).
  GIVEN WITH THE SEED: the statements are not yours to turn. If you find one false, say at which input.
  Laid BY PROGRAM, IN A SANDBOX (cutbox-rows.mjs): the forced cells as the released guide's own fill.sh prints them over the translation 4fc1896963738fc0… (all of the seat's roots in one cut). By AI agents, Wed Nov 11 2026. No macro, syntax, notation, axiom, sorry.
-/
import Derived.Test.YtceegnfjdgjomaaChecked
import GoSem.Claim
import GoSem.ClaimJoined
import GoSem.ClaimMapViews
import Derived.JoinedTies
import Derived.KernelRfl
namespace Go.Proofs.Ytceegnfjdgjomaa
/- THE CELL 'sum', in the pinned program and in every row, IS THE sha256 OF THE DUMP (.gsa) THAT YtceegnfjdgjomaaProg.lean LOADS. Nothing in Lean hashes anything: it is a label: what it is worth is what the hold of that sum in a sandbox is worth. -/
noncomputable def Try.pinned : Pinned := { name := "ytceegnfjdgjomaa", sum := "4fc1896963738fc0fdbd35a266da3bfb456ffb7ca4378dc1284c089710b16646", checked := Try.checked }
namespace Rows
def none {H : Type} : Left H := { results := [], args := [] }

/-- 'seneschallaw17.PastLess': WHATEVER THE INPUT: true; the input reads as it did. -/
def pastLessSpec : ChangeSpec := { name := "pastLess", fn := fun _ => fun
  | [d1, d2, d3] => { results := [.lit (.bool true)], args := [d1, d2, d3] }
  | _ => none }
def pastLessRow : OpenClaim := { program := "ytceegnfjdgjomaa", sum := "4fc1896963738fc0fdbd35a266da3bfb456ffb7ca4378dc1284c089710b16646", func := "seneschal/seneschallaw17.PastLess", spec := "pastLess", unfollowed := true, recurses := true, plainKeys := false, apart := false }
def PastLessSaid : Prop := pastLessRow.holds Try.pinned (OpenSpec.ofChange pastLessSpec)

/-- ITS FALSE NEIGHBOUR: 'it returns false'. Refute it at one input. -/
def pastLessWrong : ChangeSpec := { name := "pastLess", fn := fun _ => fun
  | [d1, d2, d3] => { results := [.lit (.bool false)], args := [d1, d2, d3] }
  | _ => none }
def PastLessWrongFalsely : Prop := pastLessRow.holds Try.pinned (OpenSpec.ofChange pastLessWrong)

/-- 'seneschallaw17.PastParts': WHATEVER THE INPUT: true; the input reads as it did. -/
def pastPartsSpec : ChangeSpec := { name := "pastParts", fn := fun _ => fun
  | [d] => { results := [.lit (.bool true)], args := [d] }
  | _ => none }
def pastPartsRow : OpenClaim := { program := "ytceegnfjdgjomaa", sum := "4fc1896963738fc0fdbd35a266da3bfb456ffb7ca4378dc1284c089710b16646", func := "seneschal/seneschallaw17.PastParts", spec := "pastParts", unfollowed := true, recurses := true, plainKeys := false, apart := false }
def PastPartsSaid : Prop := pastPartsRow.holds Try.pinned (OpenSpec.ofChange pastPartsSpec)

/-- ITS FALSE NEIGHBOUR: 'it returns false'. Refute it at one input. -/
def pastPartsWrong : ChangeSpec := { name := "pastParts", fn := fun _ => fun
  | [d] => { results := [.lit (.bool false)], args := [d] }
  | _ => none }
def PastPartsWrongFalsely : Prop := pastPartsRow.holds Try.pinned (OpenSpec.ofChange pastPartsWrong)

/-- 'seneschallaw17.PastNeeds': WHATEVER THE INPUT: true; the input reads as it did. -/
def pastNeedsSpec : ChangeSpec := { name := "pastNeeds", fn := fun _ => fun
  | [d1, d2] => { results := [.lit (.bool true)], args := [d1, d2] }
  | _ => none }
def pastNeedsRow : OpenClaim := { program := "ytceegnfjdgjomaa", sum := "4fc1896963738fc0fdbd35a266da3bfb456ffb7ca4378dc1284c089710b16646", func := "seneschal/seneschallaw17.PastNeeds", spec := "pastNeeds", unfollowed := true, recurses := true, plainKeys := false, apart := false }
def PastNeedsSaid : Prop := pastNeedsRow.holds Try.pinned (OpenSpec.ofChange pastNeedsSpec)

/-- ITS FALSE NEIGHBOUR: 'it returns false'. Refute it at one input. -/
def pastNeedsWrong : ChangeSpec := { name := "pastNeeds", fn := fun _ => fun
  | [d1, d2] => { results := [.lit (.bool false)], args := [d1, d2] }
  | _ => none }
def PastNeedsWrongFalsely : Prop := pastNeedsRow.holds Try.pinned (OpenSpec.ofChange pastNeedsWrong)

/-- 'seneschallaw17.PastJoins': WHATEVER THE INPUT: true; the input reads as it did. -/
def pastJoinsSpec : ChangeSpec := { name := "pastJoins", fn := fun _ => fun
  | [d1, d2] => { results := [.lit (.bool true)], args := [d1, d2] }
  | _ => none }
def pastJoinsRow : OpenClaim := { program := "ytceegnfjdgjomaa", sum := "4fc1896963738fc0fdbd35a266da3bfb456ffb7ca4378dc1284c089710b16646", func := "seneschal/seneschallaw17.PastJoins", spec := "pastJoins", unfollowed := true, recurses := true, plainKeys := false, apart := false }
def PastJoinsSaid : Prop := pastJoinsRow.holds Try.pinned (OpenSpec.ofChange pastJoinsSpec)

/-- ITS FALSE NEIGHBOUR: 'it returns false'. Refute it at one input. -/
def pastJoinsWrong : ChangeSpec := { name := "pastJoins", fn := fun _ => fun
  | [d1, d2] => { results := [.lit (.bool false)], args := [d1, d2] }
  | _ => none }
def PastJoinsWrongFalsely : Prop := pastJoinsRow.holds Try.pinned (OpenSpec.ofChange pastJoinsWrong)

/-- 'seneschallaw17.PastReads': WHATEVER THE INPUT: true; the input reads as it did. -/
def pastReadsSpec : ChangeSpec := { name := "pastReads", fn := fun _ => fun
  | [d1, d2, d3] => { results := [.lit (.bool true)], args := [d1, d2, d3] }
  | _ => none }
def pastReadsRow : OpenClaim := { program := "ytceegnfjdgjomaa", sum := "4fc1896963738fc0fdbd35a266da3bfb456ffb7ca4378dc1284c089710b16646", func := "seneschal/seneschallaw17.PastReads", spec := "pastReads", unfollowed := true, recurses := true, plainKeys := false, apart := false }
def PastReadsSaid : Prop := pastReadsRow.holds Try.pinned (OpenSpec.ofChange pastReadsSpec)

/-- ITS FALSE NEIGHBOUR: 'it returns false'. Refute it at one input. -/
def pastReadsWrong : ChangeSpec := { name := "pastReads", fn := fun _ => fun
  | [d1, d2, d3] => { results := [.lit (.bool false)], args := [d1, d2, d3] }
  | _ => none }
def PastReadsWrongFalsely : Prop := pastReadsRow.holds Try.pinned (OpenSpec.ofChange pastReadsWrong)

/- THE SECOND FORM. 'bulk': how many values and letters a reading holds, each counted each time it is reached (what is shared counts as often as it is met; a slice's spare places count too). A statement '..UptoSaid' is the law's where the arguments, and the package variables that the reading takes, are together of bulk at most 1048576: NARROWER than '..Said'. Prove '..Said' where nothing that the law and all that it calls make is longer than what came in: it says more and counts as full. Else prove '..UptoSaid'. A law counts once. -/
mutual
def uptoBulk {H : Type} : DataW H → Nat
  | .lit (.string bytes) => bytes.length + 1
  | .lit _ => 1
  | .nil => 1
  | .ptr d => uptoBulk d + 1
  | .slice elems spare => uptoBulkAll elems + uptoBulkAll spare + 1
  | .agg parts => uptoBulkAll parts + 1
  | .iface _ d => uptoBulk d + 1
  | .map entries => uptoBulkEntries entries + 1
  | .held _ => 1
def uptoBulkAll {H : Type} : List (DataW H) → Nat
  | [] => 0
  | d :: r => uptoBulk d + uptoBulkAll r
def uptoBulkEntries {H : Type} : List (Lit × DataW H) → Nat
  | [] => 0
  | x :: r => uptoBulkEntry x + uptoBulkEntries r
def uptoBulkEntry {H : Type} : Lit × DataW H → Nat
  | (.string bytes, d) => bytes.length + uptoBulk d + 1
  | (_, d) => uptoBulk d + 1
 end
def uptoSmall : (H : Type) → List (DataW H) → Bool := fun _ ds => decide (uptoBulkAll ds ≤ 1048576)
def OpenSpec.upto (s : _root_.Go.ChangeSpec) : _root_.Go.OpenSpec := { _root_.Go.OpenSpec.ofChange s with cond := some uptoSmall }

/-- 'seneschallaw17.PastLess', WHERE WHAT IT READS IS OF BULK AT MOST 1048576: true; the input reads as it did. -/
def pastLessUptoRow : OpenClaim := { program := "ytceegnfjdgjomaa", sum := "4fc1896963738fc0fdbd35a266da3bfb456ffb7ca4378dc1284c089710b16646", func := "seneschal/seneschallaw17.PastLess", spec := "pastLess", unfollowed := true, recurses := true, plainKeys := false, apart := false, narrowed := true }
def PastLessUptoSaid : Prop := pastLessUptoRow.holds Try.pinned (OpenSpec.upto pastLessSpec)

/-- 'seneschallaw17.PastParts', WHERE WHAT IT READS IS OF BULK AT MOST 1048576: true; the input reads as it did. -/
def pastPartsUptoRow : OpenClaim := { program := "ytceegnfjdgjomaa", sum := "4fc1896963738fc0fdbd35a266da3bfb456ffb7ca4378dc1284c089710b16646", func := "seneschal/seneschallaw17.PastParts", spec := "pastParts", unfollowed := true, recurses := true, plainKeys := false, apart := false, narrowed := true }
def PastPartsUptoSaid : Prop := pastPartsUptoRow.holds Try.pinned (OpenSpec.upto pastPartsSpec)

/-- 'seneschallaw17.PastNeeds', WHERE WHAT IT READS IS OF BULK AT MOST 1048576: true; the input reads as it did. -/
def pastNeedsUptoRow : OpenClaim := { program := "ytceegnfjdgjomaa", sum := "4fc1896963738fc0fdbd35a266da3bfb456ffb7ca4378dc1284c089710b16646", func := "seneschal/seneschallaw17.PastNeeds", spec := "pastNeeds", unfollowed := true, recurses := true, plainKeys := false, apart := false, narrowed := true }
def PastNeedsUptoSaid : Prop := pastNeedsUptoRow.holds Try.pinned (OpenSpec.upto pastNeedsSpec)

/-- 'seneschallaw17.PastJoins', WHERE WHAT IT READS IS OF BULK AT MOST 1048576: true; the input reads as it did. -/
def pastJoinsUptoRow : OpenClaim := { program := "ytceegnfjdgjomaa", sum := "4fc1896963738fc0fdbd35a266da3bfb456ffb7ca4378dc1284c089710b16646", func := "seneschal/seneschallaw17.PastJoins", spec := "pastJoins", unfollowed := true, recurses := true, plainKeys := false, apart := false, narrowed := true }
def PastJoinsUptoSaid : Prop := pastJoinsUptoRow.holds Try.pinned (OpenSpec.upto pastJoinsSpec)

/-- 'seneschallaw17.PastReads', WHERE WHAT IT READS IS OF BULK AT MOST 1048576: true; the input reads as it did. -/
def pastReadsUptoRow : OpenClaim := { program := "ytceegnfjdgjomaa", sum := "4fc1896963738fc0fdbd35a266da3bfb456ffb7ca4378dc1284c089710b16646", func := "seneschal/seneschallaw17.PastReads", spec := "pastReads", unfollowed := true, recurses := true, plainKeys := false, apart := false, narrowed := true }
def PastReadsUptoSaid : Prop := pastReadsUptoRow.holds Try.pinned (OpenSpec.upto pastReadsSpec)

end Rows
end Go.Proofs.Ytceegnfjdgjomaa
