/-
  No cell of these rows narrows 'for every input' (looked for: loops, veiled, ifaces, maps, wideKeys, modest, calm, conditions, laid).
  DERIVED. THE GIVEN ROWS OF THIS SEAT. 6 by the template 'for every input the law returns true; each argument reads behind the call as it read before'; 0 by the template 'total and deterministic' (their statements: YtficgjklagnbjaaGreatTotals.lean).
  GIVEN WITH THE SEED: the statements are not yours to turn. If you find one false, say at which input.
  Laid BY PROGRAM, IN A SANDBOX (cutbox-rows.mjs): the forced cells as the released guide's own fill.sh prints them over the translation 7abe89fd486a22cf… (all of the seat's roots in one cut). By AI agents, Wed Nov 11 2026. No macro, syntax, notation, axiom, sorry.
-/
import Derived.Test.YtficgjklagnbjaaGreatChecked
import GoSem.Claim
import GoSem.ClaimJoined
import GoSem.ClaimMapViews
import Derived.JoinedTies
import Derived.KernelRfl
namespace Go.Proofs.YtficgjklagnbjaaGreat
/- THE CELL 'sum', in the pinned program and in every row, IS THE sha256 OF THE DUMP (.gsa) THAT YtficgjklagnbjaaGreatProg.lean LOADS. Nothing in Lean hashes anything: it is a label: what it is worth is what the hold of that sum in a sandbox is worth. -/
noncomputable def Tryz.pinned : Pinned := { name := "ytficgjklagnbjaagreat", sum := "7abe89fd486a22cfbe2325e8ed657e9314e976838a4dfc953d066c507a339bc0", checked := Tryz.checked }
namespace Rows
def none {H : Type} : Left H := { results := [], args := [] }

/-- 'seneschallaw18.MendFolds': WHATEVER THE INPUT: true; the input reads as it did. -/
def mendFoldsSpec : ChangeSpec := { name := "mendFolds", fn := fun _ => fun
  | [d1, d2, d3] => { results := [.lit (.bool true)], args := [d1, d2, d3] }
  | _ => none }
def mendFoldsRow : OpenClaim := { program := "ytficgjklagnbjaagreat", sum := "7abe89fd486a22cfbe2325e8ed657e9314e976838a4dfc953d066c507a339bc0", func := "seneschal/seneschallaw18.MendFolds", spec := "mendFolds", unfollowed := true, recurses := true, plainKeys := false, apart := false }
def MendFoldsSaid : Prop := mendFoldsRow.holds Tryz.pinned (OpenSpec.ofChange mendFoldsSpec)

/-- ITS FALSE NEIGHBOUR: 'it returns false'. Refute it at one input. -/
def mendFoldsWrong : ChangeSpec := { name := "mendFolds", fn := fun _ => fun
  | [d1, d2, d3] => { results := [.lit (.bool false)], args := [d1, d2, d3] }
  | _ => none }
def MendFoldsWrongFalsely : Prop := mendFoldsRow.holds Tryz.pinned (OpenSpec.ofChange mendFoldsWrong)

/-- 'seneschallaw18.MendAgain': WHATEVER THE INPUT: true; the input reads as it did. -/
def mendAgainSpec : ChangeSpec := { name := "mendAgain", fn := fun _ => fun
  | [d1, d2, d3] => { results := [.lit (.bool true)], args := [d1, d2, d3] }
  | _ => none }
def mendAgainRow : OpenClaim := { program := "ytficgjklagnbjaagreat", sum := "7abe89fd486a22cfbe2325e8ed657e9314e976838a4dfc953d066c507a339bc0", func := "seneschal/seneschallaw18.MendAgain", spec := "mendAgain", unfollowed := true, recurses := true, plainKeys := false, apart := false }
def MendAgainSaid : Prop := mendAgainRow.holds Tryz.pinned (OpenSpec.ofChange mendAgainSpec)

/-- ITS FALSE NEIGHBOUR: 'it returns false'. Refute it at one input. -/
def mendAgainWrong : ChangeSpec := { name := "mendAgain", fn := fun _ => fun
  | [d1, d2, d3] => { results := [.lit (.bool false)], args := [d1, d2, d3] }
  | _ => none }
def MendAgainWrongFalsely : Prop := mendAgainRow.holds Tryz.pinned (OpenSpec.ofChange mendAgainWrong)

/-- 'seneschallaw18.MendClient': WHATEVER THE INPUT: true; the input reads as it did. -/
def mendClientSpec : ChangeSpec := { name := "mendClient", fn := fun _ => fun
  | [d1, d2] => { results := [.lit (.bool true)], args := [d1, d2] }
  | _ => none }
def mendClientRow : OpenClaim := { program := "ytficgjklagnbjaagreat", sum := "7abe89fd486a22cfbe2325e8ed657e9314e976838a4dfc953d066c507a339bc0", func := "seneschal/seneschallaw18.MendClient", spec := "mendClient", unfollowed := true, recurses := true, plainKeys := false, apart := false }
def MendClientSaid : Prop := mendClientRow.holds Tryz.pinned (OpenSpec.ofChange mendClientSpec)

/-- ITS FALSE NEIGHBOUR: 'it returns false'. Refute it at one input. -/
def mendClientWrong : ChangeSpec := { name := "mendClient", fn := fun _ => fun
  | [d1, d2] => { results := [.lit (.bool false)], args := [d1, d2] }
  | _ => none }
def MendClientWrongFalsely : Prop := mendClientRow.holds Tryz.pinned (OpenSpec.ofChange mendClientWrong)

/-- 'seneschallaw18.MendBack': WHATEVER THE INPUT: true; the input reads as it did. -/
def mendBackSpec : ChangeSpec := { name := "mendBack", fn := fun _ => fun
  | [d1, d2, d3] => { results := [.lit (.bool true)], args := [d1, d2, d3] }
  | _ => none }
def mendBackRow : OpenClaim := { program := "ytficgjklagnbjaagreat", sum := "7abe89fd486a22cfbe2325e8ed657e9314e976838a4dfc953d066c507a339bc0", func := "seneschal/seneschallaw18.MendBack", spec := "mendBack", unfollowed := true, recurses := true, plainKeys := false, apart := false }
def MendBackSaid : Prop := mendBackRow.holds Tryz.pinned (OpenSpec.ofChange mendBackSpec)

/-- ITS FALSE NEIGHBOUR: 'it returns false'. Refute it at one input. -/
def mendBackWrong : ChangeSpec := { name := "mendBack", fn := fun _ => fun
  | [d1, d2, d3] => { results := [.lit (.bool false)], args := [d1, d2, d3] }
  | _ => none }
def MendBackWrongFalsely : Prop := mendBackRow.holds Tryz.pinned (OpenSpec.ofChange mendBackWrong)

/-- 'seneschallaw18.MendEnds': WHATEVER THE INPUT: true; the input reads as it did. -/
def mendEndsSpec : ChangeSpec := { name := "mendEnds", fn := fun _ => fun
  | [d1, d2] => { results := [.lit (.bool true)], args := [d1, d2] }
  | _ => none }
def mendEndsRow : OpenClaim := { program := "ytficgjklagnbjaagreat", sum := "7abe89fd486a22cfbe2325e8ed657e9314e976838a4dfc953d066c507a339bc0", func := "seneschal/seneschallaw18.MendEnds", spec := "mendEnds", unfollowed := true, recurses := true, plainKeys := false, apart := false }
def MendEndsSaid : Prop := mendEndsRow.holds Tryz.pinned (OpenSpec.ofChange mendEndsSpec)

/-- ITS FALSE NEIGHBOUR: 'it returns false'. Refute it at one input. -/
def mendEndsWrong : ChangeSpec := { name := "mendEnds", fn := fun _ => fun
  | [d1, d2] => { results := [.lit (.bool false)], args := [d1, d2] }
  | _ => none }
def MendEndsWrongFalsely : Prop := mendEndsRow.holds Tryz.pinned (OpenSpec.ofChange mendEndsWrong)

/-- 'seneschallaw18.MendRows': WHATEVER THE INPUT: true; the input reads as it did. -/
def mendRowsSpec : ChangeSpec := { name := "mendRows", fn := fun _ => fun
  | [d] => { results := [.lit (.bool true)], args := [d] }
  | _ => none }
def mendRowsRow : OpenClaim := { program := "ytficgjklagnbjaagreat", sum := "7abe89fd486a22cfbe2325e8ed657e9314e976838a4dfc953d066c507a339bc0", func := "seneschal/seneschallaw18.MendRows", spec := "mendRows", unfollowed := true, recurses := true, plainKeys := false, apart := false }
def MendRowsSaid : Prop := mendRowsRow.holds Tryz.pinned (OpenSpec.ofChange mendRowsSpec)

/-- ITS FALSE NEIGHBOUR: 'it returns false'. Refute it at one input. -/
def mendRowsWrong : ChangeSpec := { name := "mendRows", fn := fun _ => fun
  | [d] => { results := [.lit (.bool false)], args := [d] }
  | _ => none }
def MendRowsWrongFalsely : Prop := mendRowsRow.holds Tryz.pinned (OpenSpec.ofChange mendRowsWrong)

/- THE SECOND FORM. 'bulk': how many values and letters a reading holds, each counted each time it is reached (what is shared counts as often as it is met; a slice's spare places count too). A statement '..UptoSaid' is the law's where the arguments, and the package variables that the reading takes, are together of bulk at most 1048576: NARROWER than '..Said'. Prove '..Said' where nothing that the law and all that it calls make is longer than what came in: it says more and counts as full. Else prove '..UptoSaid'. A law counts once. -/
mutual
def uptoBulk {H : Type} : DataW H → Nat
  | .lit (.string bytes) => bytes.length + 1
  | .lit _ => 1
  | .nil => 1
  | .ptr d => uptoBulk d + 1
  | .slice elems spare => uptoBulkAll elems + uptoBulkAll spare + 1
  | .agg parts => uptoBulkAll parts + 1
  | .iface _ d => uptoBulk d + 1
  | .map entries => uptoBulkEntries entries + 1
  | .held _ => 1
def uptoBulkAll {H : Type} : List (DataW H) → Nat
  | [] => 0
  | d :: r => uptoBulk d + uptoBulkAll r
def uptoBulkEntries {H : Type} : List (Lit × DataW H) → Nat
  | [] => 0
  | x :: r => uptoBulkEntry x + uptoBulkEntries r
def uptoBulkEntry {H : Type} : Lit × DataW H → Nat
  | (.string bytes, d) => bytes.length + uptoBulk d + 1
  | (_, d) => uptoBulk d + 1
 end
def uptoSmall : (H : Type) → List (DataW H) → Bool := fun _ ds => decide (uptoBulkAll ds ≤ 1048576)
def OpenSpec.upto (s : _root_.Go.ChangeSpec) : _root_.Go.OpenSpec := { _root_.Go.OpenSpec.ofChange s with cond := some uptoSmall }

/-- 'seneschallaw18.MendFolds', WHERE WHAT IT READS IS OF BULK AT MOST 1048576: true; the input reads as it did. -/
def mendFoldsUptoRow : OpenClaim := { program := "ytficgjklagnbjaagreat", sum := "7abe89fd486a22cfbe2325e8ed657e9314e976838a4dfc953d066c507a339bc0", func := "seneschal/seneschallaw18.MendFolds", spec := "mendFolds", unfollowed := true, recurses := true, plainKeys := false, apart := false, narrowed := true }
def MendFoldsUptoSaid : Prop := mendFoldsUptoRow.holds Tryz.pinned (OpenSpec.upto mendFoldsSpec)

/-- 'seneschallaw18.MendAgain', WHERE WHAT IT READS IS OF BULK AT MOST 1048576: true; the input reads as it did. -/
def mendAgainUptoRow : OpenClaim := { program := "ytficgjklagnbjaagreat", sum := "7abe89fd486a22cfbe2325e8ed657e9314e976838a4dfc953d066c507a339bc0", func := "seneschal/seneschallaw18.MendAgain", spec := "mendAgain", unfollowed := true, recurses := true, plainKeys := false, apart := false, narrowed := true }
def MendAgainUptoSaid : Prop := mendAgainUptoRow.holds Tryz.pinned (OpenSpec.upto mendAgainSpec)

/-- 'seneschallaw18.MendClient', WHERE WHAT IT READS IS OF BULK AT MOST 1048576: true; the input reads as it did. -/
def mendClientUptoRow : OpenClaim := { program := "ytficgjklagnbjaagreat", sum := "7abe89fd486a22cfbe2325e8ed657e9314e976838a4dfc953d066c507a339bc0", func := "seneschal/seneschallaw18.MendClient", spec := "mendClient", unfollowed := true, recurses := true, plainKeys := false, apart := false, narrowed := true }
def MendClientUptoSaid : Prop := mendClientUptoRow.holds Tryz.pinned (OpenSpec.upto mendClientSpec)

/-- 'seneschallaw18.MendBack', WHERE WHAT IT READS IS OF BULK AT MOST 1048576: true; the input reads as it did. -/
def mendBackUptoRow : OpenClaim := { program := "ytficgjklagnbjaagreat", sum := "7abe89fd486a22cfbe2325e8ed657e9314e976838a4dfc953d066c507a339bc0", func := "seneschal/seneschallaw18.MendBack", spec := "mendBack", unfollowed := true, recurses := true, plainKeys := false, apart := false, narrowed := true }
def MendBackUptoSaid : Prop := mendBackUptoRow.holds Tryz.pinned (OpenSpec.upto mendBackSpec)

/-- 'seneschallaw18.MendEnds', WHERE WHAT IT READS IS OF BULK AT MOST 1048576: true; the input reads as it did. -/
def mendEndsUptoRow : OpenClaim := { program := "ytficgjklagnbjaagreat", sum := "7abe89fd486a22cfbe2325e8ed657e9314e976838a4dfc953d066c507a339bc0", func := "seneschal/seneschallaw18.MendEnds", spec := "mendEnds", unfollowed := true, recurses := true, plainKeys := false, apart := false, narrowed := true }
def MendEndsUptoSaid : Prop := mendEndsUptoRow.holds Tryz.pinned (OpenSpec.upto mendEndsSpec)

/-- 'seneschallaw18.MendRows', WHERE WHAT IT READS IS OF BULK AT MOST 1048576: true; the input reads as it did. -/
def mendRowsUptoRow : OpenClaim := { program := "ytficgjklagnbjaagreat", sum := "7abe89fd486a22cfbe2325e8ed657e9314e976838a4dfc953d066c507a339bc0", func := "seneschal/seneschallaw18.MendRows", spec := "mendRows", unfollowed := true, recurses := true, plainKeys := false, apart := false, narrowed := true }
def MendRowsUptoSaid : Prop := mendRowsUptoRow.holds Tryz.pinned (OpenSpec.upto mendRowsSpec)

end Rows
end Go.Proofs.YtficgjklagnbjaaGreat
