/-
  No cell of these rows narrows 'for every input' (looked for: loops, veiled, ifaces, maps, wideKeys, modest, calm, conditions, laid).
  DERIVED. THE GIVEN ROWS OF THIS SEAT. 4 by the template 'for every input the law returns true; each argument reads behind the call as it read before'; 0 by the template 'total and deterministic' (their statements: YthgfbnopbfiifaaTotals.lean).
  GIVEN WITH THE SEED: the statements are not yours to turn. If you find one false, say at which input.
  Laid BY PROGRAM, IN A SANDBOX (cutbox-rows.mjs): the forced cells as the released guide's own fill.sh prints them over the translation f35aad09d8c8985a… (all of the seat's roots in one cut). By AI agents, Wed Nov 11 2026. No macro, syntax, notation, axiom, sorry.
-/
import Derived.Test.YthgfbnopbfiifaaChecked
import GoSem.Claim
import GoSem.ClaimJoined
import GoSem.ClaimMapViews
import Derived.JoinedTies
import Derived.KernelRfl
namespace Go.Proofs.Ythgfbnopbfiifaa
/- THE CELL 'sum', in the pinned program and in every row, IS THE sha256 OF THE DUMP (.gsa) THAT YthgfbnopbfiifaaProg.lean LOADS. Nothing in Lean hashes anything: it is a label: what it is worth is what the hold of that sum in a sandbox is worth. -/
noncomputable def Try.pinned : Pinned := { name := "ythgfbnopbfiifaa", sum := "f35aad09d8c8985a5d0cf43e12c0d75f8073e262d2fcb03a208905431046892b", checked := Try.checked }
namespace Rows
def none {H : Type} : Left H := { results := [], args := [] }

/-- 'seneschallaw14.KeySafe': WHATEVER THE INPUT: true; the input reads as it did. -/
def keySafeSpec : ChangeSpec := { name := "keySafe", fn := fun _ => fun
  | [d] => { results := [.lit (.bool true)], args := [d] }
  | _ => none }
def keySafeRow : OpenClaim := { program := "ythgfbnopbfiifaa", sum := "f35aad09d8c8985a5d0cf43e12c0d75f8073e262d2fcb03a208905431046892b", func := "seneschal/seneschallaw14.KeySafe", spec := "keySafe", unfollowed := true, recurses := true, apart := false }
def KeySafeSaid : Prop := keySafeRow.holds Try.pinned (OpenSpec.ofChange keySafeSpec)

/-- ITS FALSE NEIGHBOUR: 'it returns false'. Refute it at one input. -/
def keySafeWrong : ChangeSpec := { name := "keySafe", fn := fun _ => fun
  | [d] => { results := [.lit (.bool false)], args := [d] }
  | _ => none }
def KeySafeWrongFalsely : Prop := keySafeRow.holds Try.pinned (OpenSpec.ofChange keySafeWrong)

/-- 'seneschallaw14.KeyServes': WHATEVER THE INPUT: true; the input reads as it did. -/
def keyServesSpec : ChangeSpec := { name := "keyServes", fn := fun _ => fun
  | [d] => { results := [.lit (.bool true)], args := [d] }
  | _ => none }
def keyServesRow : OpenClaim := { program := "ythgfbnopbfiifaa", sum := "f35aad09d8c8985a5d0cf43e12c0d75f8073e262d2fcb03a208905431046892b", func := "seneschal/seneschallaw14.KeyServes", spec := "keyServes", unfollowed := true, recurses := true, apart := false }
def KeyServesSaid : Prop := keyServesRow.holds Try.pinned (OpenSpec.ofChange keyServesSpec)

/-- ITS FALSE NEIGHBOUR: 'it returns false'. Refute it at one input. -/
def keyServesWrong : ChangeSpec := { name := "keyServes", fn := fun _ => fun
  | [d] => { results := [.lit (.bool false)], args := [d] }
  | _ => none }
def KeyServesWrongFalsely : Prop := keyServesRow.holds Try.pinned (OpenSpec.ofChange keyServesWrong)

/-- 'seneschallaw14.KeyShares': WHATEVER THE INPUT: true; the input reads as it did. -/
def keySharesSpec : ChangeSpec := { name := "keyShares", fn := fun _ => fun
  | [d] => { results := [.lit (.bool true)], args := [d] }
  | _ => none }
def keySharesRow : OpenClaim := { program := "ythgfbnopbfiifaa", sum := "f35aad09d8c8985a5d0cf43e12c0d75f8073e262d2fcb03a208905431046892b", func := "seneschal/seneschallaw14.KeyShares", spec := "keyShares", unfollowed := true, recurses := true, apart := false }
def KeySharesSaid : Prop := keySharesRow.holds Try.pinned (OpenSpec.ofChange keySharesSpec)

/-- ITS FALSE NEIGHBOUR: 'it returns false'. Refute it at one input. -/
def keySharesWrong : ChangeSpec := { name := "keyShares", fn := fun _ => fun
  | [d] => { results := [.lit (.bool false)], args := [d] }
  | _ => none }
def KeySharesWrongFalsely : Prop := keySharesRow.holds Try.pinned (OpenSpec.ofChange keySharesWrong)

/-- 'seneschallaw14.KeyGone': WHATEVER THE INPUT: true; the input reads as it did. -/
def keyGoneSpec : ChangeSpec := { name := "keyGone", fn := fun _ => fun
  | [d1, d2] => { results := [.lit (.bool true)], args := [d1, d2] }
  | _ => none }
def keyGoneRow : OpenClaim := { program := "ythgfbnopbfiifaa", sum := "f35aad09d8c8985a5d0cf43e12c0d75f8073e262d2fcb03a208905431046892b", func := "seneschal/seneschallaw14.KeyGone", spec := "keyGone", unfollowed := true, recurses := true, apart := false }
def KeyGoneSaid : Prop := keyGoneRow.holds Try.pinned (OpenSpec.ofChange keyGoneSpec)

/-- ITS FALSE NEIGHBOUR: 'it returns false'. Refute it at one input. -/
def keyGoneWrong : ChangeSpec := { name := "keyGone", fn := fun _ => fun
  | [d1, d2] => { results := [.lit (.bool false)], args := [d1, d2] }
  | _ => none }
def KeyGoneWrongFalsely : Prop := keyGoneRow.holds Try.pinned (OpenSpec.ofChange keyGoneWrong)

/- THE SECOND FORM. 'bulk': how many values and letters a reading holds, each counted each time it is reached (what is shared counts as often as it is met; a slice's spare places count too). A statement '..UptoSaid' is the law's where the arguments, and the package variables that the reading takes, are together of bulk at most 1048576: NARROWER than '..Said'. Prove '..Said' where nothing that the law and all that it calls make is longer than what came in: it says more and counts as full. Else prove '..UptoSaid'. A law counts once. -/
mutual
def uptoBulk {H : Type} : DataW H → Nat
  | .lit (.string bytes) => bytes.length + 1
  | .lit _ => 1
  | .nil => 1
  | .ptr d => uptoBulk d + 1
  | .slice elems spare => uptoBulkAll elems + uptoBulkAll spare + 1
  | .agg parts => uptoBulkAll parts + 1
  | .iface _ d => uptoBulk d + 1
  | .map entries => uptoBulkEntries entries + 1
  | .held _ => 1
def uptoBulkAll {H : Type} : List (DataW H) → Nat
  | [] => 0
  | d :: r => uptoBulk d + uptoBulkAll r
def uptoBulkEntries {H : Type} : List (Lit × DataW H) → Nat
  | [] => 0
  | x :: r => uptoBulkEntry x + uptoBulkEntries r
def uptoBulkEntry {H : Type} : Lit × DataW H → Nat
  | (.string bytes, d) => bytes.length + uptoBulk d + 1
  | (_, d) => uptoBulk d + 1
 end
def uptoSmall : (H : Type) → List (DataW H) → Bool := fun _ ds => decide (uptoBulkAll ds ≤ 1048576)
def OpenSpec.upto (s : _root_.Go.ChangeSpec) : _root_.Go.OpenSpec := { _root_.Go.OpenSpec.ofChange s with cond := some uptoSmall }

/-- 'seneschallaw14.KeySafe', WHERE WHAT IT READS IS OF BULK AT MOST 1048576: true; the input reads as it did. -/
def keySafeUptoRow : OpenClaim := { program := "ythgfbnopbfiifaa", sum := "f35aad09d8c8985a5d0cf43e12c0d75f8073e262d2fcb03a208905431046892b", func := "seneschal/seneschallaw14.KeySafe", spec := "keySafe", unfollowed := true, recurses := true, apart := false, narrowed := true }
def KeySafeUptoSaid : Prop := keySafeUptoRow.holds Try.pinned (OpenSpec.upto keySafeSpec)

/-- 'seneschallaw14.KeyServes', WHERE WHAT IT READS IS OF BULK AT MOST 1048576: true; the input reads as it did. -/
def keyServesUptoRow : OpenClaim := { program := "ythgfbnopbfiifaa", sum := "f35aad09d8c8985a5d0cf43e12c0d75f8073e262d2fcb03a208905431046892b", func := "seneschal/seneschallaw14.KeyServes", spec := "keyServes", unfollowed := true, recurses := true, apart := false, narrowed := true }
def KeyServesUptoSaid : Prop := keyServesUptoRow.holds Try.pinned (OpenSpec.upto keyServesSpec)

/-- 'seneschallaw14.KeyShares', WHERE WHAT IT READS IS OF BULK AT MOST 1048576: true; the input reads as it did. -/
def keySharesUptoRow : OpenClaim := { program := "ythgfbnopbfiifaa", sum := "f35aad09d8c8985a5d0cf43e12c0d75f8073e262d2fcb03a208905431046892b", func := "seneschal/seneschallaw14.KeyShares", spec := "keyShares", unfollowed := true, recurses := true, apart := false, narrowed := true }
def KeySharesUptoSaid : Prop := keySharesUptoRow.holds Try.pinned (OpenSpec.upto keySharesSpec)

/-- 'seneschallaw14.KeyGone', WHERE WHAT IT READS IS OF BULK AT MOST 1048576: true; the input reads as it did. -/
def keyGoneUptoRow : OpenClaim := { program := "ythgfbnopbfiifaa", sum := "f35aad09d8c8985a5d0cf43e12c0d75f8073e262d2fcb03a208905431046892b", func := "seneschal/seneschallaw14.KeyGone", spec := "keyGone", unfollowed := true, recurses := true, apart := false, narrowed := true }
def KeyGoneUptoSaid : Prop := keyGoneUptoRow.holds Try.pinned (OpenSpec.upto keyGoneSpec)

end Rows
end Go.Proofs.Ythgfbnopbfiifaa
