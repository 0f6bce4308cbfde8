/- PastJoins walked: two lists in a row. Conditions: none. -/
import Derived.Test.YtceegnfjdgjomaaPaJoB
namespace Go.Proofs.Ytceegnfjdgjomaa
open Go Go.MapKept Go.RowKit Go.Proofs Go.Sort Go.Shelf

theorem joins_walk (a0 : Option Addr) (cap0 : Nat) (l : List En) (a1 : Option Addr) (cap1 : Nat) (m : List En) (W : World) (_ : l.length ≤ cap0) (h : EnsAt W a0 l) (_ : m.length ≤ cap1) (h2 : EnsAt W a1 m) :
    Calls Try.prog 6 #[.slice a0 l.length cap0, .slice a1 m.length cap1] W (Ret (.bool true) (RowKit.Below W.heap.size W)) := by
  by_cases hb : 40 < l.length ∨ 40 < m.length ∨ greatM l = true ∨ greatM m = true
  · exact joins_big a0 cap0 l a1 cap1 m W h h2 hb
  · simp only [not_or, Bool.not_eq_true] at hb
    exact joins_main a0 cap0 l a1 cap1 m W h h2 (by omega) (by omega) hb.2.2.1 hb.2.2.2
end Go.Proofs.Ytceegnfjdgjomaa
