/- A slice of bools that comes in. Conditions: none. -/
import Derived.Test.YtcndmiepbodpnaaArgs
import Derived.Deep.Slices
namespace Go.Proofs.Ytcndmiepbodpnaa
open Go Go.ChangeShapes Go.WideShapes Go.Deep Go.RowKit
/-- A slice of bools that came in. -/
def BoolSlice (W : World) (p : Option Addr) (len : Nat) (A : Nat → Bool) : Prop :=
  len ≤ 9223372036854775807 ∧ ∀ i, i < len → ∃ b off, p = some ⟨b, off, none⟩ ∧ b < W.heap.size ∧ W.cell? ⟨b, off + i, none⟩ = some (.bool (A i))
def boolOfV : Value → Bool
  | .bool b => b
  | _ => false
section
variable {H : Type} {enc : TypeId × Value → H} {P : Program} {w : World} {base : Nat} {spare : Nat → Bool} {held : Bool}
theorem open_boolSlice {t e : TypeId} {p : Option Addr} {len cap : Nat} {d : DataW H} {pl : List MemPlace} (ht : P.underlying t = some (.slice e)) (he : P.underlying e = some .bool) (hC : P.cellsOf e = 1)
    (h : DataW.Trod enc P w base spare held t (.slice p len cap) d pl) : ∃ A, BoolSlice w p len A := by
  obtain ⟨fuel, hf⟩ := h
  rcases open_slice1 ht hC hf with ⟨hcs, _⟩ | ⟨a, len', cap', m, n, V, D, Pl, hcs, hb, hl, hm, hmm, hx, hcell⟩
  · simp [Value.cells] at hcs
    obtain ⟨rfl, rfl, rfl⟩ := hcs
    exact ⟨fun _ => false, by omega, fun i hi => by omega⟩
  · simp [Value.cells] at hcs
    obtain ⟨rfl, rfl, rfl⟩ := hcs
    have hlm : len ≤ m := by rw [hmm]; split <;> omega
    refine ⟨fun i => boolOfV (V i), by unfold maxLen at hm; omega, fun i hil => ?_⟩
    have spot0 : a.spot = none := by
      have h0 := (hcell 0 (by omega)).1
      simpa [Addr.add] using World.cell?_spot h0
    obtain ⟨bl, off, sp⟩ := a
    simp only at spot0
    subst spot0
    obtain ⟨hc, ht⟩ := hcell i (by omega)
    have hadd : (⟨bl, off, none⟩ : Addr).add i = ⟨bl, off + i, none⟩ := by
      unfold Addr.add
      by_cases hz0 : i = 0
      · simp [hz0]
      · simp [hz0]
    rw [hadd] at hc
    obtain ⟨k, ek, _⟩ := DataW.trod_bool he ht
    simp only [List.cons.injEq, and_true] at ek
    rw [ek] at hc
    refine ⟨bl, off, rfl, World.block_lt_of_cell? w ⟨bl, off + i, none⟩ hc, ?_⟩
    simp only [ek]
    exact hc
end
end Go.Proofs.Ytcndmiepbodpnaa
