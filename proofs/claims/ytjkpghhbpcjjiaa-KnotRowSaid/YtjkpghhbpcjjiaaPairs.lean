/- A slice of arrays of two integers that came in. Conditions: none. -/
import Derived.Test.YtjkpghhbpcjjiaaArgs
import Derived.OpenShut
namespace Go.Proofs.Ytjkpghhbpcjjiaa
open Go Go.ChangeShapes Go.WideShapes Go.Deep Go.RowKit
section
variable {H : Type} {enc : TypeId × Value → H} {P : Program} {w : World} {base : Nat} {spare : Nat → Bool} {held : Bool}
theorem open_pairs {t e ti : TypeId} {p : Option Addr} {len cap : Nat} {d : DataW H} {pl : List MemPlace} (ht : P.underlying t = some (.slice e)) (he : P.underlying e = some (.array 2 ti)) (hti : P.underlying ti = some (.int .i64)) (hC : P.cellsOf e = 2) (hCi : P.cellsOf ti = 1)
    (h : DataW.Trod enc P w base spare held t (.slice p len cap) d pl) : IntsAt w p len 2 (fun i j => intOf' (rowVal w p 2 i j)) := by
  obtain ⟨fuel, hf⟩ := h
  rcases open_slice ht hf with ⟨hcs, _⟩ | ⟨a, len', cap', m, n, D, Pl, hcs, hb, hl, hm, hmm, hx, hi⟩
  · simp [Value.cells] at hcs
    obtain ⟨rfl, rfl, rfl⟩ := hcs
    exact ⟨by omega, fun i hi => by omega⟩
  · simp [Value.cells] at hcs
    obtain ⟨rfl, rfl, rfl⟩ := hcs
    have hml : len ≤ m := by rw [hmm]; split <;> omega
    have key : ∀ (i j : Nat), i < len → j < 2 → a.spot = none ∧ a.block < w.heap.size ∧ w.cell? ⟨a.block, a.off + i * 2 + j, none⟩ = some (rowVal w (some a) 2 i j) ∧
        ∃ k, rowVal w (some a) 2 i j = .int .i64 k ∧ (Lit.int .i64 k).wf = true := by
      intro i j hil hj
      obtain ⟨cs', hc, ht'⟩ := hi i (Nat.lt_of_lt_of_le hil hml)
      rw [hC] at hc
      have spot0 : a.spot = none := by
        obtain ⟨cs0, hc0, _⟩ := hi 0 (by omega)
        rw [hC] at hc0
        obtain ⟨_, hcl0, hat0⟩ := World.cells?_some hc0
        have hcell := hat0 0 (by decide)
        rw [List.getElem?_eq_getElem (by omega)] at hcell
        simpa [Addr.add] using World.cell?_spot hcell
      obtain ⟨xs, q, _, _, hcl, hxl, hxi⟩ := DataW.trod_array he ht'
      obtain ⟨_, hcl2, hat⟩ := World.cells?_some hc
      rw [hC] at hcl
      have hcell := hat j hj
      have hvl : j < cs'.length := by omega
      rw [List.getElem?_eq_getElem hvl] at hcell
      have h1 := hxi j hj
      rw [hCi] at h1
      have hdrop : (cs'.drop (j * 1)).take 1 = [cs'[j]] := by
        rw [Nat.mul_one, List.drop_eq_getElem_cons hvl]; rfl
      rw [hdrop, List.getElem?_eq_getElem (by omega)] at h1
      obtain ⟨bl, off, sp⟩ := a
      simp only at spot0
      subst spot0
      have hcell' : w.cell? ⟨bl, off + i * 2 + j, none⟩ = some cs'[j] := by
        have hadd : ((⟨bl, off, none⟩ : Addr).add (i * 2)).add j = ⟨bl, off + i * 2 + j, none⟩ := by
          rw [add_add]
          unfold Addr.add
          by_cases hz : i * 2 + j = 0
          · simp only [hz, if_true, Nat.add_assoc, Nat.add_zero]
          · simp only [hz, if_false, Nat.add_assoc]
        rw [hadd] at hcell
        exact hcell
      have hrow : rowVal w (some ⟨bl, off, none⟩) 2 i j = cs'[j] := by simp [rowVal, hcell']
      obtain ⟨k, e1, _, hwf⟩ := DataW.trod_int hti h1
      simp only [List.cons.injEq, and_true] at e1
      exact ⟨rfl, World.block_lt_of_cell? w ⟨bl, off + i * 2 + j, none⟩ hcell', by rw [hrow]; exact hcell', k, by rw [hrow]; exact e1, hwf⟩
    refine ⟨by unfold maxLen at hm; omega, fun i hil => ?_⟩
    obtain ⟨hs, hlt, _⟩ := key i 0 hil (by decide)
    obtain ⟨bl, off, sp⟩ := a
    simp only at hs
    subst hs
    refine ⟨bl, off, rfl, hlt, fun j hj => ?_⟩
    obtain ⟨_, _, hc, k, e, hwf⟩ := key i j hil hj
    simp only at hc
    rw [e] at hc
    show w.cell? ⟨bl, off + i * 2 + j, none⟩ = some (.int .i64 (intOf' (rowVal w (some ⟨bl, off, none⟩) 2 i j))) ∧ -9223372036854775808 ≤ intOf' (rowVal w (some ⟨bl, off, none⟩) 2 i j) ∧ intOf' (rowVal w (some ⟨bl, off, none⟩) 2 i j) ≤ 9223372036854775807
    rw [e]
    exact ⟨hc, wf_bounds hwf⟩
end
end Go.Proofs.Ytjkpghhbpcjjiaa
