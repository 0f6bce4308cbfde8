/- A row of structs sorted by a comparer, in the block-wise view: how it lies before and behind. Conditions: none. -/
import Derived.Test.YthgfbnopbfiifaaApp
import Derived.Test.YthgfbnopbfiifaaGrow
import Derived.Shelf.SlSortCmp.NoneTotal
namespace Go.Proofs.Ythgfbnopbfiifaa
open Go Go.MapKept Go.RowKit Go.Proofs Go.Sort Go.Shelf

section
variable {α : Type} [Inhabited α] {T : TypeId} {k : Nat} {fl : α → List Value}
theorem flatG_get (hfl : ∀ q, (fl q).length = k) (R : List α) (j : Nat) (hj : j < R.length * k) : (R.flatMap fl)[j]? = some ((flatK fl k R.toArray)[j]!) := by
  have hk : 0 < k := by
    rcases Nat.eq_zero_or_pos k with h | h
    · subst h; omega
    · exact h
  rw [get_flatK _ _ _ _ (by simpa using hj)]
  have hi : j / k < R.length := Nat.div_lt_of_lt_mul (by rw [Nat.mul_comm]; exact hj)
  have hm : j % k < (fl R[j / k]).length := by rw [hfl]; exact Nat.mod_lt _ hk
  have := fm_get hfl R (j / k) (j % k) _ _ (List.getElem?_eq_getElem hi) (List.getElem?_eq_getElem hm)
  rw [Nat.div_add_mod'] at this
  rw [this]
  have e : R.toArray[j / k]! = R[j / k] := by simp [hi]
  rw [e]
  congr 1
  exact (getElem!_pos (fl R[j / k]) (j % k) hm).symm
theorem holds_G (hfl : ∀ q, (fl q).length = k) {w : World} {g : Nat} {R : List α} {cap : Nat} {h F : Heaplet} (hv : SliceIs T k (.slice (some ⟨g, 0, none⟩) R.length cap) R.length (R.flatMap fl) h) (s : Sat w (h ++ F)) : HoldsK fl k w g 0 R.toArray := by
  intro j hj
  have hj' : j < R.length * k := by simpa using hj
  have hc := (SliceIs.cell hv s rfl (flatG_get hfl R j hj')).2.2
  refine ⟨by rw [Nat.zero_add]; exact hc, ?_⟩
  rcases hv.2 with ⟨e, _⟩ | ⟨g', cap', cur, e, _, _, _, _, rfl⟩
  · cases e
  · cases e
    exact unfrozen_of s.h0 _
theorem satG_sorted (hfl : ∀ q, (fl q).length = k) {w : World} {g : Nat} {R R' : List α} {cap n : Nat} {os : Array Obj} {h F : Heaplet} (hv : SliceIs T k (.slice (some ⟨g, 0, none⟩) R.length cap) R.length (R.flatMap fl) h) (s : Sat w (h ++ F)) (hl : R'.length = R.length) :
    ∃ h', SliceIs T k (.slice (some ⟨g, 0, none⟩) R.length cap) R'.length (R'.flatMap fl) h' ∧ Sat (sortWorldK fl k w g 0 n R'.toArray os) (h' ++ F) := by
  rcases hv.2 with ⟨e, _⟩ | ⟨g', cap', cur, e, hnc, hcm, hcs, htake, rfl⟩
  · cases e
  · cases e
    refine ⟨[.blk g (.cells (putCells id 0 (flatK fl k R'.toArray) cur) T)], ?_, ?_⟩
    · refine ⟨fm_len hfl R', .inr ⟨g, cap, _, by rw [hl], by rw [hl]; exact hnc, hcm, by simp [putCells, hcs], ?_, rfl⟩⟩
      apply List.ext_getElem?
      intro j
      by_cases hj : j < R'.length * k
      · rw [List.getElem?_take_of_lt hj, flatG_get hfl R' j hj]
        have hc : j < cur.size := by
          rw [hcs]
          have := Nat.mul_le_mul_right k hnc
          rw [hl] at hj
          omega
        rw [Array.getElem?_toList]
        simp only [putCells, Array.getElem?_mapIdx, Array.getElem?_eq_getElem hc, Option.map_some, size_flatK, List.size_toArray]
        rw [if_pos ⟨by omega, by omega⟩]
        rfl
      · rw [List.getElem?_eq_none (by rw [List.length_take]; omega), List.getElem?_eq_none (by rw [fm_len hfl]; omega)]
    · have hlt : g < w.heap.size := s.lt (.head _)
      have h1 : Sat (putRowK fl k (Sort.ahead w n) g 0 R'.toArray) (.blk g (.cells (putCells id 0 (flatK fl k R'.toArray) cur) T) :: F) := by
        refine Sat.set (w := w) s _ ?_ ⟨rfl, rfl, rfl⟩
        apply Array.ext_getElem?
        intro j
        simp only [putRowK, putRow, mapBlock, Array.getElem?_modify, heap_ahead, Array.getElem?_setIfInBounds]
        by_cases e : g = j
        · subst e
          rw [s.h0]
          simp [hlt, onCells]
        · simp [e]
      have h2 : Grown (putRowK fl k (Sort.ahead w n) g 0 R'.toArray) (sortWorldK fl k w g 0 n R'.toArray os) := ⟨0, os, rfl⟩
      exact h1.grown h2
end
end Go.Proofs.Ythgfbnopbfiifaa
