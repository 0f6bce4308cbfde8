/- The answers that the document fixes by number, in plain words. Conditions: none. -/
import Derived.Test.YtceegnfjdgjomaaPa12
namespace Go.Proofs.Ytceegnfjdgjomaa
open Go Go.MapKept Go.RowKit Go.Proofs Go.Sort Go.Shelf

abbrev awT1 : Tx := ⟨1, 1, 1⟩
abbrev awT2 : Tx := ⟨1, 1, 2⟩
def awE1 : En := ⟨1, awT1, 1, 0, 5, 0, false, ⟨#[]⟩, false, ⟨#[]⟩, 0⟩
def awE2 : En := ⟨1, awT2, 2, 0, 3, 0, false, ⟨#[]⟩, false, ⟨#[]⟩, 0⟩
def awE3 : En := ⟨3, awT1, 3, 1, 0, 0, false, ⟨#[]⟩, false, ⟨#[]⟩, 0⟩
def awL : List En := [awE1, awE2, awE3]
theorem tl0 : (⟨#[]⟩ : ByteArray).toList = [] := by unfold ByteArray.toList; unfold ByteArray.toList.loop; rfl
theorem sz0 : (⟨#[]⟩ : ByteArray).size = 0 := rfl
theorem aw_g1 : goodM awE1 = true := by simp [goodM, headM, knownM, withinM, changeM, slotM, awE1, tl0, sz0]
theorem aw_g2 : goodM awE2 = true := by simp [goodM, headM, knownM, withinM, changeM, slotM, awE2, tl0, sz0]
theorem aw_g3 : goodM awE3 = true := by simp [goodM, headM, knownM, withinM, bareM, awE3, tl0]
theorem aw_e1 : isEndM awE1 = false := by simp [isEndM, awE1]
theorem aw_e2 : isEndM awE2 = false := by simp [isEndM, awE2]
theorem aw_e3 : isEndM awE3 = true := by simp [isEndM, awE3]
theorem aw_end1 : endM awL awT1 = true := by simp [endM, awL, aw_g1, aw_g2, aw_g3, aw_e1, aw_e2, aw_e3, show awE1.t = awT1 from rfl, show awE2.t = awT2 from rfl, show awE3.t = awT1 from rfl]
theorem aw_end2 : endM awL awT2 = false := by simp [endM, awL, aw_g1, aw_g2, aw_g3, aw_e1, aw_e2, aw_e3, show awE1.t = awT1 from rfl, show awE2.t = awT2 from rfl, show awE3.t = awT1 from rfl]
theorem aw_last : lastM awL awL = [(awT2, 2)] := by
  have e1 := aw_end1
  have e2 := aw_end2
  generalize h : awL = L at e1 e2
  show lastM L L = _
  conv => lhs; arg 2; rw [← h]
  simp [awL, lastM, stepL, aw_g1, aw_g2, aw_g3, show awE1.t = awT1 from rfl, show awE2.t = awT2 from rfl, show awE3.t = awT1 from rfl, show awE2.lsn = 2 from rfl, e1, e2, putL]
theorem aw_done : doneM awL = [awT1] := by
  simp [awL, doneM, stepD, aw_g1, aw_g2, aw_g3, hasM, show awE1.kind = 1 from rfl, show awE2.kind = 1 from rfl, show awE3.kind = 3 from rfl, show awE3.t = awT1 from rfl]
theorem aw_pag : pagM 10 awL = [(5, 10), (3, 11)] := by
  simp [awL, pagM, firstM, stepP, aw_g1, aw_g2, aw_g3, aw_e1, aw_e2, aw_e3, getL, putL, show awE1.page = 5 from rfl, show awE2.page = 3 from rfl, show awE3.page = 0 from rfl]
theorem aw_sort : sortK [5, 3] = [3, 5] := by
  refine List.Perm.eq_of_pairwise (le := (· ≤ ·)) (fun a b _ _ h1 h2 => Int.le_antisymm h1 h2) (sortK_sorted _) (by simp) ((sortK_perm _).trans (List.Perm.swap 3 5 []))
theorem aw_read : readM awL 10 = ⟨[(awT2, 2)], [awT1], [(3, 11), (5, 10)]⟩ := by
  unfold readM
  rw [if_pos (by decide)]
  unfold losersM pagesM
  rw [aw_last, aw_done, aw_pag]
  simp only [List.map_cons, List.map_nil]
  rw [aw_sort]
  unfold sortT
  rw [List.mergeSort_singleton]
  simp [getL]
theorem aw_needed : neededM awL 10 = 11 := by
  refine (needed_at (r := 1) (x := awE2) (by decide) rfl ?_ ?_).trans (by decide)
  · rw [aw_g2, show awE2.t = awT2 from rfl, aw_end2]; rfl
  · intro i y hi hy
    obtain rfl : i = 0 := by omega
    simp only [awL, List.getElem?_cons_zero, Option.some.injEq] at hy
    rw [← hy, aw_g1, show awE1.t = awT1 from rfl]
    rw [aw_end1]; rfl
theorem aw_of : (ofM awL awT1).length = 2 := by
  simp [ofM, awL, aw_g1, aw_g2, aw_g3, show awE1.t = awT1 from rfl, show awE2.t = awT2 from rfl, show awE3.t = awT1 from rfl]
theorem aw_fit : FitL awL := by
  intro x hx
  simp only [awL, List.mem_cons, List.not_mem_nil, or_false] at hx
  rcases hx with rfl | rfl | rfl
  · decide
  · decide
  · decide
end Go.Proofs.Ytceegnfjdgjomaa
