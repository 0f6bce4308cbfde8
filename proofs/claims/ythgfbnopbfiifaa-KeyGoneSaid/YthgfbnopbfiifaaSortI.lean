/- A row of ints sorted, in the block-wise view. Conditions: none. -/
import Derived.Test.YthgfbnopbfiifaaKey3
namespace Go.Proofs.Ythgfbnopbfiifaa
open Go Go.MapKept Go.RowKit Go.Proofs Go.Sort

theorem sat_putRow {α : Type} [Inhabited α] (enc : α → Value) {w : World} {g off : Nat} {d : Array α} {cur : Array Value} {T : TypeId} {F : Heaplet} (s : Sat w (.blk g (.cells cur T) :: F)) : Sat (putRow enc w g off d) (.blk g (.cells (putCells enc off d cur) T) :: F) := by
  refine s.set _ ?_ ⟨rfl, rfl, rfl⟩
  show w.heap.modify g (onCells (putCells enc off d)) = w.heap.setIfInBounds g _
  have h0 := s.h0
  apply Array.ext_getElem?
  intro i
  rw [Array.getElem?_modify, Array.getElem?_setIfInBounds]
  have hlt : g < w.heap.size := (Array.getElem?_eq_some_iff.1 h0).1
  by_cases e : g = i
  · subst e
    rw [if_pos rfl, if_pos rfl, h0, if_pos hlt]
    rfl
  · rw [if_neg e, if_neg e]
theorem sort_ints {v : Value} {ts : List Int} {th F : Heaplet} {w : World} (hv : ISl v ts th) (s : Sat w (th ++ F)) (hn : ts.length ≤ 1000000) :
    Calls Try.prog 29 #[v] w (Ret (.tuple #[]) fun w' => ∃ th', ISl v (sortK ts) th' ∧ Sat w' (th' ++ F)) := by
  rcases hv.2 with ⟨rfl, e0, rfl⟩ | ⟨g, cap, cur, rfl, hc, hm, hz, ht, rfl⟩
  · have hts : ts = [] := List.eq_nil_of_length_eq_zero e0
    subst hts
    refine (AnyM.slices_Sort_int_none Try.sortA none 0 w).mono ?_
    rintro e w' ⟨rfl, rfl⟩
    have e1 : sortK [] = [] := by unfold sortK; simp
    exact ⟨rfl, [], by rw [e1]; exact SliceIs.nil _ _, s⟩
  · have hcell : ∀ j (h : j < ts.length), cur[j]? = some (kI ts[j]) := by
      intro j h
      have h1 : (cur.toList.take (ts.length * 1))[j]? = (ts.map kI)[j]? := by rw [ht]
      rw [List.getElem?_take, if_pos (by omega), Array.getElem?_toList, List.getElem?_map, List.getElem?_eq_getElem h] at h1
      exact h1
    have hH : Holds (Value.int .i64) w g 0 ts.toArray := by
      intro j hj
      have hj' : j < ts.length := by simpa using hj
      refine ⟨?_, unfrozen_of s.h0 _⟩
      rw [cell_of s.h0, Nat.zero_add, hcell j hj']
      congr 2
      rw [getElem!_pos _ j hj]
      simp
    refine (AnyM.slices_Sort_int Try.sortA g 0 cap ts w hH (s.lt (.head _)) (by omega)).mono ?_
    rintro e w' ⟨rfl, n, os, rfl⟩
    have s1 : Sat (Sort.ahead w n) (.blk g (.cells cur 3) :: F) := s.of_heap rfl ⟨rfl, rfl, rfl⟩
    have s2 := sat_putRow (Value.int .i64) (off := 0) (d := (ts.mergeSort fun x y => decide (x ≤ y)).toArray) s1
    have s3 : Sat (grow (putRow (Value.int .i64) (Sort.ahead w n) g 0 (ts.mergeSort fun x y => decide (x ≤ y)).toArray) os) (.blk g (.cells (putCells (Value.int .i64) 0 (ts.mergeSort fun x y => decide (x ≤ y)).toArray cur) 3) :: F) := s2.grown ⟨0, os, rfl⟩
    have hlen : (sortK ts).length = ts.length := (sortK_perm ts).length_eq
    refine ⟨rfl, _, ⟨?_, .inr ⟨g, cap, _, ?_, ?_, hm, ?_, ?_, rfl⟩⟩, s3⟩
    · simp
    · rw [hlen]
    · rw [hlen]; exact hc
    · simp [putCells]; omega
    · apply List.ext_getElem?
      intro j
      rw [List.getElem?_take]
      by_cases hj : j < ts.length
      · rw [hlen, if_pos (by omega), Array.getElem?_toList, List.getElem?_map]
        have hj2 : j < (sortK ts).length := by omega
        rw [List.getElem?_eq_getElem hj2]
        unfold putCells
        rw [Array.getElem?_mapIdx, hcell j hj]
        simp only [Option.map_some, Nat.zero_le, true_and, List.size_toArray, Nat.zero_add, Nat.sub_zero]
        rw [if_pos (by show j < (sortK ts).length; omega)]
        congr 2
        rw [getElem!_pos _ j (by simp; exact hj)]
        simp [sortK]
      · rw [hlen, if_neg (by omega), List.getElem?_eq_none (by rw [List.length_map]; omega)]
end Go.Proofs.Ythgfbnopbfiifaa
