/- Slots of one's own: made, copied, trimmed. Conditions: none. -/
import Derived.Test.YtgocmnejlbfplaaDoorPg2
import Derived.Test.YtgocmnejlbfplaaDoorCopy
import Derived.Laws.MakeOwn
namespace Go.Proofs.YtgocmnejlbfplaaDoor
open Go Go.MapKept Go.RowKit Go.Proofs

def slC (s : Sl) : List Value := [.bool s.1, kS s.2]
theorem slC_len : ∀ s, (slC s).length = 2 := fun _ => rfl
theorem one_sl : ∀ s, ∀ v ∈ slC s, v.oneCell' = true := by intro s; simp [slC, Value.oneCell']
abbrev SlOwn (v : Value) (L : List Sl) (h : Heaplet) : Prop := SliceIs 60 2 v L.length (L.flatMap slC) h
theorem infoSl : (Tryd.prog.info? 60).map (fun i => (i.zero, i.size, i.bytes)) = some (some (.agg #[.bool false, .string ⟨#[]⟩]), 2, 24) := by kernel_rfl
theorem slAt_own {v : Value} {L : List Sl} {h : Heaplet} (hv : SlOwn v L h) (F : Heaplet) : SlAt (h ++ F) v L := by
  obtain ⟨a, cap, rfl⟩ := sl_form hv
  refine ⟨a, cap, rfl, fun i s hs => ?_⟩
  rcases hv.2 with ⟨e, e0, _⟩ | ⟨g', cap', cur, e, _, _, _, _, rfl⟩
  · have := (List.getElem?_eq_some_iff.1 hs).1
    omega
  · cases e
    refine ⟨g', 0, rfl, fun w hw => ?_⟩
    obtain ⟨a', cap2, e, hc⟩ := sl_cells slC_len hv hw
    cases e
    obtain ⟨g, e, _, hu⟩ := hc i s hs
    cases e
    have u0 := hu 0 _ rfl
    have u1 := hu 1 _ rfl
    rw [Nat.zero_add]
    exact ⟨u0, u1⟩
def noSl : Sl := (false, ⟨#[]⟩)
theorem madeSl (n : Nat) : madeCells #[.bool false, .string ⟨#[]⟩] (n * 2) = ((List.replicate n noSl).flatMap slC).toArray := by
  apply Array.ext_getElem?
  intro j
  by_cases hj : j < n * 2
  · have hi : j / 2 < n := by omega
    have hr : (List.replicate n noSl)[j / 2]? = some noSl := by rw [List.getElem?_replicate, if_pos hi]
    have h2 : j % 2 = 0 ∨ j % 2 = 1 := by omega
    rcases h2 with h2 | h2
    · have := fm_get slC_len _ (j / 2) 0 _ _ hr (show (slC noSl)[0]? = some (.bool false) from rfl)
      rw [show j / 2 * 2 + 0 = j from by omega] at this
      have hR : ((List.replicate n noSl).flatMap slC).toArray[j]? = _ := (List.getElem?_toArray).trans this
      rw [hR]
      simp [madeCells, hj, h2]
    · have := fm_get slC_len _ (j / 2) 1 _ _ hr (show (slC noSl)[1]? = some (kS ⟨#[]⟩) from rfl)
      rw [show j / 2 * 2 + 1 = j from by omega] at this
      have hR : ((List.replicate n noSl).flatMap slC).toArray[j]? = _ := (List.getElem?_toArray).trans this
      rw [hR]
      simp [madeCells, hj, h2]
  · rw [Array.getElem?_eq_none (by simp [madeCells]; omega), Array.getElem?_eq_none (by rw [List.size_toArray, fm_len slC_len, List.length_replicate]; omega)]
theorem sat_cellsTo {T : TypeId} {g : Nat} {G : Heaplet} : ∀ (us : List Value) (o : Nat) (w : World) (c0 : List Value), Sat w (.blk g (.cells c0.toArray T) :: G) → o + us.length ≤ c0.length →
    Sat (w.setCells g o us) (.blk g (.cells (c0.take o ++ (us ++ c0.drop (o + us.length))).toArray T) :: G)
  | [], o, w, c0, hs, _ => by
    show Sat w _
    simpa using hs
  | u :: us, o, w, c0, hs, hle => by
    rw [List.length_cons] at hle
    have hs' := hs.setCell (i := o) u
    rw [show (c0.toArray).setIfInBounds o u = (c0.set o u).toArray from by simp] at hs'
    have ih := sat_cellsTo us (o + 1) _ (c0.set o u) hs' (by simp; omega)
    have e : (c0.set o u).take (o + 1) ++ (us ++ (c0.set o u).drop (o + 1 + us.length)) = c0.take o ++ (u :: us ++ c0.drop (o + (u :: us).length)) := by
      rw [List.take_add_one, List.take_set_of_le (by omega), List.getElem?_set_self (by omega), List.drop_set_of_lt (by omega)]
      simp only [Option.toList_some, List.append_assoc, List.cons_append, List.nil_append, List.length_cons]
      rw [show o + 1 + us.length = o + (us.length + 1) from by omega]
    rw [← e]
    exact ih
theorem trimU_nil : trimU [] = [] := rfl
theorem trimU_drop (L : List Sl) {s : Sl} (h : s.1 = false) : trimU (L ++ [s]) = trimU L := by
  unfold trimU
  rw [List.reverse_append, List.reverse_singleton, List.singleton_append, List.dropWhile_cons_of_pos (by simp [h])]
theorem trimU_keep (L : List Sl) {s : Sl} (h : s.1 = true) : trimU (L ++ [s]) = L ++ [s] := by
  unfold trimU
  rw [List.reverse_append, List.reverse_singleton, List.singleton_append, List.dropWhile_cons_of_neg (by simp [h])]
  simp
end Go.Proofs.YtgocmnejlbfplaaDoor
