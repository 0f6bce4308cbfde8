/- The reference's promises: how they lie in memory. Conditions: none. -/
import Derived.Test.YtbjomkbiljpjmaaPTwinM
import Derived.Test.YtbjomkbiljpjmaaSl
namespace Go.Proofs.Ytbjomkbiljpjmaa
open Go Go.MapKept Go.RowKit Go.Proofs

abbrev flP (q : Int × Int) : List Value := [kI q.1, kI q.2]
theorem flP_len (q : Int × Int) : (flP q).length = 2 := rfl
abbrev PartSl (v : Value) (R : Pts) (h : Heaplet) : Prop := SliceIs 81 2 v R.length (R.flatMap flP) h
theorem infoPart : (Try.prog.info? 81).map (fun i => (i.zero, i.size, i.bytes)) = some (some (.agg #[.int .i64 0, .int .i64 0]), 2, 16) := by kernel_rfl
/-- THE REFERENCE at c holds R. -/
def RefIs (c : Nat) (R : Pts) (F : Heaplet) (w : World) : Prop :=
  ∃ v h, PartSl v R h ∧ Sat w (.blk c (.cells #[v] 79) :: (h ++ F))
/-- What is built beside: a slice v3 of l. -/
def OutIs (c : Nat) (v0 : Value) (h0 : Heaplet) (v3 : Value) (l : Pts) (F : Heaplet) (w : World) : Prop :=
  ∃ h3, PartSl v3 l h3 ∧ Sat w (.blk c (.cells #[v0] 79) :: (h0 ++ (h3 ++ F)))
/-- The cells of a slice's elements. -/
def CellsP (w : World) (a : Option Addr) (R : Pts) : Prop := ∀ i q, R[i]? = some q → ∃ g, a = some ⟨g, 0, none⟩ ∧ w.cell? ⟨g, i * 2, none⟩ = some (kI q.1) ∧ w.cell? ⟨g, i * 2 + 1, none⟩ = some (kI q.2)
theorem part_cells {v : Value} {R : Pts} {h F : Heaplet} {w : World} (hv : PartSl v R h) (s : Sat w (h ++ F)) : ∃ a cap, v = .slice a R.length cap ∧ CellsP w a R := by
  obtain ⟨a, cap, e, hc⟩ := sl_cells flP_len hv s
  refine ⟨a, cap, e, fun i q hq => ?_⟩
  obtain ⟨g, ea, _, hu⟩ := hc i q hq
  exact ⟨g, ea, hu 0 _ rfl, hu 1 _ rfl⟩
section
variable {c : Nat} {R l : Pts} {F h0 : Heaplet} {w : World} {v0 v3 : Value}
theorem RefIs.frame (h : RefIs c R F w) : Sat w F := by
  obtain ⟨v, hh, _, hs⟩ := h
  exact hs.tail.right
theorem RefIs.drewN (h : RefIs c R F w) (n : Nat) : RefIs c R F (w.drewN n) := by
  obtain ⟨v, hh, hv, hs⟩ := h
  exact ⟨v, hh, hv, hs.of_heap rfl ⟨rfl, rfl, rfl⟩⟩
theorem RefIs.permF {F' : Heaplet} (h : RefIs c R F w) (p : F.Perm F') : RefIs c R F' w := by
  obtain ⟨v, hh, hv, hs⟩ := h
  exact ⟨v, hh, hv, hs.perm ((p.append_left _).cons _)⟩
theorem RefIs.cells (h : RefIs c R F w) : ∃ a cap, w.cell? ⟨c, 0, none⟩ = some (.slice a R.length cap) ∧ CellsP w a R := by
  obtain ⟨v, hh, hv, hs⟩ := h
  have c0 : w.cell? ⟨c, 0, none⟩ = some v := by rw [cell_of hs.h0]; rfl
  obtain ⟨a, cap, rfl, hc⟩ := part_cells hv hs.tail
  exact ⟨a, cap, c0, hc⟩
theorem OutIs.push (h : OutIs c v0 h0 v3 l F w) (q : Int × Int) (hl : l.length + 1 ≤ 1000000) :
    ∃ v' w', (∀ ty, (Builtin.append_ #[77, 77] ty #[v3, .slice (some ⟨w.heap.size, 0, none⟩) 1 1]).run Try.prog (w.alloc (.cells (flP q).toArray 81)) = .ok v' w') ∧ OutIs c v0 h0 v' (l ++ [q]) F w' := by
  obtain ⟨h3, hv, hs⟩ := h
  obtain ⟨i0, hi, hz, hsize, hby⟩ := info_parts infoPart
  obtain ⟨v', w', h', hr, hv', hs'⟩ := sl_push (P := Try.prog) flP_len Try.underlying77 hi hz hsize hby rfl (by decide) hv (A := .blk c (.cells #[v0] 79) :: h0) (B := F) q (hs.new _) (by simp [Value.oneCell']) (by unfold maxLen; omega) (by omega)
  exact ⟨v', w', hr, h', hv', hs'⟩
theorem OutIs.cell0 (h : OutIs c v0 h0 v3 l F w) : w.cell? ⟨c, 0, none⟩ = some v0 := by
  obtain ⟨h3, hv, hs⟩ := h
  rw [cell_of hs.h0]; rfl
theorem OutIs.froz (h : OutIs c v0 h0 v3 l F w) : w.frozen? ⟨c, 0, none⟩ = false := by
  obtain ⟨h3, hv, hs⟩ := h
  exact unfrozen_of hs.h0 0
/-- The new slice takes the old one's place. -/
theorem OutIs.take (h : OutIs c v0 h0 v3 l F w) : RefIs c l F (w.setCell ⟨c, 0, none⟩ v3) := by
  obtain ⟨h3, hv, hs⟩ := h
  have s1 := hs.setCell (i := 0) v3
  exact ⟨v3, h3, hv, (s1.perm (List.perm_append_comm_assoc [_] h0 _)).right⟩
/-- An empty slice is made. -/
theorem RefIs.out (h : RefIs c R F w) : ∃ v0 h0, w.cell? ⟨c, 0, none⟩ = some v0 ∧ PartSl v0 R h0 ∧ OutIs c v0 h0 (.slice (some ⟨w.heap.size, 0, none⟩) 0 0) [] F (w.alloc (.cells #[] 81)) := by
  obtain ⟨v, hh, hv, hs⟩ := h
  refine ⟨v, hh, by rw [cell_of hs.h0]; rfl, hv, [.blk w.heap.size (.cells #[] 81)], sl_new _ _ _, ?_⟩
  have s1 := hs.new (.cells #[] 81)
  exact s1.perm (List.perm_middle (l₁ := HItem.blk c (.cells #[v] 79) :: hh)).symm
theorem OutIs.old (h : OutIs c v0 h0 v3 l F w) (hv0 : PartSl v0 R h0) : ∃ a cap, v0 = .slice a R.length cap ∧ CellsP w a R := by
  obtain ⟨h3, hv, hs⟩ := h
  exact part_cells hv0 hs.tail
theorem OutIs.form (h : OutIs c v0 h0 v3 l F w) : ∃ a cap, v3 = .slice a l.length cap := by
  obtain ⟨h3, hv, hs⟩ := h
  exact sl_form hv
end
end Go.Proofs.Ytbjomkbiljpjmaa
