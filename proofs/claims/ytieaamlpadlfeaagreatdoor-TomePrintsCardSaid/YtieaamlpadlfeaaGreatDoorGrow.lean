/- What grows: draws and new blocks. Conditions: none. -/
import Derived.Test.YtieaamlpadlfeaaGreatDoorMapBr
import Derived.Test.YtieaamlpadlfeaaGreatDoorSl
import Derived.Sort.Grow
namespace Go.Proofs.YtieaamlpadlfeaaGreatDoor
open Go Go.MapKept Go.RowKit Go.Proofs Go.Sort

/-- Draws, and new blocks. -/
def Grown (w w' : World) : Prop := ∃ q os, w' = grow (w.drewN q) os
theorem Grown.refl (w : World) : Grown w w := ⟨0, #[], by rw [grow_empty]; rfl⟩
theorem Grown.alloc (w : World) (o : Obj) : Grown w (w.alloc o) := ⟨0, #[o], by rw [alloc_eq_grow]; rfl⟩
theorem Grown.drew (w : World) : Grown w w.drew := ⟨1, #[], by rw [grow_empty]; rfl⟩
theorem Grown.trans {a b c : World} (h : Grown a b) (k : Grown b c) : Grown a c := by
  obtain ⟨q, os, rfl⟩ := h
  obtain ⟨q', os', rfl⟩ := k
  exact ⟨q + q', os ++ os', by show grow (grow ((a.drewN q).drewN q') os) os' = _; rw [grow_grow, World.drewN_drewN]⟩
theorem Grown.same {w w' : World} (h : Same w w') : Grown w w' := by
  unfold Same at h; rw [← h]; exact Grown.refl w
theorem Grown.below {w w' : World} (h : Grown w w') : RowKit.Below w.heap.size w w' := by
  obtain ⟨q, os, rfl⟩ := h
  refine Sat.below ?_
  have hs : Sat (w.drewN q) (allOf w) := (sat_all w).of_heap rfl ⟨rfl, rfl, rfl⟩
  refine ⟨fun x hx => ?_, hs.2⟩
  have h := hs.1 x hx
  cases x with
  | blk b o => exact (heap_grow_old _ _ (Array.getElem?_eq_some_iff.1 h).1).trans h
  | env w0 => exact h
/-- It returns this; the world has grown at most. -/
def Pur (v : Value) (w : World) : Ending → World → Prop := Ret v (Grown w)
theorem Sat.grown {w w' : World} {F : Heaplet} (s : Sat w F) (h : Grown w w') : Sat w' F := s.monoB h.below
theorem Grown.drewN (w : World) (n : Nat) : Grown w (w.drewN n) := ⟨n, #[], by rw [grow_empty]⟩
end Go.Proofs.YtieaamlpadlfeaaGreatDoor
