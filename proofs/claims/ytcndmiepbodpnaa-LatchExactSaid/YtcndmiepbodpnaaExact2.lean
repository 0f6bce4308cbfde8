/- The locks and the reference in one world. Conditions: none. -/
import Derived.Test.YtcndmiepbodpnaaExact1
namespace Go.Proofs.Ytcndmiepbodpnaa
open Go Go.MapKept Go.RowKit Go.Proofs

/-- The locks at b hold D, the reference at c holds R, F besides. -/
def Both (b c : Nat) (D R : Lks) (F : Heaplet) (w : World) : Prop :=
  ∃ v h, SliceIs 49 4 v R.length (flatR R) h ∧ LatchIs b D (.blk c (.cells #[v] 43) :: (h ++ F)) w
section
variable {b c : Nat} {D R : Lks} {F : Heaplet} {w : World}
theorem LatchIs.permF {F' : Heaplet} (h : LatchIs b D F w) (p : F.Perm F') : LatchIs b D F' w := h.weaken (E := []) p
/-- The locks' side, and the way back. -/
theorem Both.latch (h : Both b c D R F w) : ∃ F', LatchIs b D F' w ∧ (∀ w' D', LatchIs b D' F' w' → Both b c D' R F w') ∧ ∀ w' D' hh, LatchIs b D' (hh ++ F') w' → Both b c D' R (hh ++ F) w' := by
  obtain ⟨v, hh, hv, hl⟩ := h
  refine ⟨_, hl, fun w' D' h' => ⟨v, hh, hv, h'⟩, fun w' D' h4 h' => ⟨v, hh, hv, h'.permF ?_⟩⟩
  exact (List.perm_append_comm_assoc h4 (HItem.blk c (.cells #[v] 43) :: hh) F)
/-- The reference's side, and the way back. -/
theorem Both.ref (h : Both b c D R F w) : ∃ F', RefIs c R F' w ∧ (∀ w' R', RefIs c R' F' w' → Both b c D R' F w') ∧ ∀ w' R' hh, RefIs c R' (hh ++ F') w' → Both b c D R' (hh ++ F) w' := by
  obtain ⟨v, hh, hv, m, L, e, hl⟩ := h
  obtain ⟨A, hs, back⟩ := hl.split
  have go : ∀ (w' : World) (R' : Lks) (G : Heaplet), RefIs c R' (A ++ G) w' → Both b c D R' G w' := by
    rintro w' R' G ⟨v', h', hv', hs'⟩
    refine ⟨v', h', hv', m, L, e, back (hs'.perm ?_)⟩
    exact (List.perm_append_comm_assoc (HItem.blk c (.cells #[v'] 43) :: h') A G)
  refine ⟨A ++ F, ⟨v, hh, hv, hs.perm ?_⟩, fun w' R' h' => go w' R' F h', fun w' R' h4 h' => go w' R' (h4 ++ F) (h'.permF (List.perm_append_comm_assoc h4 A F))⟩
  exact (List.perm_append_comm_assoc A (HItem.blk c (.cells #[v] 43) :: hh) F)
theorem Both.frame (h : Both b c D R F w) : Sat w F := by
  obtain ⟨v, hh, hv, hl⟩ := h
  exact hl.frame.tail.right
theorem Both.drewN (h : Both b c D R F w) (n : Nat) : Both b c D R F (w.drewN n) := by
  obtain ⟨v, hh, hv, hl⟩ := h
  exact ⟨v, hh, hv, hl.drewN n⟩
theorem Both.new (h : Both b c D R F w) (o : Obj) : Both b c D R (.blk w.heap.size o :: F) (w.alloc o) := by
  obtain ⟨v, hh, hv, hl⟩ := h
  refine ⟨v, hh, hv, (hl.new o).permF ?_⟩
  exact (List.perm_middle (a := HItem.blk w.heap.size o) (l₁ := HItem.blk c (.cells #[v] 43) :: hh) (l₂ := F)).symm
theorem Both.drop {E : Heaplet} (h : Both b c D R (E ++ F) w) : Both b c D R F w := by
  obtain ⟨v, hh, hv, hl⟩ := h
  exact ⟨v, hh, hv, hl.weaken (E := E) (List.perm_append_comm_assoc (HItem.blk c (.cells #[v] 43) :: hh) E F)⟩
theorem Both.start {F : Heaplet} {w : World} (h : LatchIs b D (.blk c (.cells #[.slice none 0 0] 43) :: F) w) : Both b c D [] F w := ⟨_, [], SliceIs.nil _ _, h⟩
end
theorem has_rq (c : Nat) (R : Lks) (F : Heaplet) (p : Int) (x : Bool) (w : World) (h : RefIs c R F w) (hl : R.length ≤ 100000) :
    Calls Try.prog 20 #[.pointer (some ⟨c, 0, none⟩), .int .i64 p, .bool x] w fun e w' => e = .returned (.bool (hasM R p x)) ∧ w' = w :=
  (has_ref c R F p x w h hl).mono fun _ _ h => ⟨h.1, h.2.symm⟩
theorem used_rq (c : Nat) (R : Lks) (F : Heaplet) (p : Int) (w : World) (h : RefIs c R F w) (hl : R.length ≤ 100000) :
    Calls Try.prog 22 #[.pointer (some ⟨c, 0, none⟩), .int .i64 p] w fun e w' => e = .returned (.int .i64 (usedM R p)) ∧ w' = w :=
  (used_ref c R F p w h hl).mono fun _ _ h => ⟨h.1, h.2.symm⟩
end Go.Proofs.Ytcndmiepbodpnaa
