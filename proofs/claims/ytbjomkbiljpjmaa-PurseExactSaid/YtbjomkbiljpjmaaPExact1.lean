/- The purse and the reference in one world. Conditions: none. -/
import Derived.Test.YtbjomkbiljpjmaaPRef3
namespace Go.Proofs.Ytbjomkbiljpjmaa
open Go Go.MapKept Go.RowKit Go.Proofs

/-- The purse at b holds D, the reference at c holds R, F besides. -/
def Both (b c : Nat) (D : Pts) (s : Int) (R : Pts) (F : Heaplet) (w : World) : Prop :=
  ∃ v h, PartSl v R h ∧ PurseIs b D s (.blk c (.cells #[v] 79) :: (h ++ F)) w
section
variable {b c : Nat} {D R : Pts} {s : Int} {F : Heaplet} {w : World}
theorem PurseIs.permF {F' : Heaplet} (h : PurseIs b D s F w) (p : F.Perm F') : PurseIs b D s F' w := by
  obtain ⟨hi, m, es, clk, hm, hs⟩ := h
  exact ⟨hi, m, es, clk, hm, hs.perm ((p.cons _).cons _)⟩
theorem PurseIs.split (h : PurseIs b D s F w) : ∃ A, Sat w (A ++ F) ∧ ∀ {F' w'}, Sat w' (A ++ F') → PurseIs b D s F' w' := by
  obtain ⟨hi, m, es, clk, hm, hs⟩ := h
  exact ⟨[.blk b (.cells #[.map (some m), kI s] 85), .blk m (.map es clk)], hs, fun {F' w'} h => ⟨hi, m, es, clk, hm, h⟩⟩
theorem Both.purse (h : Both b c D s R F w) : ∃ F', PurseIs b D s F' w ∧ ∀ w' D' s', PurseIs b D' s' F' w' → Both b c D' s' R F w' := by
  obtain ⟨v, hh, hv, hl⟩ := h
  exact ⟨_, hl, fun w' D' s' h' => ⟨v, hh, hv, h'⟩⟩
theorem Both.ref (h : Both b c D s R F w) : ∃ F', RefIs c R F' w ∧ ∀ w' R', RefIs c R' F' w' → Both b c D s R' F w' := by
  obtain ⟨v, hh, hv, hl⟩ := h
  obtain ⟨A, hs, back⟩ := hl.split
  refine ⟨A ++ F, ⟨v, hh, hv, hs.perm ?_⟩, fun w' R' h' => ?_⟩
  · exact List.perm_append_comm_assoc A (HItem.blk c (.cells #[v] 79) :: hh) F
  · obtain ⟨v', h2, hv', hs'⟩ := h'
    exact ⟨v', h2, hv', back (hs'.perm (List.perm_append_comm_assoc (HItem.blk c (.cells #[v'] 79) :: h2) A F))⟩
theorem Both.frame (h : Both b c D s R F w) : Sat w F := by
  obtain ⟨v, hh, hv, hl⟩ := h
  exact hl.frame.tail.right
theorem Both.drewN (h : Both b c D s R F w) (n : Nat) : Both b c D s R F (w.drewN n) := by
  obtain ⟨v, hh, hv, hl⟩ := h
  exact ⟨v, hh, hv, hl.drewN n⟩
theorem Both.new (h : Both b c D s R F w) (o : Obj) : Both b c D s R (.blk w.heap.size o :: F) (w.alloc o) := by
  obtain ⟨v, hh, hv, hl⟩ := h
  refine ⟨v, hh, hv, (hl.new o).permF ?_⟩
  exact (List.perm_middle (a := HItem.blk w.heap.size o) (l₁ := HItem.blk c (.cells #[v] 79) :: hh) (l₂ := F)).symm
theorem Both.drop {E : Heaplet} (h : Both b c D s R (E ++ F) w) : Both b c D s R F w := by
  obtain ⟨v, hh, hv, hl⟩ := h
  obtain ⟨A, hs, back⟩ := hl.split
  refine ⟨v, hh, hv, back ?_⟩
  have p : (A ++ (HItem.blk c (.cells #[v] 79) :: (hh ++ (E ++ F)))).Perm (E ++ (A ++ (HItem.blk c (.cells #[v] 79) :: (hh ++ F)))) := by
    have := List.perm_append_comm_assoc (A ++ (HItem.blk c (.cells #[v] 79) :: hh)) E F
    simpa [List.append_assoc] using this
  exact (hs.perm p).right
theorem Both.start (h : PurseIs b D s (.blk c (.cells #[.slice none 0 0] 79) :: F) w) : Both b c D s [] F w := ⟨_, [], SliceIs.nil _ _, h⟩
theorem Both.inv (h : Both b c D s R F w) : PInv D s := by
  obtain ⟨v, hh, hv, hl⟩ := h
  exact hl.1
end
theorem sum_q (b : Nat) (D : List (Int × Int)) (s : Int) (F : Heaplet) (w : World) (hp : PurseIs b D s F w) :
    Calls Try.prog 17 #[.pointer (some ⟨b, 0, none⟩)] w fun e w' => e = .returned (.int .i64 s) ∧ w' = w :=
  (sum_any b D s F w hp).mono fun _ _ h => ⟨h.1, h.2.symm⟩
/-- The loop's fact. -/
def ExP (b c k : Nat) (F : Heaplet) (w : World) : Prop := ∃ D s R, Both b c D s R F w ∧ Twin D R ∧ KeysIn D ∧ D.length ≤ k
theorem act_cells {w : World} {g : Nat} {x0 x1 x2 x3 : Int} {t : TypeId} {z : Nat × Nat} (h : w.heap[g]? = some (.cells #[kI x0, kI x1, kI x2, kI x3] t z)) : w.cell? ⟨g, 1, none⟩ = some (kI x1) ∧ w.cell? ⟨g, 2, none⟩ = some (kI x2) ∧ w.cell? ⟨g, 3, none⟩ = some (kI x3) := by
  rw [cell_of h, cell_of h, cell_of h]
  exact ⟨rfl, rfl, rfl⟩
theorem ptr_cell {w : World} {k c : Nat} {t : TypeId} {z : Nat × Nat} (h : w.heap[k]? = some (.cells #[.pointer (some ⟨c, 0, none⟩)] t z)) : w.cell? ⟨k, 0, none⟩ = some (.pointer (some ⟨c, 0, none⟩)) := by
  rw [cell_of h]; rfl
end Go.Proofs.Ytbjomkbiljpjmaa
