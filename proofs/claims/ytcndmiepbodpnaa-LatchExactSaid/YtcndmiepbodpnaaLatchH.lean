/- How a client's locks lie in memory. Conditions: none. -/
import Derived.Test.YtcndmiepbodpnaaLatchM
import Derived.Test.YtcndmiepbodpnaaProg
import Derived.ProofKit
import Derived.Lib.Hide
namespace Go.Proofs.Ytcndmiepbodpnaa
open Go Go.MapKept Go.RowKit Go.Proofs

abbrev LL := List (Int × (Nat × Lk))
def lkObj (k : Lk) : Obj := .cells #[.bool k.x, kI k.used, kI k.wait] 59
def lkp (v : Nat × Lk) : Value := .pointer (some ⟨v.1, 0, none⟩)
def lkH (L : LL) : Heaplet := L.map fun p => .blk p.2.1 (lkObj p.2.2)
def bareL (L : LL) : Lks := L.map fun p => (p.1, p.2.2)
theorem getL_bare (p : Int) : ∀ L : LL, getL p (bareL L) = (getL p L).map (·.2)
  | [] => rfl
  | q :: r => by
    have ih := getL_bare p r
    unfold bareL at ih ⊢
    by_cases h : q.1 = p
    · simp [getL, h]
    · simp [getL, h, ih]
theorem bare_put (p : Int) (g : Nat) (k : Lk) : ∀ L : LL, bareL (putL p (g, k) L) = putL p k (bareL L)
  | [] => rfl
  | q :: r => by
    have ih := bare_put p g k r
    unfold bareL at ih ⊢
    by_cases h : q.1 = p
    · simp [putL, h]
    · simp [putL, h, ih]
theorem bare_del (p : Int) : ∀ L : LL, bareL (delL p L) = delL p (bareL L)
  | [] => rfl
  | q :: r => by
    have ih := bare_del p r
    unfold bareL at ih ⊢
    by_cases h : q.1 = p
    · simp [delL, h]
    · simp [delL, h, ih]
theorem bare_keys (L : LL) : (bareL L).map (·.1) = L.map (·.1) := by
  unfold bareL
  rw [List.map_map]; rfl
theorem lkH_get {p : Int} {v : Nat × Lk} : ∀ {L : LL}, getL p L = some v → (lkH L).Perm (.blk v.1 (lkObj v.2) :: lkH (delL p L))
  | q :: r, h => by
    by_cases e : q.1 = p
    · simp only [getL, e, if_true, Option.some.injEq] at h
      subst h
      simp [delL, e, lkH]
    · simp only [getL, e, if_false] at h
      have ih := lkH_get h
      simp only [delL, e, if_false, lkH, List.map_cons] at ih ⊢
      exact (ih.cons _).trans (List.Perm.swap _ _ _)
theorem lkH_put {p : Int} {v u : Nat × Lk} : ∀ {L : LL}, getL p L = some v → (lkH (putL p u L)).Perm (.blk u.1 (lkObj u.2) :: lkH (delL p L))
  | q :: r, h => by
    by_cases e : q.1 = p
    · simp [putL, delL, e, lkH]
    · simp only [getL, e, if_false] at h
      have ih := lkH_put (u := u) h
      simp only [putL, delL, e, if_false, lkH, List.map_cons] at ih ⊢
      exact (ih.cons _).trans (List.Perm.swap _ _ _)
theorem lkH_new {p : Int} {u : Nat × Lk} : ∀ {L : LL}, getL p L = none → (lkH (putL p u L)).Perm (.blk u.1 (lkObj u.2) :: lkH L)
  | [], _ => by simp [putL, lkH]
  | q :: r, h => by
    by_cases e : q.1 = p
    · simp [getL, e] at h
    · simp only [getL, e, if_false] at h
      have ih := lkH_new (u := u) h
      simp only [putL, e, if_false, lkH, List.map_cons] at ih ⊢
      exact (ih.cons _).trans (List.Perm.swap _ _ _)
theorem reads_put {p : Int} {g : Nat} {k k' : Lk} : ∀ {L : LL}, getL p L = some (g, k) → (putL p (g, k') L).map (fun q => (kI q.1, lkp q.2)) = L.map (fun q => (kI q.1, lkp q.2))
  | q :: r, h => by
    by_cases e : q.1 = p
    · simp only [getL, e, if_true, Option.some.injEq] at h
      simp [putL, e, h, lkp]
    · simp only [getL, e, if_false] at h
      have ih := reads_put (k' := k') h
      simp only [putL, e, if_false, List.map_cons, ih]
theorem mapOk_mod {es : Array MapEntry} {clk : Nat} {L : LL} (h : MapOk (.int .i64) kI lkp es clk L) {p : Int} {g : Nat} {k : Lk} (k' : Lk) (hk : getL p L = some (g, k)) : MapOk (.int .i64) kI lkp es clk (putL p (g, k') L) :=
  ⟨h.reads.trans (reads_put hk).symm, h.isKey, h.inj, h.stamped⟩
/-- The locks at block b: their map at m, each lock in a block of its own. -/
def LocksP (b m : Nat) (L : LL) (F : Heaplet) (w : World) : Prop :=
  ∃ es clk, MapOk (.int .i64) kI lkp es clk L ∧ Sat w (.blk b (.cells #[.map (some m)] 55) :: .blk m (.map es clk) :: (lkH L ++ F))
def LatchIs (b : Nat) (D : Lks) (F : Heaplet) (w : World) : Prop := ∃ m L, bareL L = D ∧ LocksP b m L F w
section
variable {b m : Nat} {L : LL} {F : Heaplet} {w : World}
theorem LocksP.cell (h : LocksP b m L F w) : w.cell? ⟨b, 0, none⟩ = some (.map (some m)) := by
  obtain ⟨es, clk, hm, hs⟩ := h
  rw [cell_of hs.h0]; rfl
theorem LocksP.frame (h : LocksP b m L F w) : Sat w F := by
  obtain ⟨es, clk, hm, hs⟩ := h
  exact hs.tail.tail.right
theorem LocksP.nodup (h : LocksP b m L F w) : (L.map (·.1)).Nodup := by
  obtain ⟨es, clk, hm, hs⟩ := h
  exact hm.nodup
theorem LocksP.drew (h : LocksP b m L F w) : LocksP b m L F w.drew := by
  obtain ⟨es, clk, hm, hs⟩ := h
  exact ⟨es, clk, hm, hs.drew⟩
theorem LocksP.mono {w' : World} (h : LocksP b m L F w) (hb : Below w.heap.size w w') : LocksP b m L F w' := by
  obtain ⟨es, clk, hm, hs⟩ := h
  exact ⟨es, clk, hm, hs.monoB hb⟩
theorem LocksP.new (h : LocksP b m L F w) (o : Obj) : LocksP b m L (.blk w.heap.size o :: F) (w.alloc o) := by
  obtain ⟨es, clk, hm, hs⟩ := h
  exact ⟨es, clk, hm, (hs.new o).perm (List.perm_middle (l₁ := HItem.blk b _ :: .blk m _ :: lkH L)).symm⟩
theorem LocksP.permF {F' : Heaplet} (h : LocksP b m L F w) (p : F.Perm F') : LocksP b m L F' w := by
  obtain ⟨es, clk, hm, hs⟩ := h
  exact ⟨es, clk, hm, hs.perm (((p.append_left _).cons _).cons _)⟩
theorem LocksP.weaken {D F' : Heaplet} (h : LocksP b m L F w) (p : F.Perm (D ++ F')) : LocksP b m L F' w := by
  obtain ⟨es, clk, hm, hs⟩ := h.permF p
  refine ⟨es, clk, hm, ?_⟩
  have p1 : (HItem.blk b (.cells #[.map (some m)] 55) :: .blk m (.map es clk) :: (lkH L ++ (D ++ F'))).Perm (D ++ (.blk b (.cells #[.map (some m)] 55) :: .blk m (.map es clk) :: (lkH L ++ F'))) :=
    by simpa using List.perm_append_comm_assoc (l₁ := HItem.blk b (.cells #[.map (some m)] 55) :: HItem.blk m (.map es clk) :: lkH L) (l₂ := D) (l₃ := F')
  exact (hs.perm p1).right
theorem LocksP.split (h : LocksP b m L F w) : ∃ A, Sat w (A ++ F) ∧ ∀ {F' w'}, Sat w' (A ++ F') → LocksP b m L F' w' := by
  obtain ⟨es, clk, hm, hs⟩ := h
  exact ⟨.blk b (.cells #[.map (some m)] 55) :: .blk m (.map es clk) :: lkH L, hs, fun {F' w'} h => ⟨es, clk, hm, h⟩⟩
theorem LocksP.lock (h : LocksP b m L F w) {p : Int} {g : Nat} {k : Lk} (hk : getL p L = some (g, k)) :
    w.cell? ⟨g, 0, none⟩ = some (.bool k.x) ∧ w.cell? ⟨g, 1, none⟩ = some (kI k.used) ∧ w.cell? ⟨g, 2, none⟩ = some (kI k.wait) ∧ ∀ i, w.frozen? ⟨g, i, none⟩ = false := by
  obtain ⟨es, clk, hm, hs⟩ := h
  have hg : w.heap[g]? = some (lkObj k) := hs.get (.tail _ (.tail _ (List.mem_append_left _ ((lkH_get hk).mem_iff.2 (.head _)))))
  refine ⟨?_, ?_, ?_, fun i => unfrozen_of hg i⟩ <;> (rw [cell_of hg]; rfl)
/-- A lock's field turns. -/
theorem LocksP.setLock (h : LocksP b m L F w) {p : Int} {g : Nat} {k k' : Lk} (hk : getL p L = some (g, k)) (i : Nat) (v : Value) (e : (#[.bool k.x, kI k.used, kI k.wait] : Array Value).setIfInBounds i v = #[.bool k'.x, kI k'.used, kI k'.wait]) :
    LocksP b m (putL p (g, k') L) F (w.setCell ⟨g, i, none⟩ v) := by
  obtain ⟨es, clk, hm, hs⟩ := h
  refine ⟨es, clk, mapOk_mod hm k' hk, ?_⟩
  have s1 : Sat w (.blk g (lkObj k) :: (.blk b (.cells #[.map (some m)] 55) :: .blk m (.map es clk) :: (lkH (delL p L) ++ F))) := by
    refine hs.perm ?_
    refine List.Perm.trans ((((lkH_get hk).append_right F).cons _).cons _) ?_
    exact List.perm_middle (l₁ := [HItem.blk b _, .blk m _])
  have s2 := s1.setCell (i := i) v
  rw [e] at s2
  refine s2.perm ?_
  refine List.Perm.trans (List.perm_middle (l₁ := [HItem.blk b _, .blk m _])).symm ?_
  exact ((((lkH_put (u := (g, k')) hk).append_right F).symm).cons _).cons _
theorem LatchIs.frame {D : Lks} (h : LatchIs b D F w) : Sat w F := by
  obtain ⟨m, L, _, h⟩ := h
  exact h.frame
end
end Go.Proofs.Ytcndmiepbodpnaa
