/- A slice of slices, block-wise; an append inside a region that draws its order. Conditions: none. -/
import Derived.Test.YtieaamlpadlfeaaGreatDoorApp
import Derived.Deep.RegionHeld3
import Derived.Deep.AppendLies
namespace Go.Proofs.YtieaamlpadlfeaaGreatDoor
open Go

section
variable {P : Program} {w : World}
/-- At a step of a region that draws its order: the run of the append is known. -/
theorem step_append_run {ops : Array Oper} {o : Oper} {a : Act} {K : Act → World → Prop} {Q : Exit → Act → World → Prop} {E : Prop} (hgd : o.guard = none) (s x : Operand) (t1 t2 : TypeId)
    (ho : o.op = .call { callee := .builtin .append, args := #[s, x], argTypes := #[t1, t2] }) (v xv v' : Value) (w' : World) (hs : a.eval s = v) (hx : a.eval x = xv)
    (hr : ∀ ty, (Builtin.append_ #[t1, t2] ty #[v, xv]).run P w = .ok v' w') (hK : K (a.put o.dst v') w') :
    if Region.wanted o (yielded ops a.tmps) = true then Oper.wp P o a w K Q else E := by
  have hw : Region.wanted o (yielded ops a.tmps) = true := by simp [Region.wanted, hgd]
  rw [if_pos hw]
  unfold Oper.wp execOp
  simp only [ho, resolve, invoke, builtin, Sem.run_bind, Sem.run_pure, Result.andThen_ok, List.map_toArray, List.map_cons, List.map_nil, hs, hx, hr]
  exact hK
/-- A row of the outer slice: its value, what its cells hold, its own block. -/
abbrev LRow := Value × List Value × Heaplet
def LOk (T : TypeId) (L : List LRow) : Prop := ∀ x ∈ L, SliceIs T 1 x.1 x.2.1.length x.2.1 x.2.2
def lvals (L : List LRow) : Array Value := (L.map (·.1)).toArray
def lheap (L : List LRow) : Heaplet := L.flatMap (·.2.2)
theorem lheap_set : ∀ {L : List LRow} {i : Nat} {x : LRow} (y : LRow), L[i]? = some x → (lheap (L.set i y)).Perm (y.2.2 ++ lheap (L.eraseIdx i))
  | a :: L, 0, x, y, _ => by simp [lheap]
  | a :: L, i + 1, x, y, h => by
    have ih := lheap_set (L := L) (i := i) y (by simpa using h)
    simp only [lheap, List.set_cons_succ, List.flatMap_cons, List.eraseIdx_cons_succ] at ih ⊢
    exact (ih.append_left _).trans (by
      rw [← List.append_assoc, ← List.append_assoc]
      exact List.perm_append_comm.append_right _)
theorem lheap_get {L : List LRow} {i : Nat} {x : LRow} (h : L[i]? = some x) : (lheap L).Perm (x.2.2 ++ lheap (L.eraseIdx i)) := by
  have := lheap_set x h
  have e : L.set i x = L := by
    apply List.ext_getElem?
    intro j
    rw [List.getElem?_set]
    split
    · rename_i e; subst e
      have := (List.getElem?_eq_some_iff.1 h).1
      rw [if_pos this, h]
    · rfl
  rwa [e] at this
theorem lvals_get {L : List LRow} {i : Nat} {x : LRow} (h : L[i]? = some x) : (lvals L)[i]? = some x.1 := by simp [lvals, h]
theorem lvals_set (L : List LRow) (i : Nat) (y : LRow) : (lvals L).setIfInBounds i y.1 = lvals (L.set i y) := by simp [lvals, List.map_set]
theorem LOk.set {T : TypeId} {L : List LRow} (h : LOk T L) (i : Nat) {y : LRow} (hy : SliceIs T 1 y.1 y.2.1.length y.2.1 y.2.2) : LOk T (L.set i y) := by
  intro x hx
  rcases List.mem_or_eq_of_mem_set hx with hx | rfl
  · exact h x hx
  · exact hy
variable {T Tr t ty : TypeId} {i0 : TypeInfo} {z : Value} {bytes : Nat}
/-- One more element at the row i: the append is run, and stored back. -/
theorem later_push (ht : P.underlying t = some (.slice T)) (hi : P.info? T = some i0) (hz : i0.zero = some z) (hsize : i0.size = 1) (hby : i0.bytes = bytes) (hzs : z.cells.size = 1)
    {A G : Heaplet} {xb lb : Nat} {u : Value} {L : List LRow} {i : Nat} {v : Value} {l : List Value} {h : Heaplet} (hu : u.oneCell' = true)
    (hs : Sat w (A ++ (.blk xb (.cells #[u] T) :: .blk lb (.cells (lvals L) Tr) :: (lheap L ++ G)))) (hL : LOk T L) (hx : L[i]? = some (v, l, h)) (h63 : l.length + 1 ≤ maxLen) (hbytes : (l.length + 1) * bytes ≤ 140737488355328) :
    ∃ v' w' h', (∀ ty, (Builtin.append_ #[t, t] ty #[v, .slice (some ⟨xb, 0, none⟩) 1 1]).run P w = .ok v' w') ∧ LOk T (L.set i (v', l ++ [u], h')) ∧
      (∃ g cap, v' = .slice (some ⟨g, 0, none⟩) (l.length + 1) cap) ∧ w'.cell? ⟨lb, i, none⟩ = some v ∧ w'.frozen? ⟨lb, i, none⟩ = false ∧ Sat w' G ∧
      Sat (w'.setCell ⟨lb, i, none⟩ v') (A ++ (.blk lb (.cells (lvals (L.set i (v', l ++ [u], h'))) Tr) :: (lheap (L.set i (v', l ++ [u], h')) ++ G))) := by
  have hsl : SliceIs T 1 v l.length l h := hL _ (List.mem_of_getElem? hx)
  have s1 : Sat w (h ++ (A ++ (.blk xb (.cells #[u] T) :: .blk lb (.cells (lvals L) Tr) :: (lheap (L.eraseIdx i) ++ G)))) := by
    refine hs.perm ?_
    refine List.Perm.trans ?_ (List.perm_append_comm_assoc A h _)
    refine List.Perm.append_left A ?_
    refine List.Perm.trans ?_ (List.perm_append_comm_assoc [HItem.blk xb (.cells #[u] T), .blk lb (.cells (lvals L) Tr)] h _)
    refine List.Perm.append_left [HItem.blk xb (.cells #[u] T), .blk lb (.cells (lvals L) Tr)] ?_
    show (lheap L ++ G).Perm (h ++ (lheap (L.eraseIdx i) ++ G))
    rw [← List.append_assoc]
    exact (lheap_get hx).append_right G
  have hxb : w.heap[xb]? = some (.cells #[u] T) := s1.get (List.mem_append_right _ (List.mem_append_right _ (.head _)))
  have hnews : ∀ j q, ([u] : List Value)[j]? = some q → w.cell? ((⟨xb, 0, none⟩ : Addr).add j) = some q := by
    intro j q hq
    have hadd : (⟨xb, 0, none⟩ : Addr).add j = ⟨xb, j, none⟩ := by unfold Addr.add; split <;> simp_all
    rw [hadd, cell_of hxb]
    match j, hq with
    | 0, hq => simpa using hq
    | j + 1, hq => simp at hq
  obtain ⟨v', w', h', hr, hsl', hsat⟩ := sat_append (P := P) (ty := 0) ht hi hz hsize hby hzs (by decide) hsl s1 ⟨xb, 0, none⟩ 1 1 [u] rfl hnews (by simpa using hu) (by decide) h63 hbytes
  have hlb : w'.heap[lb]? = some (.cells (lvals L) Tr) := hsat.get (List.mem_append_right _ (List.mem_append_right _ (.tail _ (.head _))))
  have hl1 : SliceIs T 1 v' (l ++ [u]).length (l ++ [u]) h' := by rw [List.length_append]; exact hsl'
  refine ⟨v', w', h', fun ty => hr, hL.set i hl1, ?_, ?_, ?_, ?_, ?_⟩
  · rcases hsl'.2 with ⟨_, hn, _⟩ | ⟨g, cap, cur, rfl, _⟩
    · omega
    · exact ⟨_, _, rfl⟩
  · rw [cell_of hlb]; exact lvals_get hx
  · exact unfrozen_of hlb i
  · exact hsat.right.right.tail.tail.right
  · have s2 : Sat w' (.blk lb (.cells (lvals L) Tr) :: (A ++ (lheap (L.set i (v', l ++ [u], h')) ++ G))) := by
      have s3 := hsat.perm (List.perm_append_comm_assoc h' A _)
      have s4 := s3.perm (List.Perm.append_left A (List.perm_middle (l₁ := h')))
      have s5 := (s4.perm (List.perm_middle (l₁ := A))).tail
      have s6 := s5.perm (List.Perm.append_left A (List.perm_middle (l₁ := h')))
      refine (s6.perm (List.perm_middle (l₁ := A))).perm ?_
      refine List.Perm.cons _ (List.Perm.append_left A ?_)
      rw [← List.append_assoc]
      exact (lheap_set (v', l ++ [u], h') hx).symm.append_right G
    have s7 := s2.setCell (i := i) v'
    rw [lvals_set L i (v', l ++ [u], h')] at s7
    exact s7.perm (List.perm_middle (l₁ := A)).symm
end
end Go.Proofs.YtieaamlpadlfeaaGreatDoor
