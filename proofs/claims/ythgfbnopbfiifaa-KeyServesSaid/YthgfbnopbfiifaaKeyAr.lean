/- Four slices of ints in an array: one more is pushed. Conditions: none. -/
import Derived.Test.YthgfbnopbfiifaaKey3
namespace Go.Proofs.Ythgfbnopbfiifaa
open Go Go.MapKept Go.RowKit Go.Proofs Go.Sort

abbrev ARow := Value × List Int × Heaplet
def arH (L : List ARow) : Heaplet := L.flatMap (·.2.2)
def arV (L : List ARow) : Array Value := (L.map (·.1)).toArray
theorem arH_set : ∀ {L : List ARow} {i : Nat} {x : ARow} (y : ARow), L[i]? = some x → (arH (L.set i y)).Perm (y.2.2 ++ arH (L.eraseIdx i))
  | a :: L, 0, x, y, _ => by simp [arH]
  | a :: L, i + 1, x, y, h => by
    have ih := arH_set (L := L) (i := i) y (by simpa using h)
    simp only [arH, List.set_cons_succ, List.flatMap_cons, List.eraseIdx_cons_succ] at ih ⊢
    exact (ih.append_left _).trans (List.perm_append_comm_assoc _ _ _)
theorem arH_get {L : List ARow} {i : Nat} {x : ARow} (h : L[i]? = some x) : (arH L).Perm (x.2.2 ++ arH (L.eraseIdx i)) := by
  have := arH_set x h
  have e : L.set i x = L := by
    apply List.ext_getElem?
    intro j
    rw [List.getElem?_set]
    split
    · rename_i e
      subst e
      rw [h]
      split
      · rfl
      · rename_i h2
        exact absurd (List.getElem?_eq_some_iff.1 h).1 h2
    · rfl
  rw [e] at this
  exact this
def bump (B : Int → Nat) (p : Int) : Int → Nat := fun k => if k = p then B k + 1 else B k
/-- The array at block ab: page p's slice is B p long. -/
def ArI (T : TypeId) (ab : Nat) (B : Int → Nat) (h : Heaplet) : Prop := ∃ L : List ARow, L.length = 4 ∧ (∀ x ∈ L, ISl x.1 x.2.1 x.2.2) ∧ (∀ (i : Nat) x, L[i]? = some x → x.2.1.length = B i) ∧ h = .blk ab (.cells (arV L) T) :: arH L
theorem ar_start (T : TypeId) (ab : Nat) : ArI T ab (fun _ => 0) [.blk ab (.cells #[.slice none 0 0, .slice none 0 0, .slice none 0 0, .slice none 0 0] T)] := by
  refine ⟨[(.slice none 0 0, [], []), (.slice none 0 0, [], []), (.slice none 0 0, [], []), (.slice none 0 0, [], [])], rfl, ?_, ?_, rfl⟩
  · intro x hx
    have : x = (.slice none 0 0, [], []) := by simpa using hx
    rw [this]
    exact SliceIs.nil _ _
  · intro i x hx
    have : x = (.slice none 0 0, [], []) := by
      have := List.mem_of_getElem? hx
      simpa using this
    rw [this]; rfl
/-- A page's slice, its length. -/
theorem ar_cell {T : TypeId} {ab : Nat} {B : Int → Nat} {h F : Heaplet} {w : World} (ha : ArI T ab B h) (s : Sat w (h ++ F)) {p : Int} (p0 : 0 ≤ p) (p1 : p < 4) : ∃ a cap, w.cell? ⟨ab, p.toNat, none⟩ = some (.slice a (B p) cap) := by
  obtain ⟨L, hl, hs, hb, rfl⟩ := ha
  obtain ⟨x, hx⟩ : ∃ x, L[p.toNat]? = some x := ⟨_, List.getElem?_eq_getElem (by omega)⟩
  obtain ⟨a, cap, e⟩ := sl_form (hs x (List.mem_of_getElem? hx))
  have h1 := hb _ x hx
  rw [Int.toNat_of_nonneg p0] at h1
  refine ⟨a, cap, ?_⟩
  rw [cell_of s.h0]
  unfold arV
  rw [List.getElem?_toArray, List.getElem?_map, hx]
  simp only [Option.map_some]
  rw [e, h1]
theorem ar_push {T : TypeId} {ab : Nat} {B : Int → Nat} {h F : Heaplet} (ha : ArI T ab B h) {p : Int} (p0 : 0 ≤ p) (p1 : p < 4) (hB : B p ≤ 100000) (c : Int) :
    ∃ a cap, (∀ w F, Sat w (h ++ F) → w.cell? ⟨ab, p.toNat, none⟩ = some (.slice a (B p) cap)) ∧
      ∀ w x, Sat w (.blk x (.cells #[kI c] 3) :: (h ++ F)) → ∃ a' c' w2, (∀ ty, (Builtin.append_ #[39, 39] ty #[.slice a (B p) cap, .slice (some ⟨x, 0, none⟩) 1 1]).run Try.prog w = .ok (.slice a' (B p + 1) c') w2) ∧
        w2.cell? ⟨ab, p.toNat, none⟩ = some (.slice a (B p) cap) ∧ w2.frozen? ⟨ab, p.toNat, none⟩ = false ∧ Sat w2 F ∧ ∃ h', ArI T ab (bump B p) h' ∧ Sat (w2.setCell ⟨ab, p.toNat, none⟩ (.slice a' (B p + 1) c')) (h' ++ F) := by
  obtain ⟨L, hl, hs, hb, rfl⟩ := ha
  obtain ⟨x0, hx⟩ : ∃ x, L[p.toNat]? = some x := ⟨_, List.getElem?_eq_getElem (by omega)⟩
  obtain ⟨v, ts, th⟩ := x0
  have hsl := hs _ (List.mem_of_getElem? hx)
  have h1 := hb _ _ hx
  rw [Int.toNat_of_nonneg p0] at h1
  simp only at hsl h1
  obtain ⟨a, cap, rfl⟩ := sl_form hsl
  have hcell : ∀ w F, Sat w ((.blk ab (.cells (arV L) T) :: arH L) ++ F) → w.cell? ⟨ab, p.toNat, none⟩ = some (.slice a (B p) cap) := by
    intro w F s
    rw [cell_of s.h0]
    unfold arV
    rw [List.getElem?_toArray, List.getElem?_map, hx]
    simp only [Option.map_some]
    rw [h1]
  refine ⟨a, cap, hcell, fun w x s => ?_⟩
  have s1 : Sat w (.blk x (.cells #[kI c] 3) :: ([.blk ab (.cells (arV L) T)] ++ (th ++ (arH (L.eraseIdx p.toNat) ++ F)))) := by
    refine s.perm (List.Perm.cons _ ?_)
    have p1 := ((arH_get hx).append_right F).cons (HItem.blk ab (.cells (arV L) T))
    simpa using p1
  obtain ⟨a', c', w2, th', hap, hsl', s2⟩ := is_push c hsl s1 (by omega)
  rw [h1] at hap hsl'
  have s2' : Sat w2 (.blk ab (.cells (arV L) T) :: (th' ++ (arH (L.eraseIdx p.toNat) ++ F))) := s2
  refine ⟨a', c', w2, hap, ?_, unfrozen_of s2'.h0 _, s2'.tail.right.right, _, ⟨L.set p.toNat (.slice a' (B p + 1) c', ts ++ [c], th'), by rw [List.length_set]; exact hl, ?_, ?_, rfl⟩, ?_⟩
  · rw [cell_of s2'.h0]
    unfold arV
    rw [List.getElem?_toArray, List.getElem?_map, hx]
    simp only [Option.map_some]
    rw [h1]
  · intro y hy
    rcases List.mem_or_eq_of_mem_set hy with hy | hy
    · exact hs y hy
    · rw [hy]; exact hsl'
  · intro i y hy
    rw [List.getElem?_set] at hy
    unfold bump
    split at hy
    · rename_i e
      split at hy
      · have e2 := Option.some.inj hy
        rw [← e2, ← e, Int.toNat_of_nonneg p0, if_pos rfl]
        simp only [List.length_append, List.length_cons, List.length_nil]
        rw [h1]
      · cases hy
    · rename_i e
      rw [if_neg (by omega)]
      exact hb i y hy
  · have s3 := s2'.setCell (i := p.toNat) (.slice a' (B p + 1) c')
    have e : (arV L).setIfInBounds p.toNat (.slice a' (B p + 1) c') = arV (L.set p.toNat (.slice a' (B p + 1) c', ts ++ [c], th')) := by
      unfold arV
      apply Array.ext_getElem?
      intro i
      simp [List.getElem?_set, List.map_set]
    rw [e] at s3
    refine s3.perm ?_
    refine List.Perm.cons _ ?_
    have p1 := (arH_set (.slice a' (B p + 1) c', ts ++ [c], th') hx).append_right F
    simpa using p1.symm
end Go.Proofs.Ythgfbnopbfiifaa
