/- A part of what there is. Conditions: none. -/
import Derived.Test.YtieaamlpadlfeaaGreatDoorBase
namespace Go.Proofs.YtieaamlpadlfeaaGreatDoor
open Go

/-- How often an item is there. -/
noncomputable def ind (a b : HItem) : Nat := open Classical in if a = b then 1 else 0
noncomputable def cnt (a : HItem) : Heaplet → Nat
  | [] => 0
  | b :: l => ind a b + cnt a l
theorem cnt_nil (a : HItem) : cnt a [] = 0 := rfl
theorem cnt_cons (a b : HItem) (l : Heaplet) : cnt a (b :: l) = ind a b + cnt a l := rfl
theorem cnt_append (a : HItem) : ∀ (l m : Heaplet), cnt a (l ++ m) = cnt a l + cnt a m
  | [], m => by simp [cnt]
  | b :: l, m => by
    have ih := cnt_append a l m
    rw [List.cons_append, cnt_cons, cnt_cons, ih]; omega
theorem cnt_mem {a : HItem} : ∀ {l : Heaplet}, 0 < cnt a l → ∃ m, l.Perm (a :: m) ∧ ∀ b, cnt b l = ind b a + cnt b m
  | [], h => by simp [cnt] at h
  | c :: l, h => by
    by_cases e : a = c
    · subst e; exact ⟨l, List.Perm.refl _, fun b => rfl⟩
    · have h1 : ind a c = 0 := by unfold ind; rw [if_neg e]
      rw [cnt_cons, h1] at h
      obtain ⟨m, p, hc⟩ := cnt_mem (a := a) (l := l) (by omega)
      exact ⟨c :: m, (p.cons c).trans (List.Perm.swap _ _ _), fun b => by rw [cnt_cons, cnt_cons, hc b]; omega⟩
theorem cnt_part : ∀ {k l : Heaplet}, (∀ a, cnt a k ≤ cnt a l) → ∃ r, l.Perm (k ++ r)
  | [], l, _ => ⟨l, List.Perm.refl _⟩
  | b :: k, l, h => by
    have h1 : ind b b = 1 := by unfold ind; rw [if_pos rfl]
    have h2 := h b
    rw [cnt_cons, h1] at h2
    obtain ⟨m, p, hc⟩ := cnt_mem (a := b) (l := l) (by omega)
    obtain ⟨r, q⟩ := cnt_part (k := k) (l := m) (fun a => by
      have := h a
      rw [cnt_cons, hc a] at this; omega)
    exact ⟨r, p.trans (q.cons b)⟩
theorem Sat.left' {w : World} {h k : Heaplet} (s : Sat w (h ++ k)) : Sat w h := Sat.right (h' := k) (s.perm List.perm_append_comm)
theorem Sat.part {w : World} {k l : Heaplet} (s : Sat w l) (h : ∀ a, cnt a k ≤ cnt a l) : Sat w k := by
  obtain ⟨r, p⟩ := cnt_part h
  exact (s.perm p).left'
end Go.Proofs.YtieaamlpadlfeaaGreatDoor
