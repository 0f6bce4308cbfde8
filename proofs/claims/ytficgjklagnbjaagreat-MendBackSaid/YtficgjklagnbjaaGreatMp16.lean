/- What MendEnds counts, in plain data. Conditions: none. -/
import Derived.Test.YtficgjklagnbjaaGreatMp15
namespace Go.Proofs.YtficgjklagnbjaaGreat
open Go Go.MapKept Go.RowKit Go.Proofs

/-- The Lsn of a transaction's last entry, as the law looks for it; whether it is at its end. -/
def lastT (l : List En) (t : Tx) : Int := l.foldl (fun a x => if x.t = t then x.lsn else a) 0
def endT (l : List En) (t : Tx) : Bool := l.any fun x => decide (x.t = t) && decide (2 < x.kind)
theorem lastT_snoc (l : List En) (x : En) (t : Tx) : lastT (l ++ [x]) t = if x.t = t then x.lsn else lastT l t := by simp [lastT]
theorem endT_snoc (l : List En) (x : En) (t : Tx) : endT (l ++ [x]) t = (endT l t || (decide (x.t = t) && decide (2 < x.kind))) := by simp [endT]
theorem lastT_next {l : List En} {j : Nat} {x : En} (h : l[j]? = some x) (t : Tx) : lastT (l.take (j + 1)) t = if x.t = t then x.lsn else lastT (l.take j) t := by
  rw [List.take_add_one, h]; exact lastT_snoc _ _ _
theorem endT_next {l : List En} {j : Nat} {x : En} (h : l[j]? = some x) (t : Tx) : endT (l.take (j + 1)) t = (endT (l.take j) t || (decide (x.t = t) && decide (2 < x.kind))) := by
  rw [List.take_add_one, h]; exact endT_snoc _ _ _
theorem good_kind {x : En} (h : goodM x = true) : x.kind = 1 ∨ x.kind = 2 ∨ x.kind = 3 ∨ x.kind = 4 := by
  unfold goodM at h
  by_cases h1 : x.kind = 1
  · exact .inl h1
  · by_cases h2 : x.kind = 2
    · exact .inr (.inl h2)
    · by_cases h3 : x.kind = 3 ∨ x.kind = 4
      · rcases h3 with h3 | h3
        · exact .inr (.inr (.inl h3))
        · exact .inr (.inr (.inr h3))
      · simp only [h1, h2, h3, if_false, Bool.and_false] at h
        cases h
theorem lastT_own (t : Tx) : ∀ l : List En, (∀ x ∈ l, goodM x = true) → lastT l t = lastN (ofM l t) := by
  refine rev_ind (fun _ => rfl) (fun l x ih h => ?_)
  rw [lastT_snoc, ofM_snoc2 l t (h x (by simp)), ih (fun y hy => h y (by simp [hy]))]
  by_cases hx : x.t = t
  · rw [if_pos hx, if_pos hx, lastN_snoc]
  · rw [if_neg hx, if_neg hx]
theorem endT_own (t : Tx) : ∀ l : List En, (∀ x ∈ l, goodM x = true) → endT l t = endM l t := by
  refine rev_ind (fun _ => rfl) (fun l x ih h => ?_)
  rw [endT_snoc, endM_snoc, ih (fun y hy => h y (by simp [hy])), h x (by simp)]
  have hk := good_kind (h x (by simp))
  congr 1
  unfold isEndM
  rcases hk with hk | hk | hk | hk <;> rw [hk] <;> simp
/-- What the law asks of an entry that was added. -/
theorem UStep.ends {l : List En} {P P' : List Lf} {y : En} (h : UStep l P y P') : endT l y.t = false ∧ lastT l y.t = lastN (ofM l y.t) ∧ 0 < lastN (ofM l y.t) ∧ y.prev = lastN (ofM l y.t) ∧ lastN (ofM l y.t) < y.lsn := by
  have hg : ∀ x ∈ l, goodM x = true := fun x hx => (h.li.ok x hx).1
  refine ⟨by rw [endT_own _ _ hg]; exact h.opn, lastT_own _ _ hg, ?_, h.prev, h.lsn⟩
  unfold lastN
  cases hl : (ofM l y.t).getLast? with
  | none => exact absurd (List.getLast?_eq_none_iff.1 hl) h.own
  | some z =>
    have := goodM_parts (mem_ofM.1 (List.mem_of_getLast? hl)).2.2
    simp only; omega
theorem ends_all {l add : List En} {P : List Lf} (h : LI (l ++ add) P) (he : ∀ t, endM (l ++ add) t = true ∨ ofM (l ++ add) t = []) {x : En} (hx : x ∈ l ++ add) : endT (l ++ add) x.t = true := by
  have hg : ∀ x ∈ l ++ add, goodM x = true := fun x hx => (h.ok x hx).1
  rw [endT_own _ _ hg]
  rcases he x.t with h | h
  · exact h
  · have : x ∈ ofM (l ++ add) x.t := mem_ofM.2 ⟨hx, rfl, hg x hx⟩
    rw [h] at this; cases this
end Go.Proofs.YtficgjklagnbjaaGreat
