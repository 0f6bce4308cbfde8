/- What the lists of losers, of who is done, of pages are, in plain words. Conditions: none. -/
import Derived.Test.YtceegnfjdgjomaaPa12
namespace Go.Proofs.Ytceegnfjdgjomaa
open Go Go.MapKept Go.RowKit Go.Proofs Go.Sort Go.Shelf

theorem ofM_snoc (m : List En) (t : Tx) (x : En) : ofM (m ++ [x]) t = if (goodM x && decide (x.t = t)) = true then ofM m t ++ [x] else ofM m t := by
  rw [ofM_step, Bool.and_comm]
  split <;> simp
/-- The last entry of a name. -/
def lastOf (m : List En) (t : Tx) : Option Int := (ofM m t).getLast?.map (·.lsn)
theorem lastOf_snoc (m : List En) (t : Tx) (x : En) : lastOf (m ++ [x]) t = if goodM x = true ∧ x.t = t then some x.lsn else lastOf m t := by
  unfold lastOf
  rw [ofM_snoc]
  by_cases h : goodM x = true ∧ x.t = t
  · rw [if_pos h, if_pos (by simp [h.1, h.2])]; simp
  · rw [if_neg h, if_neg (by simpa using h)]
theorem lastM_get (l : List En) (t : Tx) : ∀ m : List En, getL t (lastM l m) = if endM l t = true then none else lastOf m t := by
  refine snoc_ind (by simp [lastM, getL, lastOf, ofM]) fun m x ih => ?_
  rw [lastM_snoc, lastOf_snoc]
  unfold stepL
  cases hg : goodM x with
  | false => simp [ih]
  | true =>
    by_cases ht : x.t = t
    · subst ht
      cases he : endM l x.t with
      | true => simp [ih, he]
      | false => simp [getL_putL]
    · have ht' : ¬ t = x.t := fun e => ht e.symm
      cases he : endM l x.t with
      | true => simp [ih, ht]
      | false => simp [getL_putL, ih, ht, ht']
theorem lastM_nodup (l : List En) : ∀ m : List En, ((lastM l m).map (·.1)).Nodup := by
  refine snoc_ind (by simp [lastM]) fun m x ih => ?_
  rw [lastM_snoc]
  unfold stepL
  split
  · exact nodup_putL _ _ ih
  · exact ih
theorem pagM_nodup (first : Int) : ∀ m : List En, ((pagM first m).map (·.1)).Nodup := by
  refine snoc_ind (by simp [pagM, firstM]) fun m x ih => ?_
  rw [pagM_snoc]
  unfold stepP
  split
  · exact nodup_putL _ _ ih
  · exact ih
theorem sortT_strict {l : List Tx} (h : l.Nodup) : (sortT l).Pairwise LtT := by
  have h1 := sortT_sorted l
  have h2 : (sortT l).Nodup := (sortT_perm l).nodup_iff.2 h
  refine (h1.and h2).imp ?_
  rintro a b ⟨h3, h4⟩
  by_cases h5 : LtT a b
  · exact h5
  · exact absurd (ltT_tri h5 h3) h4
theorem losers_strict (l : List En) : (losersM l).Pairwise fun a b => LtT a.1 b.1 := by
  unfold losersM
  rw [List.pairwise_map]
  exact sortT_strict (lastM_nodup l l)
theorem pages_strict (l : List En) (first : Int) : (pagesM l first).Pairwise fun a b => a.1 < b.1 := by
  unfold pagesM
  rw [List.pairwise_map]
  have h2 : (sortK ((pagM first l).map (·.1))).Nodup := (sortK_perm _).nodup_iff.2 (pagM_nodup first l)
  have h1 := sortK_sorted ((pagM first l).map (fun x : Int × Int => x.1))
  refine (List.Pairwise.and h1 h2).imp ?_
  intro a b h3
  show a < b
  have h4 : a ≤ b := h3.1
  have h5 : a ≠ b := h3.2
  omega
theorem mem_losers (l : List En) (t : Tx) (n : Int) : (t, n) ∈ losersM l ↔ endM l t = false ∧ lastOf l t = some n := by
  have hget := lastM_get l t l
  unfold losersM
  rw [List.mem_map]
  constructor
  · rintro ⟨u, hu, e⟩
    rw [Prod.mk.injEq] at e
    obtain ⟨rfl, e⟩ := e
    rw [(sortT_perm _).mem_iff] at hu
    cases hg : getL u (lastM l l) with
    | none => exact absurd hu (getL_none.1 hg)
    | some k =>
      rw [hg] at e hget
      simp only [Option.getD_some] at e
      subst e
      cases he : endM l u with
      | true => rw [he] at hget; simp at hget
      | false => rw [he] at hget; exact ⟨rfl, by simpa using hget.symm⟩
  · rintro ⟨h1, h2⟩
    rw [h1] at hget
    simp only [Bool.false_eq_true, if_false] at hget
    rw [h2] at hget
    refine ⟨t, ?_, by rw [hget]; rfl⟩
    rw [(sortT_perm _).mem_iff]
    exact List.mem_map.2 ⟨_, getL_mem hget, rfl⟩
theorem hasM_iff (R : List Tx) (t : Tx) : hasM R t = true ↔ t ∈ R := by
  unfold hasM
  rw [List.any_eq_true]
  constructor
  · rintro ⟨u, hu, e⟩
    rw [decide_eq_true_iff] at e
    exact e ▸ hu
  · exact fun h => ⟨t, h, by simp⟩
theorem hasM_no (R : List Tx) (t : Tx) : hasM R t = false ↔ t ∉ R := by
  rw [← Bool.not_eq_true, hasM_iff]
/-- Whether a name is committed in a list. -/
def comM (l : List En) (t : Tx) : Bool := l.any fun x => goodM x && (x.kind == 3) && decide (x.t = t)
theorem mem_done (t : Tx) : ∀ m : List En, t ∈ doneM m ↔ comM m t = true := by
  refine snoc_ind (by simp [doneM, comM]) fun m x ih => ?_
  have e : comM (m ++ [x]) t = (comM m t || (goodM x && (x.kind == 3) && decide (x.t = t))) := by unfold comM; rw [List.any_append]; simp
  rw [doneM_snoc, e, Bool.or_eq_true, ← ih]
  unfold stepD
  cases hg : goodM x with
  | false => simp
  | true =>
    cases hk : (x.kind == 3) with
    | false => simp
    | true =>
      cases hh : hasM (doneM m) x.t with
      | true =>
        simp
        rintro rfl
        exact (hasM_iff _ _).1 hh
      | false => simp; exact or_congr_right ⟨fun h => h.symm, fun h => h.symm⟩
theorem done_nodup : ∀ m : List En, (doneM m).Nodup := by
  refine snoc_ind (by simp [doneM]) fun m x ih => ?_
  rw [doneM_snoc]
  unfold stepD
  split
  · rename_i h
    simp only [Bool.and_eq_true, Bool.not_eq_true'] at h
    have := (hasM_no _ _).1 h.2.2
    refine List.nodup_append.2 ⟨ih, by simp, ?_⟩
    intro a ha b hb e
    rw [List.mem_singleton] at hb
    exact this (hb ▸ e ▸ ha)
  · exact ih
theorem com_end {l : List En} {t : Tx} (h : comM l t = true) : endM l t = true := by
  unfold comM at h
  unfold endM
  rw [List.any_eq_true] at h ⊢
  obtain ⟨x, hx, h⟩ := h
  simp only [Bool.and_eq_true] at h
  exact ⟨x, hx, by simp [h.1.1, isEndM, h.1.2]; simpa using h.2⟩
/-- A good entry's name is told of. -/
theorem lastOf_some {l : List En} {x : En} (hx : x ∈ l) (hg : goodM x = true) : ∃ y, (ofM l x.t).getLast? = some y ∧ lastOf l x.t = some y.lsn ∧ 0 < (ofM l x.t).length := by
  have hm : x ∈ ofM l x.t := by unfold ofM; rw [List.mem_filter]; exact ⟨hx, by simp [hg]⟩
  have hn : ofM l x.t ≠ [] := List.ne_nil_of_mem hm
  refine ⟨(ofM l x.t).getLast hn, List.getLast?_eq_some_getLast hn, ?_, List.length_pos_iff.2 hn⟩
  unfold lastOf
  rw [List.getLast?_eq_some_getLast hn]; rfl
/-- Of a name's entries one is an end, or none. -/
theorem of_end (l : List En) (t : Tx) : (ofM l t).any isEndM = endM l t := by
  unfold ofM endM
  rw [List.any_filter]
  congr 1
  funext x
  cases goodM x <;> cases isEndM x <;> simp
end Go.Proofs.Ytceegnfjdgjomaa
