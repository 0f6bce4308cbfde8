/- What stands ahead of the first entry that is needed, in plain words. Conditions: none. -/
import Derived.Test.YtceegnfjdgjomaaPaPM
namespace Go.Proofs.Ytceegnfjdgjomaa
open Go Go.MapKept Go.RowKit Go.Proofs Go.Sort Go.Shelf

theorem sub_sorted {α : Type} {R : α → α → Prop} (ir : ∀ a, ¬ R a a) (tr : ∀ a b c, R a b → R b c → R a c) : ∀ {A B : List α}, A.Pairwise R → B.Pairwise R → (∀ a ∈ A, a ∈ B) → A.Sublist B
  | [], _, _, _, _ => List.nil_sublist _
  | a :: A, [], _, _, h => absurd (h a (.head _)) (by simp)
  | a :: A, b :: B, hA, hB, h => by
    rw [List.pairwise_cons] at hA hB
    by_cases e : a = b
    · subst e
      refine List.Sublist.cons_cons _ (sub_sorted ir tr hA.2 hB.2 fun x hx => ?_)
      rcases List.mem_cons.1 (h x (.tail _ hx)) with rfl | h1
      · exact absurd (hA.1 _ hx) (ir _)
      · exact h1
    · have ha : a ∈ B := by
        rcases List.mem_cons.1 (h a (.head _)) with h1 | h1
        · exact absurd h1 e
        · exact h1
      have hba := hB.1 a ha
      refine List.Sublist.cons _ (sub_sorted ir tr (List.pairwise_cons.2 hA) hB.2 fun x hx => ?_)
      rcases List.mem_cons.1 hx with rfl | h1
      · exact ha
      · rcases List.mem_cons.1 (h x (.tail _ h1)) with rfl | h2
        · exact absurd (tr _ _ _ hba (hA.1 _ h1)) (ir _)
        · exact h2
theorem needed_cases (l : List En) (first : Int) (h1 : 1 ≤ first) (h2 : first ≤ 1000) :
    (neededM l first = 0 ∧ losersM l = []) ∨ ∃ (i : Nat) (x : En), l[i]? = some x ∧ neededM l first = first + i ∧ (losersM l).Sublist (losersM (l.drop i)) ∧ 0 < (losersM l).length := by
  have hw : withinM first 1 1099511627776 = true := by simp [withinM, h1]; omega
  unfold neededM
  rw [if_pos hw]
  cases hf : l.findIdx? (fun x => goodM x && !endM l x.t) with
  | none =>
    refine .inl ⟨rfl, ?_⟩
    rw [List.findIdx?_eq_none_iff] at hf
    rw [List.eq_nil_iff_forall_not_mem]
    rintro ⟨t, n⟩ hm
    obtain ⟨he, hl⟩ := (mem_losers l t n).1 hm
    unfold lastOf at hl
    cases hg : (ofM l t).getLast? with
    | none => rw [hg] at hl; cases hl
    | some y =>
      have hy := List.mem_of_getLast? hg
      unfold ofM at hy
      rw [List.mem_filter, Bool.and_eq_true, decide_eq_true_iff] at hy
      have := hf y hy.1
      rw [hy.2.2, hy.2.1, he] at this
      cases this
  | some i =>
    rw [List.findIdx?_eq_some_iff_getElem] at hf
    obtain ⟨hlt, hp, hb⟩ := hf
    rw [Bool.and_eq_true, Bool.not_eq_true'] at hp
    have hx : l[i] ∈ l := List.getElem_mem _
    refine .inr ⟨i, l[i], List.getElem?_eq_getElem hlt, rfl, ?_, ?_⟩
    · refine sub_sorted (R := fun a b => LtT a.1 b.1) (fun a => ltT_irr _) (fun a b c => ltT_trans) (losers_strict _) (losers_strict _) ?_
      rintro ⟨t, n⟩ hm
      obtain ⟨he, hl⟩ := (mem_losers l t n).1 hm
      have hsplit : l.take i ++ l.drop i = l := List.take_append_drop i l
      have hno : ofM (l.take i) t = [] := by
        unfold ofM
        rw [List.filter_eq_nil_iff]
        intro y hy hc
        rw [Bool.and_eq_true, decide_eq_true_iff] at hc
        obtain ⟨j, hj, e⟩ := List.getElem_of_mem hy
        rw [List.length_take] at hj
        have hj2 : j < i := by omega
        have hb2 := hb j hj2
        rw [List.getElem_take] at e
        rw [e, hc.1, hc.2, he] at hb2
        exact hb2 rfl
      have heq : ofM l t = ofM (l.drop i) t := by
        have : ofM l t = ofM (l.take i) t ++ ofM (l.drop i) t := by
          unfold ofM
          rw [← List.filter_append, hsplit]
        rw [this, hno, List.nil_append]
      refine (mem_losers _ t n).2 ⟨?_, by unfold lastOf; rw [← heq]; exact hl⟩
      unfold endM at he ⊢
      rw [List.any_eq_false] at he ⊢
      exact fun x hx => he x (List.mem_of_mem_drop hx)
    · obtain ⟨y, _, hl, _⟩ := lastOf_some hx hp.1
      exact List.length_pos_of_mem ((mem_losers l _ _).2 ⟨hp.2, hl⟩)
/-- The next one is met. -/
theorem sub_hit {α : Type} {A B : List α} {k i : Nat} {a b : α} (h : (A.drop k).Sublist (B.drop i)) (ha : A[k]? = some a) (hb : B[i]? = some b) : (a = b → (A.drop (k + 1)).Sublist (B.drop (i + 1))) ∧ (a ≠ b → (A.drop k).Sublist (B.drop (i + 1))) := by
  obtain ⟨h1, rfl⟩ := List.getElem?_eq_some_iff.1 ha
  obtain ⟨h2, rfl⟩ := List.getElem?_eq_some_iff.1 hb
  rw [List.drop_eq_getElem_cons h1, List.drop_eq_getElem_cons h2] at h
  constructor
  · intro e
    rw [e] at h
    exact h.of_cons_cons
  · intro e
    rw [List.drop_eq_getElem_cons h1]
    rcases List.sublist_cons_iff.1 h with h | ⟨r, hr, _⟩
    · exact h
    · exact absurd (List.cons.inj hr).1 e
theorem sub_end {α : Type} {A : List α} {k : Nat} (h : (A.drop k).Sublist ([] : List α)) : A.length ≤ k := by
  have := h.length_le
  simp at this
  omega
end Go.Proofs.Ytceegnfjdgjomaa
