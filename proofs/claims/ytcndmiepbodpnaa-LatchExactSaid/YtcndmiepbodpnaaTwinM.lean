/- LatchExact's plain law: the locks as the map has them and as the reference keeps them, in order of their pages. Conditions: none. -/
import Derived.Test.YtcndmiepbodpnaaLatchM
namespace Go.Proofs.Ytcndmiepbodpnaa
open Go Go.MapKept Go.RowKit Go.Proofs

def Srt (R : Lks) : Prop := (R.map (·.1)).Pairwise (· < ·)
theorem Srt.nodup {R : Lks} (h : Srt R) : (R.map (·.1)).Nodup := h.imp (fun h => by omega)
/-- D and R hold the same locks; R in order. -/
structure Twin (D R : Lks) : Prop where
  nd : (D.map (·.1)).Nodup
  st : Srt R
  eq : ∀ p, getL p R = getL p D
def insR (p : Int) (k : Lk) : Lks → Lks
  | [] => [(p, k)]
  | q :: r => if p < q.1 then (p, k) :: q :: r else q :: insR p k r
def grantR (R : Lks) (p : Int) (x : Bool) : Lks := match getL p R with | some k => putL p { k with x := x } R | none => insR p ⟨x, 0, 0⟩ R
theorem insR_done (p : Int) (k : Lk) (m : Lks) : ∀ l : Lks, (∃ q ∈ l, p < q.1) → insR p k (l ++ m) = insR p k l ++ m
  | [], ⟨q, hq, _⟩ => by cases hq
  | x :: l, ⟨q, hq, hp⟩ => by
    by_cases e : p < x.1
    · simp [insR, e]
    · simp only [List.cons_append, insR, if_neg e]
      have : ∃ q ∈ l, p < q.1 := by
        rcases List.mem_cons.1 hq with rfl | h
        · exact absurd hp e
        · exact ⟨q, h, hp⟩
      rw [insR_done p k m l this]
theorem insR_not (p : Int) (k : Lk) (m : Lks) : ∀ l : Lks, (∀ q ∈ l, ¬ p < q.1) → insR p k (l ++ m) = l ++ insR p k m
  | [], _ => rfl
  | x :: l, h => by
    simp only [List.cons_append, insR, if_neg (h x (.head _))]
    rw [insR_not p k m l fun q hq => h q (.tail _ hq)]
theorem insR_len (p : Int) (k : Lk) : ∀ l : Lks, (insR p k l).length = l.length + 1
  | [] => rfl
  | x :: l => by
    by_cases e : p < x.1
    · simp [insR, e]
    · simp [insR, e, insR_len p k l]
theorem getL_ins (p j : Int) (k : Lk) : ∀ R : Lks, p ∉ R.map (·.1) → getL j (insR p k R) = if j = p then some k else getL j R
  | [], _ => by
    by_cases e : j = p
    · subst e; simp [insR, getL]
    · have : ¬ p = j := fun q => e q.symm
      simp [insR, getL, e, this]
  | q :: r, h => by
    simp only [List.map_cons, List.mem_cons, not_or] at h
    have ih := getL_ins p j k r h.2
    by_cases e : p < q.1
    · simp only [insR, if_pos e]
      by_cases e2 : j = p
      · subst e2; simp [getL]
      · have : ¬ p = j := fun q => e2 q.symm
        simp [getL, e2, this]
    · simp only [insR, if_neg e]
      by_cases e2 : q.1 = j
      · have : ¬ j = p := fun u => h.1 (by omega)
        simp [getL, e2, this]
      · simp only [getL, if_neg e2]
        exact ih
theorem keys_ins (p : Int) (k : Lk) : ∀ (R : Lks) (j : Int), j ∈ (insR p k R).map (·.1) → j = p ∨ j ∈ R.map (·.1)
  | [], j, h => by simp [insR] at h; exact .inl h
  | q :: r, j, h => by
    by_cases e : p < q.1
    · simp only [insR, if_pos e, List.map_cons, List.mem_cons] at h ⊢
      exact h
    · simp only [insR, if_neg e, List.map_cons, List.mem_cons] at h ⊢
      rcases h with h | h
      · exact .inr (.inl h)
      · rcases keys_ins p k r j h with h | h
        · exact .inl h
        · exact .inr (.inr h)
theorem srt_ins (p : Int) (k : Lk) : ∀ R : Lks, Srt R → p ∉ R.map (·.1) → Srt (insR p k R)
  | [], _, _ => by simp [insR, Srt]
  | q :: r, h, hp => by
    unfold Srt at h ⊢
    simp only [List.map_cons, List.pairwise_cons] at h
    simp only [List.map_cons, List.mem_cons, not_or] at hp
    by_cases e : p < q.1
    · simp only [insR, if_pos e, List.map_cons, List.pairwise_cons, List.mem_cons]
      refine ⟨fun a ha => ?_, h.1, h.2⟩
      rcases ha with rfl | ha
      · exact e
      · have := h.1 a ha; omega
    · simp only [insR, if_neg e, List.map_cons, List.pairwise_cons]
      refine ⟨fun a ha => ?_, srt_ins p k r h.2 hp.2⟩
      rcases keys_ins p k r a ha with rfl | ha
      · omega
      · exact h.1 a ha
theorem srt_put {R : Lks} (h : Srt R) {p : Int} {k k' : Lk} (hk : getL p R = some k) : Srt (putL p k' R) := by
  unfold Srt at *
  rw [keys_putL, if_pos (by
    by_cases e : p ∈ R.map (·.1)
    · exact e
    · rw [getL_none.2 e] at hk; cases hk)]
  exact h
theorem srt_del {R : Lks} (h : Srt R) (p : Int) : Srt (delL p R) := h.sublist ((sub_delL p R).map _)
theorem endS_sub (S : List Int) : ∀ D : Lks, ((endS S D).map (·.1)).Sublist (D.map (·.1))
  | [] => List.Sublist.refl _
  | q :: r => by
    have ih := endS_sub S r
    have e : endS S (q :: r) = (match (if q.1 ∈ S then (endK q.2).map fun k => (q.1, k) else some q) with | some z => z :: endS S r | none => endS S r) := by
      unfold endS
      rw [List.filterMap_cons]
      cases (if q.1 ∈ S then (endK q.2).map fun k => (q.1, k) else some q) <;> rfl
    rw [e]
    by_cases hq : q.1 ∈ S
    · rw [if_pos hq]
      cases endK q.2 with
      | none => exact ih.cons _
      | some k => exact ih.cons_cons _
    · rw [if_neg hq]
      exact ih.cons_cons _
section
variable {D R : Lks} (h : Twin D R)
include h
theorem Twin.has (p : Int) (x : Bool) : hasM R p x = hasM D p x := by unfold hasM; rw [h.eq]
theorem Twin.used (p : Int) : usedM R p = usedM D p := by unfold usedM; rw [h.eq]
theorem Twin.put {p : Int} {k k' : Lk} (hk : getL p R = some k) : Twin (putL p k' D) (putL p k' R) :=
  ⟨nodup_putL p k' h.nd, srt_put h.st hk, fun j => by rw [getL_putL, getL_putL, h.eq]⟩
theorem Twin.del (p : Int) : Twin (delL p D) (delL p R) :=
  ⟨nodup_delL p h.nd, srt_del h.st p, fun j => by rw [getL_delL p j R h.st.nodup, getL_delL p j D h.nd, h.eq]⟩
theorem Twin.grant (p : Int) (x : Bool) : Twin (grantM D p x) (grantR R p x) := by
  unfold grantM grantR
  rw [← h.eq]
  cases hk : getL p R with
  | some k => exact h.put hk
  | none =>
    have hn := getL_none.1 hk
    exact ⟨nodup_putL p _ h.nd, srt_ins p _ R h.st hn, fun j => by rw [getL_ins p j _ R hn, getL_putL, h.eq]⟩
theorem Twin.use (p : Int) (x : Bool) : (useM R p x).1 = (useM D p x).1 ∧ Twin (useM D p x).2 (useM R p x).2 := by
  unfold useM
  rw [h.has]
  cases hasM D p x with
  | false => exact ⟨rfl, h⟩
  | true =>
    simp only [if_true]
    rw [← h.eq]
    cases hk : getL p R with
    | some k => exact ⟨trivial, h.put hk⟩
    | none => exact ⟨trivial, h⟩
theorem Twin.call (p : Int) (a : Bool) : (callM R p a).1 = (callM D p a).1 ∧ Twin (callM D p a).2 (callM R p a).2 := by
  unfold callM
  rw [← h.eq]
  cases hk : getL p R with
  | none => exact ⟨rfl, h⟩
  | some k =>
    simp only
    by_cases e1 : (!a && !k.x) = true
    · rw [if_pos e1, if_pos e1]; exact ⟨rfl, h⟩
    · rw [if_neg e1, if_neg e1]
      by_cases e2 : (a && decide (0 < k.used)) = true
      · rw [if_pos e2, if_pos e2]; exact ⟨rfl, h.put hk⟩
      · rw [if_neg e2, if_neg e2]
        by_cases e3 : a = true
        · rw [if_pos e3, if_pos e3]; exact ⟨rfl, h.del p⟩
        · rw [if_neg e3, if_neg e3]
          by_cases e4 : k.used = 2
          · rw [if_pos e4, if_pos e4]; exact ⟨rfl, h.put hk⟩
          · rw [if_neg e4, if_neg e4]; exact ⟨rfl, h.put hk⟩
theorem Twin.keys : sortK (D.map (·.1)) = R.map (·.1) := by
  have p : (D.map (·.1)).Perm (R.map (·.1)) := by
    refine (List.perm_ext_iff_of_nodup h.nd h.st.nodup).2 fun j => ?_
    have e := h.eq j
    constructor
    · intro m
      by_cases c : j ∈ R.map (·.1)
      · exact c
      · rw [getL_none.2 c] at e
        exact absurd m (getL_none.1 e.symm)
    · intro m
      by_cases c : j ∈ D.map (·.1)
      · exact c
      · rw [getL_none.2 c] at e
        exact absurd m (getL_none.1 e)
  exact List.Perm.eq_of_pairwise (le := (· ≤ ·)) (fun a b _ _ h1 h2 => Int.le_antisymm h1 h2) (sortK_sorted _) (h.st.imp fun h => by omega) ((sortK_perm _).trans p)
theorem Twin.len : D.length = R.length := by
  have := congrArg List.length h.keys
  rw [(sortK_perm _).length_eq] at this
  simpa using this
theorem Twin.fin : (endM D).1 = letS (R.map (·.1)) R ∧ Twin (endM D).2 (endS (R.map (·.1)) R) := by
  refine ⟨?_, ?_, ?_, fun j => ?_⟩
  · show letS (sortK (D.map (·.1))) D = _
    rw [h.keys]
    unfold letS
    exact fm_congr fun p _ => by rw [h.eq]
  · exact endS_keys _ _ h.nd
  · exact h.st.sublist (endS_sub _ R)
  · show _ = getL j (endS (D.map (·.1)) D)
    rw [getL_endS _ _ _ h.nd, getL_endS _ _ _ h.st.nodup, h.eq]
    have e := h.eq j
    by_cases c : j ∈ R.map (·.1)
    · rw [if_pos c]
      by_cases c2 : j ∈ D.map (·.1)
      · rw [if_pos c2]
      · rw [if_neg c2, getL_none.2 c2]; rfl
    · rw [if_neg c]
      rw [getL_none.2 c] at e
      rw [← e]
      split <;> rfl
end
theorem twin_nil : Twin [] [] := ⟨by simp, by simp [Srt], fun _ => rfl⟩
end Go.Proofs.Ytcndmiepbodpnaa
