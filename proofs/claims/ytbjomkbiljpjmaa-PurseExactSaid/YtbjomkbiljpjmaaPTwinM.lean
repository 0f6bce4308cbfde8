/- PurseExact's plain law: the promises as the map has them and as the reference keeps them, in order. Conditions: none. -/
import Derived.Test.YtbjomkbiljpjmaaPRowsM
namespace Go.Proofs.Ytbjomkbiljpjmaa
open Go Go.MapKept Go.RowKit Go.Proofs

abbrev Pts := List (Int × Int)
def Srt (R : Pts) : Prop := (R.map (·.1)).Pairwise (· < ·)
theorem Srt.nodup {R : Pts} (h : Srt R) : (R.map (·.1)).Nodup := h.imp (fun h => by omega)
/-- D and R hold the same promises; R in order. -/
structure Twin (D R : Pts) : Prop where
  nd : (D.map (·.1)).Nodup
  st : Srt R
  eq : ∀ p, getL p R = getL p D
/-- One round of the reference's 'set'. -/
def stepS (who n : Int) (a : Bool × Pts) (q : Int × Int) : Bool × Pts :=
  let b : Bool × Pts := if a.1 = false ∧ who < q.1 then (true, a.2 ++ [(who, n)]) else a
  if q.1 ≠ who then (b.1, b.2 ++ [q]) else if b.1 = false then (true, b.2 ++ [(who, n)]) else b
def foldS (who n : Int) (U : Pts) : Bool × Pts := U.foldl (stepS who n) (decide (n = 0), [])
def setR (who n : Int) (U : Pts) : Pts := if (foldS who n U).1 then (foldS who n U).2 else (foldS who n U).2 ++ [(who, n)]
/-- The same, said plainly. -/
def setS (who n : Int) : Pts → Pts
  | [] => [(who, n)]
  | q :: r => if who < q.1 then (who, n) :: q :: r.filter (fun x => x.1 != who) else if q.1 = who then (who, n) :: r.filter (fun x => x.1 != who) else q :: setS who n r
theorem foldS_step {who n : Int} {U : Pts} {r : Nat} {q : Int × Int} (hq : U[r]? = some q) : foldS who n (U.take (r + 1)) = stepS who n (foldS who n (U.take r)) q := by
  unfold foldS
  rw [List.take_add_one, hq, List.foldl_append]
  rfl
theorem stepS_len (who n : Int) (a : Bool × Pts) (q : Int × Int) : (stepS who n a q).2.length ≤ a.2.length + 2 := by
  unfold stepS
  split <;> split <;> simp
  all_goals (try split) <;> simp
theorem fold_len (who n : Int) : ∀ (U : Pts) (a : Bool × Pts), (U.foldl (stepS who n) a).2.length ≤ a.2.length + 2 * U.length
  | [], a => by simp
  | q :: r, a => by
    have h := fold_len who n r (stepS who n a q)
    have h2 := stepS_len who n a q
    simp only [List.foldl_cons, List.length_cons]
    omega
theorem foldS_len (who n : Int) (U : Pts) : (foldS who n U).2.length ≤ 2 * U.length := by
  have := fold_len who n U (decide (n = 0), [])
  simpa [foldS] using this
theorem fold_true (who n : Int) : ∀ (U l : Pts), U.foldl (stepS who n) (true, l) = (true, l ++ U.filter fun x => x.1 != who)
  | [], l => by simp
  | q :: r, l => by
    by_cases e : q.1 = who
    · have : stepS who n (true, l) q = (true, l) := by simp [stepS, e]
      rw [List.foldl_cons, this, fold_true who n r l]
      simp [e]
    · have : stepS who n (true, l) q = (true, l ++ [q]) := by simp [stepS, e]
      rw [List.foldl_cons, this, fold_true who n r (l ++ [q])]
      simp [e]
theorem fold_false (who n : Int) : ∀ (U l : Pts), (if (U.foldl (stepS who n) (false, l)).1 then (U.foldl (stepS who n) (false, l)).2 else (U.foldl (stepS who n) (false, l)).2 ++ [(who, n)]) = l ++ setS who n U
  | [], l => by simp [setS]
  | q :: r, l => by
    by_cases e1 : who < q.1
    · have hne : ¬ q.1 = who := by omega
      have : stepS who n (false, l) q = (true, l ++ [(who, n)] ++ [q]) := by simp [stepS, e1, hne]
      rw [List.foldl_cons, this, fold_true]
      simp [setS, e1]
    · by_cases e : q.1 = who
      · have : stepS who n (false, l) q = (true, l ++ [(who, n)]) := by simp [stepS, e]
        rw [List.foldl_cons, this, fold_true]
        simp [setS, e]
      · have : stepS who n (false, l) q = (false, l ++ [q]) := by simp [stepS, e1, e]
        rw [List.foldl_cons, this, fold_false who n r (l ++ [q])]
        simp [setS, e1, e]
theorem pdel_filter {p : Int} : ∀ {R : Pts}, (R.map (·.1)).Nodup → delL p R = R.filter fun q => q.1 != p
  | [], _ => rfl
  | q :: r, h => by
    simp only [List.map_cons, List.nodup_cons] at h
    by_cases e : q.1 = p
    · have hn : p ∉ r.map (·.1) := by rw [← e]; exact h.1
      have : (r.filter fun q => q.1 != p) = r := by
        rw [List.filter_eq_self]
        intro x hx
        have : x.1 ≠ p := fun u => hn (List.mem_map.2 ⟨x, hx, u⟩)
        simpa using this
      simp [delL, e, this]
    · simp [delL, e, pdel_filter h.2]
theorem setR_zero {who : Int} {U : Pts} (h : Srt U) : setR who 0 U = delL who U := by
  unfold setR foldS
  rw [show decide ((0 : Int) = 0) = true from rfl, fold_true, pdel_filter h.nodup]
  simp
theorem setR_some {who n : Int} {U : Pts} (hn : n ≠ 0) : setR who n U = setS who n U := by
  unfold setR foldS
  rw [show decide (n = 0) = false from by simpa using hn, fold_false]
  simp
theorem filter_gone {who : Int} {r : Pts} (h : ∀ x ∈ r, who < x.1) : r.filter (fun x => x.1 != who) = r := by
  rw [List.filter_eq_self]
  intro x hx
  have := h x hx
  have : x.1 ≠ who := by omega
  simpa using this
theorem Srt.cons {q : Int × Int} {r : Pts} (h : Srt (q :: r)) : (∀ x ∈ r, q.1 < x.1) ∧ Srt r := by
  unfold Srt at h
  simp only [List.map_cons, List.pairwise_cons] at h
  exact ⟨fun x hx => h.1 _ (List.mem_map.2 ⟨x, hx, rfl⟩), h.2⟩
theorem Srt.mk {q : Int × Int} {r : Pts} (h1 : ∀ x ∈ r, q.1 < x.1) (h2 : Srt r) : Srt (q :: r) := by
  unfold Srt
  simp only [List.map_cons, List.pairwise_cons]
  refine ⟨fun a ha => ?_, h2⟩
  obtain ⟨x, hx, rfl⟩ := List.mem_map.1 ha
  exact h1 x hx
theorem setS_mem {who n : Int} : ∀ {U : Pts} {x : Int × Int}, x ∈ setS who n U → x = (who, n) ∨ x ∈ U
  | [], x, h => by simp [setS] at h; exact .inl h
  | q :: r, x, h => by
    unfold setS at h
    split at h
    · simp only [List.mem_cons, List.mem_filter] at h
      rcases h with h | h | h
      · exact .inl h
      · exact .inr (by simp [h])
      · exact .inr (.tail _ h.1)
    · split at h
      · simp only [List.mem_cons, List.mem_filter] at h
        rcases h with h | h
        · exact .inl h
        · exact .inr (.tail _ h.1)
      · rcases List.mem_cons.1 h with h | h
        · exact .inr (by simp [h])
        · exact (setS_mem h).imp id (.tail _)
theorem srt_set {who n : Int} : ∀ {U : Pts}, Srt U → Srt (setS who n U)
  | [], _ => by simp [setS, Srt]
  | q :: r, h => by
    obtain ⟨h1, h2⟩ := h.cons
    unfold setS
    split
    · rename_i e
      rw [filter_gone (fun x hx => by have := h1 x hx; omega)]
      exact Srt.mk (fun x hx => by rcases List.mem_cons.1 hx with rfl | hx; exact e; have := h1 x hx; omega) h
    · split
      · rename_i e
        rw [filter_gone (fun x hx => by have := h1 x hx; omega)]
        exact Srt.mk (fun x hx => by have := h1 x hx; omega) h2
      · rename_i e1 e2
        refine Srt.mk (fun x hx => ?_) (srt_set h2)
        rcases setS_mem hx with rfl | hx
        · omega
        · exact h1 x hx
theorem getL_set {who n j : Int} : ∀ {U : Pts}, Srt U → getL j (setS who n U) = if j = who then some n else getL j U
  | [], _ => by
    by_cases e : j = who
    · subst e; simp [setS, getL]
    · have : ¬ who = j := fun q => e q.symm
      simp [setS, getL, e, this]
  | q :: r, h => by
    obtain ⟨h1, h2⟩ := h.cons
    unfold setS
    by_cases c1 : who < q.1
    · rw [if_pos c1, filter_gone (fun x hx => by have := h1 x hx; omega)]
      by_cases e : j = who
      · subst e; simp [getL]
      · have : ¬ who = j := fun q => e q.symm
        simp [getL, e, this]
    · rw [if_neg c1]
      by_cases c2 : q.1 = who
      · rw [if_pos c2, filter_gone (fun x hx => by have := h1 x hx; omega)]
        by_cases e : j = who
        · subst e; simp [getL]
        · have : ¬ who = j := fun q => e q.symm
          simp [getL, e, this, c2]
      · rw [if_neg c2]
        by_cases e : q.1 = j
        · have : ¬ j = who := fun u => c2 (by omega)
          simp [getL, e, this]
        · simp [getL, e, getL_set h2]
theorem of_eq {D R : Pts} (h : Twin D R) (k : Int) : of R k = of D k := by unfold of; rw [h.eq]
theorem Twin.put {D R : Pts} (h : Twin D R) (who n : Int) (hn : n ≠ 0) : Twin (putL who n D) (setR who n R) := by
  rw [setR_some hn]
  exact ⟨nodup_putL who n h.nd, srt_set h.st, fun j => by rw [getL_set h.st, getL_putL, h.eq]⟩
theorem Twin.del {D R : Pts} (h : Twin D R) (who : Int) : Twin (delL who D) (setR who 0 R) := by
  rw [setR_zero h.st]
  exact ⟨nodup_delL who h.nd, h.st.sublist ((sub_delL who R).map _), fun j => by rw [getL_delL who j R h.st.nodup, getL_delL who j D h.nd, h.eq]⟩
theorem Twin.keys {D R : Pts} (h : Twin D R) : sortK (D.map (·.1)) = R.map (·.1) := by
  have p : (D.map (·.1)).Perm (R.map (·.1)) := by
    refine (List.perm_ext_iff_of_nodup h.nd h.st.nodup).2 fun j => ?_
    have e := h.eq j
    constructor
    · intro m
      by_cases c : j ∈ R.map (·.1)
      · exact c
      · rw [getL_none.2 c] at e
        exact absurd m (getL_none.1 e.symm)
    · intro m
      by_cases c : j ∈ D.map (·.1)
      · exact c
      · rw [getL_none.2 c] at e
        exact absurd m (getL_none.1 e)
  exact List.Perm.eq_of_pairwise (le := (· ≤ ·)) (fun a b _ _ h1 h2 => Int.le_antisymm h1 h2) (sortK_sorted _) (h.st.imp fun h => by omega) ((sortK_perm _).trans p)
theorem Twin.len {D R : Pts} (h : Twin D R) : D.length = R.length := by
  have := congrArg List.length h.keys
  rw [(sortK_perm _).length_eq] at this
  simpa using this
theorem Twin.rows {D R : Pts} (h : Twin D R) : rowsP D = R := by
  unfold rowsP
  rw [h.keys, List.map_map]
  have : ∀ x ∈ R, ((fun k => (k, of D k)) ∘ (·.1)) x = id x := by
    intro x hx
    show (x.1, of D x.1) = x
    rw [← of_eq h, of_mem h.st.nodup hx]
  rw [List.map_congr_left this, List.map_id]
theorem Twin.sum {D R : Pts} (h : Twin D R) : (R.map (·.2)).sum = (D.map (·.2)).sum := by
  rw [← h.rows, rowsP_sum h.nd]
theorem Twin.inv {D R : Pts} {s : Int} (h : Twin D R) (hi : PInv D s) : PInv R s := by
  refine ⟨fun p hp => ?_, by rw [h.sum]; exact hi.2.1, hi.2.2⟩
  have h1 := getL_of_mem h.st.nodup (k := p.1) (v := p.2) hp
  rw [h.eq] at h1
  exact hi.1 _ (getL_mem h1)
theorem twin_nil : Twin [] [] := ⟨by simp, by simp [Srt], fun _ => rfl⟩
/-- What the reference keeps of a Take. -/
def takeR (U : Pts) (k n : Int) : Pts := if n < 1 then U else setR k (of U k - (if of U k < n then of U k else n)) U
def takeK (U : Pts) (k n : Int) : Int := if n < 1 then 0 else if of U k < n then of U k else n
theorem Twin.take {D R : Pts} {s : Int} (h : Twin D R) (hi : PInv D s) (k n : Int) : takeK R k n = takeN D k n ∧ Twin (takeD D k n) (takeR R k n) := by
  have hb := of_bd hi k
  unfold takeK takeN takeD takeR
  rw [of_eq h]
  by_cases h1 : n < 1
  · simp [h1, h]
  · by_cases h2 : of D k < 1
    · have e : of D k = 0 := by omega
      have hz : getL k D = none := by
        cases hk : getL k D with
        | none => rfl
        | some v =>
          have h3 := hi.1 _ (getL_mem hk)
          have : of D k = v := by unfold of; rw [hk]; rfl
          omega
      have hd : Twin D (setR k 0 R) := by
        have := h.del k
        rw [show delL k D = D from by rw [pdel_filter h.nd]; rw [List.filter_eq_self]; intro x hx; have : x.1 ≠ k := fun u => getL_none.1 hz (List.mem_map.2 ⟨x, hx, u⟩); simpa using this] at this
        exact this
      have h3 : 0 < n := by omega
      simp [h1, e, h3, hd]
    · by_cases h3 : n < of D k
      · have h4 : ¬ of D k < n := by omega
        simp only [h1, h2, h3, h4, or_self, if_false, if_true]
        exact ⟨by first | rfl | trivial, h.put k _ (by omega)⟩
      · by_cases h4 : of D k < n
        · simp only [h1, h2, h3, h4, or_self, if_false, if_true]
          rw [Int.sub_self]
          exact ⟨by first | rfl | trivial, h.del k⟩
        · have h5 : n = of D k := by omega
          simp only [h1, h2, h3, h4, or_self, if_false]
          rw [← h5, Int.sub_self]
          exact ⟨by first | rfl | trivial, h.del k⟩
end Go.Proofs.Ytbjomkbiljpjmaa
