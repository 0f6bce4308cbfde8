/- What all records of pages come to: plain. Conditions: none. -/
import Derived.Test.YtficgjklagnbjaaGreatSt10
namespace Go.Proofs.YtficgjklagnbjaaGreat
open Go Go.MapKept Go.RowKit Go.Proofs Go.Shelf Go.Sort St

theorem mem_rowsU {L : List Sl} : ∀ {j : Nat}, j ≤ L.length → ∀ x, x ∈ rowsU L j ↔ ∃ (i : Nat) (s : Sl), i < j ∧ L[i]? = some s ∧ s.1 = true ∧ x = ((i : Int), s.2) := by
  intro j
  induction j with
  | zero =>
    intro _ x
    constructor
    · intro h; simp [rowsU] at h
    · rintro ⟨i, s, h, _⟩; omega
  | succ j ih =>
    intro hj x
    obtain ⟨s, hs⟩ : ∃ s, L[j]? = some s := ⟨_, List.getElem?_eq_getElem (by omega)⟩
    rw [rowsU_succ hs, List.mem_append, ih (by omega)]
    constructor
    · rintro (⟨i, t, h1, h2⟩ | h)
      · exact ⟨i, t, by omega, h2⟩
      · split at h
        · rename_i h1
          exact ⟨j, s, by omega, hs, h1, by simpa using h⟩
        · cases h
    · rintro ⟨i, t, h1, h2, h3, rfl⟩
      by_cases e : i = j
      · subst e
        rw [hs] at h2
        cases h2
        right
        rw [if_pos h3]
        simp
      · exact .inl ⟨i, t, by omega, h2, h3, rfl⟩
theorem rowsU_pw {L : List Sl} : ∀ {j : Nat}, j ≤ L.length → (rowsU L j).Pairwise (fun x y => x.1 < y.1) := by
  intro j
  induction j with
  | zero => intro _; simp [rowsU]
  | succ j ih =>
    intro hj
    obtain ⟨s, hs⟩ : ∃ s, L[j]? = some s := ⟨_, List.getElem?_eq_getElem (by omega)⟩
    rw [rowsU_succ hs, List.pairwise_append]
    refine ⟨ih (by omega), by split <;> simp, fun x hx y hy => ?_⟩
    obtain ⟨i, t, h1, _, _, rfl⟩ := (mem_rowsU (by omega) x).1 hx
    split at hy
    · simp only [List.mem_singleton] at hy
      subst hy
      show (i : Int) < (j : Int)
      omega
    · cases hy
theorem goodP_len {p : Pg} (h : goodP p = true) : p.slots.length ≤ 32 := by
  unfold goodP at h
  simp only [Bool.and_eq_true, decide_eq_true_eq] at h
  omega
/-- How many of the first places hold a record. -/
def cntA (p : Lf) (s : Nat) : Nat := ((List.range s).filter fun k : Nat => (atM p.2 (k : Int)).1).length
theorem cntA_succ (p : Lf) (s : Nat) : cntA p (s + 1) = cntA p s + (if (atM p.2 (s : Int)).1 = true then 1 else 0) := by
  unfold cntA
  rw [List.range_succ, List.filter_append, List.length_append]
  congr 1
  by_cases h : (atM p.2 (s : Int)).1 = true <;> simp [h]
theorem atM_good {p : Pg} (h : goodP p = true) (k : Nat) : atM p (k : Int) = (p.slots[k]?).getD (false, ⟨#[]⟩) := by
  unfold atM
  rw [if_pos ⟨h, by omega⟩]
  simp
theorem atM_bad {p : Pg} (h : ¬ goodP p = true) (k : Int) : (atM p k).1 = false := by
  unfold atM
  rw [if_neg (fun e => h e.1)]
theorem cnt_rowsU {p : Lf} (h : goodP p.2 = true) : ∀ {j : Nat}, j ≤ p.2.slots.length → (rowsU p.2.slots j).length = cntA p j := by
  intro j
  induction j with
  | zero => intro _; simp [rowsU, cntA]
  | succ j ih =>
    intro hj
    obtain ⟨s, hs⟩ : ∃ s, p.2.slots[j]? = some s := ⟨_, List.getElem?_eq_getElem (by omega)⟩
    rw [rowsU_succ hs, List.length_append, ih (by omega), cntA_succ, atM_good h, hs]
    show _ + _ = _ + if s.1 = true then 1 else 0
    congr 1
    split <;> rfl
theorem cnt_rows (p : Lf) : (rowsL p).length = cntA p 32 := by
  unfold rowsL rowsS
  rw [List.length_map]
  by_cases h : goodP p.2 = true
  · rw [if_pos h, cnt_rowsU h (Nat.le_refl _)]
    have hl := goodP_len h
    obtain ⟨d, hd⟩ : ∃ d, p.2.slots.length + d = 32 := ⟨32 - p.2.slots.length, by omega⟩
    have key : ∀ d, cntA p (p.2.slots.length + d) = cntA p p.2.slots.length := by
      intro d
      induction d with
      | zero => rfl
      | succ d ih =>
        rw [← Nat.add_assoc, cntA_succ, ih, atM_good h, List.getElem?_eq_none (by omega)]
        rfl
    rw [← hd, key]
  · rw [if_neg h]
    have key : ∀ s, cntA p s = 0 := by
      intro s
      induction s with
      | zero => rfl
      | succ s ih => rw [cntA_succ, ih, atM_bad h]; rfl
    rw [key]; rfl
theorem mem_rowsL {p : Lf} {r : Rw} : r ∈ rowsL p ↔ ∃ k : Nat, k < 32 ∧ (atM p.2 (k : Int)).1 = true ∧ r = (p.1, (k : Int), (atM p.2 (k : Int)).2) := by
  unfold rowsL rowsS
  by_cases h : goodP p.2 = true
  · rw [if_pos h, List.mem_map]
    have hl := goodP_len h
    constructor
    · rintro ⟨x, hx, rfl⟩
      obtain ⟨i, s, h1, h2, h3, rfl⟩ := (mem_rowsU (Nat.le_refl _) x).1 hx
      refine ⟨i, by omega, ?_, ?_⟩
      · rw [atM_good h, h2]; exact h3
      · rw [atM_good h, h2]; rfl
    · rintro ⟨k, h1, h2, rfl⟩
      rw [atM_good h] at h2 ⊢
      cases hs : p.2.slots[k]? with
      | none => rw [hs] at h2; cases h2
      | some s =>
        rw [hs] at h2
        exact ⟨((k : Int), s.2), (mem_rowsU (Nat.le_refl _) _).2 ⟨k, s, (List.getElem?_eq_some_iff.1 hs).1, hs, h2, rfl⟩, rfl⟩
  · rw [if_neg h]
    constructor
    · intro h1; cases h1
    · rintro ⟨k, _, h2, _⟩
      rw [atM_bad h] at h2
      cases h2
theorem rowsL_pw (p : Lf) : (rowsL p).Pairwise (fun x y => x.2.1 < y.2.1) := by
  unfold rowsL rowsS
  rw [List.pairwise_map]
  split
  · exact rowsU_pw (Nat.le_refl _)
  · exact List.Pairwise.nil
/-- Numbers all different. -/
def DistP (P : List Lf) : Prop := ∀ (i j : Nat) (p q : Lf), P[i]? = some p → P[j]? = some q → i < j → p.1 ≠ q.1
theorem rowsA_one {P : List Lf} {r : Rw} : r ∈ rowsA P ↔ ∃ p ∈ P, inR p.1 = true ∧ r ∈ rowsL p := by
  unfold rowsA
  rw [List.mem_flatMap]
  constructor
  · rintro ⟨p, h1, h2⟩
    split at h2
    · rename_i h3
      exact ⟨p, h1, h3, h2⟩
    · cases h2
  · rintro ⟨p, h1, h2, h3⟩
    exact ⟨p, h1, by rw [if_pos h2]; exact h3⟩
theorem rowsL_fst {p : Lf} {r : Rw} (h : r ∈ rowsL p) : r.1 = p.1 := by
  obtain ⟨k, _, _, rfl⟩ := mem_rowsL.1 h
  rfl
theorem rowsA_stb : ∀ (P : List Lf), DistP P → (rowsA P).Pairwise (Sb rk rs) := by
  intro P
  induction P with
  | nil => intro _; exact List.Pairwise.nil
  | cons p P ih =>
    intro hd
    have h4 : rowsA (p :: P) = (if inR p.1 = true then rowsL p else []) ++ rowsA P := rfl
    rw [h4, List.pairwise_append]
    refine ⟨?_, ih (fun i j x y hx hy hij => hd (i + 1) (j + 1) x y hx hy (by omega)), fun x hx y hy e => ?_⟩
    · split
      · exact List.Pairwise.imp (fun {a b} (h : a.2.1 < b.2.1) => (fun _ => h : Sb rk rs a b)) (rowsL_pw p)
      · exact List.Pairwise.nil
    · obtain ⟨q, h1, _, h3⟩ := rowsA_one.1 hy
      split at hx
      · obtain ⟨j, hj⟩ := List.mem_iff_getElem?.1 h1
        have := hd 0 (j + 1) p q rfl hj (by omega)
        exact absurd ((rowsL_fst hx).symm.trans (e.trans (rowsL_fst h3))) this
      · cases hx
/-- Whether a record is there: as the page tells. -/
theorem saw_iff {P : List Lf} {p : Lf} {k : Nat} (hd : DistP P) (hp : p ∈ P) (hr : inR p.1 = true) (hk : k < 32) : (p.1, (k : Int), (atM p.2 (k : Int)).2) ∈ rowsA P ↔ (atM p.2 (k : Int)).1 = true := by
  rw [rowsA_one]
  constructor
  · rintro ⟨q, h1, h2, h3⟩
    obtain rfl : q = p := by
      have e := rowsL_fst h3
      obtain ⟨i, hi⟩ := List.mem_iff_getElem?.1 h1
      obtain ⟨j, hj⟩ := List.mem_iff_getElem?.1 hp
      rcases Nat.lt_trichotomy i j with h | h | h
      · exact absurd e.symm (hd i j q p hi hj h)
      · subst h; rw [hi] at hj; exact Option.some.inj hj
      · exact absurd e (hd j i p q hj hi h)
    obtain ⟨k', _, h5, h6⟩ := mem_rowsL.1 h3
    simp only [Prod.mk.injEq] at h6
    obtain rfl : k = k' := by omega
    exact h5
  · exact fun h => ⟨p, hp, hr, mem_rowsL.2 ⟨k, hk, h, rfl⟩⟩
end Go.Proofs.YtficgjklagnbjaaGreat
