/- RingKeeps, the plain part: what the law counts beside the ring stays true through every call. -/
import Derived.Test.YtbjomkbiljpjmaaRingS4
import Derived.Test.YtbjomkbiljpjmaaArgs
namespace Go.Proofs.Ytbjomkbiljpjmaa
open Go

/-! ### arrays of 64 -/
def arrOf (f : Nat → Value) : Array Value := ((List.range 64).map f).toArray
def updF {α : Type} (f : Nat → α) (k : Nat) (v : α) : Nat → α := fun j => if j = k then v else f j
theorem arrOf_get (f : Nat → Value) {j : Nat} (h : j < 64) : (arrOf f)[j]? = some (f j) := by
  simp [arrOf, h]
theorem arrOf_set (f : Nat → Value) (k : Nat) (v : Value) : (arrOf f).setIfInBounds k v = arrOf (updF f k v) := by
  apply Array.ext_getElem?
  intro j
  rw [Array.getElem?_setIfInBounds]
  by_cases hj : j < 64
  · rw [arrOf_get _ hj, arrOf_get _ hj]
    by_cases e : k = j
    · subst e
      simp [arrOf, updF, hj]
    · have : ¬ j = k := fun h => e h.symm
      simp [e, updF, this]
  · have h1 : (arrOf (updF f k v))[j]? = none := by simp [arrOf]; omega
    have h2 : (arrOf f)[j]? = none := by simp [arrOf]; omega
    rw [h1, h2]
    by_cases e : k = j
    · subst e; simp [arrOf]; omega
    · simp [e]
theorem updF_map {α : Type} (g : α → Value) (f : Nat → α) (k : Nat) (v : α) : updF (fun j => g (f j)) k (g v) = fun j => g (updF f k v j) := by
  funext j
  simp only [updF]
  split <;> rfl

theorem findF_there {X : Type} {fr : Frs X} {i : Nat} {f : Fr X} (h : fr[i]? = some (some f)) : (findF fr f.key).isSome = true := by
  cases e : findF fr f.key with
  | some x => rfl
  | none =>
    refine absurd ?_ (idxK_none.1 (findF_none e))
    exact List.mem_of_getElem? (keysOf_get h)
theorem fullK_all {X : Type} : ∀ {fr : Frs X}, AllFull fr → fullK (keysOf fr) = fr.length
  | [], _ => rfl
  | o :: r, h => by
    obtain ⟨f, h0⟩ := h 0 (by simp)
    simp only [List.getElem?_cons_zero, Option.some.injEq] at h0
    subst h0
    have := fullK_all (fr := r) (fun j hj => by simpa using h (j + 1) (by simpa using hj))
    simp only [fullK, keysOf] at this ⊢
    simp [this]
/-! ### what the law keeps -/
structure RK (n : Nat) (fr : Frs ByteArray) (vs : Nat → ByteArray) (hs : Nat → Bool) (ps : Nat → Int) (c top : Int) : Prop where
  len : fr.length = n
  cnt : c = (fullK (keysOf fr) : Int)
  uniq : KUniq (keysOf fr)
  keys : ∀ (i : Nat) (f : Fr ByteArray), fr[i]? = some (some f) → 0 ≤ f.key ∧ f.key < 64
  pins : ∀ (i : Nat) (f : Fr ByteArray), fr[i]? = some (some f) → 0 ≤ f.pins ∧ f.pins ≤ top
  here : ∀ j : Nat, j < 64 → hs j = (findF fr (j : Int)).isSome
  vals : ∀ (j : Nat) (i : Nat) (f : Fr ByteArray), findF fr (j : Int) = some (i, f) → vs j = f.val ∧ ps j = f.pins
theorem fullK_le : ∀ ks : List (Option Int), fullK ks ≤ ks.length := fun ks => List.length_filter_le _ _
theorem RK.le {n : Nat} {fr : Frs ByteArray} {vs : Nat → ByteArray} {hs : Nat → Bool} {ps : Nat → Int} {c top : Int} (h : RK n fr vs hs ps c top) : 0 ≤ c ∧ c ≤ (n : Int) := by
  rw [h.cnt]
  have := fullK_le (keysOf fr)
  have e : (keysOf fr).length = n := by simp [keysOf, h.len]
  omega
theorem RK.grow {n : Nat} {fr : Frs ByteArray} {vs : Nat → ByteArray} {hs : Nat → Bool} {ps : Nat → Int} {c top top' : Int} (h : RK n fr vs hs ps c top) (ht : top ≤ top') : RK n fr vs hs ps c top' :=
  ⟨h.len, h.cnt, h.uniq, h.keys, fun i f hf => by have := h.pins i f hf; omega, h.here, h.vals⟩
theorem findF_same {X : Type} {fr : Frs X} {i : Nat} {f f' : Fr X} (hf : fr[i]? = some (some f)) (hk : f'.key = f.key) (k : Int) :
    findF (fr.set i (some f')) k = (findF fr k).map (fun x => if x.1 = i then (i, f') else x) := by
  have hkeys := keysOf_same (f' := f') hf hk
  have hl := (List.getElem?_eq_some_iff.1 hf).1
  unfold findF
  rw [hkeys]
  cases hx : idxK k (keysOf fr) with
  | none => rfl
  | some j =>
    have h1 := idxK_some hx
    simp only [keysOf, List.getElem?_map, Option.map_eq_some_iff] at h1
    obtain ⟨o, ho, g, rfl, hg⟩ := h1
    simp only [List.getElem?_set]
    by_cases e : i = j
    · subst e
      rw [ho, if_pos rfl, if_pos hl]
      simp
    · have e' : ¬ j = i := fun h => e h.symm
      simp [e, e', ho]
/-- A thing turns in its frame, its key stays. -/
theorem RK.turn {n : Nat} {fr : Frs ByteArray} {vs : Nat → ByteArray} {hs : Nat → Bool} {ps : Nat → Int} {c top top' : Int} (h : RK n fr vs hs ps c top) {k i : Nat} {f f' : Fr ByteArray} (hf : findF fr (k : Int) = some (i, f)) (hk : f'.key = f.key)
    {vs' : Nat → ByteArray} {ps' : Nat → Int} (hv : vs' k = f'.val) (hp : ps' k = f'.pins) (hvo : ∀ j, j ≠ k → vs' j = vs j) (hpo : ∀ j, j ≠ k → ps' j = ps j) (ht : top ≤ top') (hb : 0 ≤ f'.pins ∧ f'.pins ≤ top') :
    RK n (fr.set i (some f')) vs' hs ps' c top' := by
  obtain ⟨h1, h2, h3⟩ := findF_some hf
  have hkeys := keysOf_same (f' := f') h2 hk
  have hget : ∀ (j : Nat) (g : Fr ByteArray), (fr.set i (some f'))[j]? = some (some g) → (j = i ∧ g = f') ∨ fr[j]? = some (some g) := by
    intro j g hg
    rw [List.getElem?_set] at hg
    by_cases e : i = j
    · subst e
      rw [if_pos rfl] at hg
      split at hg
      · simp only [Option.some.injEq] at hg
        exact .inl ⟨rfl, hg.symm⟩
      · simp at hg
    · simp only [e, if_false] at hg
      exact .inr hg
  refine ⟨by simp [h.len], by rw [hkeys]; exact h.cnt, by rw [hkeys]; exact h.uniq, fun j g hg => ?_, fun j g hg => ?_, fun j hj => ?_, fun j a g hg => ?_⟩
  · rcases hget j g hg with ⟨rfl, rfl⟩ | hg
    · rw [hk]; exact h.keys _ _ h2
    · exact h.keys _ _ hg
  · rcases hget j g hg with ⟨rfl, rfl⟩ | hg
    · exact hb
    · have := h.pins _ _ hg
      omega
  · rw [h.here j hj, findF_same h2 hk]
    cases findF fr (j : Int) <;> rfl
  · rw [findF_same h2 hk] at hg
    cases hx : findF fr (j : Int) with
    | none => rw [hx] at hg; simp at hg
    | some x =>
      obtain ⟨b, g0⟩ := x
      rw [hx] at hg
      simp only [Option.map_some, Option.some.injEq] at hg
      by_cases hjk : j = k
      · subst hjk
        rw [hf] at hx
        simp only [Option.some.injEq, Prod.mk.injEq] at hx
        obtain ⟨rfl, rfl⟩ := hx
        simp only [if_true, Prod.mk.injEq] at hg
        rw [← hg.2]
        exact ⟨hv, hp⟩
      · have hbi : ¬ b = i := by
          rintro rfl
          obtain ⟨_, g2, g3⟩ := findF_some hx
          rw [h2] at g2
          simp only [Option.some.injEq] at g2
          subst g2
          rw [h3] at g3
          omega
        rw [if_neg hbi] at hg
        simp only [Prod.mk.injEq] at hg
        obtain ⟨rfl, rfl⟩ := hg
        rw [hvo j hjk, hpo j hjk]
        exact h.vals j _ _ hx
/-- A vacant frame is filled with a new key. -/
theorem RK.fill {n : Nat} {fr : Frs ByteArray} {vs : Nat → ByteArray} {hs : Nat → Bool} {ps : Nat → Int} {c top : Int} (h : RK n fr vs hs ps c top) {k i : Nat} (hk : k < 64) (hf : findF fr (k : Int) = none) (hi : fr[i]? = some none) (v : ByteArray) (ht : 0 ≤ top) :
    RK n (fr.set i (some ⟨k, v, 0, true⟩)) (updF vs k v) (updF hs k true) (updF ps k 0) (c + 1) top := by
  have hidx := findF_none hf
  have hki : (keysOf fr)[i]? = some none := by rw [keysOf_get hi]; rfl
  have hkeys : keysOf (fr.set i (some (⟨k, v, 0, true⟩ : Fr ByteArray))) = (keysOf fr).set i (some (k : Int)) := by rw [keysOf_set]; rfl
  have hl : i < fr.length := (List.getElem?_eq_some_iff.1 hi).1
  have hget : ∀ (j : Nat) (g : Fr ByteArray), (fr.set i (some (⟨k, v, 0, true⟩ : Fr ByteArray)))[j]? = some (some g) → (j = i ∧ g = ⟨k, v, 0, true⟩) ∨ fr[j]? = some (some g) := by
    intro j g hg
    rw [List.getElem?_set] at hg
    by_cases e : i = j
    · subst e
      simp [hl] at hg
      exact .inl ⟨rfl, hg.symm⟩
    · simp only [e, if_false] at hg
      exact .inr hg
  have hfind : ∀ j : Int, findF (fr.set i (some (⟨k, v, 0, true⟩ : Fr ByteArray))) j = if j = (k : Int) then some (i, ⟨k, v, 0, true⟩) else findF fr j := by
    intro j
    unfold findF
    rw [hkeys, idxK_fill h.uniq hki (idxK_none.1 hidx) j]
    by_cases e : j = (k : Int)
    · simp [e, hl]
    · simp only [e, if_false]
      cases hx : idxK j (keysOf fr) with
      | none => rfl
      | some a =>
        have h1 := idxK_some hx
        simp only [keysOf, List.getElem?_map, Option.map_eq_some_iff] at h1
        obtain ⟨o, ho, g, rfl, hg⟩ := h1
        have hai : ¬ i = a := by rintro rfl; rw [hi] at ho; simp at ho
        simp [List.getElem?_set, hai, ho]
  refine ⟨by simp [h.len], ?_, by rw [hkeys]; exact h.uniq.fill (idxK_none.1 hidx), fun j g hg => ?_, fun j g hg => ?_, fun j hj => ?_, fun j a g hg => ?_⟩
  · rw [hkeys, fullK_fill hki, h.cnt]; simp
  · rcases hget j g hg with ⟨rfl, rfl⟩ | hg
    · simp; omega
    · exact h.keys _ _ hg
  · rcases hget j g hg with ⟨rfl, rfl⟩ | hg
    · simp; exact ht
    · exact h.pins _ _ hg
  · rw [hfind]
    by_cases e : j = k
    · subst e; simp [updF]
    · have : ¬ (j : Int) = (k : Int) := by omega
      simp only [updF, e, this, if_false]
      exact h.here j hj
  · rw [hfind] at hg
    by_cases e : j = k
    · subst e
      simp only [if_true, Option.some.injEq, Prod.mk.injEq] at hg
      rw [← hg.2]
      simp [updF]
    · have : ¬ (j : Int) = (k : Int) := by omega
      simp only [this, if_false] at hg
      simp only [updF, e, if_false]
      exact h.vals j _ _ hg
/-- A frame is vacated. -/
theorem RK.vacate {n : Nat} {fr : Frs ByteArray} {vs : Nat → ByteArray} {hs : Nat → Bool} {ps : Nat → Int} {c top : Int} (h : RK n fr vs hs ps c top) {k i : Nat} {f : Fr ByteArray} (hi : fr[i]? = some (some f)) (hk : f.key = (k : Int)) :
    RK n (fr.set i none) vs (updF hs k false) ps (c - 1) top := by
  have hki : (keysOf fr)[i]? = some (some (k : Int)) := by rw [keysOf_get hi]; simp [hk]
  have hkeys : keysOf (fr.set i none) = (keysOf fr).set i none := by rw [keysOf_set]; rfl
  have hget : ∀ (j : Nat) (g : Fr ByteArray), (fr.set i none)[j]? = some (some g) → fr[j]? = some (some g) := by
    intro j g hg
    rw [List.getElem?_set] at hg
    by_cases e : i = j
    · subst e
      rw [if_pos rfl] at hg
      split at hg <;> simp at hg
    · simpa [e] using hg
  have hfind : ∀ j : Int, findF (fr.set i none) j = if j = (k : Int) then none else findF fr j := by
    intro j
    unfold findF
    rw [hkeys, idxK_vacate h.uniq hki j]
    by_cases e : j = (k : Int)
    · simp [e]
    · simp only [e, if_false]
      cases hx : idxK j (keysOf fr) with
      | none => rfl
      | some a =>
        have h1 := idxK_some hx
        simp only [keysOf, List.getElem?_map, Option.map_eq_some_iff] at h1
        obtain ⟨o, ho, g, rfl, hg⟩ := h1
        have hai : ¬ i = a := by
          rintro rfl
          rw [hi] at ho
          simp only [Option.some.injEq] at ho
          subst ho
          exact e (hg.symm.trans hk)
        simp [List.getElem?_set, hai, ho]
  refine ⟨by simp [h.len], ?_, by rw [hkeys]; exact h.uniq.vacate i, fun j g hg => h.keys _ _ (hget j g hg), fun j g hg => h.pins _ _ (hget j g hg), fun j hj => ?_, fun j a g hg => ?_⟩
  · have := fullK_vacate hki
    rw [hkeys, h.cnt]; omega
  · rw [hfind]
    by_cases e : j = k
    · subst e; simp [updF]
    · have : ¬ (j : Int) = (k : Int) := by omega
      simp only [updF, e, this, if_false]
      exact h.here j hj
  · rw [hfind] at hg
    split at hg
    · simp at hg
    · exact h.vals j _ _ hg
/-- Fresh or not plays no part. -/
theorem RK.stripped {n : Nat} {fr fr' : Frs ByteArray} {vs : Nat → ByteArray} {hs : Nat → Bool} {ps : Nat → Int} {c top : Int} (h : RK n fr vs hs ps c top) (hst : strips fr' = strips fr) : RK n fr' vs hs ps c top := by
  have hkeys := strips_keys hst
  have hfind : ∀ (j : Int) (a : Nat) (g : Fr ByteArray), findF fr' j = some (a, g) → ∃ g0, findF fr j = some (a, g0) ∧ strip g0 = strip g := by
    intro j a g hg
    obtain ⟨h1, h2, h3⟩ := findF_some hg
    obtain ⟨g0, e1, e2⟩ := strips_get hst h2
    rw [hkeys] at h1
    exact ⟨g0, findF_of h1 e1, e2⟩
  refine ⟨by rw [strips_len hst, h.len], by rw [hkeys]; exact h.cnt, by rw [hkeys]; exact h.uniq, fun j g hg => ?_, fun j g hg => ?_, fun j hj => ?_, fun j a g hg => ?_⟩
  · obtain ⟨g0, e1, e2⟩ := strips_get hst hg
    simp only [strip, Prod.mk.injEq] at e2
    rw [← e2.1]; exact h.keys _ _ e1
  · obtain ⟨g0, e1, e2⟩ := strips_get hst hg
    simp only [strip, Prod.mk.injEq] at e2
    rw [← e2.2.2]; exact h.pins _ _ e1
  · rw [h.here j hj]
    cases hx : findF fr' (j : Int) with
    | some x =>
      obtain ⟨a, g⟩ := x
      obtain ⟨g0, e1, _⟩ := hfind _ _ _ hx
      rw [e1]; rfl
    | none =>
      rw [findF_of_none (by rw [← hkeys]; exact findF_none hx)]
  · obtain ⟨g0, e1, e2⟩ := hfind _ _ _ hg
    simp only [strip, Prod.mk.injEq] at e2
    have := h.vals j _ _ e1
    rw [← e2.2.1, ← e2.2.2]
    exact this
end Go.Proofs.Ytbjomkbiljpjmaa
