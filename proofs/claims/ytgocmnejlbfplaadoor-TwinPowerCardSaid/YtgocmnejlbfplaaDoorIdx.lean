/- The first element of which something holds. Conditions: none. -/
import Derived.Test.YtgocmnejlbfplaaDoorBase
namespace Go.Proofs.YtgocmnejlbfplaaDoor
open Go

def idxF {α : Type} (P : α → Bool) (L : List α) : Int := match L.findIdx? P with | some i => i | none => -1
theorem idxF_found {α : Type} {P : α → Bool} {L : List α} {j : Nat} {x : α} (hx : L[j]? = some x) (hp : P x = true) (hno : ∀ i y, i < j → L[i]? = some y → P y = false) : idxF P L = j := by
  have h : L.findIdx? P = some j := by
    rw [List.findIdx?_eq_some_iff_getElem]
    obtain ⟨hj, e⟩ := List.getElem?_eq_some_iff.1 hx
    exact ⟨hj, by rw [e]; exact hp, fun i hi => by simpa using hno i _ hi (List.getElem?_eq_getElem (by omega))⟩
  unfold idxF
  rw [h]
theorem idxF_none {α : Type} {P : α → Bool} {L : List α} (hno : ∀ i y, i < L.length → L[i]? = some y → P y = false) : idxF P L = -1 := by
  have h : L.findIdx? P = none := by
    rw [List.findIdx?_eq_none_iff]
    intro y hy
    obtain ⟨i, hi, e⟩ := List.mem_iff_getElem.1 hy
    exact hno i y hi (by rw [List.getElem?_eq_getElem hi, e])
  unfold idxF
  rw [h]
theorem idxF_any {α : Type} (P : α → Bool) (L : List α) : decide (0 ≤ idxF P L) = L.any P := by
  unfold idxF
  cases h : L.findIdx? P with
  | some i =>
    obtain ⟨hl, hi, _⟩ := List.findIdx?_eq_some_iff_getElem.1 h
    have : L.any P = true := List.any_eq_true.2 ⟨L[i], List.getElem_mem _, hi⟩
    rw [this]
    simp
  | none =>
    have hn := List.findIdx?_eq_none_iff.1 h
    have : L.any P = false := by rw [List.any_eq_false]; intro x hx; rw [hn x hx]; decide
    rw [this]; decide
theorem idxF_some {α : Type} {P : α → Bool} {L : List α} {j : Int} (h : idxF P L = j) (h0 : 0 ≤ j) : ∃ (i : Nat) (x : α), j = i ∧ L[i]? = some x ∧ P x = true ∧ ∀ k y, k < i → L[k]? = some y → P y = false := by
  unfold idxF at h
  cases hf : L.findIdx? P with
  | none => rw [hf] at h; simp only at h; omega
  | some i =>
    rw [hf] at h
    simp only at h
    obtain ⟨hi, hp, hno⟩ := List.findIdx?_eq_some_iff_getElem.1 hf
    refine ⟨i, L[i], h.symm, List.getElem?_eq_getElem hi, hp, fun k y hk hy => ?_⟩
    have h1 := hno k hk
    obtain ⟨hk2, e⟩ := List.getElem?_eq_some_iff.1 hy
    rw [← e]
    simpa using h1
end Go.Proofs.YtgocmnejlbfplaaDoor
