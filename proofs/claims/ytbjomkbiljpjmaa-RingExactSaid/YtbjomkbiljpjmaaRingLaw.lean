/- The ring's model: what Put, Get, Del, Pin and Let come to on plain lists; a frame can always be freed unless all are pinned. -/
import Derived.Test.YtbjomkbiljpjmaaRingM
namespace Go.Proofs.Ytbjomkbiljpjmaa
open Go
section
variable {X : Type}
def AllFull (fr : Frs X) : Prop := ∀ j, j < fr.length → ∃ f, fr[j]? = some (some f)
theorem AllFull.set {fr : Frs X} (h : AllFull fr) (i : Nat) (f : Fr X) : AllFull (fr.set i (some f)) := by
  intro j hj
  rw [List.length_set] at hj
  rw [List.getElem?_set]
  by_cases e : i = j
  · subst e; simp [hj]
  · simp [e, h j hj]
theorem freeM_A : ∀ (d fuel : Nat) (fr : Frs X) (h i : Nat) (g : Fr X), AllFull fr → h < fr.length → (h + d) % fr.length = i → fr[i]? = some (some g) → (g.pins == 0) = true → g.fresh = false → d < fuel →
    ∃ r, freeM fuel fr h = some r
  | 0, fuel, fr, h, i, g, _, hh, hd, hg, hp, hf, hlt => by
    obtain ⟨m, rfl⟩ : ∃ m, fuel = m + 1 := ⟨fuel - 1, by omega⟩
    rw [Nat.add_zero, Nat.mod_eq_of_lt hh] at hd
    subst hd
    simp [freeM, hg, hp, hf]
  | d + 1, fuel, fr, h, i, g, ha, hh, hd, hg, hp, hf, hlt => by
    obtain ⟨m, rfl⟩ : ∃ m, fuel = m + 1 := ⟨fuel - 1, by omega⟩
    obtain ⟨f, hff⟩ := ha h hh
    by_cases hs : (f.pins == 0 && !f.fresh) = true
    · simp [freeM, hff, hs]
    · have hne : h ≠ i := by
        rintro rfl
        rw [hff] at hg
        simp only [Option.some.injEq] at hg
        subst hg
        simp [hp, hf] at hs
      have := freeM_A d m (fr.set h (some { f with fresh := f.fresh && decide (0 < f.pins) })) ((h + 1) % fr.length) i g (ha.set _ _)
        (by rw [List.length_set]; exact Nat.mod_lt _ (by omega)) (by rw [List.length_set, Nat.mod_add_mod, ← hd]; congr 1; omega) (by rw [List.getElem?_set]; simp [hne, hg]) hp hf (by omega)
      obtain ⟨r, hr⟩ := this
      exact ⟨r, by simp only [freeM, hff]; rw [if_neg hs]; exact hr⟩
theorem freeM_B : ∀ (d fuel : Nat) (fr : Frs X) (h i : Nat) (g : Fr X), AllFull fr → h < fr.length → (h + d) % fr.length = i → fr[i]? = some (some g) → (g.pins == 0) = true → d + fr.length < fuel →
    ∃ r, freeM fuel fr h = some r
  | 0, fuel, fr, h, i, g, ha, hh, hd, hg, hp, hlt => by
    obtain ⟨m, rfl⟩ : ∃ m, fuel = m + 1 := ⟨fuel - 1, by omega⟩
    rw [Nat.add_zero, Nat.mod_eq_of_lt hh] at hd
    subst hd
    by_cases hs : (g.pins == 0 && !g.fresh) = true
    · simp [freeM, hg, hs]
    · have hp0 : decide (0 < g.pins) = false := by
        rw [decide_eq_false_iff_not]
        rw [beq_iff_eq] at hp
        omega
      have := freeM_A (fr.length - 1) m (fr.set h (some { g with fresh := g.fresh && decide (0 < g.pins) })) ((h + 1) % fr.length) h { g with fresh := g.fresh && decide (0 < g.pins) } (ha.set _ _)
        (by rw [List.length_set]; exact Nat.mod_lt _ (by omega)) (by rw [List.length_set, Nat.mod_add_mod, show h + 1 + (fr.length - 1) = h + fr.length from by omega, Nat.add_mod_right, Nat.mod_eq_of_lt hh]) (by simp [hh]) hp (by simp [hp0]) (by omega)
      obtain ⟨r, hr⟩ := this
      exact ⟨r, by simp only [freeM, hg]; rw [if_neg hs]; exact hr⟩
  | d + 1, fuel, fr, h, i, g, ha, hh, hd, hg, hp, hlt => by
    obtain ⟨m, rfl⟩ : ∃ m, fuel = m + 1 := ⟨fuel - 1, by omega⟩
    obtain ⟨f, hff⟩ := ha h hh
    by_cases hs : (f.pins == 0 && !f.fresh) = true
    · simp [freeM, hff, hs]
    · have hg' : ∃ g', (fr.set h (some { f with fresh := f.fresh && decide (0 < f.pins) }))[i]? = some (some g') ∧ (g'.pins == 0) = true := by
        by_cases hne : h = i
        · subst hne
          rw [hff] at hg
          simp only [Option.some.injEq] at hg
          subst hg
          exact ⟨{ f with fresh := f.fresh && decide (0 < f.pins) }, by simp [hh], hp⟩
        · exact ⟨g, by rw [List.getElem?_set]; simp [hne, hg], hp⟩
      obtain ⟨g', hg1, hg2⟩ := hg'
      have := freeM_B d m (fr.set h (some { f with fresh := f.fresh && decide (0 < f.pins) })) ((h + 1) % fr.length) i g' (ha.set _ _)
        (by rw [List.length_set]; exact Nat.mod_lt _ (by omega)) (by rw [List.length_set, Nat.mod_add_mod, ← hd]; congr 1; omega) hg1 hg2 (by rw [List.length_set]; omega)
      obtain ⟨r, hr⟩ := this
      exact ⟨r, by simp only [freeM, hff]; rw [if_neg hs]; exact hr⟩
/-- Unless all are pinned, one is freed. -/
theorem freeM_some {fr : Frs X} {h : Nat} (hv : vacM fr = none) (hp : pinnedM fr = false) (hh : h < fr.length) : ∃ r, freeM (2 * fr.length + 1) fr h = some r := by
  have ha : AllFull fr := vacM_none hv
  obtain ⟨i, hi, _, hor⟩ := pinnedM_false hp
  obtain ⟨g, hg⟩ := ha i hi
  have hp0 : (g.pins == 0) = true := by
    rcases hor with h1 | ⟨f, h1, h2⟩
    · rw [hg] at h1; simp at h1
    · rw [hg] at h1; simp only [Option.some.injEq] at h1; subst h1; exact h2
  refine freeM_B ((i + fr.length - h) % fr.length) _ fr h i g ha hh ?_ hg hp0 ?_
  · rw [Nat.add_mod_mod, show h + (i + fr.length - h) = i + fr.length from by omega, Nat.add_mod_right, Nat.mod_eq_of_lt hi]
  · have := Nat.mod_lt (i + fr.length - h) (show 0 < fr.length by omega)
    omega
/-! ### the calls -/
def putM (fr : Frs X) (hand : Nat) (k : Int) (v : X) : (Option (Fr X) × Bool) × Frs X × Nat :=
  match findF fr k with
  | some (i, f) => ((none, true), fr.set i (some { f with val := v, fresh := true }), hand)
  | none => match vacM fr with
    | some i => ((none, true), fr.set i (some ⟨k, v, 0, true⟩), hand)
    | none => if pinnedM fr then ((none, false), fr, hand) else match freeM (2 * fr.length + 1) fr hand with
      | some (a, f, fr', hand') => ((some f, true), fr'.set a (some ⟨k, v, 0, true⟩), hand')
      | none => ((none, false), fr, hand)
def getM (fr : Frs X) (k : Int) : Option X × Frs X :=
  match findF fr k with
  | some (i, f) => (some f.val, fr.set i (some { f with fresh := true }))
  | none => (none, fr)
def delM (fr : Frs X) (k : Int) : Option X × Frs X :=
  match findF fr k with
  | some (i, f) => (some f.val, fr.set i none)
  | none => (none, fr)
def pinM (fr : Frs X) (k : Int) : Bool × Frs X :=
  match findF fr k with
  | some (i, f) => (true, fr.set i (some { f with pins := f.pins + 1 }))
  | none => (false, fr)
def letM (fr : Frs X) (k : Int) : Bool × Frs X :=
  match findF fr k with
  | some (i, f) => if f.pins == 0 then (false, fr) else (true, fr.set i (some { f with pins := f.pins - 1 }))
  | none => (false, fr)
theorem vacM_of : ∀ {fr : Frs X} {i : Nat}, fr[i]? = some none → (∀ j, j < i → ∃ f, fr[j]? = some (some f)) → vacM fr = some i
  | none :: r, 0, _, _ => rfl
  | some g :: r, 0, h, _ => by simp at h
  | o :: r, i + 1, h, hf => by
    obtain ⟨f, h0⟩ := hf 0 (by omega)
    simp only [List.getElem?_cons_zero, Option.some.injEq] at h0
    subst h0
    have := vacM_of (fr := r) (i := i) (by simpa using h) (fun j hj => by simpa using hf (j + 1) (by omega))
    simp [vacM, this]
theorem vacM_full : ∀ {fr : Frs X}, AllFull fr → vacM fr = none
  | [], _ => rfl
  | o :: r, h => by
    obtain ⟨f, h0⟩ := h 0 (by simp)
    simp only [List.getElem?_cons_zero, Option.some.injEq] at h0
    subst h0
    have := vacM_full (fr := r) (fun j hj => by simpa using h (j + 1) (by simpa using hj))
    simp [vacM, this]
theorem pinnedM_of {fr : Frs X} {i : Nat} {f : Fr X} (h : fr[i]? = some (some f)) (hp : f.pins = 0) : pinnedM fr = false := by
  cases e : pinnedM fr with
  | false => rfl
  | true =>
    obtain ⟨g, h1, h2⟩ := pinnedM_true e i (List.getElem?_eq_some_iff.1 h).1
    rw [h] at h1
    simp only [Option.some.injEq] at h1
    subst h1
    rw [beq_eq_false_iff_ne] at h2
    exact absurd hp h2
/-- No key twice. -/
theorem findF_at {fr : Frs X} (hu : KUniq (keysOf fr)) {i : Nat} {f : Fr X} (h : fr[i]? = some (some f)) : findF fr f.key = some (i, f) :=
  findF_of (idxK_of hu (by rw [keysOf_get h]; rfl)) h
theorem findF_absent {fr : Frs X} {k : Int} (h : ∀ (i : Nat) (f : Fr X), fr[i]? = some (some f) → f.key ≠ k) : findF fr k = none := by
  refine findF_of_none (idxK_none.2 (fun hm => ?_))
  obtain ⟨j, hj⟩ := List.mem_iff_getElem?.1 hm
  simp only [keysOf, List.getElem?_map, Option.map_eq_some_iff] at hj
  obtain ⟨o, ho, f, rfl, hf⟩ := hj
  exact h j f ho hf
end
end Go.Proofs.Ytbjomkbiljpjmaa
