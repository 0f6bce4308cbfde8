/- The ring as plain lists: frames, keys, the hand that goes round. No program in sight. -/
import Derived.Test.YtbjomkbiljpjmaaBase
import Derived.Deep.OwnRows
namespace Go.Proofs.Ytbjomkbiljpjmaa
open Go

/-- A thing at hand. -/
structure Fr (X : Type) where
  key : Int
  val : X
  pins : Int
  fresh : Bool
abbrev Frs (X : Type) := List (Option (Fr X))

theorem made_one (z : Value) (n : Nat) : madeCells #[z] n = Array.replicate n z := by
  apply Array.ext
  · simp [madeCells]
  · intro i h1 h2
    simp [madeCells, Nat.mod_one]
/-! ### keys in frames -/
def idxK (k : Int) : List (Option Int) → Option Nat
  | [] => none
  | o :: r => if o = some k then some 0 else (idxK k r).map (· + 1)
def KUniq (ks : List (Option Int)) : Prop := ∀ (i j : Nat) (k : Int), ks[i]? = some (some k) → ks[j]? = some (some k) → i = j
theorem idxK_some {k : Int} : ∀ {ks : List (Option Int)} {i : Nat}, idxK k ks = some i → ks[i]? = some (some k)
  | o :: r, i, h => by
    by_cases e : o = some k
    · simp only [idxK, e, if_true, Option.some.injEq] at h
      subst h; simp [e]
    · simp only [idxK, e, if_false, Option.map_eq_some_iff] at h
      obtain ⟨j, hj, rfl⟩ := h
      simpa using idxK_some hj
theorem idxK_none {k : Int} : ∀ {ks : List (Option Int)}, idxK k ks = none ↔ some k ∉ ks
  | [] => by simp [idxK]
  | o :: r => by
    have ih := @idxK_none k r
    by_cases e : o = some k
    · simp [idxK, e]
    · have e' : ¬ some k = o := fun h => e h.symm
      simp [idxK, e, e', ih]
theorem idxK_of {k : Int} {ks : List (Option Int)} {i : Nat} (hu : KUniq ks) (h : ks[i]? = some (some k)) : idxK k ks = some i := by
  cases hx : idxK k ks with
  | none => exact absurd (List.mem_of_getElem? h) (idxK_none.1 hx)
  | some j => rw [hu _ _ _ (idxK_some hx) h]
theorem KUniq.vacate {ks : List (Option Int)} (h : KUniq ks) (i : Nat) : KUniq (ks.set i none) := by
  intro a b k ha hb
  rw [List.getElem?_set] at ha hb
  by_cases ea : i = a
  · simp [ea] at ha
  · by_cases eb : i = b
    · simp [eb] at hb
    · simp only [ea, eb, if_false] at ha hb
      exact h a b k ha hb
theorem KUniq.fill {ks : List (Option Int)} (h : KUniq ks) {i : Nat} {k : Int} (hk : some k ∉ ks) : KUniq (ks.set i (some k)) := by
  intro a b j ha hb
  rw [List.getElem?_set] at ha hb
  by_cases ea : i = a
  · by_cases eb : i = b
    · omega
    · simp only [eb, if_false] at hb
      simp only [ea, if_true] at ha
      split at ha
      · simp only [Option.some.injEq] at ha
        subst ha
        exact absurd (List.mem_of_getElem? hb) hk
      · simp at ha
  · by_cases eb : i = b
    · simp only [ea, if_false] at ha
      simp only [eb, if_true] at hb
      split at hb
      · simp only [Option.some.injEq] at hb
        subst hb
        exact absurd (List.mem_of_getElem? ha) hk
      · simp at hb
    · simp only [ea, eb, if_false] at ha hb
      exact h a b j ha hb
theorem idxK_vacate {ks : List (Option Int)} (h : KUniq ks) {i : Nat} {k : Int} (hi : ks[i]? = some (some k)) (j : Int) : idxK j (ks.set i none) = if j = k then none else idxK j ks := by
  by_cases e : j = k
  · subst e
    simp only [if_true]
    refine idxK_none.2 (fun hm => ?_)
    obtain ⟨a, ha⟩ := List.mem_iff_getElem?.1 hm
    rw [List.getElem?_set] at ha
    by_cases ea : i = a
    · simp [ea] at ha
    · simp only [ea, if_false] at ha
      exact ea (h _ _ _ hi ha)
  · simp only [e, if_false]
    cases hx : idxK j ks with
    | none =>
      refine idxK_none.2 (fun hm => ?_)
      obtain ⟨a, ha⟩ := List.mem_iff_getElem?.1 hm
      rw [List.getElem?_set] at ha
      by_cases ea : i = a
      · simp [ea] at ha
      · simp only [ea, if_false] at ha
        exact idxK_none.1 hx (List.mem_of_getElem? ha)
    | some a =>
      have ha := idxK_some hx
      refine idxK_of (h.vacate i) ?_
      rw [List.getElem?_set]
      have : i ≠ a := by
        rintro rfl
        rw [hi] at ha
        simp at ha
        exact e ha.symm
      simp [this, ha]
theorem idxK_fill {ks : List (Option Int)} (h : KUniq ks) {i : Nat} {k : Int} (hi : ks[i]? = some none) (hk : some k ∉ ks) (j : Int) : idxK j (ks.set i (some k)) = if j = k then some i else idxK j ks := by
  have hl : i < ks.length := (List.getElem?_eq_some_iff.1 hi).1
  by_cases e : j = k
  · subst e
    simp only [if_true]
    exact idxK_of (h.fill hk) (by simp [hl])
  · simp only [e, if_false]
    cases hx : idxK j ks with
    | none =>
      refine idxK_none.2 (fun hm => ?_)
      obtain ⟨a, ha⟩ := List.mem_iff_getElem?.1 hm
      rw [List.getElem?_set] at ha
      by_cases ea : i = a
      · subst ea
        simp [hl] at ha
        exact e ha.symm
      · simp only [ea, if_false] at ha
        exact idxK_none.1 hx (List.mem_of_getElem? ha)
    | some a =>
      have ha := idxK_some hx
      refine idxK_of (h.fill hk) ?_
      rw [List.getElem?_set]
      have : i ≠ a := by
        rintro rfl
        rw [hi] at ha
        simp at ha
      simp [this, ha]
/-- How many frames hold something. -/
def fullK (ks : List (Option Int)) : Nat := (ks.filter Option.isSome).length
theorem fullK_vacate : ∀ {ks : List (Option Int)} {i : Nat} {k : Int}, ks[i]? = some (some k) → fullK (ks.set i none) + 1 = fullK ks
  | o :: r, 0, k, h => by simp at h; subst h; simp [fullK]
  | o :: r, i + 1, k, h => by
    have ih := @fullK_vacate r i k (by simpa using h)
    cases o <;> simp [fullK] at ih ⊢ <;> omega
theorem fullK_fill : ∀ {ks : List (Option Int)} {i : Nat} {k : Int}, ks[i]? = some none → fullK (ks.set i (some k)) = fullK ks + 1
  | o :: r, 0, k, h => by simp at h; subst h; simp [fullK]
  | o :: r, i + 1, k, h => by
    have ih := @fullK_fill r i k (by simpa using h)
    cases o <;> simp [fullK] at ih ⊢ <;> omega

/-- THE MAP OF PLACES FITS THE FRAMES. -/
structure PlaceOk (D : List (Int × Int)) (ks : List (Option Int)) : Prop where
  nodup : (D.map (·.1)).Nodup
  look : ∀ k, getL k D = (idxK k ks).map (fun i : Nat => (i : Int))
  uniq : KUniq ks
  len : D.length = fullK ks
theorem PlaceOk.vacate {D : List (Int × Int)} {ks : List (Option Int)} (h : PlaceOk D ks) {i : Nat} {k : Int} (hi : ks[i]? = some (some k)) : PlaceOk (delL k D) (ks.set i none) := by
  refine ⟨nodup_delL k h.nodup, fun j => ?_, h.uniq.vacate i, ?_⟩
  · rw [getL_delL k j D h.nodup, idxK_vacate h.uniq hi j, h.look]
    split <;> rfl
  · have hx := fullK_vacate hi
    rw [length_delL, h.look, idxK_of h.uniq hi, h.len]
    simp; omega
theorem PlaceOk.fill {D : List (Int × Int)} {ks : List (Option Int)} (h : PlaceOk D ks) {i : Nat} {k : Int} (hi : ks[i]? = some none) (hk : idxK k ks = none) : PlaceOk (putL k (i : Int) D) (ks.set i (some k)) := by
  have hm := idxK_none.1 hk
  refine ⟨nodup_putL k _ h.nodup, fun j => ?_, h.uniq.fill hm, ?_⟩
  · rw [getL_putL, idxK_fill h.uniq hi hm j, h.look]
    split <;> rfl
  · rw [length_putL, h.look, hk, fullK_fill hi, h.len]; rfl

section
variable {X : Type}
def keysOf (fr : Frs X) : List (Option Int) := fr.map (·.map Fr.key)
theorem keysOf_set (fr : Frs X) (i : Nat) (o : Option (Fr X)) : keysOf (fr.set i o) = (keysOf fr).set i (o.map Fr.key) := by
  simp [keysOf, List.map_set]
theorem keysOf_get {fr : Frs X} {i : Nat} {o : Option (Fr X)} (h : fr[i]? = some o) : (keysOf fr)[i]? = some (o.map Fr.key) := by simp [keysOf, h]
/-- The same key in the same place: nothing turns in the keys. -/
theorem keysOf_same {fr : Frs X} {i : Nat} {f f' : Fr X} (h : fr[i]? = some (some f)) (hk : f'.key = f.key) : keysOf (fr.set i (some f')) = keysOf fr := by
  rw [keysOf_set]
  refine List.ext_getElem? (fun j => ?_)
  rw [List.getElem?_set]
  have hl : i < (keysOf fr).length := by
    have := (List.getElem?_eq_some_iff.1 h).1
    simpa [keysOf] using this
  by_cases e : i = j
  · subst e
    rw [keysOf_get h]
    simp [hl, hk]
  · simp [e]

/-- The thing with this key, and its frame. -/
def findF (fr : Frs X) (k : Int) : Option (Nat × Fr X) :=
  match idxK k (keysOf fr) with
  | none => none
  | some i => match fr[i]? with
    | some (some f) => some (i, f)
    | _ => none
theorem findF_none {fr : Frs X} {k : Int} (h : findF fr k = none) : idxK k (keysOf fr) = none := by
  cases hx : idxK k (keysOf fr) with
  | none => rfl
  | some i =>
    have h1 := idxK_some hx
    simp only [keysOf, List.getElem?_map, Option.map_eq_some_iff] at h1
    obtain ⟨o, ho, f, rfl, hf⟩ := h1
    simp [findF, hx, ho] at h
theorem findF_some {fr : Frs X} {k : Int} {i : Nat} {f : Fr X} (h : findF fr k = some (i, f)) : idxK k (keysOf fr) = some i ∧ fr[i]? = some (some f) ∧ f.key = k := by
  cases hx : idxK k (keysOf fr) with
  | none => simp [findF, hx] at h
  | some j =>
    have h1 := idxK_some hx
    simp only [keysOf, List.getElem?_map, Option.map_eq_some_iff] at h1
    obtain ⟨o, ho, g, rfl, hg⟩ := h1
    simp [findF, hx, ho] at h
    obtain ⟨rfl, rfl⟩ := h
    exact ⟨rfl, ho, hg⟩
theorem findF_of_none {fr : Frs X} {k : Int} (h : idxK k (keysOf fr) = none) : findF fr k = none := by simp [findF, h]
theorem findF_of {fr : Frs X} {k : Int} {i : Nat} {f : Fr X} (h : idxK k (keysOf fr) = some i) (hf : fr[i]? = some (some f)) : findF fr k = some (i, f) := by simp [findF, h, hf]

/-- The first vacant frame. -/
def vacM : Frs X → Option Nat
  | [] => none
  | none :: _ => some 0
  | some _ :: r => (vacM r).map (· + 1)
theorem vacM_some : ∀ {fr : Frs X} {i : Nat}, vacM fr = some i → fr[i]? = some none ∧ ∀ j, j < i → ∃ f, fr[j]? = some (some f)
  | none :: r, i, h => by simp [vacM] at h; subst h; exact ⟨rfl, fun j hj => by omega⟩
  | some g :: r, i, h => by
    simp only [vacM, Option.map_eq_some_iff] at h
    obtain ⟨j, hj, rfl⟩ := h
    obtain ⟨h1, h2⟩ := vacM_some hj
    refine ⟨by simpa using h1, fun a ha => ?_⟩
    cases a with
    | zero => exact ⟨g, rfl⟩
    | succ a => simpa using h2 a (by omega)
theorem vacM_none : ∀ {fr : Frs X}, vacM fr = none → ∀ j, j < fr.length → ∃ f, fr[j]? = some (some f)
  | [], _, j, hj => by simp at hj
  | none :: r, h, _, _ => by simp [vacM] at h
  | some g :: r, h, j, hj => by
    simp only [vacM, Option.map_eq_none_iff] at h
    cases j with
    | zero => exact ⟨g, rfl⟩
    | succ j => simpa using vacM_none h j (by simpa using hj)
/-- Whether all frames hold something that is pinned. -/
def pinnedM : Frs X → Bool
  | [] => true
  | none :: _ => false
  | some f :: r => f.pins != 0 && pinnedM r
theorem pinnedM_true : ∀ {fr : Frs X}, pinnedM fr = true → ∀ j, j < fr.length → ∃ f, fr[j]? = some (some f) ∧ (f.pins == 0) = false
  | none :: r, h, _, _ => by simp [pinnedM] at h
  | some g :: r, h, j, hj => by
    simp only [pinnedM, Bool.and_eq_true] at h
    cases j with
    | zero => exact ⟨g, rfl, by simpa [bne] using h.1⟩
    | succ j => simpa using pinnedM_true h.2 j (by simpa using hj)
theorem pinnedM_false : ∀ {fr : Frs X}, pinnedM fr = false → ∃ i, i < fr.length ∧ (∀ j, j < i → ∃ f, fr[j]? = some (some f) ∧ (f.pins == 0) = false) ∧ (fr[i]? = some none ∨ ∃ f, fr[i]? = some (some f) ∧ (f.pins == 0) = true)
  | [], h => by simp [pinnedM] at h
  | none :: r, _ => ⟨0, by simp, fun j hj => by omega, .inl rfl⟩
  | some g :: r, h => by
    cases hg : (g.pins == 0) with
    | true => exact ⟨0, by simp, fun j hj => by omega, .inr ⟨g, rfl, hg⟩⟩
    | false =>
      have h' : pinnedM r = false := by
        simp only [pinnedM, bne, hg] at h
        simpa using h
      obtain ⟨i, hi, h1, h2⟩ := pinnedM_false h'
      refine ⟨i + 1, by simp; omega, fun j hj => ?_, by simpa using h2⟩
      cases j with
      | zero => exact ⟨g, rfl, hg⟩
      | succ j => simpa using h1 j (by omega)
/-- The hand goes round, at most so many frames: which one is made free, what was in it, the frames, the hand. -/
def freeM : Nat → Frs X → Nat → Option (Nat × Fr X × Frs X × Nat)
  | 0, _, _ => none
  | n + 1, fr, h => match fr[h]? with
    | some (some f) => if f.pins == 0 && !f.fresh then some (h, f, fr, (h + 1) % fr.length) else freeM n (fr.set h (some { f with fresh := f.fresh && decide (0 < f.pins) })) ((h + 1) % fr.length)
    | _ => none

/-- All but whether it is fresh. -/
def strip (f : Fr X) : Int × X × Int := (f.key, f.val, f.pins)
def strips (fr : Frs X) : List (Option (Int × X × Int)) := fr.map (·.map strip)
theorem strips_keys {fr fr' : Frs X} (h : strips fr' = strips fr) : keysOf fr' = keysOf fr := by
  have e : ∀ l : Frs X, keysOf l = (strips l).map (·.map (·.1)) := by
    intro l
    simp only [keysOf, strips, List.map_map]
    congr 1
    funext o
    cases o <;> rfl
  rw [e, e, h]
theorem strips_len {fr fr' : Frs X} (h : strips fr' = strips fr) : fr'.length = fr.length := by
  have := congrArg List.length h
  simpa [strips] using this
theorem strips_set {fr : Frs X} {i : Nat} {f f' : Fr X} (h : fr[i]? = some (some f)) (e : strip f' = strip f) : strips (fr.set i (some f')) = strips fr := by
  refine List.ext_getElem? (fun j => ?_)
  simp only [strips, List.getElem?_map, List.getElem?_set]
  by_cases hj : i = j
  · subst hj
    have hl := (List.getElem?_eq_some_iff.1 h).1
    rw [h]
    simp [hl, e]
  · simp [hj]
theorem strips_get {fr fr' : Frs X} (h : strips fr' = strips fr) {i : Nat} {f : Fr X} (hf : fr'[i]? = some (some f)) : ∃ g, fr[i]? = some (some g) ∧ strip g = strip f := by
  have := congrArg (fun l => l[i]?) h
  simp only [strips, List.getElem?_map, hf, Option.map_some] at this
  cases hx : fr[i]? with
  | none => rw [hx] at this; simp at this
  | some o =>
    rw [hx] at this
    cases o with
    | none => simp at this
    | some g => exact ⟨g, rfl, by simpa using this.symm⟩
theorem freeM_spec : ∀ (n : Nat) (fr : Frs X) (h : Nat) (a : Nat) (f : Fr X) (fr' : Frs X) (h' : Nat), freeM n fr h = some (a, f, fr', h') →
    strips fr' = strips fr ∧ fr'[a]? = some (some f) ∧ (f.pins == 0) = true ∧ f.fresh = false ∧ h' = (a + 1) % fr.length
  | 0, fr, h, a, f, fr', h', e => by simp [freeM] at e
  | n + 1, fr, h, a, f, fr', h', e => by
    simp only [freeM] at e
    split at e
    · rename_i g hg
      by_cases hs : (g.pins == 0 && !g.fresh) = true
      · rw [if_pos hs] at e
        simp only [Option.some.injEq, Prod.mk.injEq] at e
        obtain ⟨rfl, rfl, rfl, rfl⟩ := e
        simp only [Bool.and_eq_true, Bool.not_eq_true'] at hs
        exact ⟨rfl, hg, hs.1, hs.2, rfl⟩
      · rw [if_neg hs] at e
        obtain ⟨h1, h2, h3, h4, h5⟩ := freeM_spec n _ _ _ _ _ _ e
        have hset := strips_set (f' := { g with fresh := g.fresh && decide (0 < g.pins) }) hg rfl
        refine ⟨h1.trans hset, h2, h3, h4, ?_⟩
        rw [h5]; simp
    · cases e

/-! ### frames in memory -/
def frObj (vv : X → Value) (T : TypeId) (f : Fr X) : Obj := .cells #[kI f.key, vv f.val, kI f.pins, .bool f.fresh] T
/-- Frames with their blocks. -/
abbrev Lst (X : Type) := List (Option (Nat × Fr X))
def frH (vv : X → Value) (T : TypeId) : Lst X → Heaplet
  | [] => []
  | none :: r => frH vv T r
  | some (b, f) :: r => .blk b (frObj vv T f) :: frH vv T r
def ptr : Option (Nat × Fr X) → Value
  | none => .pointer none
  | some (b, _) => .pointer (some ⟨b, 0, none⟩)
def ptrs (L : Lst X) : Array Value := (L.map ptr).toArray
def bare (L : Lst X) : Frs X := L.map (·.map Prod.snd)
variable {vv : X → Value} {T : TypeId}
theorem frH_take : ∀ {L : Lst X} {i : Nat} {b : Nat} {f : Fr X}, L[i]? = some (some (b, f)) → (frH vv T L).Perm (.blk b (frObj vv T f) :: frH vv T (L.set i none))
  | o :: r, 0, b, f, h => by simp at h; subst h; simp [frH]
  | o :: r, i + 1, b, f, h => by
    have ih := @frH_take r i b f (by simpa using h)
    cases o with
    | none => simpa [frH] using ih
    | some p =>
      obtain ⟨c, g⟩ := p
      simp only [List.set_cons_succ, frH]
      exact (ih.cons _).trans (List.Perm.swap _ _ _)
theorem frH_put : ∀ {L : Lst X} {i : Nat} {b : Nat} {f : Fr X}, L[i]? = some none → (frH vv T (L.set i (some (b, f)))).Perm (.blk b (frObj vv T f) :: frH vv T L)
  | o :: r, 0, b, f, h => by simp at h; subst h; simp [frH]
  | o :: r, i + 1, b, f, h => by
    have ih := @frH_put r i b f (by simpa using h)
    cases o with
    | none => simpa [frH] using ih
    | some p =>
      obtain ⟨c, g⟩ := p
      simp only [List.set_cons_succ, frH]
      exact (ih.cons _).trans (List.Perm.swap _ _ _)
theorem ptrs_get {L : Lst X} {i : Nat} {o : Option (Nat × Fr X)} (h : L[i]? = some o) : (ptrs L)[i]? = some (ptr o) := by simp [ptrs, h]
theorem ptrs_set (L : Lst X) (i : Nat) (o : Option (Nat × Fr X)) : (ptrs L).setIfInBounds i (ptr o) = ptrs (L.set i o) := by
  simp [ptrs, List.map_set]
theorem ptrs_same {L : Lst X} {i b : Nat} {f f' : Fr X} (h : L[i]? = some (some (b, f))) : ptrs (L.set i (some (b, f'))) = ptrs L := by
  rw [← ptrs_set]
  apply Array.ext_getElem?
  intro j
  rw [Array.getElem?_setIfInBounds]
  by_cases e : i = j
  · subst e
    rw [ptrs_get h]
    have hl := (List.getElem?_eq_some_iff.1 h).1
    simp [ptrs, hl, ptr]
  · simp [e]
theorem bare_set (L : Lst X) (i : Nat) (o : Option (Nat × Fr X)) : bare (L.set i o) = (bare L).set i (o.map Prod.snd) := by simp [bare, List.map_set]
theorem bare_get {L : Lst X} {i : Nat} {o : Option (Nat × Fr X)} (h : L[i]? = some o) : (bare L)[i]? = some (o.map Prod.snd) := by simp [bare, h]
theorem bare_inv {L : Lst X} {i : Nat} {f : Fr X} (h : (bare L)[i]? = some (some f)) : ∃ b, L[i]? = some (some (b, f)) := by
  simp only [bare, List.getElem?_map, Option.map_eq_some_iff] at h
  obtain ⟨o, ho, e⟩ := h
  obtain ⟨p, rfl, rfl⟩ := e
  exact ⟨p.1, ho⟩
theorem bare_inv_none {L : Lst X} {i : Nat} (h : (bare L)[i]? = some none) : L[i]? = some none := by
  simp only [bare, List.getElem?_map, Option.map_eq_some_iff] at h
  obtain ⟨o, ho, e⟩ := h
  simp only [Option.map_eq_none_iff] at e
  rw [ho, e]
end
end Go.Proofs.Ytbjomkbiljpjmaa
