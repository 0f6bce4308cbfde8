/- A client's locks, in plain data. Conditions: none. -/
import Derived.Test.YtcndmiepbodpnaaMapBr
namespace Go.Proofs.Ytcndmiepbodpnaa
open Go Go.MapKept Go.RowKit Go.Proofs

/-- A lock: an X; how it is needed; which call waits. -/
structure Lk where
  x : Bool
  used : Int
  wait : Int
abbrev Lks := List (Int × Lk)
def Lk.good (k : Lk) : Prop := (k.used = 0 ∨ k.used = 1 ∨ k.used = 2) ∧ (k.wait = 0 ∨ k.wait = 1 ∨ k.wait = 2)
def grantM (D : Lks) (p : Int) (x : Bool) : Lks := putL p (match getL p D with | some k => { k with x := x } | none => ⟨x, 0, 0⟩) D
def hasM (D : Lks) (p : Int) (x : Bool) : Bool := match getL p D with | some k => k.x || !x | none => false
def useK (k : Lk) (x : Bool) : Lk := { k with used := if x then 2 else max k.used 1 }
def useM (D : Lks) (p : Int) (x : Bool) : Int × Lks := if hasM D p x then (0, match getL p D with | some k => putL p (useK k x) D | none => D) else (12, D)
def usedM (D : Lks) (p : Int) : Int := match getL p D with | some k => k.used | none => 0
def callM (D : Lks) (p : Int) (all : Bool) : Int × Lks := match getL p D with
  | none => (0, D)
  | some k =>
    if !all && !k.x then (0, D)
    else if all && decide (0 < k.used) then (3, putL p { k with wait := 2 } D)
    else if all then (1, delL p D)
    else if k.used = 2 then (3, putL p { k with wait := max k.wait 1 } D)
    else (2, putL p { k with x := false } D)
/-- What becomes of a lock when the transaction ends. -/
def endK (k : Lk) : Option Lk := if k.wait = 2 then none else if k.wait = 0 then some { k with used := 0 } else some ⟨false, 0, 0⟩
/-- What is told of it. -/
def letK (p : Int) (k : Lk) : Option (Int × Bool) := if k.wait = 0 then none else some (p, k.wait == 1)
/-- The pages S are done. -/
def endS (S : List Int) (D : Lks) : Lks := D.filterMap fun q => if q.1 ∈ S then (endK q.2).map fun k => (q.1, k) else some q
def letS (S : List Int) (D : Lks) : List (Int × Bool) := S.filterMap fun p => (getL p D).bind (letK p)
def endM (D : Lks) : List (Int × Bool) × Lks := (letS (sortK (D.map (·.1))) D, endS (D.map (·.1)) D)

theorem fm_congr {α β : Type} {f g : α → Option β} : ∀ {l : List α}, (∀ x ∈ l, f x = g x) → l.filterMap f = l.filterMap g
  | [], _ => rfl
  | a :: l, h => by rw [List.filterMap_cons, List.filterMap_cons, h a (.head _), fm_congr (fun x hx => h x (.tail _ hx))]
theorem endS_nil (D : Lks) : endS [] D = D := by
  unfold endS
  simp
theorem endS_keys (S : List Int) (D : Lks) (hn : (D.map (·.1)).Nodup) : ((endS S D).map (·.1)).Nodup := by
  unfold endS
  induction D with
  | nil => simp
  | cons q r ih =>
    simp only [List.map_cons, List.nodup_cons] at hn
    have ih := ih hn.2
    have key : ∀ y ∈ (r.filterMap fun q => if q.1 ∈ S then (endK q.2).map fun k => (q.1, k) else some q).map (·.1), y ∈ r.map (·.1) := by
      intro y hy
      obtain ⟨z, hz, rfl⟩ := List.mem_map.1 hy
      obtain ⟨u, hu, e⟩ := List.mem_filterMap.1 hz
      refine List.mem_map.2 ⟨u, hu, ?_⟩
      split at e
      · cases h : endK u.2 with
        | none => rw [h] at e; cases e
        | some k => rw [h] at e; cases e; rfl
      · cases e; rfl
    rw [List.filterMap_cons]
    cases h : (if q.1 ∈ S then (endK q.2).map fun k => (q.1, k) else some q) with
    | none => exact ih
    | some z =>
      have hz : z.1 = q.1 := by
        split at h
        · cases h' : endK q.2 with
          | none => rw [h'] at h; cases h
          | some k => rw [h'] at h; cases h; rfl
        · cases h; rfl
      simp only [List.map_cons, List.nodup_cons]
      exact ⟨fun hm => hn.1 (hz ▸ key _ hm), ih⟩
theorem getL_endS (S : List Int) (p : Int) : ∀ D : Lks, (D.map (·.1)).Nodup → getL p (endS S D) = if p ∈ S then (getL p D).bind endK else getL p D
  | [], _ => by simp [endS, getL]
  | q :: r, hn => by
    simp only [List.map_cons, List.nodup_cons] at hn
    have ih := getL_endS S p r hn.2
    have e : endS S (q :: r) = (match (if q.1 ∈ S then (endK q.2).map fun k => (q.1, k) else some q) with | some z => z :: endS S r | none => endS S r) := by
      unfold endS
      rw [List.filterMap_cons]
      cases (if q.1 ∈ S then (endK q.2).map fun k => (q.1, k) else some q) <;> rfl
    rw [e]
    by_cases hq : q.1 ∈ S
    · rw [if_pos hq]
      by_cases hp : q.1 = p
      · subst hp
        have hr : getL q.1 r = none := getL_none.2 hn.1
        simp only [if_pos hq] at ih ⊢
        cases hk : endK q.2 with
        | none => simp [getL, ih, hr, hk]
        | some k => simp [getL, hk]
      · cases hk : endK q.2 with
        | none => simp [getL, ih, hp]
        | some k => simp [getL, ih, hp]
    · rw [if_neg hq]
      by_cases hp : q.1 = p
      · subst hp
        simp [getL, hq]
      · simp [getL, ih, hp]
/-- One page more is done. -/
theorem endS_step {S : List Int} {D : Lks} (hn : (D.map (·.1)).Nodup) {p : Int} (hp : p ∉ S) {k : Lk} (hk : getL p D = some k) :
    endS (S ++ [p]) D = match endK k with | some k' => putL p k' (endS S D) | none => delL p (endS S D) := by
  induction D with
  | nil => cases hk
  | cons q r ih =>
    simp only [List.map_cons, List.nodup_cons] at hn
    have e : ∀ T : List Int, endS T (q :: r) = (match (if q.1 ∈ T then (endK q.2).map fun k => (q.1, k) else some q) with | some z => z :: endS T r | none => endS T r) := by
      intro T
      unfold endS
      rw [List.filterMap_cons]
      cases (if q.1 ∈ T then (endK q.2).map fun k => (q.1, k) else some q) <;> rfl
    by_cases hq : q.1 = p
    · subst hq
      have hkk : q.2 = k := by simpa [getL] using hk
      have hr : endS (S ++ [q.1]) r = endS S r := by
        unfold endS
        apply fm_congr
        intro u hu
        have : u.1 ≠ q.1 := fun e => hn.1 (e ▸ List.mem_map.2 ⟨u, hu, rfl⟩)
        simp [this]
      rw [e, e, hr, if_pos (by simp), if_neg hp, hkk]
      cases endK k with
      | none => simp [delL]
      | some k' => simp [putL]
    · have hk2 : getL p r = some k := by simpa [getL, hq] using hk
      have ih := ih hn.2 hk2
      have hm : (q.1 ∈ S ++ [p]) ↔ q.1 ∈ S := by simp [hq]
      rw [e, e, ih]
      by_cases hs : q.1 ∈ S
      · rw [if_pos (hm.2 hs), if_pos hs]
        cases endK q.2 <;> cases endK k <;> simp [putL, delL, hq]
      · rw [if_neg (fun h => hs (hm.1 h)), if_neg hs]
        cases endK k <;> simp [putL, delL, hq]
theorem endS_all (D : Lks) {S : List Int} (h : ∀ p ∈ D, p.1 ∈ S) : endS S D = D.filterMap fun q => (endK q.2).map fun k => (q.1, k) := by
  unfold endS
  apply fm_congr
  intro q hq
  rw [if_pos (h q hq)]
theorem letS_step (S : List Int) (D : Lks) (p : Int) : letS (S ++ [p]) D = letS S D ++ (match (getL p D).bind (letK p) with | some y => [y] | none => []) := by
  unfold letS
  rw [List.filterMap_append]
  congr 1
  cases h : (getL p D).bind (letK p) <;> simp [h]
end Go.Proofs.Ytcndmiepbodpnaa
