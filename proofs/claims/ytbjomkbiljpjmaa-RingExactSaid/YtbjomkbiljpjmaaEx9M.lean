/- The document's ring: how it lies in memory; its answers beside the ring's. Conditions: none. -/
import Derived.Test.YtbjomkbiljpjmaaRingS5
import Derived.Test.YtbjomkbiljpjmaaSlA
import Derived.Test.YtbjomkbiljpjmaaRKeepsM
namespace Go.Proofs.Ytbjomkbiljpjmaa
open Go Go.MapKept Go.RowKit Go.Proofs

abbrev FrsS := Frs ByteArray
/-- A frame's cells. -/
def fR : Option (Fr ByteArray) → List Value
  | none => [.bool false, kI 0, kS ⟨#[]⟩, kI 0, .bool false]
  | some f => [.bool true, kI f.key, kS f.val, kI f.pins, .bool f.fresh]
theorem fR_len (o : Option (Fr ByteArray)) : (fR o).length = 5 := by cases o <;> rfl
def refA (fr : FrsS) : Array Value := (fr.flatMap fR).toArray
theorem refA_get {fr : FrsS} {i j : Nat} {o : Option (Fr ByteArray)} {u : Value} (h : fr[i]? = some o) (hu : (fR o)[j]? = some u) : (refA fr)[i * 5 + j]? = some u := by
  have := fm_get fR_len fr i j o u h hu
  simpa [refA] using this
theorem refA_set {fr : FrsS} {i j : Nat} {o o' : Option (Fr ByteArray)} {u : Value} (h : fr[i]? = some o) (hj : j < 5) (e : (fR o).set j u = fR o') : (refA fr).setIfInBounds (i * 5 + j) u = refA (fr.set i o') := by
  have := fm_set fR_len fr i j o o' u h hj e
  simp only [refA, List.setIfInBounds_toArray, this]
theorem fm_set5 : ∀ (fr : FrsS) (i : Nat) (o' : Option (Fr ByteArray)) (a b c d e : Value), i < fr.length → fR o' = [a, b, c, d, e] →
    (((((fr.flatMap fR).set (i * 5) a).set (i * 5 + 1) b).set (i * 5 + 2) c).set (i * 5 + 3) d).set (i * 5 + 4) e = (fr.set i o').flatMap fR
  | [], i, _, _, _, _, _, _, h, _ => by simp at h
  | x :: r, 0, o', a, b, c, d, e, _, ho => by
    obtain ⟨x0, x1, x2, x3, x4, hx⟩ : ∃ x0 x1 x2 x3 x4, fR x = [x0, x1, x2, x3, x4] := by cases x <;> exact ⟨_, _, _, _, _, rfl⟩
    simp [List.flatMap_cons, hx, ho]
  | x :: r, i + 1, o', a, b, c, d, e, h, ho => by
    have ih := fm_set5 r i o' a b c d e (by simpa using h) ho
    have hl := fR_len x
    have sh : ∀ (k : Nat) (l : List Value) (v : Value), (fR x ++ l).set ((i + 1) * 5 + k) v = fR x ++ l.set (i * 5 + k) v := by
      intro k l v
      rw [List.set_append, if_neg (by omega), hl, show (i + 1) * 5 + k - 5 = i * 5 + k by omega]
    have sh0 : ∀ (l : List Value) (v : Value), (fR x ++ l).set ((i + 1) * 5) v = fR x ++ l.set (i * 5) v := fun l v => sh 0 l v
    rw [List.flatMap_cons, sh0, sh, sh, sh, sh, List.set_cons_succ, List.flatMap_cons, ← ih]
theorem refA_set5 {fr : FrsS} {i : Nat} (o' : Option (Fr ByteArray)) {a b c d e : Value} (h : i < fr.length) (ho : fR o' = [a, b, c, d, e]) :
    (((((refA fr).setIfInBounds (i * 5) a).setIfInBounds (i * 5 + 1) b).setIfInBounds (i * 5 + 2) c).setIfInBounds (i * 5 + 3) d).setIfInBounds (i * 5 + 4) e = refA (fr.set i o') := by
  simp only [refA, List.setIfInBounds_toArray, fm_set5 fr i o' a b c d e h ho]
theorem refA_made (n : Nat) : madeCells #[.bool false, kI 0, kS ⟨#[]⟩, kI 0, .bool false] (n * 5) = refA (List.replicate n none) := by
  have key : ∀ n : Nat, (List.range (n * 5)).map (fun i => (#[Value.bool false, kI 0, kS ⟨#[]⟩, kI 0, .bool false] : Array Value)[i % 5]!) = (List.replicate n (none : Option (Fr ByteArray))).flatMap fR := by
    intro n
    induction n with
    | zero => rfl
    | succ n ih =>
      rw [show (n + 1) * 5 = n * 5 + 1 + 1 + 1 + 1 + 1 by omega, List.range_succ, List.range_succ, List.range_succ, List.range_succ, List.range_succ, List.replicate_succ', List.flatMap_append]
      simp only [List.map_append, ih, List.map_cons, List.map_nil, List.append_assoc, List.flatMap_cons, List.flatMap_nil, List.append_nil]
      congr 1
      have h0 : n * 5 % 5 = 0 := by omega
      have h1 : (n * 5 + 1) % 5 = 1 := by omega
      have h2 : (n * 5 + 1 + 1) % 5 = 2 := by omega
      have h3 : (n * 5 + 1 + 1 + 1) % 5 = 3 := by omega
      have h4 : (n * 5 + 1 + 1 + 1 + 1) % 5 = 4 := by omega
      rw [h0, h1, h2, h3, h4]
      rfl
  apply Array.toList_inj.1
  unfold madeCells refA
  rw [← key n]
  simp
/-- The document's ring at block ub. -/
def RefF (ub g : Nat) (fr : FrsS) (hand : Nat) (F : Heaplet) (w : World) : Prop :=
  (0 < fr.length ∧ fr.length ≤ 64 ∧ hand < fr.length) ∧
    Sat w (.blk ub (.cells #[.slice (some ⟨g, 0, none⟩) fr.length fr.length, kI hand] 106) :: .blk g (.cells (refA fr) 64) :: F)
def RefIs (ub : Nat) (fr : FrsS) (hand : Nat) (F : Heaplet) (w : World) : Prop := ∃ g, RefF ub g fr hand F w
section
variable {ub g : Nat} {fr : FrsS} {hand : Nat} {F : Heaplet} {w : World}
theorem RefF.is (h : RefF ub g fr hand F w) : RefIs ub fr hand F w := ⟨g, h⟩
theorem RefF.frame (h : RefF ub g fr hand F w) : Sat w F := h.2.tail.tail
theorem RefF.head (h : RefF ub g fr hand F w) : w.cell? ⟨ub, 0, none⟩ = some (.slice (some ⟨g, 0, none⟩) fr.length fr.length) ∧ w.cell? ⟨ub, 1, none⟩ = some (kI hand) ∧ w.frozen? ⟨ub, 1, none⟩ = false := by
  refine ⟨?_, ?_, unfrozen_of h.2.h0 1⟩
  · rw [cell_of h.2.h0]; rfl
  · rw [cell_of h.2.h0]; rfl
theorem RefF.cell (h : RefF ub g fr hand F w) {i j : Nat} {o : Option (Fr ByteArray)} {u : Value} (ho : fr[i]? = some o) (hu : (fR o)[j]? = some u) : w.cell? ⟨g, i * 5 + j, none⟩ = some u := by
  rw [cell_of h.2.h1]; exact refA_get ho hu
theorem RefF.unfrozen (h : RefF ub g fr hand F w) (i : Nat) : w.frozen? ⟨g, i, none⟩ = false := unfrozen_of h.2.h1 i
theorem RefF.of_heap {w' : World} (h : RefF ub g fr hand F w) (e : w'.heap = w.heap) (q : Quiet w w') : RefF ub g fr hand F w' := ⟨h.1, h.2.of_heap e q⟩
theorem RefF.drewN (h : RefF ub g fr hand F w) (n : Nat) : RefF ub g fr hand F (w.drewN n) := ⟨h.1, h.2.of_heap rfl ⟨rfl, rfl, rfl⟩⟩
theorem RefF.drew (h : RefF ub g fr hand F w) : RefF ub g fr hand F w.drew := ⟨h.1, h.2.drew⟩
theorem RefF.new (h : RefF ub g fr hand F w) (o : Obj) : RefF ub g fr hand (.blk w.heap.size o :: F) (w.alloc o) := by
  refine ⟨h.1, ?_⟩
  have := h.2.new o
  exact this.unrot3
theorem RefF.unF {x : HItem} (h : RefF ub g fr hand (x :: F) w) : RefF ub g fr hand F w := ⟨h.1, h.2.rot3.tail⟩
/-- A field turns. -/
theorem RefF.set (h : RefF ub g fr hand F w) {i j : Nat} {o : Option (Fr ByteArray)} (o' : Option (Fr ByteArray)) {u : Value} (ho : fr[i]? = some o) (hj : j < 5) (e : (fR o).set j u = fR o') : RefF ub g (fr.set i o') hand F (w.setCell ⟨g, i * 5 + j, none⟩ u) := by
  refine ⟨by rw [List.length_set]; exact h.1, ?_⟩
  have := (h.2.swap.setCell (i := i * 5 + j) u).swap
  rw [refA_set ho hj e] at this
  rw [List.length_set]
  exact this
/-- A frame turns as a whole. -/
theorem RefF.set5 (h : RefF ub g fr hand F w) {i : Nat} (o' : Option (Fr ByteArray)) {a b c d e : Value} (hi : i < fr.length) (ho : fR o' = [a, b, c, d, e]) :
    RefF ub g (fr.set i o') hand F (((((w.setCell ⟨g, i * 5, none⟩ a).setCell ⟨g, i * 5 + 1, none⟩ b).setCell ⟨g, i * 5 + 2, none⟩ c).setCell ⟨g, i * 5 + 3, none⟩ d).setCell ⟨g, i * 5 + 4, none⟩ e) := by
  refine ⟨by rw [List.length_set]; exact h.1, ?_⟩
  have := (((((h.2.swap.setCell (i := i * 5) a).setCell (i := i * 5 + 1) b).setCell (i := i * 5 + 2) c).setCell (i := i * 5 + 3) d).setCell (i := i * 5 + 4) e).swap
  rw [refA_set5 o' hi ho] at this
  rw [List.length_set]
  exact this
/-- The hand goes on. -/
theorem RefF.on (h : RefF ub g fr hand F w) {hand' : Nat} (hl : hand' < fr.length) : RefF ub g fr hand' F (w.setCell ⟨ub, 1, none⟩ (kI hand')) :=
  ⟨⟨h.1.1, h.1.2.1, hl⟩, h.2.setCell (i := 1) (kI hand')⟩
end
/-! ### plain -/
theorem idxK_at {k : Int} : ∀ {ks : List (Option Int)} {i : Nat}, (∀ j, j < i → ks[j]? ≠ some (some k)) → ks[i]? = some (some k) → idxK k ks = some i
  | [], i, _, h => by simp at h
  | o :: r, 0, _, h => by
    simp only [List.getElem?_cons_zero, Option.some.injEq] at h
    rw [idxK, if_pos h]
  | o :: r, i + 1, hn, h => by
    have h0 : o ≠ some k := fun e => hn 0 (by omega) (by rw [e]; rfl)
    have ih := idxK_at (k := k) (ks := r) (i := i) (fun j hj => by simpa using hn (j + 1) (by omega)) (by simpa using h)
    rw [idxK, if_neg h0, ih]; rfl
theorem idxK_no {k : Int} {ks : List (Option Int)} (h : ∀ j, j < ks.length → ks[j]? ≠ some (some k)) : idxK k ks = none := idxK_none.2 fun m => by
  obtain ⟨i, hi, e⟩ := List.getElem_of_mem m
  exact h i hi (by rw [List.getElem?_eq_getElem hi, e])
theorem vacM_at {X : Type} : ∀ {fr : Frs X} {i : Nat}, (∀ j, j < i → fr[j]? ≠ some none) → fr[i]? = some none → vacM fr = some i
  | [], i, _, h => by simp at h
  | none :: r, 0, _, _ => rfl
  | some f :: r, 0, _, h => by simp at h
  | o :: r, i + 1, hn, h => by
    cases o with
    | none => exact absurd rfl (hn 0 (by omega))
    | some f =>
      have ih := vacM_at (fr := r) (i := i) (fun j hj => by simpa using hn (j + 1) (by omega)) (by simpa using h)
      simp [vacM, ih]
theorem vacM_no {X : Type} : ∀ {fr : Frs X}, (∀ j, j < fr.length → fr[j]? ≠ some none) → vacM fr = none
  | [], _ => rfl
  | o :: r, hn => by
    cases o with
    | none => exact absurd rfl (hn 0 (by simp))
    | some f =>
      have ih := vacM_no (fr := r) (fun j hj => by simpa using hn (j + 1) (by simpa using hj))
      simp [vacM, ih]
/-- How many are pinned. -/
def pinB : Option (Fr ByteArray) → Bool
  | some f => decide (0 < f.pins)
  | none => false
def heldM (fr : FrsS) : Nat := (fr.filter pinB).length
theorem heldM_le (fr : FrsS) : heldM fr ≤ fr.length := List.length_filter_le _ _
theorem heldM_step {fr : FrsS} {i : Nat} {o : Option (Fr ByteArray)} (h : fr[i]? = some o) : heldM (fr.take (i + 1)) = heldM (fr.take i) + (if pinB o then 1 else 0) := by
  unfold heldM
  rw [List.take_add_one, h, List.filter_append, List.length_append]
  cases hp : pinB o <;> simp [hp]
theorem held_pinned : ∀ {fr : FrsS}, (∀ (i : Nat) f, fr[i]? = some (some f) → 0 ≤ f.pins) → (heldM fr = fr.length ↔ pinnedM fr = true)
  | [], _ => by simp [heldM, pinnedM]
  | none :: r, h => by
    have := heldM_le r
    have e : heldM (none :: r) = heldM r := rfl
    rw [e]
    simp [pinnedM]
    omega
  | some f :: r, h => by
    have hp := h 0 f rfl
    have ih := held_pinned (fr := r) (fun i g hg => h (i + 1) g (by simpa using hg))
    have hle := heldM_le r
    by_cases h0 : 0 < f.pins
    · have e : heldM (some f :: r) = heldM r + 1 := by unfold heldM; rw [List.filter_cons, if_pos (by simpa [pinB] using h0)]; rfl
      have hne : (f.pins != 0) = true := by simp; omega
      rw [e, pinnedM, hne, Bool.true_and, ← ih]
      simp
    · have e : heldM (some f :: r) = heldM r := by unfold heldM; rw [List.filter_cons, if_neg (by simpa [pinB] using h0)]
      have hne : (f.pins != 0) = false := by simp; omega
      rw [e, pinnedM, hne, Bool.false_and]
      simp
      omega
end Go.Proofs.Ytbjomkbiljpjmaa
