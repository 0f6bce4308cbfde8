/- What LatchKeeps holds of the locks, in plain data. Conditions: none. -/
import Derived.Test.YtcndmiepbodpnaaIdle
namespace Go.Proofs.Ytcndmiepbodpnaa
open Go Go.MapKept Go.RowKit Go.Proofs

def LkOk (k : Lk) : Prop := (k.used = 0 ∨ k.used = 1 ∨ k.used = 2) ∧ (k.wait = 0 ∨ k.wait = 1 ∨ k.wait = 2) ∧ (k.wait ≠ 0 → k.used ≠ 0) ∧ (k.used = 2 → k.x = true)
structure LInv (D : Lks) : Prop where
  keys : ∀ q ∈ D, 0 ≤ q.1 ∧ q.1 < 6
  nd : (D.map (·.1)).Nodup
  ok : ∀ p k, getL p D = some k → LkOk k
def owesB (D : Lks) (p : Int) : Bool := match getL p D with | some k => k.wait != 0 | none => false
theorem linv_nil : LInv [] := ⟨by simp, by simp, fun p k h => by cases h⟩
theorem LInv.put {D : Lks} (h : LInv D) {p : Int} (h0 : 0 ≤ p) (h1 : p < 6) {k : Lk} (hk : LkOk k) : LInv (putL p k D) := by
  refine ⟨fun q hq => ?_, nodup_putL p k h.nd, fun j u hu => ?_⟩
  · rcases mem_put hq with rfl | hq
    · exact ⟨h0, h1⟩
    · exact h.keys q hq
  · rw [getL_putL] at hu
    by_cases e : j = p
    · rw [if_pos e] at hu
      cases hu; exact hk
    · rw [if_neg e] at hu
      exact h.ok j u hu
theorem LInv.del {D : Lks} (h : LInv D) (p : Int) : LInv (delL p D) := by
  refine ⟨fun q hq => h.keys q (mem_del hq), nodup_delL p h.nd, fun j u hu => ?_⟩
  rw [getL_delL p j D h.nd] at hu
  by_cases e : j = p
  · rw [if_pos e] at hu; cases hu
  · rw [if_neg e] at hu; exact h.ok j u hu
theorem used_put (p j : Int) (k : Lk) (D : Lks) : usedM (putL p k D) j = if j = p then k.used else usedM D j := by
  unfold usedM
  rw [getL_putL]
  by_cases e : j = p <;> simp [e]
theorem owes_put (p j : Int) (k : Lk) (D : Lks) : owesB (putL p k D) j = if j = p then k.wait != 0 else owesB D j := by
  unfold owesB
  rw [getL_putL]
  by_cases e : j = p <;> simp [e]
theorem keeps_grant {D : Lks} (h : LInv D) {p : Int} (h0 : 0 ≤ p) (h1 : p < 6) (x : Bool) :
    LInv (grantM D p (x || usedM D p == 2)) ∧ (∀ j, usedM (grantM D p (x || usedM D p == 2)) j = usedM D j) ∧ ∀ j, owesB (grantM D p (x || usedM D p == 2)) j = owesB D j := by
  unfold grantM
  cases hk : getL p D with
  | none =>
    refine ⟨h.put h0 h1 ?_, fun j => ?_, fun j => ?_⟩
    · exact ⟨.inl rfl, .inl rfl, fun e => absurd rfl e, fun e => by simp at e⟩
    · rw [used_put]
      by_cases e : j = p
      · subst e; simp [usedM, hk]
      · rw [if_neg e]
    · rw [owes_put]
      by_cases e : j = p
      · subst e; simp [owesB, hk]
      · rw [if_neg e]
  | some k =>
    have hok := h.ok p k hk
    refine ⟨h.put h0 h1 ?_, fun j => ?_, fun j => ?_⟩
    · refine ⟨hok.1, hok.2.1, hok.2.2.1, fun e => ?_⟩
      have : usedM D p = 2 := by simp only [usedM, hk]; exact e
      simp [this]
    · rw [used_put]
      by_cases e : j = p
      · subst e; simp [usedM, hk]
      · rw [if_neg e]
    · rw [owes_put]
      by_cases e : j = p
      · subst e; simp [owesB, hk]
      · rw [if_neg e]
/-- What is needed behind a Use. -/
def needU (D : Lks) (p : Int) (x : Bool) : Int := if x then 2 else max (usedM D p) 1
theorem keeps_use {D : Lks} (h : LInv D) {p : Int} (h0 : 0 ≤ p) (h1 : p < 6) (x : Bool) :
    LInv (useM D p x).2 ∧ (∀ j, usedM (useM D p x).2 j = if (useM D p x).1 = 0 ∧ j = p then needU D p x else usedM D j) ∧ (∀ j, owesB (useM D p x).2 j = owesB D j) ∧ ((useM D p x).1 = 0 ∨ (useM D p x).1 = 12) := by
  unfold useM
  cases hx : hasM D p x with
  | false => exact ⟨h, fun j => by simp, fun j => rfl, .inr rfl⟩
  | true =>
    unfold hasM at hx
    cases hk : getL p D with
    | none => rw [hk] at hx; cases hx
    | some k =>
      rw [hk] at hx
      have hok := h.ok p k hk
      simp only [if_true]
      refine ⟨h.put h0 h1 ?_, fun j => ?_, fun j => ?_, .inl trivial⟩
      · obtain ⟨q1, q2, q3, q4⟩ := hok
        unfold useK
        cases x
        · refine ⟨?_, q2, fun _ => ?_, fun e => ?_⟩
          · simp only [Bool.false_eq_true, if_false]; omega
          · simp only [Bool.false_eq_true, if_false]; omega
          · simp only [Bool.false_eq_true, if_false] at e
            exact q4 (by omega)
        · refine ⟨.inr (.inr rfl), q2, fun _ => by simp, fun _ => ?_⟩
          simpa using hx
      · rw [used_put]
        by_cases e : j = p
        · subst e
          simp only [true_and, if_true, useK, needU, usedM, hk]
        · simp [e]
      · rw [owes_put]
        by_cases e : j = p
        · subst e
          simp [owesB, hk, useK]
        · simp [e]
theorem keeps_call {D : Lks} (h : LInv D) {p : Int} (h0 : 0 ≤ p) (h1 : p < 6) (a : Bool) :
    LInv (callM D p a).2 ∧ (∀ j, usedM (callM D p a).2 j = usedM D j) ∧ (∀ j, owesB (callM D p a).2 j = (owesB D j || ((callM D p a).1 == 3 && j == p))) ∧
    ((callM D p a).1 = 0 ∨ ((callM D p a).1 = 1 ∧ usedM D p = 0) ∨ ((callM D p a).1 = 2 ∧ usedM D p ≠ 2) ∨ ((callM D p a).1 = 3 ∧ usedM D p ≠ 0)) := by
  unfold callM
  cases hk : getL p D with
  | none => exact ⟨h, fun _ => rfl, fun j => by simp, .inl rfl⟩
  | some k =>
    have hok := h.ok p k hk
    have hu : usedM D p = k.used := by simp [usedM, hk]
    have ho : owesB D p = (k.wait != 0) := by simp [owesB, hk]
    obtain ⟨kx, ku, kw⟩ := k
    obtain ⟨q1, q2, q3, q4⟩ := hok
    simp only at q1 q2 q3 q4 hu ho
    cases a with
    | true =>
      by_cases hp : 0 < ku
      · have e : ((!true && !kx : Bool)) = false := rfl
        simp only [Bool.not_true, Bool.false_and, Bool.false_eq_true, if_false, hp, decide_true, Bool.and_self, if_true]
        refine ⟨h.put h0 h1 ⟨q1, .inr (.inr rfl), fun _ => by show ku ≠ 0; omega, q4⟩, fun j => ?_, fun j => ?_, .inr (.inr (.inr ⟨trivial, by omega⟩))⟩
        · rw [used_put]
          by_cases e : j = p
          · subst e; simp [hu]
          · simp [e]
        · rw [owes_put]
          by_cases e : j = p
          · subst e; simp
          · simp [e]
      · have hz : ku = 0 := by omega
        subst hz
        have hw : kw = 0 := by
          by_cases e : kw = 0
          · exact e
          · exact absurd rfl (q3 e)
        subst hw
        simp only [Bool.not_true, Bool.false_and, Bool.false_eq_true, if_false, Int.lt_irrefl, decide_false, Bool.and_false, if_true]
        refine ⟨h.del p, fun j => ?_, fun j => ?_, .inr (.inl ⟨trivial, hu⟩)⟩
        · unfold usedM
          rw [getL_delL p j D h.nd]
          by_cases e : j = p
          · subst e; simp [hk]
          · simp [e]
        · unfold owesB
          rw [getL_delL p j D h.nd]
          by_cases e : j = p
          · subst e; simp [hk]
          · simp [e]
    | false =>
      cases kx with
      | false => exact ⟨by simpa using h, fun j => by simp, fun j => by simp, .inl (by simp)⟩
      | true =>
        by_cases h2 : ku = 2
        · subst h2
          simp only [Bool.not_false, Bool.not_true, Bool.and_false, Bool.false_eq_true, if_false, Bool.false_and, if_true]
          refine ⟨h.put h0 h1 ⟨.inr (.inr rfl), ?_, fun _ => by simp, fun _ => rfl⟩, fun j => ?_, fun j => ?_, .inr (.inr (.inr ⟨trivial, by omega⟩))⟩
          · show max kw 1 = 0 ∨ max kw 1 = 1 ∨ max kw 1 = 2
            omega
          · rw [used_put]
            by_cases e : j = p
            · subst e; simp [hu]
            · simp [e]
          · rw [owes_put]
            by_cases e : j = p
            · subst e
              have : ¬ max kw 1 = 0 := by omega
              simp [this]
            · simp [e]
        · simp only [Bool.not_false, Bool.not_true, Bool.and_false, Bool.false_eq_true, if_false, Bool.false_and, h2]
          refine ⟨h.put h0 h1 ⟨q1, q2, q3, fun e => absurd e h2⟩, fun j => ?_, fun j => ?_, .inr (.inr (.inl ⟨trivial, by omega⟩))⟩
          · rw [used_put]
            by_cases e : j = p
            · subst e; simp [hu]
            · simp [e]
          · rw [owes_put]
            by_cases e : j = p
            · subst e; simp [ho]
            · simp [e]
theorem keeps_check {D : Lks} (h : LInv D) (p : Int) (hu : 0 < usedM D p) : hasM D p (usedM D p == 2) = true := by
  unfold usedM hasM at *
  cases hk : getL p D with
  | none => rw [hk] at hu; simp at hu
  | some k =>
    have hok := h.ok p k hk
    simp only
    by_cases e : k.used = 2
    · have := hok.2.2.2 e
      simp [this]
    · have : (k.used == 2) = false := by simpa using e
      simp [this]
end Go.Proofs.Ytcndmiepbodpnaa
