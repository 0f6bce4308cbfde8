/- What LatchExact's loop holds of the locks, in plain data. Conditions: none. -/
import Derived.Test.YtcndmiepbodpnaaRef7
namespace Go.Proofs.Ytcndmiepbodpnaa
open Go Go.MapKept Go.RowKit Go.Proofs

/-- The pages are ints, the locks are in order, there are at most n. -/
structure ExI (D : Lks) (n : Nat) : Prop where
  bd : ∀ q ∈ D, -9223372036854775808 ≤ q.1 ∧ q.1 ≤ 9223372036854775807
  good : GoodL D
  nd : (D.map (·.1)).Nodup
  len : D.length ≤ n
theorem ExI.nil : ExI [] 0 := ⟨by simp, (fun p k h => by simp [getL] at h), by simp, by simp⟩
theorem ExI.mono {D : Lks} {n : Nat} (h : ExI D n) : ExI D (n + 1) := ⟨h.bd, h.good, h.nd, Nat.le_succ_of_le h.len⟩
theorem ExI.put {D : Lks} {n : Nat} (h : ExI D n) {p : Int} {k : Lk} (h0 : -9223372036854775808 ≤ p) (h1 : p ≤ 9223372036854775807) (hk : k.good) : ExI (putL p k D) (n + 1) := by
  refine ⟨fun q hq => ?_, fun j u hu => ?_, nodup_putL p k h.nd, Nat.le_trans (len_put ..) (Nat.succ_le_succ h.len)⟩
  · rcases mem_put hq with rfl | hq
    · exact ⟨h0, h1⟩
    · exact h.bd q hq
  · rw [getL_putL] at hu
    by_cases e : j = p
    · rw [if_pos e] at hu
      cases hu; exact hk
    · rw [if_neg e] at hu
      exact h.good j u hu
theorem ExI.del {D : Lks} {n : Nat} (h : ExI D n) (p : Int) : ExI (delL p D) (n + 1) := by
  refine ⟨fun q hq => h.bd q (mem_del hq), fun j u hu => ?_, nodup_delL p h.nd, Nat.le_succ_of_le (Nat.le_trans (len_del p D) h.len)⟩
  rw [getL_delL p j D h.nd] at hu
  by_cases e : j = p
  · rw [if_pos e] at hu; cases hu
  · rw [if_neg e] at hu; exact h.good j u hu
theorem good_new (x : Bool) : (⟨x, 0, 0⟩ : Lk).good := ⟨.inl rfl, .inl rfl⟩
theorem ExI.grant {D : Lks} {n : Nat} (h : ExI D n) {p : Int} (h0 : -9223372036854775808 ≤ p) (h1 : p ≤ 9223372036854775807) (x : Bool) : ExI (grantM D p x) (n + 1) := by
  unfold grantM
  refine h.put h0 h1 ?_
  cases hk : getL p D with
  | none => exact good_new x
  | some k => exact ⟨(h.good p k hk).1, (h.good p k hk).2⟩
theorem ExI.use {D : Lks} {n : Nat} (h : ExI D n) {p : Int} (h0 : -9223372036854775808 ≤ p) (h1 : p ≤ 9223372036854775807) (x : Bool) : ExI (useM D p x).2 (n + 1) := by
  unfold useM
  cases hasM D p x with
  | false => exact h.mono
  | true =>
    simp only [if_true]
    cases hk : getL p D with
    | none => exact h.mono
    | some k =>
      obtain ⟨g1, g2⟩ := h.good p k hk
      refine h.put h0 h1 ⟨?_, g2⟩
      unfold useK
      cases x
      · simp only [Bool.false_eq_true, if_false]; omega
      · exact .inr (.inr rfl)
theorem ExI.call {D : Lks} {n : Nat} (h : ExI D n) {p : Int} (h0 : -9223372036854775808 ≤ p) (h1 : p ≤ 9223372036854775807) (a : Bool) : ExI (callM D p a).2 (n + 1) := by
  unfold callM
  cases hk : getL p D with
  | none => exact h.mono
  | some k =>
    obtain ⟨g1, g2⟩ := h.good p k hk
    simp only
    split
    · exact h.mono
    · split
      · exact h.put h0 h1 ⟨g1, .inr (.inr rfl)⟩
      · split
        · exact h.del p
        · split
          · refine h.put h0 h1 ⟨g1, ?_⟩
            show max k.wait 1 = 0 ∨ max k.wait 1 = 1 ∨ max k.wait 1 = 2
            omega
          · exact h.put h0 h1 ⟨g1, g2⟩
theorem ExI.fin {D : Lks} {n : Nat} (h : ExI D n) : ExI (endM D).2 (n + 1) := by
  show ExI (endS (D.map (·.1)) D) (n + 1)
  refine ⟨fun q hq => ?_, fun p k hk => ?_, endS_keys _ _ h.nd, ?_⟩
  · have hm : q.1 ∈ (endS (D.map (·.1)) D).map (·.1) := List.mem_map.2 ⟨q, hq, rfl⟩
    obtain ⟨u, hu, e⟩ := List.mem_map.1 ((endS_sub _ D).subset hm)
    rw [← e]; exact h.bd u hu
  · rw [getL_endS _ _ _ h.nd] at hk
    split at hk
    · cases hd : getL p D with
      | none => rw [hd] at hk; cases hk
      | some u =>
        rw [hd] at hk
        have hk : endK u = some k := hk
        unfold endK at hk
        split at hk
        · cases hk
        · split at hk
          · rename_i h0
            cases hk
            exact ⟨.inl rfl, .inl h0⟩
          · cases hk; exact ⟨.inl rfl, .inl rfl⟩
    · exact h.good p k hk
  · have := List.length_filterMap_le (fun q : Int × Lk => if q.1 ∈ D.map (·.1) then (endK q.2).map fun k => (q.1, k) else some q) D
    exact Nat.le_succ_of_le (Nat.le_trans this h.len)
theorem Twin.good {D R : Lks} (h : Twin D R) (g : GoodL D) : GoodL R := fun p k hk => g p k (by rw [← h.eq]; exact hk)
end Go.Proofs.Ytcndmiepbodpnaa
