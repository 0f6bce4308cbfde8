/- What the document's functions compute, step by step: in plain data. Conditions: none. -/
import Derived.Test.YtieaamlpadlfeaaGreatDoorTo6
namespace Go.Proofs.YtieaamlpadlfeaaGreatDoor
open Go

/-- A digit's worth, as the document reads it; -1: it is none. -/
def valR (c : UInt8) : Int := if 48 ≤ c.toNat ∧ c.toNat ≤ 57 then (c.toNat : Int) - 48 else if 65 ≤ c.toNat ∧ c.toNat ≤ 70 then (c.toNat : Int) - 55 else -1
theorem valR_hex : ∀ n, n < 16 → valR (hexB n) = (n : Int) := by decide +kernel
theorem valR_bds (c : UInt8) : -1 ≤ valR c ∧ valR c ≤ 15 := by
  unfold valR
  split
  · omega
  · split <;> omega
theorem valR_at (c : UInt8) (h : 0 ≤ valR c) : hexB (valR c).toNat = c := by
  have : ∀ n, n < 256 → 0 ≤ valR (UInt8.ofNat n) → hexB (valR (UInt8.ofNat n)).toNat = UInt8.ofNat n := by decide +kernel
  have h2 := this c.toNat c.toNat_lt
  rw [UInt8.ofNat_toNat] at h2
  exact h2 h
/-- Numbers as digits, one by one. -/
theorem itoa_neg {n : Int} (h : n < 0) : Lib.itoa n = 45 :: Lib.itoa (-n) := by
  conv => lhs; unfold Lib.itoa
  conv => rhs; unfold Lib.itoa
  rw [if_pos h, if_neg (by omega)]
  congr 2
  omega
theorem itoa_more {n : Int} (h : 10 ≤ n) : Lib.itoa n = Lib.itoa (n / 10) ++ [UInt8.ofNat (48 + (n % 10).toNat)] := by
  conv => lhs; unfold Lib.itoa
  conv => rhs; unfold Lib.itoa
  rw [if_neg (by omega), if_neg (by omega), Lib.decDigits, dif_neg (by omega)]
  congr 2
  · congr 1
    omega
  · congr 2
    omega
theorem itoa_small {n : Int} (h0 : 0 ≤ n) (h : n < 10) : Lib.itoa n = [UInt8.ofNat (48 + n.toNat)] := by
  unfold Lib.itoa
  rw [if_neg (by omega), Lib.decDigits, dif_pos (by omega)]
/-- The digits of a word, so far. -/
def DigI (t : Bs) (i : Nat) (u : Nat) : Prop := i ≤ t.length ∧ (∀ c ∈ t.take i, digD c) ∧ u = valD (t.take i)
theorem DigI.start (t : Bs) : DigI t 0 0 := ⟨by omega, by simp, by simp [valD]⟩
theorem DigI.more {t : Bs} {i u : Nat} (h : DigI t i u) {c : UInt8} (hc : t[i]? = some c) (hd : digD c) : DigI t (i + 1) (10 * u + (c.toNat - 48)) := by
  obtain ⟨h1, h2, rfl⟩ := h
  have hl := (List.getElem?_eq_some_iff.1 hc).1
  refine ⟨by omega, ?_, ?_⟩
  · rw [List.take_add_one, hc]
    intro d hd'
    rcases List.mem_append.1 hd' with hd' | hd'
    · exact h2 d hd'
    · simp only [Option.toList_some, List.mem_singleton] at hd'
      subst hd'
      exact hd
  · rw [List.take_add_one, hc]
    simp only [Option.toList_some]
    rw [valD_snoc]
theorem DigI.lt {t : Bs} {i u : Nat} (h : DigI t i u) : u < 10 ^ i := by
  obtain ⟨h1, h2, rfl⟩ := h
  exact valD_lt i _ (by rw [List.length_take]; omega) h2
theorem DigI.bad {t : Bs} {i : Nat} {c : UInt8} (hc : t[i]? = some c) (hd : ¬ digD c) : ¬ ∀ c ∈ t, digD c := fun h => hd (h c (List.mem_of_getElem? hc))
theorem DigI.done {t : Bs} {u : Nat} (h : DigI t t.length u) : (∀ c ∈ t, digD c) ∧ u = valD t := by
  obtain ⟨h1, h2, h3⟩ := h
  rw [List.take_length] at h2 h3
  exact ⟨h2, h3⟩
/-- The place of a word. -/
theorem kindOf_at {names : List Bs} {w : Bs} {j : Nat} (h : names[j]? = some w) (hn : w ∉ names.take j) : kindOf names w = j + 1 := by
  have hj := (List.getElem?_eq_some_iff.1 h).1
  have hm : w ∈ names := List.mem_of_getElem? h
  have e : names = names.take j ++ w :: names.drop (j + 1) := by
    conv => lhs; rw [← List.take_append_drop j names]
    rw [List.drop_eq_getElem_cons hj]
    rw [List.getElem?_eq_getElem hj] at h
    cases h
    rfl
  unfold kindOf
  rw [if_pos hm]
  congr 1
  rw [e, List.idxOf_append, if_neg hn, List.idxOf_cons_self, List.length_take]
  omega
theorem kindOf_none {names : List Bs} {w : Bs} (hn : w ∉ names) : kindOf names w = 0 := by
  unfold kindOf
  rw [if_neg hn]
theorem not_more {names : List Bs} {w x : Bs} {j : Nat} (hn : w ∉ names.take j) (h : names[j]? = some x) (hx : x ≠ w) : w ∉ names.take (j + 1) := by
  rw [List.take_add_one, h]
  simp only [Option.toList_some, List.mem_append, List.mem_singleton, not_or]
  exact ⟨hn, fun e => hx e.symm⟩
/-- Numbers of words, so far. -/
theorem nums_more {l : List Bs} {i : Nat} {out : List Int} {w : Bs} (h : numsS l = (numsS (l.drop i)).map (out ++ ·)) (hw : l[i]? = some w) : (∀ n, numS w = some n → numsS l = (numsS (l.drop (i + 1))).map ((out ++ [n]) ++ ·)) ∧ (numS w = none → numsS l = none) := by
  have hl := (List.getElem?_eq_some_iff.1 hw).1
  have e : l.drop i = w :: l.drop (i + 1) := by
    rw [List.drop_eq_getElem_cons hl]
    rw [List.getElem?_eq_getElem hl] at hw
    cases hw
    rfl
  rw [e] at h
  simp only [numsS] at h
  constructor
  · intro n hn
    rw [hn, Option.bind_some, Option.map_map] at h
    rw [h]
    congr 1
    funext x
    simp
  · intro hn
    rw [hn] at h
    exact h
theorem nums_done {l : List Bs} {out : List Int} (h : numsS l = (numsS (l.drop l.length)).map (out ++ ·)) : numsS l = some out := by
  rw [h, List.drop_length]
  simp [numsS]
/-- A call's words, one by one. -/
theorem fill_more {f : Bs} {t : List Bs} {i : Nat} {c : UInt8} {w : Bs} {x : CallM} (hf : f[i]? = some c) (hw : t[i]? = some w) : fillR (f.drop i) (t.drop i) x = if c = 100 then (textS w).bind fun s => fillR (f.drop (i + 1)) (t.drop (i + 1)) { x with data := s } else (numS w).bind fun n => if c = 112 then fillR (f.drop (i + 1)) (t.drop (i + 1)) { x with page := n } else fillR (f.drop (i + 1)) (t.drop (i + 1)) { x with slot := n } := by
  have h1 := (List.getElem?_eq_some_iff.1 hf).1
  have h2 := (List.getElem?_eq_some_iff.1 hw).1
  have e1 : f.drop i = c :: f.drop (i + 1) := by
    rw [List.drop_eq_getElem_cons h1]
    rw [List.getElem?_eq_getElem h1] at hf
    cases hf
    rfl
  have e2 : t.drop i = w :: t.drop (i + 1) := by
    rw [List.drop_eq_getElem_cons h2]
    rw [List.getElem?_eq_getElem h2] at hw
    cases hw
    rfl
  rw [e1, e2]
  rfl
/-- What the form holds. -/
theorem form_bytes (k : Nat) : ∀ c ∈ formR k, c = 112 ∨ c = 115 ∨ c = 100 := by
  have : ∀ j, j < 10 → ∀ c ∈ formR j, c = 112 ∨ c = 115 ∨ c = 100 := by decide
  by_cases h : k < 10
  · exact this k h
  · have e : formR k = [] := by
      unfold formR
      rw [List.getD_eq_getElem?_getD, List.getElem?_eq_none (by simp; omega)]
      rfl
    rw [e]
    simp
theorem form_len (k : Nat) : (formR k).length ≤ 3 := by
  have : ∀ j, j < 10 → (formR j).length ≤ 3 := by decide
  by_cases h : k < 10
  · exact this k h
  · have e : formR k = [] := by
      unfold formR
      rw [List.getD_eq_getElem?_getD, List.getElem?_eq_none (by simp; omega)]
      rfl
    rw [e]
    simp
end Go.Proofs.YtieaamlpadlfeaaGreatDoor
