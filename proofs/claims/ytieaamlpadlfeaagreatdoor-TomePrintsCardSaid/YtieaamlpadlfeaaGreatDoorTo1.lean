/- Texts as words, numbers as words: in plain data. Conditions: none. -/
import Derived.Lib.AtoiAllCases
import Derived.Lib.ItoaNum
namespace Go.Proofs.YtieaamlpadlfeaaGreatDoor
open Go

abbrev Bs := List UInt8
/-- A byte that stands in a word as it is. -/
def plainB (c : UInt8) : Bool := decide (32 < c.toNat) && decide (c.toNat < 127) && decide (c.toNat ≠ 37)
def hexB (n : Nat) : UInt8 := UInt8.ofNat (if n < 10 then 48 + n else 55 + n)
def wordC (c : UInt8) : Bs := if plainB c then [c] else [37, hexB (c.toNat / 16), hexB (c.toNat % 16)]
/-- A text as a word. -/
def wordL (s : Bs) : Bs := if s = [] then [37] else s.flatMap wordC
theorem hexB_inj : ∀ n, n < 16 → ∀ m, m < 16 → hexB n = hexB m → n = m := by decide
theorem hexB_bds : ∀ n, n < 16 → 33 ≤ (hexB n).toNat ∧ (hexB n).toNat ≤ 126 := by decide
theorem wordC_ne (c : UInt8) : wordC c ≠ [] := by unfold wordC; split <;> simp
theorem plainB_ne {c : UInt8} (h : plainB c = true) : c ≠ 37 := by
  rintro rfl
  exact absurd h (by decide)
theorem wordC_inj {c d : UInt8} {a b : Bs} (h : wordC c ++ a = wordC d ++ b) : c = d ∧ a = b := by
  unfold wordC at h
  cases hc : plainB c with
  | true =>
    cases hd : plainB d with
    | true =>
      rw [if_pos hc, if_pos hd] at h
      simpa using h
    | false =>
      rw [if_pos hc, if_neg (by simp [hd])] at h
      simp only [List.cons_append, List.cons.injEq] at h
      exact absurd h.1 (plainB_ne hc)
  | false =>
    cases hd : plainB d with
    | true =>
      rw [if_neg (by simp [hc]), if_pos hd] at h
      simp only [List.cons_append, List.cons.injEq] at h
      exact absurd h.1.symm (plainB_ne hd)
    | false =>
      rw [if_neg (by simp [hc]), if_neg (by simp [hd])] at h
      simp only [List.cons_append, List.nil_append, List.cons.injEq, true_and] at h
      obtain ⟨h1, h2, h3⟩ := h
      have hc2 := c.toNat_lt
      have hd2 := d.toNat_lt
      have e1 := hexB_inj _ (by omega) _ (by omega) h1
      have e2 := hexB_inj _ (by omega) _ (by omega) h2
      exact ⟨UInt8.toNat_inj.1 (by omega), h3⟩
theorem flatW_inj : ∀ {s t : Bs}, s.flatMap wordC = t.flatMap wordC → s = t := by
  intro s
  induction s with
  | nil =>
    intro t h
    cases t with
    | nil => rfl
    | cons d t =>
      rw [List.flatMap_nil, List.flatMap_cons] at h
      exact absurd (List.append_eq_nil_iff.1 h.symm).1 (wordC_ne d)
  | cons c s ih =>
    intro t h
    cases t with
    | nil =>
      rw [List.flatMap_nil, List.flatMap_cons] at h
      exact absurd (List.append_eq_nil_iff.1 h).1 (wordC_ne c)
    | cons d t =>
      rw [List.flatMap_cons, List.flatMap_cons] at h
      obtain ⟨rfl, h2⟩ := wordC_inj h
      rw [ih h2]
theorem flatW_one {s : Bs} (h : s.flatMap wordC = [37]) : False := by
  cases s with
  | nil => cases h
  | cons c s =>
    rw [List.flatMap_cons] at h
    unfold wordC at h
    cases hc : plainB c with
    | true =>
      rw [if_pos hc] at h
      simp only [List.cons_append, List.nil_append, List.cons.injEq] at h
      exact plainB_ne hc h.1
    | false =>
      rw [if_neg (by simp [hc])] at h
      simp at h
theorem wordL_inj {s t : Bs} (h : wordL s = wordL t) : s = t := by
  unfold wordL at h
  by_cases hs : s = []
  · by_cases ht : t = []
    · rw [hs, ht]
    · rw [if_pos hs, if_neg ht] at h
      exact (flatW_one h.symm).elim
  · by_cases ht : t = []
    · rw [if_neg hs, if_pos ht] at h
      exact (flatW_one h).elim
    · rw [if_neg hs, if_neg ht] at h
      exact flatW_inj h
theorem wordC_bds {c x : UInt8} (h : x ∈ wordC c) : 33 ≤ x.toNat ∧ x.toNat ≤ 126 := by
  have hc := c.toNat_lt
  unfold wordC at h
  cases hp : plainB c with
  | true =>
    rw [if_pos hp] at h
    simp only [List.mem_cons, List.not_mem_nil, or_false] at h
    subst h
    simp only [plainB, Bool.and_eq_true, decide_eq_true_eq] at hp
    omega
  | false =>
    rw [if_neg (by simp [hp])] at h
    simp only [List.mem_cons, List.not_mem_nil, or_false] at h
    rcases h with rfl | rfl | rfl
    · decide
    · exact hexB_bds _ (by omega)
    · exact hexB_bds _ (by omega)
theorem wordL_bds {s : Bs} {x : UInt8} (h : x ∈ wordL s) : 33 ≤ x.toNat ∧ x.toNat ≤ 126 := by
  unfold wordL at h
  split at h
  · simp only [List.mem_cons, List.not_mem_nil, or_false] at h
    subst h
    decide
  · obtain ⟨c, _, h2⟩ := List.mem_flatMap.1 h
    exact wordC_bds h2
theorem wordL_ne (s : Bs) : wordL s ≠ [] := by
  unfold wordL
  split
  · simp
  · intro h
    cases s with
    | nil => contradiction
    | cons c s =>
      rw [List.flatMap_cons] at h
      exact wordC_ne c (List.append_eq_nil_iff.1 h).1
open Classical in
/-- The text of a word. -/
noncomputable def textS (w : Bs) : Option Bs := if h : ∃ s, wordL s = w then some h.choose else none
theorem textS_iff {w s : Bs} : textS w = some s ↔ wordL s = w := by
  unfold textS
  constructor
  · intro h
    split at h
    · rename_i hx
      cases h
      exact hx.choose_spec
    · cases h
  · intro h
    rw [dif_pos ⟨s, h⟩]
    congr 1
    exact wordL_inj ((⟨s, h⟩ : ∃ s, wordL s = w).choose_spec.trans h.symm)
theorem textS_none {w : Bs} (h : ∀ s, wordL s ≠ w) : textS w = none := by
  cases e : textS w with
  | none => rfl
  | some s => exact absurd (textS_iff.1 e) (h s)

/-- The number of a word, if it is written as numbers are. -/
def numS (w : Bs) : Option Int := match Lib.atoiAll w with
  | .ok n => if Lib.itoa n = w then some n else none
  | _ => none
abbrev I64 (n : Int) : Prop := -9223372036854775808 ≤ n ∧ n ≤ 9223372036854775807
theorem parse_dec : ∀ (k u : Nat) (r : Bs), u < k → u < 18446744073709551616 → Lib.parseUint10 0 (Lib.decDigits u ++ r) = Lib.parseUint10 u r := by
  intro k
  induction k with
  | zero => intro u r h; omega
  | succ k ih =>
    intro u r hk hu
    rw [Lib.decDigits]
    have hd : ∀ d : Nat, d < 10 → (UInt8.ofNat (48 + d)).toNat = 48 + d := fun d hd => by
      rw [UInt8.toNat_ofNat']
      omega
    by_cases h : u < 10
    · rw [dif_pos h]
      simp only [List.cons_append, List.nil_append]
      rw [Lib.parseUint10]
      rw [hd u h, if_pos ⟨by omega, by omega⟩, if_neg (by omega), if_neg (by omega)]
      congr 1
      omega
    · rw [dif_neg h, List.append_assoc, ih (u / 10) _ (by omega) (by omega)]
      simp only [List.cons_append, List.nil_append]
      rw [Lib.parseUint10]
      rw [hd (u % 10) (by omega), if_pos ⟨by omega, by omega⟩, if_neg (by omega), if_neg (by omega)]
      congr 1
      omega
theorem dec_head (u : Nat) : ∃ d r, Lib.decDigits u = UInt8.ofNat (48 + d) :: r ∧ d < 10 := by
  have : ∀ (k u : Nat), u < k → ∃ d r, Lib.decDigits u = UInt8.ofNat (48 + d) :: r ∧ d < 10 := by
    intro k
    induction k with
    | zero => intro u h; omega
    | succ k ih =>
      intro u hk
      rw [Lib.decDigits]
      by_cases h : u < 10
      · rw [dif_pos h]; exact ⟨u, [], rfl, h⟩
      · rw [dif_neg h]
        obtain ⟨d, r, e, hd⟩ := ih (u / 10) (by omega)
        rw [e]
        exact ⟨d, _, rfl, hd⟩
  exact this (u + 1) u (by omega)
theorem parse_mag (u : Nat) (h : u < 18446744073709551616) : Lib.parseMag (Lib.decDigits u) = .ok u := by
  unfold Lib.parseMag
  have hne : Lib.decDigits u ≠ [] := by
    obtain ⟨d, r, e, _⟩ := dec_head u
    rw [e]; simp
  rw [if_neg hne]
  have := parse_dec (u + 1) u [] (by omega) h
  rw [List.append_nil] at this
  rw [this]
  rfl
theorem atoi_itoa {n : Int} (h : I64 n) : Lib.atoiAll (Lib.itoa n) = .ok n := by
  obtain ⟨h0, h1⟩ := h
  unfold Lib.itoa
  by_cases hn : n < 0
  · rw [if_pos hn, Lib.atoiAll_minus, parse_mag _ (by omega)]
    show (if 9223372036854775808 < n.natAbs then Lib.NumEnd.range else Lib.NumEnd.ok (-(n.natAbs : Int))) = _
    rw [if_neg (by omega)]
    congr 1
    omega
  · rw [if_neg hn]
    obtain ⟨d, r, e, hd⟩ := dec_head n.toNat
    have ht : (UInt8.ofNat (48 + d)).toNat = 48 + d := by
      rw [UInt8.toNat_ofNat']
      omega
    have hp := parse_mag n.toNat (by omega)
    rw [e] at hp ⊢
    rw [Lib.atoiAll_plain _ _ (by omega) (by omega), hp]
    show (if 9223372036854775808 ≤ n.toNat then Lib.NumEnd.range else Lib.NumEnd.ok (n.toNat : Int)) = _
    rw [if_neg (by omega)]
    congr 1
    omega
theorem numS_iff {w : Bs} {n : Int} : numS w = some n ↔ Lib.itoa n = w ∧ I64 n := by
  constructor
  · intro h
    unfold numS at h
    cases ha : Lib.atoiAll w with
    | ok m =>
      rw [ha] at h
      simp only at h
      split at h
      · rename_i e
        cases h
        exact ⟨e, Lib.atoiAll_bounds ha⟩
      · cases h
    | range => rw [ha] at h; cases h
    | _ => rw [ha] at h; cases h
  · rintro ⟨rfl, h⟩
    unfold numS
    rw [atoi_itoa h]
    simp
theorem itoa_inj {n m : Int} (hn : I64 n) (hm : I64 m) (h : Lib.itoa n = Lib.itoa m) : n = m := by
  have e := atoi_itoa hn
  rw [h, atoi_itoa hm] at e
  cases e
  rfl
/-- What Atoi hands over. -/
def numV (w : Bs) : Int := match Lib.atoiAll w with
  | .ok n => n
  | .range => Lib.atoiSat w
  | _ => 0
theorem numV_of {w : Bs} {n : Int} (h : numS w = some n) : numV w = n := by
  unfold numS at h
  unfold numV
  cases ha : Lib.atoiAll w with
  | ok m =>
    rw [ha] at h
    simp only at h ⊢
    split at h
    · cases h; rfl
    · cases h
  | range => rw [ha] at h; cases h
  | _ => rw [ha] at h; cases h
theorem dec_bds (u : Nat) : ∀ x ∈ Lib.decDigits u, 48 ≤ x.toNat ∧ x.toNat ≤ 57 := by
  have : ∀ (k u : Nat), u < k → ∀ x ∈ Lib.decDigits u, 48 ≤ x.toNat ∧ x.toNat ≤ 57 := by
    intro k
    induction k with
    | zero => intro u h; omega
    | succ k ih =>
      intro u hk x hx
      rw [Lib.decDigits] at hx
      by_cases h : u < 10
      · rw [dif_pos h] at hx
        simp only [List.mem_cons, List.not_mem_nil, or_false] at hx
        subst hx
        rw [UInt8.toNat_ofNat']
        omega
      · rw [dif_neg h] at hx
        rcases List.mem_append.1 hx with hx | hx
        · exact ih (u / 10) (by omega) x hx
        · simp only [List.mem_cons, List.not_mem_nil, or_false] at hx
          subst hx
          rw [UInt8.toNat_ofNat']
          omega
  exact this (u + 1) u (by omega)
/-- No blank, no line's end. -/
theorem itoa_bds (n : Int) : ∀ x ∈ Lib.itoa n, 33 ≤ x.toNat := by
  intro x hx
  unfold Lib.itoa at hx
  split at hx
  · rcases List.mem_cons.1 hx with rfl | hx
    · decide
    · have := dec_bds _ x hx; omega
  · have := dec_bds _ x hx; omega
end Go.Proofs.YtieaamlpadlfeaaGreatDoor
