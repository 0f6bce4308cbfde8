/- KnotApart, KnotRow: plain laws. Conditions: none. -/
import Derived.Test.YtjkpghhbpcjjiaaKnot7
namespace Go.Proofs.Ytjkpghhbpcjjiaa
open Go Go.MapKept Go.RowKit Go.Proofs

theorem apart_path {la lb : List (Int × Int)} (ha : ∀ q ∈ la, q.1 < 50 ∧ q.2 < 50) (hb : ∀ q ∈ lb, 50 ≤ q.1 ∧ 50 ≤ q.2) {a b : Int} (t : Relation.TransGen (Rel (lb ++ la)) a b) :
    (Relation.TransGen (Rel la) a b ∧ b < 50) ∨ (Relation.TransGen (Rel lb) a b ∧ 50 ≤ b) := by
  induction t with
  | single e =>
    rcases List.mem_append.1 (show (_, _) ∈ lb ++ la from e) with m | m
    · exact .inr ⟨.single m, (hb _ m).2⟩
    · exact .inl ⟨.single m, (ha _ m).2⟩
  | tail _ e ih =>
    rcases List.mem_append.1 (show (_, _) ∈ lb ++ la from e) with m | m
    · rcases ih with ⟨_, h⟩ | ⟨h, _⟩
      · exact absurd (hb _ m).1 (by simp only; omega)
      · exact .inr ⟨.tail h m, (hb _ m).2⟩
    · rcases ih with ⟨h, _⟩ | ⟨_, h⟩
      · exact .inl ⟨.tail h m, (ha _ m).2⟩
      · exact absurd (ha _ m).1 (by simp only; omega)
theorem apart_stuck {la lb : List (Int × Int)} (ha : ∀ q ∈ la, q.1 < 50 ∧ q.2 < 50) (hb : ∀ q ∈ lb, 50 ≤ q.1 ∧ 50 ≤ q.2) {p q : List Int} (hp : IsStuck (Rel la) p) (hq : IsStuck (Rel lb) q) :
    IsStuck (Rel (lb ++ la)) (p ++ q) := by
  have bp : ∀ k ∈ p, k < 50 := fun k hk => by
    obtain ⟨c, hc⟩ := tg_end ((hp.2 k).1 hk)
    exact (ha _ hc).2
  have bq : ∀ k ∈ q, 50 ≤ k := fun k hk => by
    obtain ⟨c, hc⟩ := tg_end ((hq.2 k).1 hk)
    exact (hb _ hc).2
  refine ⟨List.pairwise_append.2 ⟨hp.1, hq.1, fun a h1 b h2 => by have := bp a h1; have := bq b h2; omega⟩, fun k => ?_⟩
  rw [List.mem_append, hp.2 k, hq.2 k]
  constructor
  · rintro (h | h)
    · exact tg_mono (fun a b h => List.mem_append_right _ h) h
    · exact tg_mono (fun a b h => List.mem_append_left _ h) h
  · intro h
    rcases apart_path ha hb h with ⟨h, _⟩ | ⟨h, _⟩
    · exact .inl h
    · exact .inr h

/-! ### Rows and rings -/
theorem falls_path {R : Rl} (h : ∀ a b, R a b → b < a) {a b : Int} (t : Relation.TransGen R a b) : b < a := by
  induction t with
  | single e => exact h _ _ e
  | tail _ e ih => have := h _ _ e; omega
theorem falls_stuck {R : Rl} (h : ∀ a b, R a b → b < a) : IsStuck R [] :=
  ⟨.nil, fun k => ⟨fun h => (by cases h), fun t => absurd (falls_path h t) (by omega)⟩⟩
def rowL (n : Nat) : List (Int × Int) := (List.range (n - 1)).map fun i : Nat => ((i : Int) + 1, (i : Int))
theorem rowL_len (n : Nat) : (rowL n).length = n - 1 := by simp [rowL]
theorem rowL_step (n : Nat) (h : 1 ≤ n) : rowL (n + 1) = rowL n ++ [((n : Int), (n : Int) - 1)] := by
  obtain ⟨m, rfl⟩ : ∃ m, n = m + 1 := ⟨n - 1, by omega⟩
  simp only [rowL, Nat.add_sub_cancel, List.range_succ, List.map_append, List.map_cons, List.map_nil]
  congr 2
  simp
theorem rowL_mem {n : Nat} {a b : Int} : (a, b) ∈ rowL n ↔ a = b + 1 ∧ 0 ≤ b ∧ b + 1 < n := by
  simp only [rowL, List.mem_map, List.mem_range, Prod.mk.injEq]
  constructor
  · rintro ⟨i, h, rfl, rfl⟩; omega
  · rintro ⟨rfl, h0, h1⟩
    exact ⟨b.toNat, by omega, by omega, by omega⟩
theorem row_stuck (n : Nat) : IsStuck (Rel (rowL n)) [] := falls_stuck fun a b h => by
  have := rowL_mem.1 (show (a, b) ∈ rowL n from h); omega
def ringL (n : Nat) : List (Int × Int) := rowL n ++ [(0, (n : Int) - 1)]
theorem row_path {n : Nat} (d : Nat) {b : Int} (h0 : 0 ≤ b) (h1 : b + (d + 1) < n) : Relation.TransGen (Rel (ringL n)) (b + (d + 1)) b := by
  induction d with
  | zero => exact .single (List.mem_append_left _ (rowL_mem.2 ⟨by simp, h0, by simpa using h1⟩))
  | succ d ih =>
    refine tg_head (b := b + (d + 1)) (List.mem_append_left _ (rowL_mem.2 ⟨by simp [Int.add_assoc], by omega, ?_⟩)) (ih (by simp at h1 ⊢; omega))
    simp at h1 ⊢; omega
theorem row_path' {n : Nat} {a b : Int} (h0 : 0 ≤ b) (hab : b < a) (h1 : a < n) : Relation.TransGen (Rel (ringL n)) a b := by
  have := row_path (n := n) (a - b - 1).toNat h0 (by omega)
  rwa [show b + (((a - b - 1).toNat : Int) + 1) = a by omega] at this
def namesL (n : Nat) : List Int := (List.range n).map fun i : Nat => (i : Int)
theorem ring_stuck {n : Nat} (hn : 2 ≤ n) : IsStuck (Rel (ringL n)) (namesL n) := by
  refine ⟨?_, fun k => ⟨fun h => ?_, fun h => ?_⟩⟩
  · refine List.pairwise_map.2 ((List.pairwise_lt_range).imp fun h => by omega)
  · obtain ⟨i, hi, rfl⟩ := List.mem_map.1 h
    have hi := List.mem_range.1 hi
    have e : Rel (ringL n) 0 ((n : Int) - 1) := List.mem_append_right _ (by simp)
    by_cases h0 : i = 0
    · subst h0
      exact tg_head e (row_path' (b := ((0 : Nat) : Int)) (by simp) (by omega) (by omega))
    · have t1 : Relation.TransGen (Rel (ringL n)) (i : Int) 0 := row_path' (by simp) (by omega) (by omega)
      by_cases h1 : i + 1 = n
      · have := Relation.TransGen.tail t1 e
        rwa [show (n : Int) - 1 = i by omega] at this
      · exact tg_trans (.tail t1 e) (row_path' (by omega) (by omega) (by omega))
  · obtain ⟨c, hc⟩ := tg_end h
    have : (0 : Int) ≤ k ∧ k < n := by
      rcases List.mem_append.1 (show (c, k) ∈ rowL n ++ [(0, (n : Int) - 1)] from hc) with m | m
      · have := rowL_mem.1 m; omega
      · simp only [List.mem_singleton, Prod.mk.injEq] at m; omega
    exact List.mem_map.2 ⟨k.toNat, List.mem_range.2 (by omega), by omega⟩
theorem namesL_len (n : Nat) : (namesL n).length = n := by simp [namesL]
theorem namesL_step (n : Nat) : namesL (n + 1) = namesL n ++ [(n : Int)] := by simp [namesL, List.range_succ]
theorem namesL_last {n : Nat} (hn : 1 ≤ n) : (namesL n).getLast? = some ((n : Int) - 1) := by
  obtain ⟨m, rfl⟩ : ∃ m, n = m + 1 := ⟨n - 1, by omega⟩
  rw [namesL_step, List.getLast?_concat]
  simp
theorem ring_vict {n : Nat} (hn : 2 ≤ n) : Vict (Rel (ringL n)) [(n : Int) - 1] := by
  obtain ⟨m, rfl⟩ : ∃ m, n = m + 1 := ⟨n - 1, by omega⟩
  have h := ring_stuck hn
  rw [namesL_step] at h
  rw [show ((m + 1 : Nat) : Int) - 1 = (m : Int) by omega]
  refine .cons h (.nil (falls_stuck fun a b h => ?_))
  obtain ⟨h1, h2, h3⟩ := h
  rcases List.mem_append.1 (show (a, b) ∈ rowL (m + 1) ++ [(0, ((m + 1 : Nat) : Int) - 1)] from h1) with m | m
  · have := rowL_mem.1 m; omega
  · simp only [List.mem_singleton, Prod.mk.injEq] at m; omega
theorem falls_vict {R : Rl} (h : ∀ a b, R a b → b < a) : Vict R [] := .nil (falls_stuck h)
/-- Edges that go down. -/
def downL (l : List (Int × Int)) : List (Int × Int) := l.filter fun q => decide (q.2 < q.1)
theorem downL_rel (l : List (Int × Int)) : ∀ a b, Rel (downL l) a b → b < a := fun a b h => by
  have := (List.mem_filter.1 (show (a, b) ∈ downL l from h)).2
  simpa using this
theorem downL_len (l : List (Int × Int)) : (downL l).length ≤ l.length := List.length_filter_le _ _
theorem downL_step (l : List (Int × Int)) (q : Int × Int) : downL (l ++ [q]) = downL l ++ (if q.2 < q.1 then [q] else []) := by
  unfold downL
  rw [List.filter_append]
  by_cases h : q.2 < q.1 <;> simp [h]
end Go.Proofs.Ytjkpghhbpcjjiaa
