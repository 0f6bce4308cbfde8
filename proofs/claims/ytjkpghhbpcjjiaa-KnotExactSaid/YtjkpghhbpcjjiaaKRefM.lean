/- The reference's stuck and victims, plain laws. Conditions: none. -/
import Derived.Test.YtjkpghhbpcjjiaaKnotA
namespace Go.Proofs.Ytjkpghhbpcjjiaa
open Go Go.MapKept Go.RowKit Go.Proofs

/-- k put into a rising list. -/
def insL (k : Int) : List Int → List Int
  | [] => [k]
  | x :: r => if k < x then k :: x :: r else x :: insL k r
theorem insL_end {k : Int} : ∀ {l : List Int}, (∀ x ∈ l, ¬ k < x) → insL k l = l ++ [k]
  | [], _ => rfl
  | x :: r, h => by
    rw [insL, if_neg (h x (.head _)), insL_end fun y hy => h y (.tail _ hy)]
    rfl
theorem insL_more {k x : Int} : ∀ {l : List Int}, (∃ y ∈ l, k < y) → insL k (l ++ [x]) = insL k l ++ [x]
  | [], h => by obtain ⟨y, hy, _⟩ := h; cases hy
  | z :: r, h => by
    rw [List.cons_append, insL, insL]
    by_cases e : k < z
    · rw [if_pos e, if_pos e]; rfl
    · rw [if_neg e, if_neg e, insL_more (l := r)]
      · rfl
      · obtain ⟨y, hy, h1⟩ := h
        rcases List.mem_cons.1 hy with rfl | hy
        · exact absurd h1 e
        · exact ⟨y, hy, h1⟩
theorem insL_here {k x : Int} : ∀ {l : List Int}, (∀ y ∈ l, ¬ k < y) → k < x → insL k (l ++ [x]) = l ++ [k] ++ [x]
  | [], _, h => by rw [List.nil_append, insL, if_pos h]; rfl
  | z :: r, h, hx => by
    rw [List.cons_append, insL, if_neg (h z (.head _)), insL_here (fun y hy => h y (.tail _ hy)) hx]
    rfl
theorem insL_mem {k x : Int} : ∀ {l : List Int}, x ∈ insL k l ↔ x = k ∨ x ∈ l
  | [] => by simp [insL]
  | z :: r => by
    rw [insL]
    by_cases e : k < z
    · rw [if_pos e]; simp
    · rw [if_neg e, List.mem_cons, insL_mem, List.mem_cons]
      constructor
      · rintro (h | h | h)
        · exact .inr (.inl h)
        · exact .inl h
        · exact .inr (.inr h)
      · rintro (h | h | h)
        · exact .inr (.inl h)
        · exact .inl h
        · exact .inr (.inr h)
theorem insL_rise {k : Int} : ∀ {l : List Int}, l.Pairwise (· < ·) → k ∉ l → (insL k l).Pairwise (· < ·)
  | [], _, _ => by simp [insL]
  | z :: r, h, hk => by
    rw [List.pairwise_cons] at h
    rw [insL]
    by_cases e : k < z
    · rw [if_pos e]
      refine List.pairwise_cons.2 ⟨fun y hy => ?_, List.pairwise_cons.2 h⟩
      rcases List.mem_cons.1 hy with rfl | hy
      · exact e
      · have := h.1 y hy; omega
    · rw [if_neg e]
      refine List.pairwise_cons.2 ⟨fun y hy => ?_, insL_rise h.2 fun m => hk (.tail _ m)⟩
      rcases insL_mem.1 hy with rfl | hy
      · have : y ≠ z := fun q => hk (q ▸ .head _)
        omega
      · exact h.1 y hy
theorem insL_len (k : Int) : ∀ l : List Int, (insL k l).length = l.length + 1
  | [] => rfl
  | z :: r => by
    rw [insL]
    split
    · rfl
    · rw [List.length_cons, insL_len k r]; rfl
/-- The list that is built beside, and whether k is in it. -/
def nextL (k : Int) (done : Bool) (l : List Int) : List Int := if done then insL k l else l
def doneL (k : Int) (l : List Int) : Bool := l.any fun x => decide (k < x)
theorem doneL_true {k : Int} {l : List Int} (h : doneL k l = true) : ∃ y ∈ l, k < y := by
  obtain ⟨y, hy, e⟩ := List.any_eq_true.1 h
  exact ⟨y, hy, by simpa using e⟩
theorem doneL_false {k : Int} {l : List Int} (h : doneL k l = false) : ∀ y ∈ l, ¬ k < y := fun y hy => by
  have := List.any_eq_false.1 h y hy
  simpa using this
theorem doneL_step (k x : Int) (l : List Int) : doneL k (l ++ [x]) = (doneL k l || decide (k < x)) := by simp [doneL]
theorem nextL_old {k x : Int} {l : List Int} (h : doneL k l = true) : nextL k (doneL k (l ++ [x])) (l ++ [x]) = nextL k (doneL k l) l ++ [x] := by
  rw [doneL_step, h]
  simp only [Bool.true_or, nextL, if_true]
  exact insL_more (doneL_true h)
theorem nextL_new {k x : Int} {l : List Int} (h : doneL k l = false) (hx : k < x) : nextL k (doneL k (l ++ [x])) (l ++ [x]) = nextL k (doneL k l) l ++ [k] ++ [x] := by
  rw [doneL_step, h]
  simp only [hx, decide_true, Bool.false_or, nextL, if_true, Bool.false_eq_true, if_false]
  exact insL_here (doneL_false h) hx
theorem nextL_no {k x : Int} {l : List Int} (h : doneL k l = false) (hx : ¬ k < x) : nextL k (doneL k (l ++ [x])) (l ++ [x]) = nextL k (doneL k l) l ++ [x] := by
  rw [doneL_step, h]
  simp [hx, nextL]
theorem nextL_done {k : Int} {l : List Int} (h : doneL k l = true) : nextL k (doneL k l) l = insL k l := by rw [h]; rfl
theorem nextL_last {k : Int} {l : List Int} (h : doneL k l = false) : nextL k (doneL k l) l ++ [k] = insL k l := by
  rw [h, insL_end (doneL_false h)]
  rfl
theorem nextL_len (k : Int) (d : Bool) (l : List Int) : (nextL k d l).length ≤ l.length + 1 := by
  unfold nextL
  split
  · rw [insL_len]; omega
  · omega
/-- Those of the first edges that are stuck, rising. -/
def StuckTo (l : List (Int × Int)) (i : Nat) (out : List Int) : Prop := out.Pairwise (· < ·) ∧ ∀ x, x ∈ out ↔ x ∈ (l.take i).map (·.1) ∧ Loops (Rel l) x
section
variable {l : List (Int × Int)} {i : Nat} {out : List Int} {q : Int × Int}
theorem stuckTo_start : StuckTo l 0 [] := ⟨.nil, fun x => by simp⟩
theorem froms_step (hq : l[i]? = some q) (x : Int) : x ∈ (l.take (i + 1)).map (·.1) ↔ x ∈ (l.take i).map (·.1) ∨ x = q.1 := by
  rw [List.take_add_one, hq]
  simp
theorem StuckTo.in (h : StuckTo l i out) (hq : l[i]? = some q) (hk : q.1 ∈ out) : StuckTo l (i + 1) out := ⟨h.1, fun x => by
  rw [h.2 x, froms_step hq]
  constructor
  · rintro ⟨h1, h2⟩; exact ⟨.inl h1, h2⟩
  · rintro ⟨h1 | rfl, h2⟩
    · exact ⟨h1, h2⟩
    · exact (h.2 _).1 hk⟩
theorem StuckTo.no (h : StuckTo l i out) (hq : l[i]? = some q) (hk : ¬ Loops (Rel l) q.1) : StuckTo l (i + 1) out := ⟨h.1, fun x => by
  rw [h.2 x, froms_step hq]
  constructor
  · rintro ⟨h1, h2⟩; exact ⟨.inl h1, h2⟩
  · rintro ⟨h1 | rfl, h2⟩
    · exact ⟨h1, h2⟩
    · exact absurd h2 hk⟩
theorem StuckTo.more (h : StuckTo l i out) (hq : l[i]? = some q) (hn : q.1 ∉ out) (hk : Loops (Rel l) q.1) : StuckTo l (i + 1) (insL q.1 out) := ⟨insL_rise h.1 hn, fun x => by
  rw [insL_mem, h.2 x, froms_step hq]
  constructor
  · rintro (rfl | ⟨h1, h2⟩)
    · exact ⟨.inr rfl, hk⟩
    · exact ⟨.inl h1, h2⟩
  · rintro ⟨h1 | rfl, h2⟩
    · exact .inr ⟨h1, h2⟩
    · exact .inl rfl⟩
theorem StuckTo.all (h : StuckTo l l.length out) : IsStuck (Rel l) out := ⟨h.1, fun x => by
  rw [h.2 x, List.take_length]
  constructor
  · exact fun h => h.2
  · intro t
    obtain ⟨c, hc⟩ := tg_start t
    exact ⟨List.mem_map.2 ⟨_, hc, rfl⟩, t⟩⟩
theorem StuckTo.len (h : StuckTo l i out) : out.length ≤ l.length := by
  have := nodup_le (N := l.map (·.1)) (h.1.imp (fun h => by omega)) fun x hx => by
    obtain ⟨q, hq, e⟩ := List.mem_map.1 ((h.2 x).1 hx).1
    exact List.mem_map.2 ⟨q, List.mem_of_mem_take hq, e⟩
  simpa using this
end
/-- The edges but those from and to a name. -/
def lessL (k : Int) (l : List (Int × Int)) : List (Int × Int) := l.filter fun q => !(q.1 == k) && !(q.2 == k)
theorem lessL_rel (k : Int) (l : List (Int × Int)) : Rel (lessL k l) = Less (Rel l) k := rl_ext fun a b => by
  unfold Rel lessL Less
  rw [List.mem_filter]
  simp
theorem lessL_step (k : Int) (l : List (Int × Int)) (q : Int × Int) : lessL k (l ++ [q]) = lessL k l ++ (if q.1 = k ∨ q.2 = k then [] else [q]) := by
  unfold lessL
  rw [List.filter_append]
  by_cases h : q.1 = k <;> by_cases h2 : q.2 = k <;> simp [h, h2]
theorem lessL_lt {k : Int} {l : List (Int × Int)} (h : Loops (Rel l) k) : (lessL k l).length < l.length := by
  obtain ⟨c, hc⟩ := tg_start h
  unfold lessL
  rw [List.length_filter_lt_length_iff_exists]
  exact ⟨(k, c), hc, by simp⟩
/-- Where the edges from a lead to. -/
def leftOf (a : Int) (l : List (Int × Int)) : List Int := (l.filter fun q => q.1 == a).map (·.2)
theorem leftOf_mem (a : Int) (l : List (Int × Int)) (y : Int) : y ∈ leftOf a l ↔ Rel l a y := by
  unfold leftOf Rel
  rw [List.mem_map]
  constructor
  · rintro ⟨q, hq, rfl⟩
    obtain ⟨h1, h2⟩ := List.mem_filter.1 hq
    have : q.1 = a := by simpa using h2
    rw [← this]; exact h1
  · intro h
    exact ⟨(a, y), List.mem_filter.2 ⟨h, by simp⟩, rfl⟩
theorem leftOf_step {a : Int} {l : List (Int × Int)} {j : Nat} {q : Int × Int} (hq : l[j]? = some q) : leftOf a (l.drop j) = (if q.1 = a then [q.2] else []) ++ leftOf a (l.drop (j + 1)) := by
  have h := (List.getElem?_eq_some_iff.1 hq)
  obtain ⟨hj, e⟩ := h
  rw [List.drop_eq_getElem_cons hj, e]
  unfold leftOf
  by_cases e : q.1 = a <;> simp [List.filter_cons, e]
theorem SrchO.popH {R : Rl} {k a : Int} {S T left : List Int} (h : SrchO R k S (a :: T)) (hl : ∀ y, y ∈ left ↔ R a y) : SrchI R k a S T left := by
  have h' : SrchO R k S (T ++ [a]) := ⟨fun x hx => h.sound x (by simp at hx ⊢; exact hx.symm), fun x hx => (h.full x hx).imp (fun m => by simp at m ⊢; exact m.symm) id, h.nd⟩
  exact h'.pop hl
end Go.Proofs.Ytjkpghhbpcjjiaa
