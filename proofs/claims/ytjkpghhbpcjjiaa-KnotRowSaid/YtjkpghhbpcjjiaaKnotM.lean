/- Who waits for whom, in plain data: rows of edges that lead back, victims. Conditions: none. -/
import Derived.Test.YtjkpghhbpcjjiaaMapBr
namespace Go.Proofs.Ytjkpghhbpcjjiaa
open Go Go.MapKept Go.RowKit Go.Proofs

abbrev Rl := Int → Int → Prop
abbrev Loops (R : Rl) (k : Int) : Prop := Relation.TransGen R k k
/-- l: those that wait for themselves, rising. -/
def IsStuck (R : Rl) (l : List Int) : Prop := l.Pairwise (· < ·) ∧ ∀ k, k ∈ l ↔ Loops R k
theorem rising_unique {l l' : List Int} (h : l.Pairwise (· < ·)) (h' : l'.Pairwise (· < ·)) (e : ∀ k, k ∈ l ↔ k ∈ l') : l = l' := by
  have n1 : l.Nodup := h.imp (fun h => by omega)
  have n2 : l'.Nodup := h'.imp (fun h => by omega)
  exact List.Perm.eq_of_pairwise (le := (· ≤ ·)) (fun a b _ _ h1 h2 => Int.le_antisymm h1 h2) (h.imp fun h => by omega) (h'.imp fun h => by omega) ((List.perm_ext_iff_of_nodup n1 n2).2 e)
theorem IsStuck.unique {R : Rl} {l l' : List Int} (h : IsStuck R l) (h' : IsStuck R l') : l = l' :=
  rising_unique h.1 h'.1 fun k => (h.2 k).trans (h'.2 k).symm
theorem rl_ext {R R' : Rl} (h : ∀ a b, R a b ↔ R' a b) : R = R' := by
  funext a b
  exact propext (h a b)
/-- Without a name. -/
def Less (R : Rl) (k : Int) : Rl := fun a b => R a b ∧ a ≠ k ∧ b ≠ k
/-- Who gives up, one behind the other. -/
inductive Vict : Rl → List Int → Prop
  | nil {R : Rl} : IsStuck R [] → Vict R []
  | cons {R : Rl} {l : List Int} {k : Int} {r : List Int} : IsStuck R (l ++ [k]) → Vict (Less R k) r → Vict R (k :: r)
theorem Vict.unique {R : Rl} {l l' : List Int} (h : Vict R l) (h' : Vict R l') : l = l' := by
  induction h generalizing l' with
  | nil h =>
    cases h' with
    | nil _ => rfl
    | cons h2 _ => exact absurd (h.unique h2) (by simp)
  | cons h hr ih =>
    cases h' with
    | nil h2 => exact absurd (h2.unique h) (by simp)
    | cons h2 hr2 =>
      have e := h.unique h2
      have ek := (List.append_inj' e rfl).2
      simp only [List.cons.injEq, and_true] at ek
      subst ek
      rw [ih hr2]
/-- Without some names. -/
def Lessen (R : Rl) (v : List Int) : Rl := fun a b => R a b ∧ a ∉ v ∧ b ∉ v
theorem lessen_nil (R : Rl) : Lessen R [] = R := rl_ext fun a b => by simp [Lessen]
theorem lessen_cons (R : Rl) (k : Int) (v : List Int) : Lessen (Less R k) v = Lessen R (k :: v) := rl_ext fun a b => by
  simp only [Lessen, Less, List.mem_cons, not_or]
  constructor
  · rintro ⟨⟨h1, h2, h3⟩, h4, h5⟩; exact ⟨h1, ⟨h2, h4⟩, ⟨h3, h5⟩⟩
  · rintro ⟨h1, ⟨h2, h4⟩, ⟨h3, h5⟩⟩; exact ⟨⟨h1, h2, h3⟩, h4, h5⟩
/-- With all victims out nobody is stuck. -/
theorem Vict.freed {R : Rl} {v : List Int} (h : Vict R v) : IsStuck (Lessen R v) [] := by
  induction h with
  | nil h => rw [lessen_nil]; exact h
  | cons _ _ ih => rw [← lessen_cons]; exact ih
/-- With one less somebody is. -/
theorem Vict.held {R : Rl} {v : List Int} (h : Vict R v) (hv : v ≠ []) : ∃ k, Loops (Lessen R v.dropLast) k := by
  induction h with
  | nil h => exact absurd rfl hv
  | @cons R l k r h hr ih =>
    by_cases e : r = []
    · subst e
      refine ⟨k, ?_⟩
      rw [show ([k] : List Int).dropLast = [] from rfl, lessen_nil]
      exact (h.2 k).1 (by simp)
    · obtain ⟨j, hj⟩ := ih e
      refine ⟨j, ?_⟩
      rw [List.dropLast_cons_of_ne_nil e, ← lessen_cons]
      exact hj
/-- Paths mapped. -/
theorem tg_mono {R R' : Rl} (h : ∀ a b, R a b → R' a b) {a b : Int} (t : Relation.TransGen R a b) : Relation.TransGen R' a b := by
  induction t with
  | single e => exact .single (h _ _ e)
  | tail _ e ih => exact .tail ih (h _ _ e)
theorem tg_head {R : Rl} {a b c : Int} (h : R a b) (t : Relation.TransGen R b c) : Relation.TransGen R a c := by
  induction t with
  | single e => exact .tail (.single h) e
  | tail _ e ih => exact .tail ih e
theorem tg_trans {R : Rl} {a b c : Int} (h : Relation.TransGen R a b) (t : Relation.TransGen R b c) : Relation.TransGen R a c := by
  induction t with
  | single e => exact .tail h e
  | tail _ e ih => exact .tail ih e
theorem tg_start {R : Rl} {a b : Int} (t : Relation.TransGen R a b) : ∃ c, R a c := by
  induction t with
  | single e => exact ⟨_, e⟩
  | tail _ _ ih => exact ih
/-- A search that has seen all it comes to: k isn't come back to. -/
theorem closed_no {R : Rl} {k : Int} {S : List Int} (h : ∀ x, x = k ∨ x ∈ S → ∀ y, R x y → y ∈ S ∧ y ≠ k) : ¬ Loops R k := by
  have key : ∀ y, Relation.TransGen R k y → y ∈ S ∧ y ≠ k := by
    intro y t
    induction t with
    | single e => exact h k (.inl rfl) _ e
    | tail _ e ih => exact h _ (.inr ih.1) _ e
  exact fun t => (key k t).2 rfl

/-! ### The search -/
/-- Ahead of a round of the search: seen S, to do T. -/
structure SrchO (R : Rl) (k : Int) (S T : List Int) : Prop where
  sound : ∀ x ∈ T, x = k ∨ Relation.TransGen R k x
  full : ∀ x, x = k ∨ x ∈ S → x ∈ T ∨ ∀ y, R x y → y ∈ S ∧ y ≠ k
  nd : S.Nodup
/-- In a round, at a name: these are left. -/
structure SrchI (R : Rl) (k a : Int) (S T left : List Int) : Prop where
  sound : ∀ x ∈ T, x = k ∨ Relation.TransGen R k x
  here : a = k ∨ Relation.TransGen R k a
  full : ∀ x, x = k ∨ x ∈ S → x ∈ T ∨ x = a ∨ ∀ y, R x y → y ∈ S ∧ y ≠ k
  mine : ∀ y, R a y → y ∈ left ∨ (y ∈ S ∧ y ≠ k)
  edges : ∀ y ∈ left, R a y
  nd : S.Nodup
section
variable {R : Rl} {k a : Int} {S T left : List Int}
theorem srch_start (R : Rl) (k : Int) : SrchO R k [] [k] :=
  ⟨fun x hx => .inl (by simpa using hx), fun x hx => .inl (by simpa using hx), List.nodup_nil⟩
theorem SrchO.done (h : SrchO R k S []) : ¬ Loops R k := closed_no (S := S) fun x hx => (h.full x hx).resolve_left (by simp)
theorem SrchO.pop (h : SrchO R k S (T ++ [a])) (hl : ∀ y, y ∈ left ↔ R a y) : SrchI R k a S T left :=
  ⟨fun x hx => h.sound x (by simp [hx]), h.sound a (by simp), fun x hx => by
    rcases h.full x hx with h1 | h1
    · rcases List.mem_append.1 h1 with h1 | h1
      · exact .inl h1
      · exact .inr (.inl (by simpa using h1))
    · exact .inr (.inr h1), fun y hy => .inl ((hl y).2 hy), fun y hy => (hl y).1 hy, h.nd⟩
theorem SrchI.close (h : SrchI R k a S T []) : SrchO R k S T :=
  ⟨h.sound, fun x hx => by
    rcases h.full x hx with h1 | h1 | h1
    · exact .inl h1
    · subst h1
      exact .inr fun y hy => (h.mine y hy).resolve_left (by simp)
    · exact .inr h1, h.nd⟩
theorem SrchI.back (h : SrchI R k a S T left) (hk : k ∈ left) : Loops R k := by
  have e := h.edges k hk
  rcases h.here with h1 | h1
  · rw [h1] at e; exact .single e
  · exact .tail h1 e
/-- The step's name has been seen before. -/
theorem SrchI.old {left' : List Int} {y : Int} (h : SrchI R k a S T left) (hp : left.Perm (y :: left')) (hk : y ≠ k) (hs : y ∈ S) : SrchI R k a S T left' :=
  ⟨h.sound, h.here, h.full, fun z hz => by
    rcases h.mine z hz with h1 | h1
    · rcases List.mem_cons.1 (hp.mem_iff.1 h1) with rfl | h1
      · exact .inr ⟨hs, hk⟩
      · exact .inl h1
    · exact .inr h1, fun z hz => h.edges z (hp.mem_iff.2 (.tail _ hz)), h.nd⟩
/-- It is new. -/
theorem SrchI.push {left' : List Int} {y : Int} (h : SrchI R k a S T left) (hp : left.Perm (y :: left')) (hk : y ≠ k) (hs : y ∉ S) : SrchI R k a (S ++ [y]) (T ++ [y]) left' := by
  have hy := h.edges y (hp.mem_iff.2 (.head _))
  refine ⟨fun x hx => ?_, h.here, fun x hx => ?_, fun z hz => ?_, fun z hz => h.edges z (hp.mem_iff.2 (.tail _ hz)), ?_⟩
  · rcases List.mem_append.1 hx with hx | hx
    · exact h.sound x hx
    · obtain rfl : x = y := by simpa using hx
      rcases h.here with e | e
      · rw [e] at hy; exact .inr (.single hy)
      · exact .inr (.tail e hy)
  · by_cases hxy : x = y
    · exact .inl (by simp [hxy])
    · have hx' : x = k ∨ x ∈ S := hx.imp id fun m => by
        rcases List.mem_append.1 m with m | m
        · exact m
        · exact absurd (by simpa using m) hxy
      rcases h.full x hx' with h1 | h1 | h1
      · exact .inl (List.mem_append_left _ h1)
      · exact .inr (.inl h1)
      · exact .inr (.inr fun z hz => ⟨List.mem_append_left _ (h1 z hz).1, (h1 z hz).2⟩)
  · rcases h.mine z hz with h1 | h1
    · rcases List.mem_cons.1 (hp.mem_iff.1 h1) with rfl | h1
      · exact .inr ⟨by simp, hk⟩
      · exact .inl h1
    · exact .inr ⟨List.mem_append_left _ h1.1, h1.2⟩
  · refine List.nodup_append.2 ⟨h.nd, by simp, ?_⟩
    intro u hu v hv e
    simp only [List.mem_singleton] at hv
    exact hs (hv ▸ e ▸ hu)
end
theorem nodup_le {S N : List Int} (h : S.Nodup) (hs : ∀ x ∈ S, x ∈ N) : S.length ≤ N.length := by
  induction S generalizing N with
  | nil => simp
  | cons a r ih =>
    simp only [List.nodup_cons] at h
    have ha := hs a (.head _)
    have h2 := ih (N := N.erase a) h.2 fun x hx => by
      have hne : x ≠ a := fun e => h.1 (e ▸ hx)
      exact (List.mem_erase_of_ne hne).2 (hs x (.tail _ hx))
    rw [List.length_erase_of_mem ha] at h2
    have := List.length_pos_of_mem ha
    simp; omega
/-- The names that wait, sorted and sieved: the stuck. -/
theorem stuck_sieve {R : Rl} {S : List Int} {q : Int → Bool} (hn : S.Nodup) (hq : ∀ k ∈ S, q k = true ↔ Loops R k) (hs : ∀ a b, R a b → a ∈ S) : IsStuck R ((sortK S).filter q) := by
  have h1 := sortK_sorted S
  have h2 : (sortK S).Nodup := (sortK_perm _).nodup_iff.2 hn
  refine ⟨((h1.and h2).imp (fun h => by omega)).sublist List.filter_sublist, fun k => ?_⟩
  rw [List.mem_filter, (sortK_perm S).mem_iff]
  constructor
  · rintro ⟨h, e⟩; exact (hq k h).1 e
  · intro h
    obtain ⟨c, hc⟩ := tg_start h
    exact ⟨hs _ _ hc, (hq k (hs _ _ hc)).2 h⟩
end Go.Proofs.Ytjkpghhbpcjjiaa
