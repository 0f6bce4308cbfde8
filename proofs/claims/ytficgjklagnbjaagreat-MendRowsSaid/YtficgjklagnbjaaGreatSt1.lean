/- A stable sort by blocks and merges, in plain lists. Conditions: none. -/
import Derived.Test.YtficgjklagnbjaaGreatMp15
namespace Go.Proofs.YtficgjklagnbjaaGreat.St

section
variable {α : Type} (k s : α → Int)
/-- In order; of one key, in the order of the second. -/
abbrev Le (x y : α) : Prop := k x ≤ k y
abbrev Sb (x y : α) : Prop := k x = k y → s x < s y
/-- What a merge of two rows comes to. -/
structure Mg (A B C : List α) : Prop where
  srt : C.Pairwise (Le k)
  perm : C.Perm (A ++ B)
  stb : (A ++ B).Pairwise (Sb k s) → C.Pairwise (Sb k s)
variable {k s}
/-- Two blocks that change places, of which every key of the second is below all of the first. -/
theorem swap_stb {A1 A2 B1 B2 : List α} (h : ∀ x ∈ A2, ∀ y ∈ B1, k y < k x) (hp : ((A1 ++ A2) ++ (B1 ++ B2)).Pairwise (Sb k s)) : ((A1 ++ B1) ++ (A2 ++ B2)).Pairwise (Sb k s) := by
  simp only [List.pairwise_append, List.mem_append] at hp ⊢
  obtain ⟨⟨h1, h2, h3⟩, ⟨h4, h5, h6⟩, h7⟩ := hp
  refine ⟨⟨h1, h4, fun a ha b hb => h7 a (.inl ha) b (.inl hb)⟩, ⟨h2, h5, fun a ha b hb => h7 a (.inr ha) b (.inr hb)⟩, fun a ha b hb => ?_⟩
  rcases ha with ha | ha <;> rcases hb with hb | hb
  · exact h3 a ha b hb
  · exact h7 a (.inl ha) b (.inr hb)
  · intro e
    have := h b hb a ha
    omega
  · exact h6 a ha b hb
theorem swap_perm (A1 A2 B1 B2 : List α) : ((A1 ++ B1) ++ (A2 ++ B2)).Perm ((A1 ++ A2) ++ (B1 ++ B2)) := by
  rw [List.append_assoc, List.append_assoc]
  refine List.Perm.append_left A1 ?_
  rw [← List.append_assoc, ← List.append_assoc]
  exact List.Perm.append_right B2 List.perm_append_comm
/-- One half merged behind the other. -/
theorem Mg.two {A1 A2 B1 B2 C1 C2 : List α} (h1 : Mg k s A1 B1 C1) (h2 : Mg k s A2 B2 C2) (hA : (A1 ++ A2).Pairwise (Le k)) (hB : (B1 ++ B2).Pairwise (Le k)) (hab : ∀ x ∈ A1, ∀ y ∈ B2, k x ≤ k y) (hba : ∀ x ∈ A2, ∀ y ∈ B1, k y < k x) : Mg k s (A1 ++ A2) (B1 ++ B2) (C1 ++ C2) := by
  refine ⟨?_, ?_, fun hp => ?_⟩
  · rw [List.pairwise_append]
    refine ⟨h1.srt, h2.srt, fun x hx y hy => ?_⟩
    have hx := h1.perm.mem_iff.1 hx
    have hy := h2.perm.mem_iff.1 hy
    rw [List.pairwise_append] at hA hB
    rcases List.mem_append.1 hx with hx | hx <;> rcases List.mem_append.1 hy with hy | hy
    · exact hA.2.2 x hx y hy
    · exact hab x hx y hy
    · exact Int.le_of_lt (hba y hy x hx)
    · exact hB.2.2 x hx y hy
  · exact (List.Perm.append h1.perm h2.perm).trans (swap_perm A1 A2 B1 B2)
  · have h3 := swap_stb hba hp
    have h4 := List.pairwise_append.1 h3
    rw [List.pairwise_append]
    refine ⟨h1.stb h4.1, h2.stb h4.2.1, fun x hx y hy => h4.2.2 x (h1.perm.mem_iff.1 hx) y (h2.perm.mem_iff.1 hy)⟩
theorem Mg.left {A : List α} (h : A.Pairwise (Le k)) : Mg k s A [] A := ⟨h, by rw [List.append_nil], fun h => by rw [List.append_nil] at h; exact h⟩
theorem Mg.right {B : List α} (h : B.Pairwise (Le k)) : Mg k s [] B B := ⟨h, by rw [List.nil_append], fun h => h⟩
/-- One of the left among those of the right. -/
theorem Mg.one {x : α} {B1 B2 : List α} (hB : (B1 ++ B2).Pairwise (Le k)) (h1 : ∀ y ∈ B1, k y < k x) (h2 : ∀ y ∈ B2, k x ≤ k y) : Mg k s [x] (B1 ++ B2) (B1 ++ (x :: B2)) := by
  have hB' := List.pairwise_append.1 hB
  have h3 : Mg k s [x] B2 (x :: B2) := ⟨List.pairwise_cons.2 ⟨h2, hB'.2.1⟩, List.Perm.refl _, fun h => h⟩
  have := Mg.two (A1 := []) (A2 := [x]) (Mg.right hB'.1) h3 (by simp) hB (by simp) (fun z hz y hy => by rw [List.mem_singleton.1 hz]; exact h1 y hy)
  exact this
/-- One of the right among those of the left. -/
theorem Mg.last {y : α} {A1 A2 : List α} (hA : (A1 ++ A2).Pairwise (Le k)) (h1 : ∀ x ∈ A1, k x ≤ k y) (h2 : ∀ x ∈ A2, k y < k x) : Mg k s (A1 ++ A2) [y] (A1 ++ (y :: A2)) := by
  have hA' := List.pairwise_append.1 hA
  have h3 : Mg k s A2 [y] (y :: A2) := by
    refine ⟨List.pairwise_cons.2 ⟨fun x hx => Int.le_of_lt (h2 x hx), hA'.2.1⟩, ?_, fun h => ?_⟩
    · exact (List.perm_append_comm (l₁ := [y]) (l₂ := A2))
    · have h4 := List.pairwise_append.1 h
      exact List.pairwise_cons.2 ⟨fun x hx e => by have := h2 x hx; omega, h4.1⟩
  have := Mg.two (A1 := A1) (A2 := A2) (B1 := []) (B2 := [y]) (Mg.left hA'.1) h3 hA (by simp) (fun x hx z hz => by rw [List.mem_singleton.1 hz]; exact h1 x hx) (by simp)
  exact this
/-- What lies left of a place where the keys are at most one, in a row in order. -/
theorem le_take {A : List α} (h : A.Pairwise (Le k)) {i : Nat} {x : α} {c : Int} (hx : A[i]? = some x) (hc : k x ≤ c) : ∀ z ∈ A.take (i + 1), k z ≤ c := by
  intro z hz
  rw [List.take_add_one, hx] at hz
  rcases List.mem_append.1 hz with hz | hz
  · have h2 : A = A.take i ++ A.drop i := (List.take_append_drop i A).symm
    rw [h2, List.pairwise_append] at h
    have := h.2.2 z hz x (by
      have hi := (List.getElem?_eq_some_iff.1 hx)
      rw [List.drop_eq_getElem_cons hi.1, hi.2]; exact .head _)
    omega
  · have : z = x := by simpa using hz
    rw [this]; exact hc
theorem ge_drop {A : List α} (h : A.Pairwise (Le k)) {i : Nat} {x : α} {c : Int} (hx : A[i]? = some x) (hc : c ≤ k x) : ∀ z ∈ A.drop i, c ≤ k z := by
  intro z hz
  have hi := List.getElem?_eq_some_iff.1 hx
  have h2 : A = A.take i ++ A.drop i := (List.take_append_drop i A).symm
  rw [h2, List.pairwise_append] at h
  have h3 := h.2.1
  rw [List.drop_eq_getElem_cons hi.1, hi.2] at h3 hz
  rcases List.mem_cons.1 hz with rfl | hz
  · exact hc
  · have := (List.pairwise_cons.1 h3).1 z hz
    omega
end
section
variable {α : Type}
/-- Two change places. -/
def swq (R : List α) (p q : Nat) : List α := match R[p]?, R[q]? with
  | some x, some y => (R.set p y).set q x
  | _, _ => R
def swR (R : List α) (a b : Nat) : Nat → List α
  | 0 => R
  | n + 1 => swq (swR R a b n) (a + n) (b + n)
theorem swq_len (R : List α) (p q : Nat) : (swq R p q).length = R.length := by
  unfold swq
  split <;> simp
theorem swR_len (R : List α) (a b : Nat) : ∀ n, (swR R a b n).length = R.length
  | 0 => rfl
  | n + 1 => by show (swq _ _ _).length = _; rw [swq_len, swR_len R a b n]
theorem swR_left (R : List α) (a b : Nat) : ∀ n, swR R a b (n + 1) = swR (swq R a b) (a + 1) (b + 1) n
  | 0 => rfl
  | n + 1 => by
    show swq (swR R a b (n + 1)) (a + (n + 1)) (b + (n + 1)) = swq (swR (swq R a b) (a + 1) (b + 1) n) (a + 1 + n) (b + 1 + n)
    rw [swR_left R a b n, show a + (n + 1) = a + 1 + n by omega, show b + (n + 1) = b + 1 + n by omega]
theorem swq_at (X M Y : List α) (x y : α) : swq (X ++ x :: (M ++ y :: Y)) X.length (X.length + 1 + M.length) = X ++ y :: (M ++ x :: Y) := by
  have h1 : (X ++ x :: (M ++ y :: Y))[X.length]? = some x := by simp
  have h2 : (X ++ x :: (M ++ y :: Y))[X.length + 1 + M.length]? = some y := by
    rw [List.getElem?_append_right (by omega), show X.length + 1 + M.length - X.length = M.length + 1 by omega, List.getElem?_cons_succ, List.getElem?_append_right (Nat.le_refl _)]
    simp
  unfold swq
  rw [h1, h2]
  simp only
  rw [List.set_append_right _ _ (Nat.le_refl _), Nat.sub_self, List.set_cons_zero, List.set_append_right _ _ (by omega), show X.length + 1 + M.length - X.length = M.length + 1 by omega, List.set_cons_succ, List.set_append_right _ _ (Nat.le_refl _), Nat.sub_self, List.set_cons_zero]
theorem swR_blocks : ∀ (U V X M Y : List α), U.length = V.length → swR (X ++ (U ++ (M ++ (V ++ Y)))) X.length (X.length + U.length + M.length) U.length = X ++ (V ++ (M ++ (U ++ Y)))
  | [], V, X, M, Y, h => by
    have : V = [] := List.eq_nil_of_length_eq_zero h.symm
    subst this
    rfl
  | u :: U, [], X, M, Y, h => by simp at h
  | u :: U, v :: V, X, M, Y, h => by
    have ih := swR_blocks U V (X ++ [v]) (M ++ [u]) Y (by simpa using h)
    have e1 : (u :: U).length = U.length + 1 := rfl
    rw [e1, swR_left]
    have e2 : swq (X ++ ((u :: U) ++ (M ++ ((v :: V) ++ Y)))) X.length (X.length + (U.length + 1) + M.length) = (X ++ [v]) ++ (U ++ ((M ++ [u]) ++ (V ++ Y))) := by
      have := swq_at X (U ++ M) (V ++ Y) u v
      rw [List.length_append] at this
      rw [show X.length + (U.length + 1) + M.length = X.length + 1 + (U.length + M.length) by omega]
      simp only [List.append_assoc, List.cons_append, List.nil_append] at this ⊢
      exact this
    rw [e2]
    simp only [List.length_append, List.length_cons, List.length_nil, Nat.zero_add] at ih
    rw [show X.length + (U.length + 1) + M.length + 1 = X.length + 1 + U.length + (M.length + 1) by omega, ih]
    simp
end
section
variable {α : Type} {k s : α → Int}
/-- What a row put in order comes to. -/
structure Sd (k s : α → Int) (A C : List α) : Prop where
  perm : C.Perm A
  stb : A.Pairwise (Sb k s) → C.Pairwise (Sb k s)
theorem Sd.refl (A : List α) : Sd k s A A := ⟨List.Perm.refl _, id⟩
theorem Sd.trans {A B C : List α} (h1 : Sd k s A B) (h2 : Sd k s B C) : Sd k s A C := ⟨h2.perm.trans h1.perm, fun h => h2.stb (h1.stb h)⟩
theorem Mg.sd {A B C : List α} (h : Mg k s A B C) : Sd k s (A ++ B) C := ⟨h.perm, h.stb⟩
/-- A piece of a row turned. -/
theorem Sd.seg {A C : List α} (h : Sd k s A C) (X Y : List α) : Sd k s (X ++ (A ++ Y)) (X ++ (C ++ Y)) := by
  refine ⟨List.Perm.append_left X (List.Perm.append_right Y h.perm), fun hp => ?_⟩
  simp only [List.pairwise_append, List.mem_append] at hp ⊢
  obtain ⟨h1, ⟨h2, h3, h4⟩, h5⟩ := hp
  refine ⟨h1, ⟨h.stb h2, h3, fun a ha b hb => h4 a (h.perm.mem_iff.1 ha) b hb⟩, fun a ha b hb => h5 a ha b ?_⟩
  rcases hb with hb | hb
  · exact .inl (h.perm.mem_iff.1 hb)
  · exact .inr hb
/-- One more put in. -/
theorem Sd.ins {A P Q : List α} {x : α} (h : Sd k s A (P ++ Q)) (hs : (P ++ Q).Pairwise (Le k)) (h1 : ∀ z ∈ P, k z ≤ k x) (h2 : ∀ z ∈ Q, k x < k z) : Sd k s (A ++ [x]) (P ++ (x :: Q)) ∧ (P ++ (x :: Q)).Pairwise (Le k) := by
  have hm : Mg k s (P ++ Q) [x] (P ++ (x :: Q)) := Mg.last hs h1 h2
  have h3 := Sd.seg h [] [x]
  exact ⟨h3.trans hm.sd, hm.srt⟩
/-- In blocks of so many, up to a place, each in order. -/
def Blk (k : α → Int) (bs m : Nat) (R : List α) : Prop := ∀ q i j x y, q * bs ≤ i → i < j → j < q * bs + bs → j < m → R[i]? = some x → R[j]? = some y → k x ≤ k y
theorem seg_lo {X A Y : List α} {i : Nat} (h : i < X.length) : (X ++ (A ++ Y))[i]? = X[i]? := List.getElem?_append_left h
theorem seg_mid {X A Y : List α} {i : Nat} (h : X.length ≤ i) (h2 : i < X.length + A.length) : (X ++ (A ++ Y))[i]? = A[i - X.length]? := by
  rw [List.getElem?_append_right h, List.getElem?_append_left (by omega)]
theorem seg_hi {X A Y : List α} {i : Nat} (h : X.length + A.length ≤ i) : (X ++ (A ++ Y))[i]? = Y[i - X.length - A.length]? := by
  rw [List.getElem?_append_right (by omega), List.getElem?_append_right (by omega)]
theorem pw_get {C : List α} (h : C.Pairwise (Le k)) {i j : Nat} {x y : α} (hij : i < j) (hx : C[i]? = some x) (hy : C[j]? = some y) : k x ≤ k y := by
  obtain ⟨hi, ei⟩ := List.getElem?_eq_some_iff.1 hx
  obtain ⟨hj, ej⟩ := List.getElem?_eq_some_iff.1 hy
  have := List.pairwise_iff_getElem.1 h i j hi hj hij
  rw [ei, ej] at this
  exact this
theorem get_pw {C : List α} (h : ∀ (i j : Nat) (x y : α), i < j → C[i]? = some x → C[j]? = some y → k x ≤ k y) : C.Pairwise (Le k) := by
  rw [List.pairwise_iff_getElem]
  intro i j hi hj hij
  exact h i j _ _ hij (List.getElem?_eq_getElem hi) (List.getElem?_eq_getElem hj)
theorem Blk.zero (bs : Nat) (R : List α) : Blk k bs 0 R := fun q i j x y _ _ _ h => absurd h (by omega)
theorem Blk.step {bs t : Nat} {X A C Y : List α} (hX : X.length = t * bs) (hl : C.length = A.length) (hb : C.length ≤ bs) (hC : C.Pairwise (Le k)) (h : Blk k bs (t * bs) (X ++ (A ++ Y))) : Blk k bs (t * bs + C.length) (X ++ (C ++ Y)) := by
  intro q i j x y h1 h2 h3 h4 hx hy
  rcases Nat.lt_trichotomy q t with hq | hq | hq
  · have : (q + 1) * bs ≤ t * bs := Nat.mul_le_mul_right bs hq
    rw [Nat.succ_mul] at this
    rw [seg_lo (by omega)] at hx hy
    exact h q i j x y h1 h2 h3 (by omega) (by rw [seg_lo (by omega)]; exact hx) (by rw [seg_lo (by omega)]; exact hy)
  · subst hq
    rw [seg_mid (by omega) (by omega)] at hx hy
    exact pw_get hC (by omega) hx hy
  · have : (t + 1) * bs ≤ q * bs := Nat.mul_le_mul_right bs hq
    rw [Nat.succ_mul] at this
    omega
theorem Blk.keep {bs t n : Nat} {X A C Y : List α} (hX : X.length = t * (2 * bs)) (hl : C.length = A.length) (hb : C.length = 2 * bs) (hC : C.Pairwise (Le k)) (h : Blk k bs n (X ++ (A ++ Y))) : Blk k bs n (X ++ (C ++ Y)) := by
  have e : t * (2 * bs) = (2 * t) * bs := by rw [Nat.mul_left_comm, Nat.mul_assoc]
  intro q i j x y h1 h2 h3 h4 hx hy
  rcases Nat.lt_or_ge q (2 * t) with hq | hq
  · have : (q + 1) * bs ≤ (2 * t) * bs := Nat.mul_le_mul_right bs hq
    rw [Nat.succ_mul] at this
    rw [seg_lo (by omega)] at hx hy
    exact h q i j x y h1 h2 h3 h4 (by rw [seg_lo (by omega)]; exact hx) (by rw [seg_lo (by omega)]; exact hy)
  · have h5 : (2 * t) * bs ≤ q * bs := Nat.mul_le_mul_right bs hq
    rcases Nat.lt_or_ge q (2 * t + 2) with hq2 | hq2
    · have : (q + 1) * bs ≤ (2 * t + 2) * bs := Nat.mul_le_mul_right bs (by omega)
      rw [Nat.succ_mul, Nat.add_mul] at this
      rw [seg_mid (by omega) (by omega)] at hx hy
      exact pw_get hC (by omega) hx hy
    · have : (2 * t + 2) * bs ≤ q * bs := Nat.mul_le_mul_right bs hq2
      rw [Nat.add_mul] at this
      rw [seg_hi (by omega)] at hx hy
      exact h q i j x y h1 h2 h3 h4 (by rw [seg_hi (by omega), ← hl]; exact hx) (by rw [seg_hi (by omega), ← hl]; exact hy)
theorem Blk.seg {bs q n : Nat} {X A Y : List α} (hX : X.length = q * bs) (hA : A.length ≤ bs) (hn : X.length + A.length ≤ n) (h : Blk k bs n (X ++ (A ++ Y))) : A.Pairwise (Le k) := by
  refine get_pw (fun i j x y hij hx hy => ?_)
  have hi := (List.getElem?_eq_some_iff.1 hx).1
  have hj := (List.getElem?_eq_some_iff.1 hy).1
  refine h q (X.length + i) (X.length + j) x y (by omega) (by omega) (by omega) (by omega) ?_ ?_
  · rw [seg_mid (by omega) (by omega), Nat.add_sub_cancel_left]; exact hx
  · rw [seg_mid (by omega) (by omega), Nat.add_sub_cancel_left]; exact hy
theorem Blk.rest {bs t n : Nat} {R : List α} (h1 : Blk k (2 * bs) (t * (2 * bs)) R) (h2 : Blk k bs n R) (hn : n ≤ t * (2 * bs) + bs) : Blk k (2 * bs) n R := by
  have e : t * (2 * bs) = (2 * t) * bs := by rw [Nat.mul_left_comm, Nat.mul_assoc]
  intro q i j x y g1 g2 g3 g4 hx hy
  rcases Nat.lt_or_ge q t with hq | hq
  · have : (q + 1) * (2 * bs) ≤ t * (2 * bs) := Nat.mul_le_mul_right _ hq
    rw [Nat.succ_mul] at this
    exact h1 q i j x y g1 g2 g3 (by omega) hx hy
  · have h5 : t * (2 * bs) ≤ q * (2 * bs) := Nat.mul_le_mul_right _ hq
    exact h2 (2 * t) i j x y (by omega) g2 (by omega) g4 hx hy
theorem Blk.all {bs n : Nat} {R : List α} (h : Blk k bs n R) (hn : R.length = n) (hb : n ≤ bs) : R.Pairwise (Le k) := by
  refine get_pw (fun i j x y hij hx hy => ?_)
  have hj := (List.getElem?_eq_some_iff.1 hy).1
  exact h 0 i j x y (by omega) hij (by omega) (by omega) hx hy
/-- A row parted at two places. -/
theorem parts (R : List α) {a b : Nat} (h : a ≤ b) (hb : b ≤ R.length) : ∃ X A Y, R = X ++ (A ++ Y) ∧ X.length = a ∧ A.length = b - a := by
  refine ⟨R.take a, (R.drop a).take (b - a), (R.drop a).drop (b - a), ?_, ?_, ?_⟩
  · rw [List.take_append_drop, List.take_append_drop]
  · rw [List.length_take]; omega
  · rw [List.length_take, List.length_drop]; omega
end
end Go.Proofs.YtficgjklagnbjaaGreat.St
