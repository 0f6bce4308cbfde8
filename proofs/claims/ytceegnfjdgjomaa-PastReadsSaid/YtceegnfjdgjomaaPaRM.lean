/- The document's lists, in plain words. Conditions: none. -/
import Derived.Test.YtceegnfjdgjomaaPaJM
import Derived.Test.YtceegnfjdgjomaaPaLess
namespace Go.Proofs.Ytceegnfjdgjomaa
open Go Go.MapKept Go.RowKit Go.Proofs Go.Sort Go.Shelf

theorem any_cong {α : Type} {f g : α → Bool} : ∀ {l : List α}, (∀ x ∈ l, f x = g x) → l.any f = l.any g
  | [], _ => rfl
  | a :: l, h => by rw [List.any_cons, List.any_cons, h a (.head _), any_cong (fun x hx => h x (.tail _ hx))]
theorem end_ref (l : List En) (t : Tx) : (ofM l t).any (fun x => decide (2 < x.kind)) = endM l t := by
  rw [← of_end]
  have key : ∀ x ∈ ofM l t, decide (2 < x.kind) = isEndM x := by
    intro x hx
    unfold ofM at hx
    rw [List.mem_filter, Bool.and_eq_true] at hx
    have hg := hx.2.2
    unfold goodM at hg
    rw [Bool.and_eq_true] at hg
    have h2 := hg.2
    unfold isEndM
    by_cases k1 : x.kind = 1
    · simp [k1]
    · rw [if_neg k1] at h2
      by_cases k2 : x.kind = 2
      · simp [k2]
      · rw [if_neg k2] at h2
        by_cases k3 : x.kind = 3 ∨ x.kind = 4
        · rcases k3 with k | k <;> simp [k]
        · rw [if_neg k3] at h2; cases h2
  exact any_cong key
/-! ### sorted pairs -/
section
variable {K : Type} [DecidableEq K] (lt : K → K → Bool)
/-- A pair laid in at its place. -/
def insL (t : K) (n : Int) : List (K × Int) → List (K × Int)
  | [] => [(t, n)]
  | v :: r => if lt t v.1 then (t, n) :: v :: r else if v.1 = t then (t, n) :: r else v :: insL t n r
/-- The document's loop: what is laid down, and whether the pair is laid in. -/
def insF (t : K) (n : Int) (s : List (K × Int) × Bool) (v : K × Int) : List (K × Int) × Bool :=
  let s1 := if (!s.2 && lt t v.1) = true then (s.1 ++ [(t, n)], true) else s
  if v.1 = t then (s1.1 ++ [(t, n)], true) else (s1.1 ++ [v], s1.2)
def insEnd (t : K) (n : Int) (s : List (K × Int) × Bool) : List (K × Int) := if s.2 = true then s.1 else s.1 ++ [(t, n)]
/-- The same for pages: a key that is there stays as it was. -/
def keepL (t : K) (n : Int) : List (K × Int) → List (K × Int)
  | [] => [(t, n)]
  | v :: r => if lt t v.1 then (t, n) :: v :: r else if v.1 = t then v :: r else v :: keepL t n r
def keepF (t : K) (n : Int) (s : List (K × Int) × Bool) (v : K × Int) : List (K × Int) × Bool :=
  let s1 := if (!s.2 && lt t v.1) = true then (s.1 ++ [(t, n)], true) else s
  (s1.1 ++ [v], s1.2 || decide (v.1 = t))
variable {lt}
variable (ir : ∀ a, lt a a = false) (tr : ∀ a b c, lt a b = true → lt b c = true → lt a c = true) (tri : ∀ a b, lt a b = false → lt b a = false → a = b)
include ir tr
omit tr in
theorem insF_done (t : K) (n : Int) : ∀ (L : List (K × Int)) (A : List (K × Int)), (∀ v ∈ L, lt t v.1 = true) → L.foldl (insF lt t n) (A, true) = (A ++ L, true)
  | [], A, _ => by simp
  | v :: r, A, h => by
    have hv := h v (.head _)
    have hne : ¬ v.1 = t := fun e => by rw [e, ir] at hv; cases hv
    rw [List.foldl_cons]
    have e : insF lt t n (A, true) v = (A ++ [v], true) := by simp [insF, hne]
    rw [e, insF_done t n r _ (fun u hu => h u (.tail _ hu))]
    simp
theorem insF_run (t : K) (n : Int) : ∀ (L : List (K × Int)) (A : List (K × Int)), L.Pairwise (fun a b => lt a.1 b.1 = true) → insEnd t n (L.foldl (insF lt t n) (A, false)) = A ++ insL lt t n L
  | [], A, _ => by simp [insEnd, insL]
  | v :: r, A, h => by
    rw [List.pairwise_cons] at h
    rw [List.foldl_cons]
    by_cases h1 : lt t v.1 = true
    · have hne : ¬ v.1 = t := fun e => by rw [e, ir] at h1; cases h1
      have e : insF lt t n (A, false) v = (A ++ [(t, n)] ++ [v], true) := by simp [insF, h1, hne]
      rw [e, insF_done ir t n r _ (fun u hu => tr _ _ _ h1 (h.1 u hu))]
      simp [insEnd, insL, h1]
    · have h1' : lt t v.1 = false := by simpa using h1
      by_cases h2 : v.1 = t
      · have e : insF lt t n (A, false) v = (A ++ [(t, n)], true) := by simp [insF, h1', h2, ir]
        rw [e, insF_done ir t n r _ (fun u hu => by have := h.1 u hu; rw [h2] at this; exact this)]
        simp [insEnd, insL, h2, ir]
      · have e : insF lt t n (A, false) v = (A ++ [v], false) := by simp [insF, h1', h2]
        rw [e, insF_run t n r _ h.2]
        simp [insL, h1', h2]
omit ir tr in
theorem keepF_done (t : K) (n : Int) : ∀ (L : List (K × Int)) (A : List (K × Int)), L.foldl (keepF lt t n) (A, true) = (A ++ L, true)
  | [], A => by simp
  | v :: r, A => by
    rw [List.foldl_cons]
    have e : keepF lt t n (A, true) v = (A ++ [v], true) := by simp [keepF]
    rw [e, keepF_done t n r]
    simp
omit tr in
theorem keepF_run (t : K) (n : Int) : ∀ (L : List (K × Int)) (A : List (K × Int)), L.Pairwise (fun a b => lt a.1 b.1 = true) → insEnd t n (L.foldl (keepF lt t n) (A, false)) = A ++ keepL lt t n L
  | [], A, _ => by simp [insEnd, keepL]
  | v :: r, A, h => by
    rw [List.pairwise_cons] at h
    rw [List.foldl_cons]
    by_cases h1 : lt t v.1 = true
    · have e : keepF lt t n (A, false) v = (A ++ [(t, n)] ++ [v], true) := by simp [keepF, h1]
      rw [e, keepF_done t n r _]
      simp [insEnd, keepL, h1]
    · have h1' : lt t v.1 = false := by simpa using h1
      by_cases h2 : v.1 = t
      · have e : keepF lt t n (A, false) v = (A ++ [v], true) := by simp [keepF, h1', h2, ir]
        rw [e, keepF_done t n r _]
        simp [insEnd, keepL, h2, ir]
      · have e : keepF lt t n (A, false) v = (A ++ [v], false) := by simp [keepF, h1', h2]
        rw [e, keepF_run t n r _ h.2]
        simp [keepL, h1', h2]
omit tr in
theorem get_above {t : K} : ∀ {L : List (K × Int)}, (∀ v ∈ L, lt t v.1 = true) → getL t L = none
  | [], _ => rfl
  | v :: r, h => by
    have hv := h v (.head _)
    have hne : ¬ v.1 = t := fun e => by rw [e, ir] at hv; cases hv
    simp only [getL, hne, if_false]
    exact get_above (fun u hu => h u (.tail _ hu))
omit ir tr in
theorem insL_get (t : K) (n : Int) (j : K) : ∀ L : List (K × Int), L.Pairwise (fun a b => lt a.1 b.1 = true) → getL j (insL lt t n L) = if j = t then some n else getL j L
  | [], _ => by by_cases h : j = t <;> simp [insL, getL, h]; intro h'; exact absurd h'.symm h
  | v :: r, h => by
    rw [List.pairwise_cons] at h
    unfold insL
    by_cases h1 : lt t v.1 = true
    · rw [if_pos h1]
      by_cases hj : j = t
      · simp [getL, hj]
      · have : ¬ t = j := fun e => hj e.symm
        simp [getL, hj, this]
    · rw [if_neg h1]
      by_cases h2 : v.1 = t
      · rw [if_pos h2]
        by_cases hj : j = t
        · simp [getL, hj]
        · have : ¬ t = j := fun e => hj e.symm
          simp [getL, hj, this, h2]
      · rw [if_neg h2]
        have ih := insL_get t n j r h.2
        simp only [getL, ih]
        by_cases hv : v.1 = j
        · have : ¬ j = t := fun e => h2 (hv.trans e)
          simp [hv, this]
        · simp [hv]
omit ir tr in
theorem insL_mem (t : K) (n : Int) : ∀ {L : List (K × Int)} {u : K × Int}, u ∈ insL lt t n L → u = (t, n) ∨ u ∈ L
  | [], u, h => by simp [insL] at h; exact .inl h
  | v :: r, u, h => by
    unfold insL at h
    split at h
    · rcases List.mem_cons.1 h with h | h
      · exact .inl h
      · exact .inr h
    · split at h
      · rcases List.mem_cons.1 h with h | h
        · exact .inl h
        · exact .inr (.tail _ h)
      · rcases List.mem_cons.1 h with h | h
        · exact .inr (h ▸ .head _)
        · rcases insL_mem t n h with h | h
          · exact .inl h
          · exact .inr (.tail _ h)
include tri
omit ir in
theorem insL_strict (t : K) (n : Int) : ∀ L : List (K × Int), L.Pairwise (fun a b => lt a.1 b.1 = true) → (insL lt t n L).Pairwise (fun a b => lt a.1 b.1 = true)
  | [], _ => by simp [insL]
  | v :: r, h => by
    have h' := h
    rw [List.pairwise_cons] at h
    unfold insL
    by_cases h1 : lt t v.1 = true
    · rw [if_pos h1, List.pairwise_cons]
      refine ⟨fun u hu => ?_, h'⟩
      rcases List.mem_cons.1 hu with e | hu
      · rw [e]; exact h1
      · exact tr _ _ _ h1 (h.1 u hu)
    · rw [if_neg h1]
      by_cases h2 : v.1 = t
      · rw [if_pos h2, List.pairwise_cons]
        exact ⟨fun u hu => by rw [← h2]; exact h.1 u hu, h.2⟩
      · rw [if_neg h2, List.pairwise_cons]
        refine ⟨fun u hu => ?_, insL_strict t n r h.2⟩
        rcases insL_mem t n hu with e | hu
        · rw [e]
          cases h3 : lt v.1 t with
          | true => rfl
          | false => exact absurd (tri _ _ h3 (by simpa using h1)) h2
        · exact h.1 u hu
omit tri in
theorem keep_ins (t : K) (n : Int) : ∀ L : List (K × Int), L.Pairwise (fun a b => lt a.1 b.1 = true) → keepL lt t n L = match getL t L with | some _ => L | none => insL lt t n L
  | [], _ => rfl
  | v :: r, h => by
    have h' := h
    rw [List.pairwise_cons] at h
    unfold keepL insL
    by_cases h1 : lt t v.1 = true
    · have : getL t (v :: r) = none := get_above ir (fun u hu => by
        rcases List.mem_cons.1 hu with e | hu
        · rw [e]; exact h1
        · exact tr _ _ _ h1 (h.1 u hu))
      rw [this, if_pos h1, if_pos h1]
    · rw [if_neg h1, if_neg h1]
      by_cases h2 : v.1 = t
      · simp [h2, getL]
      · rw [if_neg h2, if_neg h2, keep_ins t n r h.2]
        simp only [getL, h2, if_false]
        cases getL t r <;> rfl
omit tri in
theorem strict_ext {A B : List (K × Int)} (hA : A.Pairwise fun a b => lt a.1 b.1 = true) (hB : B.Pairwise fun a b => lt a.1 b.1 = true) (h : ∀ t, getL t A = getL t B) : A = B := by
  have nd : ∀ {L : List (K × Int)}, L.Pairwise (fun a b => lt a.1 b.1 = true) → (L.map (·.1)).Nodup := by
    intro L hL
    rw [List.Nodup, List.pairwise_map]
    exact hL.imp (fun q e => by rw [e, ir] at q; cases q)
  have key : ∀ {A B : List (K × Int)}, A.Pairwise (fun a b => lt a.1 b.1 = true) → B.Pairwise (fun a b => lt a.1 b.1 = true) → (∀ t, getL t A = getL t B) → A.Sublist B := by
    intro A B hA hB h
    refine sub_sorted (R := fun a b => lt a.1 b.1 = true) (fun a q => by rw [ir] at q; cases q) (fun a b c => tr _ _ _) hA hB ?_
    rintro ⟨t, n⟩ hm
    exact getL_mem ((h t).symm.trans (getL_of_mem (nd hA) hm))
  exact (key hA hB h).eq_of_length_le (key hB hA fun t => (h t).symm).length_le
end
theorem lessM_iff (a b : Tx) : lessM a b = true ↔ LtT a b := by unfold lessM; rw [decide_eq_true_iff]; exact cmpT_neg a b
theorem lessM_ir (a : Tx) : lessM a a = false := lessM_no (ltT_irr a)
theorem lessM_tr (a b c : Tx) (h : lessM a b = true) (k : lessM b c = true) : lessM a c = true := lessM_yes (ltT_trans ((lessM_iff _ _).1 h) ((lessM_iff _ _).1 k))
theorem lessM_tri (a b : Tx) (h : lessM a b = false) (k : lessM b a = false) : a = b := ltT_tri (fun q => by rw [lessM_yes q] at h; cases h) (fun q => by rw [lessM_yes q] at k; cases k)
def ltI (a b : Int) : Bool := decide (a < b)
theorem ltI_ir (a : Int) : ltI a a = false := by simp [ltI]
theorem ltI_tr (a b c : Int) (h : ltI a b = true) (k : ltI b c = true) : ltI a c = true := by simp [ltI] at *; omega
theorem ltI_tri (a b : Int) (h : ltI a b = false) (k : ltI b a = false) : a = b := by simp [ltI] at *; omega
/-- The losers that the document's loop has told when the entries m are read. -/
def LosR (l m : List En) (L : List (Tx × Int)) : Prop := L.Pairwise (fun a b => lessM a.1 b.1 = true) ∧ ∀ t, getL t L = getL t (lastM l m)
def PagR (first : Int) (m : List En) (L : List (Int × Int)) : Prop := L.Pairwise (fun a b => ltI a.1 b.1 = true) ∧ ∀ p, getL p L = getL p (pagM first m)
theorem losR_nil (l : List En) : LosR l [] [] := ⟨.nil, fun t => by simp [lastM]⟩
theorem pagR_nil (first : Int) : PagR first [] [] := ⟨.nil, fun t => by simp [pagM, firstM]⟩
theorem losR_skip {l m : List En} {L : List (Tx × Int)} {x : En} (h : LosR l m L) (hx : (goodM x && !endM l x.t) = false) : LosR l (m ++ [x]) L := by
  refine ⟨h.1, fun t => ?_⟩
  rw [lastM_snoc]; unfold stepL
  rw [if_neg (by rw [hx]; simp)]
  exact h.2 t
theorem losR_step {l m : List En} {L : List (Tx × Int)} {x : En} (h : LosR l m L) (hx : (goodM x && !endM l x.t) = true) : LosR l (m ++ [x]) (insL lessM x.t x.lsn L) := by
  refine ⟨insL_strict lessM_tr lessM_tri _ _ _ h.1, fun t => ?_⟩
  rw [insL_get _ _ _ _ h.1, lastM_snoc]
  unfold stepL
  rw [if_pos hx, getL_putL, h.2 t]
theorem pagR_skip {first : Int} {m : List En} {L : List (Int × Int)} {x : En} (h : PagR first m L) (hx : (goodM x && !isEndM x) = false) : PagR first (m ++ [x]) L := by
  refine ⟨h.1, fun p => ?_⟩
  rw [pagM_snoc]; unfold stepP
  rw [if_neg (by cases hg : goodM x <;> simp [hg] at hx ⊢; simp [hx])]
  exact h.2 p
theorem pagR_step {first : Int} {m : List En} {L : List (Int × Int)} {x : En} (h : PagR first m L) (hx : (goodM x && !isEndM x) = true) : PagR first (m ++ [x]) (keepL ltI x.page (first + m.length) L) := by
  rw [Bool.and_eq_true] at hx
  rw [keep_ins ltI_ir ltI_tr _ _ _ h.1]
  have hget := h.2 x.page
  cases hg : getL x.page L with
  | some v =>
    rw [hg] at hget
    refine ⟨h.1, fun p => ?_⟩
    rw [pagM_snoc]; unfold stepP
    rw [← hget]
    simp [h.2 p]
  | none =>
    rw [hg] at hget
    refine ⟨insL_strict ltI_tr ltI_tri _ _ _ h.1, fun p => ?_⟩
    show getL p (insL ltI x.page (first + m.length) L) = _
    rw [insL_get _ _ _ _ h.1, pagM_snoc]
    unfold stepP
    have hc : (goodM x && ((none : Option Int).isNone && !isEndM x)) = true := by simp [hx.1, hx.2]
    rw [← hget, if_pos hc, getL_putL, h.2 p]
theorem losR_all {l : List En} {L : List (Tx × Int)} (h : LosR l l L) : L = losersM l := by
  refine strict_ext lessM_ir lessM_tr h.1 ((losers_strict l).imp fun q => lessM_yes q) fun t => ?_
  rw [h.2 t]
  cases hg : getL t (losersM l) with
  | some n =>
    have hm := (mem_losers l t n).1 (getL_mem hg)
    rw [lastM_get, hm.1, hm.2]; rfl
  | none =>
    cases hl : getL t (lastM l l) with
    | none => rfl
    | some n =>
      rw [lastM_get] at hl
      cases he : endM l t with
      | true => rw [he] at hl; simp at hl
      | false =>
        rw [he] at hl
        have hm := (mem_losers l t n).2 ⟨he, by simpa using hl⟩
        exact absurd (List.mem_map.2 ⟨_, hm, rfl⟩) (getL_none.1 hg)
theorem pagR_all {l : List En} {first : Int} {L : List (Int × Int)} (h : PagR first l L) : L = pagesM l first :=
  strict_ext ltI_ir ltI_tr h.1 ((pages_strict l first).imp fun q => by simpa [ltI] using q) fun p => (h.2 p).trans (pages_get l first p).symm
theorem insL_len (t : Tx) (n : Int) : ∀ L : List (Tx × Int), (insL lessM t n L).length ≤ L.length + 1
  | [] => by simp [insL]
  | v :: r => by
    have := insL_len t n r
    unfold insL
    split
    · simp
    · split
      · simp
      · simp; omega
theorem keepL_len (t : Int) (n : Int) : ∀ L : List (Int × Int), (keepL ltI t n L).length ≤ L.length + 1
  | [] => by simp [keepL]
  | v :: r => by
    have := keepL_len t n r
    unfold keepL
    split
    · simp
    · split
      · simp
      · simp; omega
theorem foldl_take_succ {α β : Type} (f : β → α → β) (b : β) (L : List α) (k : Nat) (x : α) (hx : L[k]? = some x) : (L.take (k + 1)).foldl f b = f ((L.take k).foldl f b) x := by
  rw [List.take_add_one, hx, List.foldl_append]; rfl
end Go.Proofs.Ytceegnfjdgjomaa
