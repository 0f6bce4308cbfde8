/- Two lists, one behind the other, in plain words. Conditions: none. -/
import Derived.Test.YtceegnfjdgjomaaPaNM
namespace Go.Proofs.Ytceegnfjdgjomaa
open Go Go.MapKept Go.RowKit Go.Proofs Go.Sort Go.Shelf

theorem hasM_app (A B : List Tx) (t : Tx) : hasM (A ++ B) t = (hasM A t || hasM B t) := by unfold hasM; rw [List.any_append]
theorem hasM_filter {p : Tx → Bool} {t : Tx} (hp : p t = true) (R : List Tx) : hasM (R.filter p) t = hasM R t := by
  cases h : hasM R t with
  | true => rw [hasM_iff] at h ⊢; exact List.mem_filter.2 ⟨h, hp⟩
  | false => rw [hasM_no] at h ⊢; exact fun q => h (List.mem_filter.1 q).1
theorem done_app (a : List En) : ∀ b : List En, doneM (a ++ b) = doneM a ++ (doneM b).filter (fun t => !hasM (doneM a) t) := by
  refine snoc_ind (by simp [doneM]) fun b x ih => ?_
  rw [← List.append_assoc, doneM_snoc, doneM_snoc, ih]
  unfold stepD
  cases hg : goodM x with
  | false => simp
  | true =>
    cases hk : (x.kind == 3) with
    | false => simp
    | true =>
      rw [hasM_app]
      cases hA : hasM (doneM a) x.t with
      | true =>
        cases hB : hasM (doneM b) x.t with
        | true => simp
        | false => simp [hA]
      | false =>
        rw [hasM_filter (by rw [hA]; rfl)]
        cases hB : hasM (doneM b) x.t with
        | true => simp
        | false => simp [hA]
theorem pag_app (a : List En) (first : Int) : ∀ (b : List En) (p : Int), getL p (pagM first (a ++ b)) = (getL p (pagM first a)).or (getL p (pagM (first + a.length) b)) := by
  refine snoc_ind (by intro p; simp [pagM, firstM, getL]) fun b x ih => ?_
  intro p
  rw [← List.append_assoc, pagM_snoc, pagM_snoc]
  have hc : first + ((a ++ b).length : Int) = first + (a.length : Int) + (b.length : Int) := by rw [List.length_append]; omega
  unfold stepP
  rw [hc, ih x.page]
  cases hg : goodM x with
  | false => simp [ih]
  | true =>
    cases he : isEndM x with
    | true => simp [ih]
    | false =>
      cases hA : getL x.page (pagM first a) with
      | some v =>
        cases hB : getL x.page (pagM (first + a.length) b) with
        | some u => simp [ih]
        | none =>
          simp only [Option.or_none, Option.isNone_some, Option.isNone_none, Bool.not_false, Bool.and_true, Bool.and_false, Bool.false_eq_true, if_false, if_true, ih, getL_putL]
          by_cases hp : p = x.page
          · subst hp; simp [hA]
          · simp [hp]
      | none =>
        cases hB : getL x.page (pagM (first + a.length) b) with
        | some u => simp [ih]
        | none =>
          simp only [Option.or_none, Option.isNone_none, Bool.not_false, Bool.and_true, if_true, ih, getL_putL]
          by_cases hp : p = x.page
          · subst hp; simp [hA]
          · simp [hp]
theorem getL_map {V : Type} (f : Int → V) (p : Int) : ∀ K : List Int, getL p (K.map fun k => (k, f k)) = if p ∈ K then some (f p) else none
  | [] => by simp [getL]
  | k :: r => by
    have ih := getL_map f p r
    by_cases h : k = p
    · subst h; simp [getL]
    · have h' : ¬ p = k := fun e => h e.symm
      simp only [List.map_cons, getL, h, if_false, ih, List.mem_cons, h', false_or]
theorem pages_get (l : List En) (first p : Int) : getL p (pagesM l first) = getL p (pagM first l) := by
  unfold pagesM
  rw [getL_map]
  cases hg : getL p (pagM first l) with
  | none =>
    have := getL_none.1 hg
    rw [if_neg (by rw [(sortK_perm _).mem_iff]; exact this)]
  | some n =>
    rw [if_pos (by rw [(sortK_perm _).mem_iff]; exact List.mem_map.2 ⟨_, getL_mem hg, rfl⟩)]
    rfl
theorem pages_nodup (l : List En) (first : Int) : ((pagesM l first).map (·.1)).Nodup := by
  rw [List.Nodup, List.pairwise_map]
  exact (pages_strict l first).imp (fun h e => by omega)
/-- The last of the pairs with this key. -/
def pickM (p : Int) (L : List (Int × Int)) (d : Int) : Int := L.foldl (fun acc q => if q.1 = p then q.2 else acc) d
theorem pick_take (p : Int) (L : List (Int × Int)) (d : Int) (k : Nat) (x : Int × Int) (hx : L[k]? = some x) : pickM p (L.take (k + 1)) d = if x.1 = p then x.2 else pickM p (L.take k) d := by
  rw [List.take_add_one, hx]
  unfold pickM
  rw [List.foldl_append]; rfl
theorem pick_get (p : Int) : ∀ (L : List (Int × Int)) (d : Int), (L.map (·.1)).Nodup → pickM p L d = (getL p L).getD d
  | [], d, _ => rfl
  | q :: r, d, h => by
    rw [List.map_cons, List.nodup_cons] at h
    have ih := pick_get p r (if q.1 = p then q.2 else d) h.2
    unfold pickM at ih ⊢
    rw [List.foldl_cons, ih]
    by_cases e : q.1 = p
    · have hn : getL p r = none := getL_none.2 (e ▸ h.1)
      simp [getL, e, hn]
    · simp [getL, e]
theorem pages_join {a b : List En} {i : Nat} {x : Int × Int} (hx : (pagesM (a ++ b) 1)[i]? = some x) : pickM x.1 (pagesM a 1) (pickM x.1 (pagesM b (1 + a.length)) 0) = x.2 := by
  have hm := List.mem_of_getElem? hx
  have h1 : getL x.1 (pagesM (a ++ b) 1) = some x.2 := getL_of_mem (pages_nodup _ _) hm
  rw [pages_get, pag_app] at h1
  rw [pick_get _ _ _ (pages_nodup _ _), pick_get _ _ _ (pages_nodup _ _), pages_get, pages_get]
  cases hA : getL x.1 (pagM 1 a) with
  | some v => rw [hA] at h1; simp at h1; simp [h1]
  | none => rw [hA] at h1; simp at h1; simp [h1]
theorem keys_sub {A B : List (Int × Int)} (hA : A.Pairwise fun a b => a.1 < b.1) (hB : B.Pairwise fun a b => a.1 < b.1) (h : ∀ p, (getL p A).isSome = true → (getL p B).isSome = true) : A.length ≤ B.length := by
  have hs : (A.map (·.1)).Sublist (B.map (·.1)) := by
    refine sub_sorted (R := (· < ·)) (fun a => Int.lt_irrefl a) (fun a b c => Int.lt_trans) (List.pairwise_map.2 hA) (List.pairwise_map.2 hB) fun p hp => ?_
    have h1 : (getL p A).isSome = true := by
      cases hg : getL p A with
      | some v => rfl
      | none => exact absurd hp (getL_none.1 hg)
    have h2 := h p h1
    cases hg : getL p B with
    | none => rw [hg] at h2; cases h2
    | some v => exact List.mem_map.2 ⟨_, getL_mem hg, rfl⟩
  have := hs.length_le
  simpa using this
theorem pages_len_left (a b : List En) : (pagesM a 1).length ≤ (pagesM (a ++ b) 1).length := by
  refine keys_sub (pages_strict _ _) (pages_strict _ _) fun p hp => ?_
  rw [pages_get] at hp ⊢
  rw [pag_app]
  cases hA : getL p (pagM 1 a) with
  | some v => rfl
  | none => rw [hA] at hp; cases hp
theorem pages_len_right (a b : List En) : (pagesM b (1 + a.length)).length ≤ (pagesM (a ++ b) 1).length := by
  refine keys_sub (pages_strict _ _) (pages_strict _ _) fun p hp => ?_
  rw [pages_get] at hp ⊢
  rw [pag_app]
  cases hA : getL p (pagM 1 a) with
  | some v => rfl
  | none => simpa using hp
theorem filter_take_succ (p : Tx → Bool) (L : List Tx) (k : Nat) (x : Tx) (hx : L[k]? = some x) : (L.take (k + 1)).filter p = (L.take k).filter p ++ if p x = true then [x] else [] := by
  rw [List.take_add_one, hx, List.filter_append]
  congr 1
  cases h : p x <;> simp [h]
end Go.Proofs.Ytceegnfjdgjomaa
