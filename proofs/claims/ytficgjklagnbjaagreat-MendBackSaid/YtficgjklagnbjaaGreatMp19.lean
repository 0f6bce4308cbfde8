/- MendBack's rounds, in plain data. Conditions: none. -/
import Derived.Test.YtficgjklagnbjaaGreatMp18
namespace Go.Proofs.YtficgjklagnbjaaGreat
open Go Go.MapKept Go.RowKit Go.Proofs

/-- Where a transaction's entries stand. -/
def ownI (l : List En) (t : Tx) : Nat → List Int
  | 0 => []
  | i + 1 => match l[i]? with
    | some x => if x.t = t then ownI l t i ++ [(i : Int)] else ownI l t i
    | none => ownI l t i
theorem ownI_next {l : List En} {t : Tx} {i : Nat} {x : En} (h : l[i]? = some x) : ownI l t (i + 1) = if x.t = t then ownI l t i ++ [(i : Int)] else ownI l t i := by
  show (match l[i]? with | some x => _ | none => _) = _
  rw [h]
theorem ownI_mem {l : List En} {t : Tx} {z : Int} : ∀ {m : Nat}, z ∈ ownI l t m ↔ ∃ i : Nat, z = i ∧ i < m ∧ ∃ x, l[i]? = some x ∧ x.t = t
  | 0 => by
    constructor
    · intro h; cases h
    · rintro ⟨i, _, h, _⟩; omega
  | m + 1 => by
    have ih := ownI_mem (l := l) (t := t) (z := z) (m := m)
    cases hm : l[m]? with
    | none =>
      have e : ownI l t (m + 1) = ownI l t m := by
        show (match l[m]? with | some x => _ | none => _) = _
        rw [hm]
      rw [e, ih]
      constructor
      · rintro ⟨i, h1, h2, h3⟩; exact ⟨i, h1, by omega, h3⟩
      · rintro ⟨i, h1, h2, x, h3, h4⟩
        by_cases hi : i = m
        · rw [hi, hm] at h3; cases h3
        · exact ⟨i, h1, by omega, x, h3, h4⟩
    | some y =>
      rw [ownI_next hm]
      by_cases hy : y.t = t
      · rw [if_pos hy, List.mem_append, ih, List.mem_singleton]
        constructor
        · rintro (⟨i, h1, h2, h3⟩ | h)
          · exact ⟨i, h1, by omega, h3⟩
          · exact ⟨m, h, by omega, y, hm, hy⟩
        · rintro ⟨i, h1, h2, x, h3, h4⟩
          by_cases hi : i = m
          · exact .inr (by rw [h1, hi])
          · exact .inl ⟨i, h1, by omega, x, h3, h4⟩
      · rw [if_neg hy, ih]
        constructor
        · rintro ⟨i, h1, h2, h3⟩; exact ⟨i, h1, by omega, h3⟩
        · rintro ⟨i, h1, h2, x, h3, h4⟩
          by_cases hi : i = m
          · rw [hi, hm] at h3; cases h3; exact absurd h4 hy
          · exact ⟨i, h1, by omega, x, h3, h4⟩
theorem ownI_len (l : List En) (t : Tx) : ∀ m, (ownI l t m).length ≤ m
  | 0 => Nat.le_refl _
  | m + 1 => by
    have ih := ownI_len l t m
    cases hm : l[m]? with
    | none =>
      have e : ownI l t (m + 1) = ownI l t m := by
        show (match l[m]? with | some x => _ | none => _) = _
        rw [hm]
      rw [e]; omega
    | some y =>
      rw [ownI_next hm]
      by_cases hy : y.t = t
      · rw [if_pos hy, List.length_append]; simp; omega
      · rw [if_neg hy]; omega
theorem ofM_append (l m : List En) (t : Tx) : ofM (l ++ m) t = ofM l t ++ ofM m t := List.filter_append ..
theorem addP_all {S S' : PS} {y : En} (h : addP S y = (true, S')) : ∃ P, S'.all = S.all ++ [P] := by
  unfold addP at h
  split at h
  · split at h
    · cases h; exact ⟨_, rfl⟩
    · cases h
  · cases h; exact ⟨_, rfl⟩
section
variable {i : Nat} {S : PS} {c : Nat}
theorem JS.nobody (h : JS i S) (hc : 1 ≤ c) (hc5 : c < 5) (ho : ownI S.list (S.t c) S.list.length = []) (down : Int) : ∃ x, backM S.list (S.t c) down = (x, false) := by
  have h0 : ofM S.list (S.t c) = [] := by
    rw [List.eq_nil_iff_forall_not_mem]
    intro x hx
    obtain ⟨h1, h2, _⟩ := mem_ofM.1 hx
    obtain ⟨k, hk, e⟩ := List.getElem_of_mem h1
    have : (k : Int) ∈ ownI S.list (S.t c) S.list.length := ownI_mem.2 ⟨k, rfl, hk, x, by rw [List.getElem?_eq_getElem hk, e], h2⟩
    rw [ho] at this; cases this
  refine ⟨zeroE, ?_⟩
  rw [back_stk (by rw [h0]; exact Ch.nil), h0]
  rfl
/-- A past that is undone down to an entry, so many rounds behind the first. -/
structure Bk (i : Nat) (S : PS) (c k : Nat) (down : Int) (r : Nat) (S' : PS) : Prop where
  js : JS i S'
  tx : S'.tx = S.tx
  lst : ∃ m, S'.list = S.list ++ m
  all : ∃ m, S'.all = S.all ++ m
  st : ∃ s, S'.s c = s ++ stk (ofM (S.list.take k) (S.t c)) ∧ (∀ z ∈ s, down < z.lsn) ∧ r + s.length ≤ 90
theorem JS.bk (h : JS i S) (hi : i ≤ 40) (hc : 1 ≤ c) (hc5 : c < 5) {k : Nat} {x : En} (hx : S.list[k]? = some x) (hxt : x.t = S.t c)
    (hu : ∀ z ∈ ownI S.list (S.t c) S.list.length, (k : Int) < z → ∀ y, S.list[z.toNat]? = some y → y.kind = 2 → x.lsn ≤ y.next) :
    Bk i S c (k + 1) x.lsn 0 S ∧ lastN (ofM (S.list.take (k + 1)) (S.t c)) = x.lsn := by
  have hg := (h.li.ok x (List.mem_of_getElem? hx)).1
  have htk : S.list.take (k + 1) = S.list.take k ++ [x] := by rw [List.take_add_one, hx]; rfl
  have hla : lastN (ofM (S.list.take (k + 1)) (S.t c)) = x.lsn := by rw [htk, ofM_snoc2 _ _ hg, if_pos hxt, lastN_snoc]
  have hch := h.li.st _ (h.opn c hc hc5)
  have hsp : ofM S.list (S.t c) = ofM (S.list.take (k + 1)) (S.t c) ++ ofM (S.list.drop (k + 1)) (S.t c) := by rw [← ofM_append, List.take_append_drop]
  rw [hsp] at hch
  obtain ⟨s, h1, h2⟩ := stk_keep _ hch (fun y hy hk => by
    rw [hla]
    obtain ⟨a1, a2, _⟩ := mem_ofM.1 hy
    obtain ⟨j, hj, e⟩ := List.getElem_of_mem a1
    have hj2 : S.list[k + 1 + j]? = some y := by rw [← List.getElem?_drop, List.getElem?_eq_getElem hj, e]
    have hlt := (List.getElem?_eq_some_iff.1 hj2).1
    refine hu ((k + 1 + j : Nat) : Int) (ownI_mem.2 ⟨_, rfl, hlt, y, hj2, a2⟩) (by omega) y ?_ hk
    rw [Int.toNat_natCast]; exact hj2)
  rw [hla] at h2
  refine ⟨⟨h, rfl, ⟨[], by simp⟩, ⟨[], by simp⟩, s, ?_, h2, ?_⟩, hla⟩
  · show stk (ofM S.list (S.t c)) = _
    rw [hsp, h1]
  · have h3 := (h.len (c := c)).2
    have h4 := (h.len (c := c)).1
    have h5 : (S.s c).length = s.length + (stk (ofM (S.list.take (k + 1)) (S.t c))).length := by
      show (stk (ofM S.list (S.t c))).length = _
      rw [hsp, h1, List.length_append]
    omega
/-- A round: nothing more is to be undone, or one change is. -/
theorem Bk.step {k r : Nat} {down : Int} {S' : PS} (h : Bk i S c k down r S') (hi : i ≤ 1000) (hc : 1 ≤ c) (hc5 : c < 5) (hla : lastN (ofM (S.list.take k) (S.t c)) = down) (hop : Ch (ofM (S.list.take k) (S.t c))) :
    (∃ x, backM S'.list (S.t c) down = (x, false) ∧ stk (ofM S'.list (S.t c)) = stk (ofM (S.list.take k) (S.t c))) ∨
    ∃ (z : En) (n : Nat) (y : En) (S2 : PS), r < 90 ∧ backM S'.list (S.t c) down = (z, true) ∧ n < 4 ∧ z.page = (n : Int) ∧ down < z.lsn ∧ goodM z = true ∧ z.t = S.t c ∧ turnM z (lsnM S' c n) (S'.la c) = (y, 0) ∧ addP S' y = (true, S2) ∧ y.t.c = (c : Int) ∧ y.page = (n : Int) ∧ y.lsn = lsnM S' c n ∧ Bk i S c k down (r + 1) S2 := by
  obtain ⟨s, h1, h2, h3⟩ := h.st
  have ht : S'.t c = S.t c := by unfold PS.t; rw [h.tx]
  have hb := back_stk (h.js.li.st _ (h.js.opn c hc hc5)) down
  have hs : stk (ofM S'.list (S.t c)) = s ++ stk (ofM (S.list.take k) (S.t c)) := by
    have h9 := h1
    unfold PS.s at h9
    rw [ht] at h9
    exact h9
  rw [ht] at hb
  cases s with
  | nil =>
    left
    rw [List.nil_append] at hs
    refine ⟨zeroE, ?_, hs⟩
    rw [hb, hs]
    cases hk : stk (ofM (S.list.take k) (S.t c)) with
    | nil => rfl
    | cons z w =>
      have hz := stk_mem (own := ofM (S.list.take k) (S.t c)) (x := z) (by rw [hk]; exact .head _)
      have := (hop.sorted.2 z hz.1).1
      simp only
      rw [if_pos (by omega)]
  | cons z s =>
    right
    have hz : down < z.lsn := h2 z (.head _)
    obtain ⟨n, y, S2, a1, a2, a3, a4, a5, a6, a7, a8, a9, a10, a11, a12, _⟩ := h.js.turn hi hc hc5 (z := z) (r := s ++ stk (ofM (S.list.take k) (S.t c))) h1
    have hzm := stk_mem (own := ofM S'.list (S'.t c)) (x := z) (by rw [show stk (ofM S'.list (S'.t c)) = _ from h1]; exact .head _)
    obtain ⟨b1, b2, b3⟩ := mem_ofM.1 hzm.1
    have hye : y = turnE z (lsnM S' c n) (S'.la c) := (turnM_ok a3).1
    obtain ⟨m, hm⟩ := h.lst
    obtain ⟨q, hq⟩ := h.all
    obtain ⟨P, hP⟩ := addP_all a4
    refine ⟨z, n, y, S2, by simp only [List.length_cons] at h3; omega, ?_, a1, a2, hz, b3, by rw [b2, ht], a3, a4, by rw [a9]; rfl, by rw [a11, a2], by rw [hye]; rfl, a5, by rw [a7, h.tx], ⟨m ++ [y], by rw [a8, hm, List.append_assoc]⟩, ⟨q ++ [P], by rw [hP, hq, List.append_assoc]⟩, s, a6, fun w hw => h2 w (List.mem_cons_of_mem _ hw), by simp only [List.length_cons] at h3; omega⟩
    rw [hb, hs]
    show (if z.lsn ≤ down then _ else _) = _
    rw [if_neg (by omega)]
theorem Bk.fin {k r : Nat} {down : Int} {S' : PS} (h : Bk i S c k down r S') (hc : 1 ≤ c) (hc5 : c < 5) (hk : k ≤ S.list.length) (hs : stk (ofM S'.list (S.t c)) = stk (ofM (S.list.take k) (S.t c))) {P : List Lf} (hP : S.all[k]? = some P) {j n : Nat} {x : En} (hj : j < k) (hx : S.list[j]? = some x) (hxt : x.t = S.t c) (hn : n < 4) (hxp : x.page = (n : Int)) (q : Nat) :
    S'.list[j]? = some x ∧ atM (pgAt S'.now n) q = atM (pgAt P n) q := by
  obtain ⟨m, hm⟩ := h.lst
  obtain ⟨u, hu⟩ := h.all
  have ht : S'.t c = S.t c := by unfold PS.t; rw [h.tx]
  have htk : S'.list.take k = S.list.take k := by rw [hm, List.take_append_of_le_length hk]
  have hxs : S'.list[j]? = some x := by rw [hm, List.getElem?_append_left (by omega)]; exact hx
  have hmem : x ∈ S'.list.take k := by
    rw [htk]
    exact List.mem_of_getElem? (by rw [List.getElem?_take_of_lt hj]; exact hx)
  have hg := (h.js.li.ok x (List.mem_of_mem_take hmem)).1
  refine ⟨hxs, h.js.down hc hc5 (k := k) (by rw [hm, List.length_append]; omega) hn (by rw [hu, List.getElem?_append_left (List.getElem?_eq_some_iff.1 hP).1]; exact hP) ?_ (mem_ofM.2 ⟨hmem, by rw [ht]; exact hxt, hg⟩) hxp q⟩
  rw [ht, htk]; exact hs
end
end Go.Proofs.YtficgjklagnbjaaGreat
