/- The end of the transaction, for LatchKeeps, in plain data; arrays of six. Conditions: none. -/
import Derived.Test.YtcndmiepbodpnaaLKeepsM
namespace Go.Proofs.Ytcndmiepbodpnaa
open Go Go.MapKept Go.RowKit Go.Proofs

theorem getL_end {D : Lks} (hn : (D.map (·.1)).Nodup) (p : Int) : getL p (endM D).2 = (getL p D).bind endK := by
  show getL p (endS (D.map (·.1)) D) = _
  rw [getL_endS _ _ _ hn]
  by_cases h : p ∈ D.map (·.1)
  · rw [if_pos h]
  · rw [if_neg h, getL_none.2 h]; rfl
theorem endK_zero {k k' : Lk} (h : endK k = some k') : k'.used = 0 ∧ k'.wait = 0 := by
  unfold endK at h
  split at h
  · cases h
  · split at h
    · rename_i h0
      cases h; exact ⟨rfl, h0⟩
    · cases h; exact ⟨rfl, rfl⟩
theorem letS_len (D : Lks) : ∀ S : List Int, (letS S D).length = (S.filter (owesB D)).length
  | [] => rfl
  | p :: S => by
    have ih := letS_len D S
    unfold letS at ih ⊢
    rw [List.filterMap_cons, List.filter_cons]
    unfold owesB at ih ⊢
    cases hk : getL p D with
    | none => simpa [hk] using ih
    | some k =>
      by_cases hw : k.wait = 0
      · simpa [hk, letK, hw] using ih
      · simpa [hk, letK, hw] using ih
def six : List Int := (List.range 6).map fun i : Nat => (i : Int)
theorem keeps_end {D : Lks} (h : LInv D) :
    LInv (endM D).2 ∧ (∀ j, usedM (endM D).2 j = 0) ∧ (∀ j, owesB (endM D).2 j = false) ∧ (endM D).1.length = (six.filter (owesB D)).length ∧
    (∀ y ∈ (endM D).1, hasM (endM D).2 y.1 true = false ∧ hasM (endM D).2 y.1 false = y.2) ∧ (endM D).2.length ≤ D.length := by
  have hg := getL_end h.nd
  refine ⟨⟨?_, ?_, ?_⟩, ?_, ?_, ?_, ?_, ?_⟩
  · intro q hq
    have hq : q ∈ endS (D.map (·.1)) D := hq
    unfold endS at hq
    obtain ⟨u, hu, e⟩ := List.mem_filterMap.1 hq
    have hb := h.keys u hu
    split at e
    · cases hk : endK u.2 with
      | none => rw [hk] at e; cases e
      | some k => rw [hk] at e; cases e; exact hb
    · cases e; exact hb
  · exact endS_keys _ _ h.nd
  · intro p k hk
    rw [hg] at hk
    cases hd : getL p D with
    | none => rw [hd] at hk; cases hk
    | some u =>
      rw [hd] at hk
      obtain ⟨h1, h2⟩ := endK_zero hk
      exact ⟨.inl h1, .inl h2, fun e => absurd h2 e, fun e => by omega⟩
  · intro j
    unfold usedM
    rw [hg]
    cases hd : getL j D with
    | none => rfl
    | some u =>
      cases hk : endK u with
      | none => simp [hk]
      | some k => simp [hk, (endK_zero hk).1]
  · intro j
    unfold owesB
    rw [hg]
    cases hd : getL j D with
    | none => rfl
    | some u =>
      cases hk : endK u with
      | none => simp [hk]
      | some k => simp [hk, (endK_zero hk).2]
  · show (letS (sortK (D.map (·.1))) D).length = _
    rw [letS_len]
    refine List.Perm.length_eq ?_
    have n1 : ((sortK (D.map (·.1))).filter (owesB D)).Nodup := (List.filter_sublist).nodup ((sortK_perm _).nodup_iff.2 h.nd)
    have n2 : (six.filter (owesB D)).Nodup := (List.filter_sublist).nodup (show six.Nodup by decide)
    refine (List.perm_ext_iff_of_nodup n1 n2).2 fun p => ?_
    rw [List.mem_filter, List.mem_filter, (sortK_perm _).mem_iff]
    constructor
    · rintro ⟨h1, h2⟩
      refine ⟨?_, h2⟩
      obtain ⟨q, hq, rfl⟩ := List.mem_map.1 h1
      have := h.keys q hq
      exact List.mem_map.2 ⟨q.1.toNat, List.mem_range.2 (by omega), by omega⟩
    · rintro ⟨h1, h2⟩
      refine ⟨?_, h2⟩
      by_cases hm : p ∈ D.map (·.1)
      · exact hm
      · have := getL_none.2 hm
        simp [owesB, this] at h2
  · intro y hy
    have hy : y ∈ letS (sortK (D.map (·.1))) D := hy
    unfold letS at hy
    obtain ⟨p, hp, e⟩ := List.mem_filterMap.1 hy
    cases hd : getL p D with
    | none => rw [hd] at e; cases e
    | some k =>
      rw [hd] at e
      have hok := h.ok p k hd
      have e : letK p k = some y := e
      unfold letK at e
      by_cases hw : k.wait = 0
      · rw [if_pos hw] at e; cases e
      · rw [if_neg hw] at e
        cases e
        have hgp := hg p
        rw [hd] at hgp
        by_cases h2 : k.wait = 2
        · have e1 : endK k = none := by simp [endK, h2]
          have e2 : getL p (endM D).2 = none := by rw [hgp]; exact e1
          constructor
          · simp [hasM, e2]
          · simp [hasM, e2, h2]
        · have h1 : k.wait = 1 := by have := hok.2.1; omega
          have e1 : endK k = some ⟨false, 0, 0⟩ := by simp [endK, h2, hw]
          have e2 : getL p (endM D).2 = some ⟨false, 0, 0⟩ := by rw [hgp]; exact e1
          constructor
          · simp [hasM, e2]
          · simp [hasM, e2, h1]
  · show (endS _ D).length ≤ _
    unfold endS
    exact List.length_filterMap_le _ _
def arr6 (f : Int → Value) : Array Value := #[f 0, f 1, f 2, f 3, f 4, f 5]
theorem six_cases {p : Int} (h0 : 0 ≤ p) (h1 : p < 6) : p = 0 ∨ p = 1 ∨ p = 2 ∨ p = 3 ∨ p = 4 ∨ p = 5 := by omega
theorem arr6_get (f : Int → Value) {p : Int} (h0 : 0 ≤ p) (h1 : p < 6) : (arr6 f)[p.toNat]? = some (f p) := by
  rcases six_cases h0 h1 with rfl | rfl | rfl | rfl | rfl | rfl <;> rfl
theorem arr6_set (f : Int → Value) {p : Int} (v : Value) (h0 : 0 ≤ p) (h1 : p < 6) : (arr6 f).setIfInBounds p.toNat v = arr6 (fun j => if j = p then v else f j) := by
  rcases six_cases h0 h1 with rfl | rfl | rfl | rfl | rfl | rfl <;> rfl
theorem arr6_ext {f g : Int → Value} (h : ∀ j, 0 ≤ j → j < 6 → f j = g j) : arr6 f = arr6 g := by
  unfold arr6
  rw [h 0 (by omega) (by omega), h 1 (by omega) (by omega), h 2 (by omega) (by omega), h 3 (by omega) (by omega), h 4 (by omega) (by omega), h 5 (by omega) (by omega)]
theorem six_take (g : Int → Bool) (r : Nat) (hr : r < 6) : ((six.take (r + 1)).filter g).length = ((six.take r).filter g).length + (if g (r : Int) then 1 else 0) := by
  have e : six.take (r + 1) = six.take r ++ [(r : Int)] := by
    have : six[r]? = some (r : Int) := by
      unfold six
      rw [List.getElem?_map, List.getElem?_range hr]; rfl
    rw [List.take_add_one, this]; rfl
  rw [e, List.filter_append, List.length_append]
  congr 1
  cases hg : g (r : Int) <;> simp [hg]
end Go.Proofs.Ytcndmiepbodpnaa
