/- Equal edges in a row are one: walked. Conditions: none. -/
import Derived.Test.YthgfbnopbfiifaaKeyE
import Derived.Test.YthgfbnopbfiifaaKey12
import Derived.Deep.QuietTactic
import Derived.BigQuiet
namespace Go.Proofs.Ythgfbnopbfiifaa
open Go Go.MapKept Go.RowKit Go.Proofs Go.Sort

abbrev EL := List (Int × Int)
def ddS (a : EL) (x : Int × Int) : EL := if a.getLast? = some x then a else a ++ [x]
/-- Equal ones in a row are one. -/
def dd (L : EL) : EL := L.foldl ddS []
theorem dd_app (L : EL) (x : Int × Int) : dd (L ++ [x]) = ddS (dd L) x := by unfold dd; rw [List.foldl_append]; rfl
theorem dd_last : ∀ (L : EL), (dd L).getLast? = L.getLast? := by
  intro L
  rcases List.eq_nil_or_concat L with rfl | ⟨L', x, rfl⟩
  · rfl
  · rw [List.concat_eq_append, dd_app]
    unfold ddS
    split
    · rename_i h
      rw [h]; simp
    · simp
theorem dd_len : ∀ (L : EL), (dd L).length ≤ L.length := by
  intro L
  induction h : L.length generalizing L with
  | zero =>
    have : L = [] := List.eq_nil_of_length_eq_zero h
    subst this; simp [dd]
  | succ n ih =>
    rcases List.eq_nil_or_concat L with rfl | ⟨L', x, rfl⟩
    · simp at h
    · rw [List.concat_eq_append] at h ⊢
      rw [dd_app]
      have h1 : L'.length = n := by simpa using h
      have := ih L' h1
      unfold ddS
      split
      · omega
      · simp only [List.length_append, List.length_cons, List.length_nil]; omega
theorem dd_take {L : EL} {j : Nat} {x : Int × Int} (h : L[j]? = some x) : dd (L.take (j + 1)) = ddS (dd (L.take j)) x := by
  rw [List.take_add_one, h]
  exact dd_app _ _
theorem take_last {L : EL} {j : Nat} {y : Int × Int} (h : L[j]? = some y) : (L.take (j + 1)).getLast? = some y := by
  rw [List.take_add_one, h]; simp
theorem dd_same {L : EL} {j : Nat} {x : Int × Int} (h0 : L[j]? = some x) (h : L[j + 1]? = some x) : dd (L.take (j + 2)) = dd (L.take (j + 1)) := by
  rw [dd_take h]
  unfold ddS
  rw [if_pos (by rw [dd_last, take_last h0])]
theorem dd_other {L : EL} {j : Nat} {x y : Int × Int} (h0 : L[j]? = some y) (h : L[j + 1]? = some x) (hn : x ≠ y) : dd (L.take (j + 2)) = dd (L.take (j + 1)) ++ [x] := by
  rw [dd_take h]
  unfold ddS
  rw [if_neg (by rw [dd_last, take_last h0]; intro e; exact hn (Option.some.inj e).symm)]
/-- Sorted ones made one each: strictly rising, and the same ones. -/
theorem dd_sorted : ∀ (L : EL), L.Pairwise (fun x y => ¬ LtE y x) → (dd L).Pairwise LtE ∧ ∀ x, x ∈ dd L ↔ x ∈ L := by
  intro L
  induction h : L.length generalizing L with
  | zero =>
    have : L = [] := List.eq_nil_of_length_eq_zero h
    subst this
    intro _; exact ⟨by simp [dd], fun x => by simp [dd]⟩
  | succ n ih =>
    intro hp
    rcases List.eq_nil_or_concat L with rfl | ⟨L', x, rfl⟩
    · simp at h
    · rw [List.concat_eq_append] at h hp ⊢
      rw [List.pairwise_append] at hp
      obtain ⟨hp1, _, hp3⟩ := hp
      obtain ⟨a, b⟩ := ih L' (by simpa using h) hp1
      rw [dd_app]
      unfold ddS
      split
      · rename_i hl
        refine ⟨a, fun y => ?_⟩
        rw [b]
        simp only [List.mem_append, List.mem_singleton]
        constructor
        · exact .inl
        · rintro (h1 | rfl)
          · exact h1
          · rw [dd_last] at hl
            exact List.mem_of_getLast? hl
      · rename_i hl
        constructor
        · rw [List.pairwise_append]
          refine ⟨a, by simp, fun y hy z hz => ?_⟩
          obtain rfl : z = x := by simpa using hz
          have hy2 := (b y).1 hy
          have h1 := hp3 y hy2 z (by simp)
          by_cases h2 : LtE y z
          · exact h2
          · have e := ltE_tri h2 h1
            subst e
            exfalso
            apply hl
            rw [dd_last]
            rcases List.eq_nil_or_concat L' with rfl | ⟨L2, u, rfl⟩
            · cases hy2
            · rw [List.concat_eq_append] at hp1 hp3 hy2 ⊢
              have hu := hp3 u (by simp) y (by simp)
              rcases List.mem_append.1 hy2 with hy3 | hy3
              · rw [List.pairwise_append] at hp1
                have h3 := hp1.2.2 y hy3 u (by simp)
                have e := ltE_tri hu h3
                rw [e]; simp
              · obtain rfl : y = u := by simpa using hy3
                simp
        · intro y
          simp only [List.mem_append, List.mem_singleton, b]
/-- The row while it is gone over: what is kept of the first j, then the rest as it was. -/
def CpAt (g : Nat) (L : EL) (sz : Nat) (G : Heaplet) (k j : Nat) (w : World) : Prop := ∃ cur : Array Value, cur.size = sz ∧ (dd (L.take j)).length = k ∧
    (∀ (i : Nat) x, (dd (L.take j) ++ L.drop k)[i]? = some x → cur[i * 2]? = some (kI x.1) ∧ cur[i * 2 + 1]? = some (kI x.2)) ∧ Sat w (.blk g (.cells cur 47) :: G)
section
variable {g sz k j : Nat} {L : EL} {G : Heaplet} {w : World}
theorem CpAt.grown {w' : World} (h : CpAt g L sz G k j w) (hg : Grown w w') : CpAt g L sz G k j w' := by
  obtain ⟨cur, h1, h2, h3, s⟩ := h
  exact ⟨cur, h1, h2, h3, s.grown hg⟩
theorem CpAt.skip {x : Int × Int} (h : CpAt g L sz G k (j + 1) w) (h0 : L[j]? = some x) (h1 : L[j + 1]? = some x) : CpAt g L sz G k (j + 2) w := by
  obtain ⟨cur, a, b, c, s⟩ := h
  have e := dd_same h0 h1
  exact ⟨cur, a, by rw [e]; exact b, by rw [e]; exact c, s⟩
theorem rest_get {A : EL} {k i : Nat} {x : Int × Int} (hk : A.length = k) (h : k ≤ i) (hx : L[i]? = some x) : (A ++ L.drop k)[i]? = some x := by
  rw [List.getElem?_append_right (by omega), List.getElem?_drop, hk]
  rw [show k + (i - k) = i from by omega]
  exact hx
theorem CpAt.keep {x y : Int × Int} (h : CpAt g L sz G k (j + 1) w) (h0 : L[j]? = some y) (h1 : L[j + 1]? = some x) (hn : x ≠ y) (hk : k ≤ j + 1) (hsz : L.length * 2 ≤ sz) :
    CpAt g L sz G (k + 1) (j + 2) ((w.setCell ⟨g, k * 2, none⟩ (kI x.1)).setCell ⟨g, k * 2 + 1, none⟩ (kI x.2)) := by
  obtain ⟨cur, a, b, c, s⟩ := h
  have hjl := (List.getElem?_eq_some_iff.1 h1).1
  have e := dd_other h0 h1 hn
  refine ⟨(cur.setIfInBounds (k * 2) (kI x.1)).setIfInBounds (k * 2 + 1) (kI x.2), by simpa using a, by rw [e, List.length_append, b]; rfl, fun i z hz => ?_, (s.setCell _).setCell _⟩
  rw [e] at hz
  by_cases hi : i = k
  · subst hi
    rw [List.append_assoc, List.getElem?_append_right (by omega), b, Nat.sub_self] at hz
    have hz : x = z := by simpa using hz
    subst hz
    constructor
    · rw [Array.getElem?_setIfInBounds_ne (by omega), Array.getElem?_setIfInBounds_self_of_lt (by omega)]
    · rw [Array.getElem?_setIfInBounds_self_of_lt (by simp; omega)]
  · have hz2 : (dd (L.take (j + 1)) ++ L.drop k)[i]? = some z := by
      rcases Nat.lt_or_ge i k with h2 | h2
      · rw [List.append_assoc, List.getElem?_append_left (by omega)] at hz
        rw [List.getElem?_append_left (by omega)]; exact hz
      · rw [List.append_assoc, List.getElem?_append_right (by omega), List.getElem?_append_right (by simp; omega), List.getElem?_drop] at hz
        rw [List.getElem?_append_right (by omega), List.getElem?_drop]
        rw [← hz]
        congr 1
        simp only [List.length_cons, List.length_nil]
        omega
    obtain ⟨u, v⟩ := c i z hz2
    constructor
    · rw [Array.getElem?_setIfInBounds_ne (by omega), Array.getElem?_setIfInBounds_ne (by omega)]; exact u
    · rw [Array.getElem?_setIfInBounds_ne (by omega), Array.getElem?_setIfInBounds_ne (by omega)]; exact v
theorem CpAt.cells {x : Int × Int} {i : Nat} (h : CpAt g L sz G k j w) (hi : k ≤ i) (hx : L[i]? = some x) : w.cell? ⟨g, i * 2, none⟩ = some (kI x.1) ∧ w.cell? ⟨g, i * 2 + 1, none⟩ = some (kI x.2) := by
  obtain ⟨cur, a, b, c, s⟩ := h
  rw [cell_of s.h0, cell_of s.h0]
  exact c i x (rest_get b hi hx)
theorem CpAt.has (h : CpAt g L sz G k j w) (i : Nat) (hi : i < sz) : (w.cell? ⟨g, i, none⟩).isSome = true := by
  obtain ⟨cur, a, b, c, s⟩ := h
  rw [cell_of s.h0, Array.getElem?_eq_getElem (by omega)]; rfl
theorem CpAt.fz (h : CpAt g L sz G k j w) (i : Nat) : w.frozen? ⟨g, i, none⟩ = false := by
  obtain ⟨cur, a, b, c, s⟩ := h
  exact unfrozen_of s.h0 i
theorem flat_E {cur : Array Value} {R : EL} (hle : R.length * 2 ≤ cur.size) (h : ∀ (k : Nat) r, R[k]? = some r → cur[k * 2]? = some (kI r.1) ∧ cur[k * 2 + 1]? = some (kI r.2)) : cur.toList.take (R.length * 2) = R.flatMap flE := by
  apply List.ext_getElem?
  intro m
  rw [List.getElem?_take]
  by_cases hm : m < R.length * 2
  · rw [if_pos hm, Array.getElem?_toList]
    have hk : m / 2 < R.length := by omega
    obtain ⟨r, hr⟩ : ∃ r, R[m / 2]? = some r := ⟨_, List.getElem?_eq_getElem hk⟩
    obtain ⟨a, b⟩ := h _ r hr
    have h2 : m % 2 = 0 ∨ m % 2 = 1 := by omega
    rcases h2 with h2 | h2
    · have e : m = m / 2 * 2 + 0 := by omega
      have := fm_get flE_len R (m / 2) 0 r (kI r.1) hr rfl
      rw [← e] at this
      rw [this, ← a]
      congr 1
    · have e : m = m / 2 * 2 + 1 := by omega
      have := fm_get flE_len R (m / 2) 1 r (kI r.2) hr rfl
      rw [← e] at this
      rw [this, ← b]
      congr 1
  · rw [if_neg hm, List.getElem?_eq_none (by rw [fm_len flE_len]; omega)]
theorem zeroEd (w : World) : (zeroValue 47).run Try.prog w = .ok (.agg #[.int .i64 0, .int .i64 0]) w := by kernel_rfl
theorem zeroEd_len (n : Nat) : (Builtin.zeroCells (Value.agg #[.int .i64 0, .int .i64 0]).cells n).toList.length = n * 2 := by
  simp [Builtin.zeroCells, Value.cells]
theorem zeroEd_one (n : Nat) : ∀ v ∈ (Builtin.zeroCells (Value.agg #[.int .i64 0, .int .i64 0]).cells n).toList, v.oneCell' = true := by
  intro v hv
  simp only [Builtin.zeroCells, Array.toList_map, List.mem_map] at hv
  obtain ⟨i, _, rfl⟩ := hv
  have h2 : i % 2 = 0 ∨ i % 2 = 1 := by omega
  show ((#[Value.int .i64 0, Value.int .i64 0] : Array Value)[i % 2]!).oneCell' = true
  rcases h2 with h | h <;> (rw [h]; rfl)
/-- Behind the last: the tail is cleared. -/
theorem CpAt.fin {cap : Nat} (h : CpAt g L sz G k L.length w) (hi : k < L.length) (hc : L.length ≤ cap) (hm : cap ≤ maxLen) (hsz : cap * 2 = sz) :
    ∃ w' h', (Builtin.clear_ #[41] 0 #[.slice (some ⟨g, k * 2, none⟩) (L.length - k) (cap - k)]).run Try.prog w = .ok (.tuple #[]) w' ∧ ESl (.slice (some ⟨g, 0, none⟩) k cap) (dd L) h' ∧ Sat w' (h' ++ G) := by
  have hall := h.has
  have hfz := h.fz
  obtain ⟨cur, h1, h2, h3, s⟩ := h
  rw [List.take_length] at h2 h3
  have hr := run_clear_gen (P := Try.prog) w 41 47 0 _ Try.underlying41 zeroEd g (k * 2) (L.length - k) (cap - k) (by omega) (zeroEd_one _) (fun j hj => hall _ (by rw [zeroEd_len] at hj; omega)) hfz
  obtain ⟨c1, e1, s1, e2⟩ := sat_setCells (Builtin.zeroCells (Value.agg #[.int .i64 0, .int .i64 0]).cells (L.length - k)).toList (k * 2) w cur s (by rw [zeroEd_len]; omega)
  have hfl : c1.toList.take ((dd L).length * 2) = (dd L).flatMap flE := by
    refine flat_E (by rw [h2]; omega) fun i r hk => ?_
    have hkl := (List.getElem?_eq_some_iff.1 hk).1
    rw [h2] at hkl
    rw [e2 _ (by omega), e2 _ (by omega)]
    exact h3 i r (by rw [List.getElem?_append_left (by omega)]; exact hk)
  exact ⟨_, _, hr, ⟨fm_len flE_len _, .inr ⟨g, cap, c1, by rw [h2], by omega, hm, by omega, hfl, rfl⟩⟩, s1⟩
/-- The row at the start. -/
theorem CpAt.start {cap : Nat} {h : Heaplet} (hv : ESl (.slice (some ⟨g, 0, none⟩) L.length cap) L h) (s : Sat w (h ++ G)) : L.length ≤ cap ∧ cap ≤ maxLen ∧ CpAt g L (cap * 2) G 0 0 w := by
  have hv' := hv
  rcases hv.2 with ⟨e, _⟩ | ⟨g', cap', cur, e, hnc, hcm, hcs, htake, rfl⟩
  · cases e
  · cases e
    refine ⟨hnc, hcm, cur, hcs, rfl, fun i x hx => ?_, s⟩
    have hx : L[i]? = some x := by simpa [dd] using hx
    obtain ⟨a, cap2, e, hc⟩ := sl_cells flE_len hv' s
    cases e
    obtain ⟨g2, e2, _, hu⟩ := hc i x hx
    cases e2
    have u0 := hu 0 _ rfl
    have u1 := hu 1 _ rfl
    rw [cell_of s.h0] at u0 u1
    exact ⟨u0, u1⟩
/-- As long as nothing is left out. -/
theorem CpAt.next {x : Int × Int} {y : Int × Int} (h : CpAt g L sz G (j + 1) (j + 1) w) (h0 : L[j]? = some y) (h1 : L[j + 1]? = some x) (hn : x ≠ y) : CpAt g L sz G (j + 2) (j + 2) w := by
  obtain ⟨cur, a, b, c, s⟩ := h
  have e := dd_other h0 h1 hn
  refine ⟨cur, a, by rw [e, List.length_append, b]; rfl, fun i z hz => c i z ?_, s⟩
  rw [e] at hz
  rw [← hz]
  have hd : L.drop (j + 1) = x :: L.drop (j + 2) := by
    rw [List.drop_eq_getElem_cons (List.getElem?_eq_some_iff.1 h1).1]
    rw [(List.getElem?_eq_some_iff.1 h1).2]
  rw [hd]; simp
theorem CpAt.one {x : Int × Int} (h : CpAt g L sz G 0 0 w) (h0 : L[0]? = some x) : CpAt g L sz G 1 1 w := by
  obtain ⟨cur, a, b, c, s⟩ := h
  have e : dd (L.take 1) = [x] := by
    rw [show (1 : Nat) = 0 + 1 from rfl, dd_take h0]; rfl
  refine ⟨cur, a, by rw [e]; rfl, fun i z hz => c i z ?_, s⟩
  rw [e] at hz
  rw [← hz]
  have hd : L.drop 0 = x :: L.drop 1 := by
    rw [List.drop_eq_getElem_cons (List.getElem?_eq_some_iff.1 h0).1]
    rw [(List.getElem?_eq_some_iff.1 h0).2]
  simp only [List.take_zero]
  rw [hd]; rfl
theorem CpAt.all {cap : Nat} (h : CpAt g L sz G L.length L.length w) (hc : L.length ≤ cap) (hm : cap ≤ maxLen) (hsz : cap * 2 = sz) : ∃ h', ESl (.slice (some ⟨g, 0, none⟩) L.length cap) (dd L) h' ∧ Sat w (h' ++ G) := by
  obtain ⟨cur, h1, h2, h3, s⟩ := h
  rw [List.take_length] at h2 h3
  refine ⟨_, ⟨fm_len flE_len _, .inr ⟨g, cap, cur, by rw [h2], by omega, hm, by omega, flat_E (by omega) fun i r hk => h3 i r ?_, rfl⟩⟩, s⟩
  rw [List.getElem?_append_left (List.getElem?_eq_some_iff.1 hk).1]; exact hk
end
end Go.Proofs.Ythgfbnopbfiifaa
