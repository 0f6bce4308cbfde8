/- A client's requests are taken out of a queue: walked. Conditions: none. -/
import Derived.Test.YthgfbnopbfiifaaKey7
import Derived.Laws.IdiomCopy
namespace Go.Proofs.Ythgfbnopbfiifaa
open Go Go.MapKept Go.RowKit Go.Proofs Go.Sort

/-- Cells in a row are laid anew. -/
theorem sat_setCells {T : TypeId} {g : Nat} {G : Heaplet} : ∀ (us : List Value) (o : Nat) (w : World) (c0 : Array Value), Sat w (.blk g (.cells c0 T) :: G) → o + us.length ≤ c0.size →
    ∃ c1 : Array Value, c1.size = c0.size ∧ Sat (w.setCells g o us) (.blk g (.cells c1 T) :: G) ∧ ∀ j, j < o → c1[j]? = c0[j]?
  | [], o, w, c0, hs, _ => ⟨c0, rfl, hs, fun _ _ => rfl⟩
  | u :: us, o, w, c0, hs, hle => by
    rw [List.length_cons] at hle
    have hs' := hs.setCell (i := o) u
    obtain ⟨c1, h1, h2, h3⟩ := sat_setCells us (o + 1) _ _ hs' (by simp; omega)
    refine ⟨c1, by rw [h1]; simp, h2, fun j hj => ?_⟩
    rw [h3 j (by omega)]
    have : o ≠ j := by omega
    simp [this]
theorem run_clear_gen {P : Program} (w : World) (t e ty : TypeId) (z : Value) (ht : P.underlying t = some (.slice e)) (hv : ∀ w, (zeroValue e).run P w = .ok z w) (b o n c : Nat) (hn : 0 < n) (h1 : ∀ v ∈ (Builtin.zeroCells z.cells n).toList, v.oneCell' = true)
    (hc : ∀ j, j < (Builtin.zeroCells z.cells n).toList.length → (w.cell? ⟨b, o + j, none⟩).isSome = true) (hf : ∀ j, w.frozen? ⟨b, j, none⟩ = false) :
    (Builtin.clear_ #[t] ty #[.slice (some ⟨b, o, none⟩) n c]).run P w = .ok (.tuple #[]) (w.setCells b o (Builtin.zeroCells z.cells n).toList) := by
  have hst := run_storeCells_cells (P := P) b o (Builtin.zeroCells z.cells n).toList 0 w (by simpa using hc) (fun j _ => hf _) h1
  simp only [Nat.add_zero] at hst
  obtain ⟨m, rfl⟩ : ∃ m, n = m + 1 := ⟨n - 1, by omega⟩
  simp [Builtin.clear_, run_underlying ht, hv, hst]
theorem zeroRq (w : World) : (zeroValue 59).run Try.prog w = .ok (.agg #[.int .i64 0, .bool false]) w := by kernel_rfl
theorem zeroRq_len (n : Nat) : (Builtin.zeroCells (Value.agg #[.int .i64 0, .bool false]).cells n).toList.length = n * 2 := by
  simp [Builtin.zeroCells, Value.cells]
theorem zeroRq_one (n : Nat) : ∀ v ∈ (Builtin.zeroCells (Value.agg #[.int .i64 0, .bool false]).cells n).toList, v.oneCell' = true := by
  intro v hv
  simp only [Builtin.zeroCells, Array.toList_map, List.mem_map] at hv
  obtain ⟨i, _, rfl⟩ := hv
  have h2 : i % 2 = 0 ∨ i % 2 = 1 := by omega
  show ((#[Value.int .i64 0, Value.bool false] : Array Value)[i % 2]!).oneCell' = true
  rcases h2 with h | h <;> (rw [h]; rfl)
def keepP (c : Int) (r : Rq) : Bool := !decide (r.c = c)
/-- The queue's block while it is gone over: the first i cells are what is kept of the first j. -/
def DqAt (g off n : Nat) (q : List Rq) (c : Int) (sz : Nat) (G : Heaplet) (i j : Nat) (w : World) : Prop := ∃ cur : Array Value, cur.size = sz ∧ ((q.take j).filter (keepP c)).length = i ∧
    (∀ (k : Nat) r, ((q.take j).filter (keepP c))[k]? = some r → cur[off + k * 2]? = some (kI r.c) ∧ cur[off + k * 2 + 1]? = some (.bool r.x)) ∧
    (∀ (k : Nat) r, j ≤ k → q[k]? = some r → cur[off + k * 2]? = some (kI r.c) ∧ cur[off + k * 2 + 1]? = some (.bool r.x)) ∧ Sat w (.blk g (.cells cur 59) :: G)
section
variable {g off n sz i j : Nat} {q : List Rq} {c : Int} {G : Heaplet} {w : World}
theorem DqAt.grown {w' : World} (h : DqAt g off n q c sz G i j w) (hg : Grown w w') : DqAt g off n q c sz G i j w' := by
  obtain ⟨cur, h1, h2, h3, h4, s⟩ := h
  exact ⟨cur, h1, h2, h3, h4, s.grown hg⟩
theorem DqAt.skip {r : Rq} (h : DqAt g off n q c sz G i j w) (hr : q[j]? = some r) (e : keepP c r = false) : DqAt g off n q c sz G i (j + 1) w := by
  obtain ⟨cur, h1, h2, h3, h4, s⟩ := h
  have he : (q.take (j + 1)).filter (keepP c) = (q.take j).filter (keepP c) := by
    rw [List.take_add_one, hr, List.filter_append]
    simp [e]
  exact ⟨cur, h1, by rw [he]; exact h2, fun k r' hk => h3 k r' (by rw [← he]; exact hk), fun k r' hk hr' => h4 k r' (by omega) hr', s⟩
theorem DqAt.keep {r : Rq} (h : DqAt g off n q c sz G i j w) (hr : q[j]? = some r) (e : keepP c r = true) (hi : i ≤ j) (hsz : off + q.length * 2 ≤ sz) :
    DqAt g off n q c sz G (i + 1) (j + 1) ((w.setCell ⟨g, off + i * 2, none⟩ (kI r.c)).setCell ⟨g, off + i * 2 + 1, none⟩ (.bool r.x)) := by
  obtain ⟨cur, h1, h2, h3, h4, s⟩ := h
  have hjl := (List.getElem?_eq_some_iff.1 hr).1
  have he : (q.take (j + 1)).filter (keepP c) = (q.take j).filter (keepP c) ++ [r] := by
    rw [List.take_add_one, hr, List.filter_append]
    simp [e]
  refine ⟨(cur.setIfInBounds (off + i * 2) (kI r.c)).setIfInBounds (off + i * 2 + 1) (.bool r.x), by simpa using h1, by rw [he, List.length_append, h2]; rfl, fun k r' hk => ?_, fun k r' hk hr' => ?_, (s.setCell _).setCell _⟩
  · rw [he] at hk
    by_cases hki : k = i
    · subst hki
      rw [List.getElem?_append_right (by omega), h2, Nat.sub_self] at hk
      have hk : r = r' := by simpa using hk
      subst hk
      constructor
      · rw [Array.getElem?_setIfInBounds_ne (by omega), Array.getElem?_setIfInBounds_self_of_lt (by omega)]
      · rw [Array.getElem?_setIfInBounds_self_of_lt (by simp; omega)]
    · have hkl : k < i := by
        have := (List.getElem?_eq_some_iff.1 hk).1
        rw [List.length_append, h2] at this
        simp at this
        omega
      rw [List.getElem?_append_left (by omega)] at hk
      obtain ⟨a, b⟩ := h3 k r' hk
      constructor
      · rw [Array.getElem?_setIfInBounds_ne (by omega), Array.getElem?_setIfInBounds_ne (by omega)]; exact a
      · rw [Array.getElem?_setIfInBounds_ne (by omega), Array.getElem?_setIfInBounds_ne (by omega)]; exact b
  · obtain ⟨a, b⟩ := h4 k r' (by omega) hr'
    constructor
    · rw [Array.getElem?_setIfInBounds_ne (by omega), Array.getElem?_setIfInBounds_ne (by omega)]; exact a
    · rw [Array.getElem?_setIfInBounds_ne (by omega), Array.getElem?_setIfInBounds_ne (by omega)]; exact b
theorem DqAt.cells {r : Rq} (h : DqAt g off n q c sz G i j w) (hr : q[j]? = some r) : w.cell? ⟨g, off + j * 2, none⟩ = some (kI r.c) ∧ w.cell? ⟨g, off + j * 2 + 1, none⟩ = some (.bool r.x) := by
  obtain ⟨cur, h1, h2, h3, h4, s⟩ := h
  rw [cell_of s.h0, cell_of s.h0]
  exact h4 j r (Nat.le_refl _) hr
theorem DqAt.has (h : DqAt g off n q c sz G i j w) (k : Nat) (hk : k < sz) : (w.cell? ⟨g, k, none⟩).isSome = true := by
  obtain ⟨cur, h1, h2, h3, h4, s⟩ := h
  rw [cell_of s.h0]
  rw [Array.getElem?_eq_getElem (by omega)]; rfl
theorem DqAt.fz (h : DqAt g off n q c sz G i j w) (k : Nat) : w.frozen? ⟨g, k, none⟩ = false := by
  obtain ⟨cur, h1, h2, h3, h4, s⟩ := h
  exact unfrozen_of s.h0 k
theorem DqAt.frame (h : DqAt g off n q c sz G i j w) : Sat w G := by
  obtain ⟨cur, h1, h2, h3, h4, s⟩ := h
  exact s.tail
theorem flat_of {cur : Array Value} {off : Nat} : ∀ {R : List Rq}, off + R.length * 2 ≤ cur.size → (∀ (k : Nat) r, R[k]? = some r → cur[off + k * 2]? = some (kI r.c) ∧ cur[off + k * 2 + 1]? = some (.bool r.x)) → (cur.toList.drop off).take (R.length * 2) = R.flatMap rqC := by
  intro R hle h
  apply List.ext_getElem?
  intro m
  rw [List.getElem?_take]
  by_cases hm : m < R.length * 2
  · rw [if_pos hm, List.getElem?_drop, Array.getElem?_toList]
    have hk : m / 2 < R.length := by omega
    obtain ⟨r, hr⟩ : ∃ r, R[m / 2]? = some r := ⟨_, List.getElem?_eq_getElem hk⟩
    obtain ⟨a, b⟩ := h _ r hr
    have h2 : m % 2 = 0 ∨ m % 2 = 1 := by omega
    rcases h2 with h2 | h2
    · have e : m = m / 2 * 2 + 0 := by omega
      have := fm_get rqC_len R (m / 2) 0 r (kI r.c) hr rfl
      rw [e, this]
      have e2 : off + (m / 2 * 2 + 0) = off + m / 2 * 2 := by omega
      have e3 : (m / 2 * 2 + 0) / 2 = m / 2 := by omega
      rw [e2]; exact a
    · have e : m = m / 2 * 2 + 1 := by omega
      have := fm_get rqC_len R (m / 2) 1 r (.bool r.x) hr rfl
      rw [e, this]
      have e2 : off + (m / 2 * 2 + 1) = off + m / 2 * 2 + 1 := by omega
      rw [e2]; exact b
  · rw [if_neg hm, List.getElem?_eq_none (by rw [fm_len rqC_len]; omega)]
/-- Behind the last: the tail is cleared. -/
theorem DqAt.fin {cap : Nat} (h : DqAt g off n q c sz G i q.length w) (hi : i < q.length) (hc : q.length ≤ cap) (hm : cap ≤ maxLen) (hsz : off + cap * 2 ≤ sz) :
    ∃ w' qh, (Builtin.clear_ #[54] 0 #[.slice (some ⟨g, off + i * 2, none⟩) (q.length - i) (cap - i)]).run Try.prog w = .ok (.tuple #[]) w' ∧ QSl (.slice (some ⟨g, off, none⟩) i cap) (q.filter (keepP c)) qh ∧ Sat w' (qh ++ G) := by
  have hall := h.has
  have hfz := h.fz
  obtain ⟨cur, h1, h2, h3, h4, s⟩ := h
  rw [List.take_length] at h2 h3
  have hr := run_clear_gen (P := Try.prog) w 54 59 0 _ Try.underlying54 zeroRq g (off + i * 2) (q.length - i) (cap - i) (by omega) (zeroRq_one _) (fun j hj => hall _ (by rw [zeroRq_len] at hj; omega)) hfz
  obtain ⟨c1, e1, s1, e2⟩ := sat_setCells (Builtin.zeroCells (Value.agg #[.int .i64 0, .bool false]).cells (q.length - i)).toList (off + i * 2) w cur s (by rw [zeroRq_len]; omega)
  have hfl : (c1.toList.drop off).take ((q.filter (keepP c)).length * 2) = (q.filter (keepP c)).flatMap rqC := by
    refine flat_of (by rw [h2]; omega) fun k r hk => ?_
    have hkl := (List.getElem?_eq_some_iff.1 hk).1
    rw [h2] at hkl
    rw [e2 _ (by omega), e2 _ (by omega)]
    exact h3 k r hk
  have hq : QSl (.slice (some ⟨g, off, none⟩) i cap) (q.filter (keepP c)) [.blk g (.cells c1 59)] := by
    refine ⟨fm_len rqC_len _, Or.inr ?_⟩
    exact ⟨g, off, cap, c1, by rw [h2], by omega, hm, by omega, hfl, rfl⟩
  exact ⟨_, _, hr, hq, s1⟩
end
end Go.Proofs.Ythgfbnopbfiifaa
