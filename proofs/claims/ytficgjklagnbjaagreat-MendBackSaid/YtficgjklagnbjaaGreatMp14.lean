/- A restart that was cut off, in plain data. Conditions: none. -/
import Derived.Test.YtficgjklagnbjaaGreatFo27
namespace Go.Proofs.YtficgjklagnbjaaGreat
open Go Go.MapKept Go.RowKit Go.Proofs

theorem Hist.pre {l m : List En} {A : List (List Lf)} (h : Hist (l ++ m) A) : Hist l (A.take (l.length + 1)) := by
  refine ⟨by rw [List.length_take, h.len]; simp, fun P hP => h.pgs P (List.mem_of_mem_take hP), fun x hx => h.good x (List.mem_append_left _ hx), fun i x P P' hx h1 h2 => ?_, fun i P hP => ?_⟩
  · have hi := (List.getElem?_eq_some_iff.1 hx).1
    rw [List.getElem?_take_of_lt (by omega)] at h1 h2
    exact h.step i x P P' (by rw [List.getElem?_append_left hi]; exact hx) h1 h2
  · have hi : i < l.length + 1 := by have := (List.getElem?_eq_some_iff.1 hP).1; rw [List.length_take] at this; omega
    rw [List.getElem?_take_of_lt hi] at hP
    have := h.lis i P hP
    rw [List.take_append_of_le_length (by omega)] at this
    exact this
theorem ofM_filter {l : List En} {t u : Tx} (h : u ≠ t) : ofM (l.filter fun x => !decide (x.t = t)) u = ofM l u := by
  unfold ofM
  rw [List.filter_filter]
  refine List.filter_congr (fun x _ => ?_)
  by_cases hx : x.t = u
  · rw [hx, decide_eq_false h]; simp
  · rw [decide_eq_false hx]; simp
theorem own_sum : ∀ (L : List (Tx × Int)) (l : List En), (L.map (·.1)).Nodup → (L.map fun q => (ofM l q.1).length).sum ≤ l.length
  | [], l, _ => by simp
  | q :: r, l, h => by
    rw [List.map_cons, List.nodup_cons] at h
    have h1 := own_sum r (l.filter fun x => !decide (x.t = q.1)) h.2
    have h2 : (r.map fun q' => (ofM (l.filter fun x => !decide (x.t = q.1)) q'.1).length) = (r.map fun q' => (ofM l q'.1).length) := by
      refine List.map_congr_left (fun q' hq' => ?_)
      rw [ofM_filter (fun e => h.1 (List.mem_map.2 ⟨q', hq', e⟩))]
    rw [h2] at h1
    have h3 : (ofM l q.1).length ≤ (l.filter fun x => decide (x.t = q.1)).length := by
      unfold ofM
      rw [← List.countP_eq_length_filter, ← List.countP_eq_length_filter]
      refine List.countP_mono_left (fun x _ hx => ?_)
      rw [Bool.and_eq_true] at hx
      exact hx.1
    have h4 : ∀ m : List En, (m.filter fun x => decide (x.t = q.1)).length + (m.filter fun x => !decide (x.t = q.1)).length = m.length := by
      intro m
      induction m with
      | nil => rfl
      | cons x m ih =>
        by_cases hx : x.t = q.1
        · rw [List.filter_cons_of_pos (by simp [hx]), List.filter_cons_of_neg (by simp [hx])]
          simp only [List.length_cons]; omega
        · rw [List.filter_cons_of_neg (by simp [hx]), List.filter_cons_of_pos (by simp [hx])]
          simp only [List.length_cons]; omega
    have h5 := h4 l
    rw [List.map_cons, List.sum_cons]
    omega
theorem tot_own (l : List En) : tot l (losersM l) ≤ l.length := by
  have h1 := own_sum (losersM l) l (losersM_nodup l)
  have h2 : tot l (losersM l) ≤ ((losersM l).map fun q => (ofM l q.1).length).sum := sum_le (fun q _ => stk_len _)
  omega
theorem verP_app {A V : List (List Lf)} {v n : Nat} (h : v < A.length) : verP (A ++ V) v n = verP A v n := by
  unfold verP; rw [List.getElem?_append_left h]
theorem verP_take {A : List (List Lf)} {v n k : Nat} (h : v < k) : verP (A.take k) v n = verP A v n := by
  unfold verP; rw [List.getElem?_take_of_lt h]
theorem no_losers {l : List En} (h : ∀ t, endM l t = true ∨ ofM l t = []) : losersM l = [] := by
  rw [List.eq_nil_iff_forall_not_mem]
  intro q hq
  obtain ⟨h1, h2⟩ := losersM_mem.1 ⟨q, hq, rfl⟩
  rcases h q.1 with h | h
  · rw [h1] at h; cases h
  · exact h2 h
section
variable {i : Nat} {S : PS}
/-- What a cut log, a restart, another with any beginning of its entries, and one more over its pages leave. -/
theorem JS.again (h : JS i S) {k : Nat} (hk : k ≤ S.list.length) (hb : S.list.length ≤ 80) (V : Nat → Int) {P : List Lf} (hP : S.all[k]? = some P) {add : List En} {Vs : List (List Lf)} (hr : Rc (S.list.take k) P add Vs) (hal : add.length ≤ 160) (j : Nat) (hj : j ≤ add.length) :
    ∃ P1, redoL (S.list.take k ++ add.take j) (mixedP S k V) = (P1, 0) ∧ LI (S.list.take k ++ add.take j) P1 ∧ foldP (S.list.take k ++ add.take j) = foldP (S.list.take k) ∧ (S.list.take k ++ add.take j).length ≤ 240 ∧ P1 = finP P (Vs.take j) := by
  have hlk : (S.list.take k).length = k := by rw [List.length_take]; omega
  have hlj : (add.take j).length = j := by rw [List.length_take]; omega
  have hh : Hist (S.list.take k) (S.all.take (k + 1)) := by
    have h1 := h.hist
    rw [← List.take_append_drop k S.list] at h1
    have := h1.pre
    rw [hlk] at this
    exact this
  have hli := h.hist.lis k P hP
  have hrt := hr.take j
  obtain ⟨h2, h3⟩ := hrt.hist (S.all.take (k + 1)) hh (by rw [hlk, List.getElem?_take_of_lt (by omega)]; exact hP)
  have hli2 := hrt.li hli
  refine ⟨finP P (Vs.take j), ?_, hli2, hrt.fold, by rw [List.length_append, hlk, hlj]; omega, rfl⟩
  have := h2.redo hli2.ok (k := (S.list.take k ++ add.take j).length) (Nat.le_refl _) h3 (mixedP_len S k V) (v := verI V k) (fun n hn => by
    have hv := verI_le V k n (by omega)
    refine ⟨by rw [List.length_append, hlk]; omega, ?_⟩
    rw [h.mix_get hk (by omega) V hn, verP_app (by rw [List.length_take, h.hist.len]; omega), verP_take (by omega)])
  rw [List.take_length] at this
  exact this
/-- Restarted over the pages that a restart left. -/
theorem JS.last_redo (h : JS i S) {k : Nat} (hk : k ≤ S.list.length) {P : List Lf} (hP : S.all[k]? = some P) {add : List En} {Vs : List (List Lf)} (hr : Rc (S.list.take k) P add Vs) : redoL (S.list.take k ++ add) (finP P Vs) = (finP P Vs, 0) := by
  have hlk : (S.list.take k).length = k := by rw [List.length_take]; omega
  have hh : Hist (S.list.take k) (S.all.take (k + 1)) := by
    have h1 := h.hist
    rw [← List.take_append_drop k S.list] at h1
    have := h1.pre
    rw [hlk] at this
    exact this
  have hli := h.hist.lis k P hP
  obtain ⟨h2, h3⟩ := hr.hist (S.all.take (k + 1)) hh (by rw [hlk, List.getElem?_take_of_lt (by omega)]; exact hP)
  have hli2 := hr.li hli
  have := h2.redo hli2.ok (k := (S.list.take k ++ add).length) (Nat.le_refl _) h3 hli2.len (v := fun _ => (S.list.take k ++ add).length) (fun n hn => ⟨Nat.le_refl _, (h2.ver hn (Nat.le_refl _) h3).1⟩)
  rw [List.take_length] at this
  exact this
end
end Go.Proofs.YtficgjklagnbjaaGreat
