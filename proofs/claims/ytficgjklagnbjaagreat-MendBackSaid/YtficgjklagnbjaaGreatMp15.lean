/- A restart of a log and pages in its invariant. Conditions: none. -/
import Derived.Test.YtficgjklagnbjaaGreatMp14
namespace Go.Proofs.YtficgjklagnbjaaGreat
open Go Go.MapKept Go.RowKit Go.Proofs

theorem restart_all {lv v : Value} {l add : List En} {P P1 Pr : List Lf} {F : Heaplet} {w : World} (hE : EnsIn F lv l) (hv : LvAt F v P) (s : Sat w F) (hP : Pgs P) (hr : redoL l P = (P1, 0)) (hli : LI l P1) (hb : l.length ≤ 250) (hall : allU (losersM l) (tot l (losersM l) + 1) l P1 = some (l ++ add, Pr, 0)) :
    Calls Tryz.prog 11 #[lv, v] w (UnRet add Pr 0 F) := by
  have := restart_any (f := tot l (losersM l) + 1) hE hv s (by rw [hP.1]; omega) hP.fitP (tot_bd hb) hli.fitL hr (by rw [hli.len]; omega) (hli.pgs.fit hli.ok) hall
  rw [if_pos rfl, if_pos rfl, List.drop_left] at this
  exact this
/-- What a restart adds, bounded. -/
theorem LI.rest2 {l : List En} {P : List Lf} (h : LI l P) (hb : l.length ≤ 250) : ∃ add V, allU (losersM l) (tot l (losersM l) + 1) l P = some (l ++ add, finP P V, 0) ∧ Rc l P add V ∧ holdsP (finP P V) (foldP l) = true ∧ (∀ t, endM (l ++ add) t = true ∨ ofM (l ++ add) t = []) ∧
    (∀ y ∈ add, ∃ q ∈ losersM l, y.t = q.1) ∧ add.length ≤ 2 * l.length ∧ (losersM l = [] → add = []) := by
  obtain ⟨add, V, a1, a2, a3, a4, a5, a6⟩ := h.rest (by omega)
  have h1 := tot_own l
  have h2 := losers_len l
  refine ⟨add, V, a1, a2, a3, a4, a5, by omega, fun e => ?_⟩
  rw [List.eq_nil_iff_forall_not_mem]
  intro y hy
  obtain ⟨q, hq, _⟩ := a5 y hy
  rw [e] at hq
  cases hq
end Go.Proofs.YtficgjklagnbjaaGreat
