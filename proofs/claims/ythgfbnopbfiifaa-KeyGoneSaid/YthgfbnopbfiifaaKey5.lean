/- A hold is laid, a hold is taken away; a queue is cut and pushed. Conditions: none. -/
import Derived.Test.YthgfbnopbfiifaaKey4
namespace Go.Proofs.Ythgfbnopbfiifaa
open Go Go.MapKept Go.RowKit Go.Proofs Go.Sort

section
variable {g : Nat} {l : LkM} {h O : Heaplet} {w : World}
theorem lkp_put (hl : LkP g l h) {x : Nat} (c : Int) (d : Hd) (s : Sat w (.blk x (hdO d) :: (h ++ O))) : ∃ hm w' h', w.cell? ⟨g, 0, none⟩ = some (.map (some hm)) ∧
    (Instr.mapUpdate 53 (.map (some hm)) (kI c) (pt x)).run Try.prog w = .ok () w' ∧ LkP g ⟨putL c d l.holds, l.queue⟩ h' ∧ Sat w' (h' ++ O) := by
  have s1 : Sat w (h ++ (.blk x (hdO d) :: O)) := s.perm List.perm_middle.symm
  obtain ⟨hm, es, clk, L, R, c0, hL, hM, s2, _, back⟩ := lkp_map hl s1
  obtain ⟨w', es', clk', hr, hM', s3⟩ := sat_update (P := Try.prog) (t := 53) (kt := 3) (et := 62) Try.underlying53 Try.underlying3 hM s2 c (x, d)
  have s4 : Sat w' (.blk hm (.map es' clk') :: (heapL hdF (putL c (x, d) L) ++ (R ++ O))) := by
    have p0 : ∀ A : Heaplet, (HItem.blk hm (.map es' clk') :: (A ++ (R ++ (.blk x (hdO d) :: O)))).Perm (HItem.blk hm (.map es' clk') :: (([.blk x (hdO d)] ++ A) ++ (R ++ O))) := by
      intro A
      refine List.Perm.cons _ ?_
      have p1 := (List.perm_middle (l₁ := A ++ R) (a := HItem.blk x (hdO d)) (l₂ := O))
      simpa using p1
    cases hg : getL c L with
    | none =>
      exact (s3.perm (p0 _)).perm (List.Perm.cons _ (((heapL_new hdF (u := (x, d)) hg).symm).append_right _))
    | some v =>
      have s5 : Sat w' (.blk v.1 (hdO v.2) :: .blk hm (.map es' clk') :: (heapL hdF (delL c L) ++ (R ++ (.blk x (hdO d) :: O)))) := by
        refine s3.perm ?_
        refine List.Perm.trans (List.Perm.cons _ ((heapL_get hdF hg).append_right _)) ?_
        simpa [hdF] using List.Perm.swap _ _ _
      exact (s5.tail.perm (p0 _)).perm (List.Perm.cons _ (((heapL_put hdF (u := (x, d)) hg).symm).append_right _))
  obtain ⟨h', hl', s5⟩ := back es' clk' _ w' O hM' s4
  rw [seen_put, hL] at hl'
  exact ⟨hm, w', h', c0, hr, hl', s5⟩
theorem lkp_del (hl : LkP g l h) (c : Int) (s : Sat w (h ++ O)) : ∃ hm w' h', w.cell? ⟨g, 0, none⟩ = some (.map (some hm)) ∧ w'.cell? ⟨g, 0, none⟩ = some (.map (some hm)) ∧
    (∀ ty, (Builtin.delete_ #[53, 3] ty #[.map (some hm), kI c]).run Try.prog w = .ok (.tuple #[]) w') ∧ LkP g ⟨delL c l.holds, l.queue⟩ h' ∧ Sat w' (h' ++ O) := by
  obtain ⟨hm, es, clk, L, R, c0, hL, hM, s2, hc, back⟩ := lkp_map hl s
  obtain ⟨es', h1, h2⟩ := run_delete_ok (P := Try.prog) (t := 53) (kt := 3) (ty := 0) Try.underlying53 Try.underlying3 s2.h0 hM c
  have hr : ∀ ty, (Builtin.delete_ #[53, 3] ty #[.map (some hm), kI c]).run Try.prog w = .ok (.tuple #[]) (ChangeMaps.setBlock w hm (.map es' clk)) := fun ty => h1
  have s3 := s2.setBlock (.map es' clk)
  have s4 : Sat (ChangeMaps.setBlock w hm (.map es' clk)) (.blk hm (.map es' clk) :: (heapL hdF (delL c L) ++ (R ++ O))) := by
    cases hg : getL c L with
    | none => rw [delL_none c L hg]; exact s3
    | some v =>
      have s5 : Sat (ChangeMaps.setBlock w hm (.map es' clk)) (.blk v.1 (hdO v.2) :: .blk hm (.map es' clk) :: (heapL hdF (delL c L) ++ (R ++ O))) := by
        refine s3.perm ?_
        refine List.Perm.trans (List.Perm.cons _ ((heapL_get hdF hg).append_right _)) ?_
        simpa [hdF] using List.Perm.swap _ _ _
      exact s5.tail
  have hcell : (ChangeMaps.setBlock w hm (.map es' clk)).cell? ⟨g, 0, none⟩ = some (.map (some hm)) := hc _ (.blk hm (.map es' clk) :: heapL hdF (delL c L)) s4
  obtain ⟨h', hl', s5⟩ := back es' clk _ _ O h2 s4
  rw [seen_del, hL] at hl'
  exact ⟨hm, _, h', c0, hcell, hr, hl', s5⟩
/-- What a lock's blocks hold, in whatever world. -/
theorem lkp_all (hl : LkP g l h) : ∃ hm, (∀ O w, Sat w (h ++ O) → w.cell? ⟨g, 0, none⟩ = some (.map (some hm))) ∧
    ∀ c, match getL c l.holds with
      | none => ∀ O w, Sat w (h ++ O) → lookH hm c (.pointer none) w
      | some d => ∃ hg, ∀ O w, Sat w (h ++ O) → lookH hm c (pt hg) w ∧ w.cell? ⟨hg, 0, none⟩ = some (.bool d.x) ∧ w.cell? ⟨hg, 1, none⟩ = some (.bool d.busy) ∧ w.cell? ⟨hg, 2, none⟩ = some (kI d.called) := by
  obtain ⟨m', es, clk, L, qv, qh, hL, hM, hq, rfl⟩ := hl
  refine ⟨m', fun O w s => by rw [cell_of s.h0]; rfl, fun c => ?_⟩
  rw [← hL, getL_seen]
  have hlk := fun (O : Heaplet) (w : World) (s : Sat w ((HItem.blk g (lkO m' qv) :: .blk m' (.map es clk) :: (heapL hdF L ++ qh)) ++ O)) => run_lookup_ok (P := Try.prog) (t := 53) (kt := 3) (et := 62) (z := .pointer none) Try.underlying53 Try.underlying3 (zeroHd w) s.h1 hM c
  cases hg : getL c L with
  | none => rw [hg] at hlk; exact hlk
  | some v =>
    rw [hg] at hlk
    refine ⟨v.1, fun O w s => ?_⟩
    have hb : w.heap[v.1]? = some (hdO v.2) := by
      refine s.get (.tail _ (.tail _ ?_))
      exact List.mem_append_left _ (List.mem_append_left _ ((heapL_get hdF hg).mem_iff.2 (.head _)))
    refine ⟨hlk O w s, ?_, ?_, ?_⟩ <;> (rw [cell_of hb]; rfl)
/-- A request more. -/
theorem rq_push {R : List Rq} {v : Value} {h A B : Heaplet} {w : World} {x : Nat} (q : Rq) (hv : QSl v R h) (s : Sat w (.blk x (.cells #[kI q.c, .bool q.x] 59) :: (A ++ (h ++ B)))) (hlen : R.length + 1 ≤ 1000000) :
    ∃ a' c' w' h', (∀ ty, (Builtin.append_ #[54, 54] ty #[v, .slice (some ⟨x, 0, none⟩) 1 1]).run Try.prog w = .ok (.slice a' (R.length + 1) c') w') ∧ QSl (.slice a' (R.length + 1) c') (R ++ [q]) h' ∧ Sat w' (A ++ (h' ++ B)) := by
  obtain ⟨i0, hi, hz, hsize, hby⟩ := info_parts infoRq
  obtain ⟨v', w', h', h1, h2, h3⟩ := q_push (P := Try.prog) rqC_len Try.underlying54 hi hz hsize hby rfl (by decide) hv q s (one_rq q) (by unfold maxLen; omega) (by omega)
  obtain ⟨a', c', rfl, _⟩ := h2.form
  have e : (R ++ [q]).length = R.length + 1 := by simp
  rw [e] at h1
  refine ⟨a', c', w', h', h1, ?_, h3⟩
  rw [← e]; exact h2
end
end Go.Proofs.Ythgfbnopbfiifaa
