/- The table opened with its map's entries kept; a row of ints sorted. Conditions: none. -/
import Derived.Test.YthgfbnopbfiifaaKey13
import Derived.Test.YthgfbnopbfiifaaKey11
import Derived.Test.YthgfbnopbfiifaaMapR
namespace Go.Proofs.Ythgfbnopbfiifaa
open Go Go.MapKept Go.RowKit Go.Proofs Go.Sort

/-- The table, its map's entries named. -/
def KtAt (b m : Nat) (es : Array MapEntry) (clk : Nat) (D : List (Int × Nat)) (K : KtM) (F : Heaplet) (w : World) : Prop := ∃ T wv wh, T.map (fun q => (q.1, q.2.1)) = D ∧ seenL lkS T = K.tab ∧ MapOk (.int .i64) kI ptrV es clk T ∧ (∀ p ∈ T, LkP p.2.1 (lkS p.2) (lkF p.2)) ∧ WSl wv K.ws wh ∧
  Sat w (.blk b (tbO m wv) :: .blk m (.map es clk) :: (wh ++ (heapL lkF T ++ F)))
section
variable {b m : Nat} {es : Array MapEntry} {clk : Nat} {D : List (Int × Nat)} {K : KtM} {F : Heaplet} {w : World}
theorem KtIs.at_ (h : KtIs b K F w) : ∃ m es clk D, KtAt b m es clk D K F w := by
  obtain ⟨m, es, clk, T, wv, wh, hT, hM, hP, hw, s⟩ := h
  exact ⟨m, es, clk, _, T, wv, wh, rfl, hT, hM, hP, hw, s⟩
theorem KtAt.is (h : KtAt b m es clk D K F w) : KtIs b K F w := by
  obtain ⟨T, wv, wh, _, hT, hM, hP, hw, s⟩ := h
  exact ⟨m, es, clk, T, wv, wh, hT, hM, hP, hw, s⟩
theorem KtAt.table (h : KtAt b m es clk D K F w) : w.cell? ⟨b, 0, none⟩ = some (.map (some m)) := by
  obtain ⟨T, wv, wh, _, hT, hM, hP, hw, s⟩ := h
  rw [cell_of s.h0]; rfl
theorem KtAt.mapOk (h : KtAt b m es clk D K F w) : MapOk (.int .i64) kI pt es clk D := by
  obtain ⟨T, wv, wh, hD, hT, hM, hP, hw, s⟩ := h
  refine ⟨?_, hM.isKey, hM.inj, hM.stamped⟩
  rw [hM.reads, ← hD, List.map_map]
  rfl
theorem KtAt.keys (h : KtAt b m es clk D K F w) : D.map (·.1) = K.tab.map (·.1) := by
  obtain ⟨T, wv, wh, hD, hT, hM, hP, hw, s⟩ := h
  rw [← hD, ← hT, seen_keys, List.map_map]
  rfl
theorem KtAt.split (h : KtAt b m es clk D K F w) : ∃ A, Sat w (A ++ F) ∧ HItem.blk m (.map es clk) ∈ A ∧ ∀ {F' w'}, Sat w' (A ++ F') → KtAt b m es clk D K F' w' := by
  obtain ⟨T, wv, wh, hD, hT, hM, hP, hw, s⟩ := h
  exact ⟨.blk b (tbO m wv) :: .blk m (.map es clk) :: (wh ++ heapL lkF T), by simpa using s, by simp, fun {F' w'} s' => ⟨T, wv, wh, hD, hT, hM, hP, hw, by simpa using s'⟩⟩
theorem KtAt.frame (h : KtAt b m es clk D K F w) : Sat w F := h.is.frame
/-- A page's lock is taken out. -/
theorem KtAt.page (h : KtAt b m es clk D K F w) {p : Int} {g : Nat} (hg : (p, g) ∈ D) : ∃ l O, getL p K.tab = some l ∧ PgIs b m g l K.ws O w ∧ OLk m p g O ∧ (∀ w', Sat w' O → Sat w' F) ∧ ∀ l' ws' w', PgIs b m g l' ws' O w' → KtAt b m es clk D ⟨putL p l' K.tab, ws'⟩ F w' := by
  obtain ⟨T, wv, wh, hD, hT, hM, hP, hw, s⟩ := h
  rw [← hD] at hg
  obtain ⟨q, hq, e⟩ := List.mem_map.1 hg
  obtain ⟨p', g', l, hh⟩ := q
  simp only [Prod.mk.injEq] at e
  obtain ⟨rfl, rfl⟩ := e
  have hgT : getL p' T = some (g', l, hh) := getL_of_mem hM.nodup hq
  have pm : ∀ (o : Obj) (wh h : Heaplet), (HItem.blk b o :: .blk m (.map es clk) :: (wh ++ (h ++ (heapL lkF (delL p' T) ++ F)))).Perm (HItem.blk b o :: (wh ++ (h ++ (.blk m (.map es clk) :: (heapL lkF (delL p' T) ++ F))))) := by
    intro o wh h
    refine List.Perm.cons _ ?_
    have h1 := (List.perm_middle (l₁ := wh ++ h) (a := HItem.blk m (.map es clk)) (l₂ := heapL lkF (delL p' T) ++ F)).symm
    simpa using h1
  refine ⟨l, .blk m (.map es clk) :: (heapL lkF (delL p' T) ++ F), by rw [← hT, getL_seen, hgT]; rfl, ⟨wv, wh, hh, hw, hP _ (getL_mem hgT), ?_⟩, ⟨es, clk, T, hM, ⟨_, hgT⟩, fun w' s' => s'.h0⟩, fun w' s' => s'.tail.right, fun l' ws' w' hp => ?_⟩
  · refine (s.perm ?_).perm (pm _ _ _)
    refine List.Perm.cons _ (List.Perm.cons _ (List.Perm.append_left _ ?_))
    have := (heapL_get lkF hgT).append_right F
    simpa [lkF] using this
  · obtain ⟨wv', wh', h', hw', hl', s'⟩ := hp
    refine ⟨putL p' (g', l', h') T, wv', wh', ?_, by rw [seen_put, hT]; rfl, mapOk_put hM hgT rfl, ?_, hw', ?_⟩
    · rw [← hD]
      have hsn := seen_put (fun v : Nat × (LkM × Heaplet) => v.1) p' (g', l', h') T
      have h2 : seenL (fun v : Nat × (LkM × Heaplet) => v.1) T = T.map (fun q => (q.1, q.2.1)) := rfl
      have h3 : getL p' (seenL (fun v : Nat × (LkM × Heaplet) => v.1) T) = some g' := by rw [getL_seen, hgT]; rfl
      rw [put_same h3] at hsn
      exact hsn
    · intro q hq
      have hnd : ((putL p' (g', l', h') T).map (·.1)).Nodup := nodup_putL _ _ hM.nodup
      have h1 := getL_of_mem hnd hq
      rw [getL_putL] at h1
      by_cases e : q.1 = p'
      · rw [if_pos e] at h1
        have e2 := Option.some.inj h1
        rw [← e2]
        exact hl'
      · rw [if_neg e] at h1
        exact hP _ (getL_mem h1)
    · refine (s'.perm (pm _ _ _).symm).perm ?_
      refine List.Perm.cons _ (List.Perm.cons _ (List.Perm.append_left _ ?_))
      have := (heapL_put lkF (u := (g', l', h')) hgT).append_right F
      simpa [lkF] using this.symm
end
end Go.Proofs.Ythgfbnopbfiifaa
