/- A client asks: walked. Conditions: none. -/
import Derived.Test.YthgfbnopbfiifaaKey7
import Derived.Deep.RegionHeld3
namespace Go.Proofs.Ythgfbnopbfiifaa
open Go Go.MapKept Go.RowKit Go.Proofs Go.Sort

/-- The clients are the eight, each at most once. -/
def Fit8 (l : LkM) : Prop := (∀ q ∈ l.holds, 1 ≤ q.1 ∧ q.1 ≤ 8) ∧ (l.holds.map (·.1)).Nodup ∧ (∀ r ∈ l.queue, 1 ≤ r.c ∧ r.c ≤ 8) ∧ (l.queue.map (·.c)).Nodup
theorem few8 : ∀ (n : Nat) (L : List Int), (∀ c ∈ L, 1 ≤ c ∧ c ≤ (n : Int)) → L.Nodup → L.length ≤ n
  | 0, L, h, _ => by
    cases L with
    | nil => simp
    | cons c r => have := h c (.head _); omega
  | n + 1, L, h, hn => by
    have h1 : (L.filter (fun c => !decide (c = ((n + 1 : Nat) : Int)))).length ≤ n := few8 n _ (by
      intro c hc
      obtain ⟨hc1, hc2⟩ := List.mem_filter.1 hc
      have := h c hc1
      have : c ≠ ((n + 1 : Nat) : Int) := by simpa using hc2
      omega) (hn.filter _)
    have h2 : L.length ≤ (L.filter (fun c => !decide (c = ((n + 1 : Nat) : Int)))).length + 1 := by
      clear h1 h
      induction L with
      | nil => simp
      | cons c r ih =>
        rw [List.nodup_cons] at hn
        by_cases e : c = ((n + 1 : Nat) : Int)
        · have hr : r.filter (fun c => !decide (c = ((n + 1 : Nat) : Int))) = r := by
            rw [List.filter_eq_self]
            intro x hx
            have : x ≠ ((n + 1 : Nat) : Int) := fun u => hn.1 (by rw [e, ← u]; exact hx)
            simpa using this
          rw [List.filter_cons_of_neg (by simpa using e), hr]
          simp
        · rw [List.filter_cons_of_pos (by simpa using e)]
          have := ih hn.2
          simp only [List.length_cons]
          omega
    omega
theorem Fit8.lens {l : LkM} (h : Fit8 l) : l.holds.length ≤ 8 ∧ l.queue.length ≤ 8 := by
  obtain ⟨h1, h2, h3, h4⟩ := h
  constructor
  · have := few8 8 (l.holds.map (·.1)) (fun c hc => by
      obtain ⟨q, hq, e⟩ := List.mem_map.1 hc
      have := h1 q hq
      rw [← e]; omega) h2
    simpa using this
  · have := few8 8 (l.queue.map (·.c)) (fun c hc => by
      obtain ⟨q, hq, e⟩ := List.mem_map.1 hc
      have := h3 q hq
      rw [← e]; omega) h4
    simpa using this
theorem Fit8.fitK {l : LkM} {ws : List Wd} (h : Fit8 l) (hw : ws.length ≤ 700000) : FitK l.holds l.queue ws := by
  obtain ⟨h5, h6⟩ := h.lens
  obtain ⟨h1, h2, h3, h4⟩ := h
  exact ⟨fun p hp => by have := h1 p hp; omega, fun r hr => by have := h3 r hr; omega, by omega, by omega⟩
theorem fit8_nil : Fit8 ⟨[], []⟩ := ⟨by simp, by simp, by simp, by simp⟩
theorem put_put {V : Type} (k : Int) (u v : V) : ∀ D : List (Int × V), putL k v (putL k u D) = putL k v D
  | [] => by simp [putL]
  | q :: r => by
    by_cases e : q.1 = k
    · simp [putL, e]
    · simp [putL, e, put_put k u v r]
theorem put_same {V : Type} {k : Int} {v : V} : ∀ {D : List (Int × V)}, getL k D = some v → putL k v D = D
  | q :: r, h => by
    by_cases e : q.1 = k
    · simp only [getL, e, if_true, Option.some.injEq] at h
      simp only [putL, e, if_true]
      rw [← h, ← e]
    · simp only [getL, e, if_false] at h
      simp only [putL, e, if_false]
      rw [put_same h]
/-- Where the queue lies, in whatever world. -/
theorem lkp_rq {g : Nat} {l : LkM} {h : Heaplet} (hl : LkP g l h) : ∃ a cap, (∀ O w, Sat w (h ++ O) → w.cell? ⟨g, 1, none⟩ = some (.slice a l.queue.length cap)) ∧ ∀ O, RqAt (h ++ O) a l.queue := by
  obtain ⟨m', es, clk, L, qv, qh, hL, hM, hq, rfl⟩ := hl
  obtain ⟨a, cap, rfl, _⟩ := hq.form
  refine ⟨a, cap, fun O w s => by rw [cell_of s.h0]; rfl, fun O w s i r hr => ?_⟩
  have s1 : Sat w (qh ++ (.blk g (lkO m' (.slice a l.queue.length cap)) :: .blk m' (.map es clk) :: (heapL hdF L ++ O))) := by
    refine s.perm ?_
    simpa using List.perm_append_comm_assoc (HItem.blk g (lkO m' (.slice a l.queue.length cap)) :: .blk m' (.map es clk) :: heapL hdF L) qh O
  obtain ⟨a', cap', e, hc⟩ := q_cells rqC_len hq s1
  cases e
  obtain ⟨qg, off, e, _, hu⟩ := hc i r hr
  exact ⟨qg, off, e, hu 0 _ rfl, hu 1 _ rfl⟩
theorem RqAt.mono {F F' : Heaplet} {a : Option Addr} {q : List Rq} (h : RqAt F a q) (hs : ∀ w, Sat w F' → Sat w F) : RqAt F' a q := fun w hw => h w (hs w hw)
theorem lkp_new (g m : Nat) : LkP g ⟨[], []⟩ [.blk g (lkO m (.slice none 0 0)), .blk m (.map #[] 0)] := ⟨m, #[], 0, [], .slice none 0 0, [], rfl, mapOk_new kI_key kI_inj, QIs.nil _ _, rfl⟩
/-- The page's lock is taken out of the table. -/
theorem page_of {b m : Nat} {es : Array MapEntry} {clk : Nat} {T : TL} {wv : Value} {wh F : Heaplet} {ws : List Wd} {w : World} {p : Int} {g : Nat} {l : LkM} {hh : Heaplet} (hM : MapOk (.int .i64) kI ptrV es clk T) (hP : ∀ p ∈ T, LkP p.2.1 (lkS p.2) (lkF p.2)) (hw : WSl wv ws wh)
    (s : Sat w (.blk b (tbO m wv) :: .blk m (.map es clk) :: (wh ++ (heapL lkF T ++ F)))) (hg : getL p T = some (g, l, hh)) : ∃ O, PgIs b m g l ws O w ∧ OLk m p g O ∧ (∀ w', Sat w' O → Sat w' F) ∧ ∀ l' ws' w', PgIs b m g l' ws' O w' → KtIs b ⟨putL p l' (seenL lkS T), ws'⟩ F w' := by
  have pm : ∀ (o : Obj) (wh h : Heaplet), (HItem.blk b o :: .blk m (.map es clk) :: (wh ++ (h ++ (heapL lkF (delL p T) ++ F)))).Perm (HItem.blk b o :: (wh ++ (h ++ (.blk m (.map es clk) :: (heapL lkF (delL p T) ++ F))))) := by
    intro o wh h
    refine List.Perm.cons _ ?_
    have h1 := (List.perm_middle (l₁ := wh ++ h) (a := HItem.blk m (.map es clk)) (l₂ := heapL lkF (delL p T) ++ F)).symm
    simpa using h1
  refine ⟨.blk m (.map es clk) :: (heapL lkF (delL p T) ++ F), ⟨wv, wh, hh, hw, hP _ (getL_mem hg), ?_⟩, ⟨es, clk, T, hM, ⟨_, hg⟩, fun w' s' => s'.h0⟩, fun w' s' => s'.tail.right, fun l' ws' w' hp => ?_⟩
  · refine (s.perm ?_).perm (pm _ _ _)
    refine List.Perm.cons _ (List.Perm.cons _ (List.Perm.append_left _ ?_))
    have := (heapL_get lkF hg).append_right F
    simpa [lkF] using this
  · obtain ⟨wv', wh', h', hw', hl', s'⟩ := hp
    refine ⟨m, es, clk, putL p (g, l', h') T, wv', wh', by rw [seen_put]; rfl, mapOk_put hM hg rfl, ?_, hw', ?_⟩
    · intro q hq
      have hnd : ((putL p (g, l', h') T).map (·.1)).Nodup := nodup_putL _ _ hM.nodup
      have h1 := getL_of_mem hnd hq
      rw [getL_putL] at h1
      by_cases e : q.1 = p
      · rw [if_pos e] at h1
        have e2 := Option.some.inj h1
        rw [← e2]
        exact hl'
      · rw [if_neg e] at h1
        exact hP _ (getL_mem h1)
    · refine (s'.perm (pm _ _ _).symm).perm ?_
      refine List.Perm.cons _ (List.Perm.cons _ (List.Perm.append_left _ ?_))
      have := (heapL_put lkF (u := (g, l', h')) hg).append_right F
      simpa [lkF] using this.symm
/-- A page's lock is laid. -/
theorem KtIs.lay {b : Nat} {K : KtM} {F : Heaplet} {w : World} (h : KtIs b K F w) {p : Int} (hp : getL p K.tab = none) : ∃ m, w.cell? ⟨b, 0, none⟩ = some (.map (some m)) ∧ lookT m p (.pointer none) w ∧
    (∀ o1 o2, ((w.alloc o1).alloc o2).cell? ⟨b, 0, none⟩ = some (.map (some m))) ∧
    ∃ w', (Instr.mapUpdate 49 (.map (some m)) (kI p) (pt (w.heap.size + 1))).run Try.prog ((w.alloc (.map #[] 0)).alloc (lkO w.heap.size (.slice none 0 0))) = .ok () w' ∧
      ∃ O, PgIs b m (w.heap.size + 1) ⟨[], []⟩ K.ws O w' ∧ OLk m p (w.heap.size + 1) O ∧ ∀ l' ws' w', PgIs b m (w.heap.size + 1) l' ws' O w' → KtIs b ⟨putL p l' K.tab, ws'⟩ F w' := by
  obtain ⟨m, es, clk, T, wv, wh, hT, hM, hP, hw, s⟩ := h
  have hlk := run_lookup_ok (P := Try.prog) (t := 49) (kt := 3) (et := 52) (z := .pointer none) Try.underlying49 Try.underlying3 (zeroLk w) s.h1 hM p
  rw [← hT, getL_seen] at hp
  cases hg : getL p T with
  | some v => rw [hg] at hp; cases hp
  | none =>
    rw [hg] at hlk
    have s2 := (s.new (.map #[] 0)).new (lkO w.heap.size (.slice none 0 0))
    rw [World.size_alloc] at s2
    have s3 : Sat ((w.alloc (.map #[] 0)).alloc (lkO w.heap.size (.slice none 0 0))) (.blk m (.map es clk) :: .blk b (tbO m wv) :: .blk (w.heap.size + 1) (lkO w.heap.size (.slice none 0 0)) :: .blk w.heap.size (.map #[] 0) :: (wh ++ (heapL lkF T ++ F))) := by
      refine s2.perm ?_
      have p1 := (List.perm_middle (l₁ := [HItem.blk (w.heap.size + 1) (lkO w.heap.size (.slice none 0 0)), .blk w.heap.size (.map #[] 0), .blk b (tbO m wv)]) (a := HItem.blk m (.map es clk)) (l₂ := wh ++ (heapL lkF T ++ F)))
      refine List.Perm.trans (by simpa using p1) (List.Perm.cons _ ?_)
      exact (List.perm_middle (l₁ := [HItem.blk (w.heap.size + 1) (lkO w.heap.size (.slice none 0 0)), .blk w.heap.size (.map #[] 0)]) (a := HItem.blk b (tbO m wv)) (l₂ := wh ++ (heapL lkF T ++ F)))
    obtain ⟨w', es', clk', hr, hM', s4⟩ := sat_update (P := Try.prog) (t := 49) (kt := 3) (et := 52) Try.underlying49 Try.underlying3 hM s3 p (w.heap.size + 1, ((⟨[], []⟩ : LkM), ([.blk (w.heap.size + 1) (lkO w.heap.size (.slice none 0 0)), .blk w.heap.size (.map #[] 0)] : Heaplet)))
    have hP' : ∀ q ∈ putL p (w.heap.size + 1, ((⟨[], []⟩ : LkM), ([.blk (w.heap.size + 1) (lkO w.heap.size (.slice none 0 0)), .blk w.heap.size (.map #[] 0)] : Heaplet))) T, LkP q.2.1 (lkS q.2) (lkF q.2) := by
      intro q hq
      have hnd := hM'.nodup
      have h1 := getL_of_mem hnd hq
      rw [getL_putL] at h1
      by_cases e : q.1 = p
      · rw [if_pos e] at h1
        have e2 := Option.some.inj h1
        rw [← e2]
        exact lkp_new _ _
      · rw [if_neg e] at h1
        exact hP _ (getL_mem h1)
    have s5 : Sat w' (.blk b (tbO m wv) :: .blk m (.map es' clk') :: (wh ++ (heapL lkF (putL p (w.heap.size + 1, ((⟨[], []⟩ : LkM), ([.blk (w.heap.size + 1) (lkO w.heap.size (.slice none 0 0)), .blk w.heap.size (.map #[] 0)] : Heaplet))) T) ++ F))) := by
      refine s4.perm (List.Perm.trans (List.Perm.swap _ _ _) ?_)
      refine List.Perm.cons _ (List.Perm.cons _ ?_)
      have p1 := (heapL_new lkF (u := (w.heap.size + 1, ((⟨[], []⟩ : LkM), ([.blk (w.heap.size + 1) (lkO w.heap.size (.slice none 0 0)), .blk w.heap.size (.map #[] 0)] : Heaplet)))) hg).append_right F
      refine List.Perm.trans ?_ (List.Perm.append_left wh p1.symm)
      have p2 := List.perm_append_comm_assoc [HItem.blk (w.heap.size + 1) (lkO w.heap.size (.slice none 0 0)), .blk w.heap.size (.map #[] 0)] wh (heapL lkF T ++ F)
      simpa [lkF] using p2
    obtain ⟨O, hp1, ho1, _, back⟩ := page_of hM' hP' hw s5 (by rw [getL_putL, if_pos rfl])
    refine ⟨m, by rw [cell_of s.h0]; rfl, hlk, fun o1 o2 => by rw [cell_of ((s.new o1).new o2).h2]; rfl, w', hr, O, hp1, ho1, fun l' ws' w2 hp2 => ?_⟩
    have hk := back l' ws' w2 hp2
    rw [seen_put, put_put, hT] at hk
    exact hk
end Go.Proofs.Ythgfbnopbfiifaa
