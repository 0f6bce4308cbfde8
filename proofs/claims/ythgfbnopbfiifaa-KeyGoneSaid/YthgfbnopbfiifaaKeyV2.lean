/- KeyServes in plain data: what every step keeps. Conditions: none. -/
import Derived.Test.YthgfbnopbfiifaaKeyV
namespace Go.Proofs.Ythgfbnopbfiifaa
open Go Go.MapKept Go.RowKit Go.Proofs Go.Sort

theorem settle_sub (p : Int) : ∀ (q : List Rq) (h : Hds) (ws : List Wd), (∀ x ∈ ws, x ∈ (settleM p q h ws).2) ∧ ∀ x ∈ (settleM p q h ws).2, x ∈ ws ∨ x.p = p
  | [], h, ws => by unfold settleM; exact ⟨fun x hx => hx, fun x hx => .inl hx⟩
  | r :: q, h, ws => by
    unfold settleM
    by_cases hw : wayM h r = []
    · rw [if_pos hw]
      obtain ⟨a, b⟩ := settle_sub p q (putL r.c ⟨r.x || hasX h r.c, false, 0⟩ h) (ws ++ [⟨false, r.c, p, r.x || hasX h r.c⟩])
      refine ⟨fun x hx => a x (List.mem_append_left _ hx), fun x hx => ?_⟩
      rcases b x hx with h1 | h1
      · rcases List.mem_append.1 h1 with h1 | h1
        · exact .inl h1
        · obtain rfl : x = ⟨false, r.c, p, r.x || hasX h r.c⟩ := by simpa using h1
          exact .inr rfl
      · exact .inr h1
    · rw [if_neg hw]
      refine ⟨?_, fun x hx => ?_⟩
      · have : ∀ (cs : List Int) (s : Hds × List Wd), ∀ x ∈ s.2, x ∈ (callM p r.x cs s).2 := by
          intro cs
          induction cs with
          | nil => intro s x hx; exact hx
          | cons c cs ih =>
            intro s x hx
            have e : callM p r.x (c :: cs) s = callM p r.x cs (callStep p r.x s c) := rfl
            rw [e]
            refine ih _ x ?_
            unfold callStep
            cases e2 : getL c s.1 with
            | none => exact hx
            | some d =>
              simp only
              split
              · exact List.mem_append_left _ hx
              · exact hx
        exact this (wayM h r) (h, ws)
      · rcases callM_ws p r.x (wayM h r) (h, ws) x hx with h2 | ⟨_, h3, _⟩
        · exact .inl h2
        · exact .inr h3
/-- While requests are served: R are the words still in hand, A counts who asked, G who was granted. -/
structure Sv (K : KtM) (R : List Wd) (A G : Int → Nat) (N : Nat) : Prop where
  nd : (K.tab.map (·.1)).Nodup
  rng : ∀ q ∈ K.tab, 0 ≤ q.1 ∧ q.1 < 4
  fit : ∀ p l, getL p K.tab = some l → Fit8 l
  blk : ∀ p l, getL p K.tab = some l → BlkL l
  pend : ∀ p l, getL p K.tab = some l → PendL p l.holds (R ++ K.ws)
  cnt : ∀ p, A p = G p + cntG p (R ++ K.ws) + (lockOf K.tab p).queue.length
  wp : ∀ x ∈ R ++ K.ws, 0 ≤ x.p ∧ x.p < 4
  pot : sumL potL K.tab + wts (R ++ K.ws) ≤ N
theorem Sv.mono {K : KtM} {R : List Wd} {A G : Int → Nat} {N M : Nat} (h : Sv K R A G N) (hn : N ≤ M) : Sv K R A G M := ⟨h.nd, h.rng, h.fit, h.blk, h.pend, h.cnt, h.wp, Nat.le_trans h.pot hn⟩
theorem sv_start : Sv ⟨[], []⟩ [] (fun _ => 0) (fun _ => 0) 0 :=
  ⟨by simp, by simp, fun p l hl => by simp [getL] at hl, fun p l hl => by simp [getL] at hl, fun p l hl => by simp [getL] at hl, fun p => by simp [cntG, lockOf, getL], by simp, by simp [sumL, wts]⟩
theorem lockOf_put (T : TabM) (p p' : Int) (l : LkM) : lockOf (putL p l T) p' = if p' = p then l else lockOf T p' := by
  unfold lockOf
  rw [getL_putL]
  by_cases e : p' = p
  · rw [if_pos e, if_pos e]; rfl
  · rw [if_neg e, if_neg e]
theorem pot_put (T : TabM) (p : Int) (l : LkM) : sumL potL (putL p l T) + potL (lockOf T p) = sumL potL T + potL l := by
  unfold lockOf
  cases e : getL p T with
  | none =>
    rw [sum_put_none potL l e]
    simp [potL, sumL]
  | some l0 => exact sum_put_some potL l e
theorem sv_settled {K : KtM} {R : List Wd} {A G : Int → Nat} {N : Nat} {p : Int} {hs : Hds} {q : List Rq} (nd : (K.tab.map (·.1)).Nodup) (rng : ∀ q ∈ K.tab, 0 ≤ q.1 ∧ q.1 < 4) (hp : 0 ≤ p ∧ p < 4)
    (fit : ∀ p' l, getL p' K.tab = some l → Fit8 l) (blk : ∀ p' l, getL p' K.tab = some l → BlkL l) (pend : ∀ p' l, p' ≠ p → getL p' K.tab = some l → PendL p' l.holds (R ++ K.ws))
    (cnt : ∀ p', A p' = G p' + cntG p' (R ++ K.ws) + (if p' = p then q.length else (lockOf K.tab p').queue.length)) (wp : ∀ x ∈ R ++ K.ws, 0 ≤ x.p ∧ x.p < 4) (hf : Fit8 ⟨hs, q⟩) (hpe : PendL p hs (R ++ K.ws))
    (pot : sumL potL K.tab + wts (R ++ K.ws) + (sumL phi hs + 4 * q.length) ≤ N + potL (lockOf K.tab p)) : Sv (settled K p hs q) R A G N := by
  obtain ⟨sub, new⟩ := settle_sub p q hs K.ws
  unfold settled
  refine ⟨nodup_putL _ _ nd, fun x hx => ?_, fun p' l hl => ?_, fun p' l hl => ?_, fun p' l hl => ?_, fun p' => ?_, fun x hx => ?_, ?_⟩
  · rcases mem_putL hx with hx | hx
    · exact rng x hx
    · rw [hx]; exact hp
  · simp only [getL_putL] at hl
    by_cases e : p' = p
    · rw [if_pos e] at hl; rw [← Option.some.inj hl]; exact (settle_fit p q hs K.ws hf).1
    · rw [if_neg e] at hl; exact fit p' l hl
  · simp only [getL_putL] at hl
    by_cases e : p' = p
    · rw [if_pos e] at hl; rw [← Option.some.inj hl]; exact settle_blk p q hs K.ws
    · rw [if_neg e] at hl; exact blk p' l hl
  · simp only [getL_putL] at hl
    by_cases e : p' = p
    · rw [if_pos e] at hl
      rw [← Option.some.inj hl, e]
      exact settle_pend p R q hs K.ws hpe
    · rw [if_neg e] at hl
      intro c d hd h0
      obtain ⟨y, hy, h1⟩ := pend p' l e hl c d hd h0
      refine ⟨y, ?_, h1⟩
      rcases List.mem_append.1 hy with hy | hy
      · exact List.mem_append_left _ hy
      · exact List.mem_append_right _ (sub y hy)
  · have h1 := settle_cnt p p' q hs K.ws
    have h2 := cnt p'
    simp only [lockOf_put]
    rw [cntG_app] at h2 ⊢
    by_cases e : p' = p
    · simp only [e, if_true] at h1 h2 ⊢
      omega
    · simp only [e, if_false] at h1 h2 ⊢
      omega
  · rcases List.mem_append.1 hx with hx | hx
    · exact wp x (List.mem_append_left _ hx)
    · rcases new x hx with h1 | h1
      · exact wp x (List.mem_append_right _ h1)
      · rw [h1]; exact hp
  · have h1 := pot_put K.tab p (settleM p q hs K.ws).1
    have h2 := settle_pot p q hs K.ws
    simp only [wts_app] at pot ⊢
    omega
theorem sv_ask {K : KtM} {A G : Int → Nat} {N : Nat} (h : Sv K [] A G N) {c p : Int} (x : Bool) (hc : 1 ≤ c ∧ c ≤ 8) (hp : 0 ≤ p ∧ p < 4) :
    ((askM K c p x).1 = 0 ∧ Sv (askM K c p x).2 [] (fun k => if k = p then A k + 1 else A k) G (N + 4)) ∨ ((askM K c p x).1 = 31 ∧ Sv (askM K c p x).2 [] A G (N + 4)) := by
  have hv : (decide (1 ≤ c) && decide (c ≤ 8) && decide (0 ≤ p) && decide (p < 1024)) = true := by simp; omega
  have hlk : ∀ l0, lockOf K.tab p = l0 → (l0.queue ≠ [] ∨ l0.holds ≠ []) → putL p l0 K.tab = K.tab := by
    intro l0 e hne
    unfold lockOf at e
    cases e2 : getL p K.tab with
    | none =>
      rw [e2] at e
      have : l0 = ⟨[], []⟩ := e.symm
      rw [this] at hne
      rcases hne with h1 | h1 <;> exact absurd rfl h1
    | some l =>
      rw [e2] at e
      have : l = l0 := e
      rw [← this]
      exact put_same e2
  have hlf : Fit8 (lockOf K.tab p) := by
    unfold lockOf
    cases e2 : getL p K.tab with
    | none => exact fit8_nil
    | some l => exact h.fit p l e2
  have hlp : PendL p (lockOf K.tab p).holds ([] ++ K.ws) := by
    unfold lockOf
    cases e2 : getL p K.tab with
    | none => intro c d hd; cases hd
    | some l => exact h.pend p l e2
  unfold askM
  rw [if_pos hv]
  by_cases hq : (lockOf K.tab p).queue.any (fun r => decide (r.c = c)) = true
  · rw [if_pos hq]
    right
    refine ⟨rfl, ?_⟩
    have hne : (lockOf K.tab p).queue ≠ [] := by intro e; rw [e] at hq; cases hq
    rw [hlk _ rfl (.inl hne)]
    exact h.mono (by omega)
  · rw [if_neg hq]
    left
    have hq : ∀ r ∈ (lockOf K.tab p).queue, r.c ≠ c := by
      intro r hr e
      exact hq (List.any_eq_true.2 ⟨r, hr, by simpa using e⟩)
    have hset : Sv (settled K p (lockOf K.tab p).holds ((lockOf K.tab p).queue ++ [⟨c, x⟩])) [] (fun k => if k = p then A k + 1 else A k) G (N + 4) := by
      refine sv_settled h.nd h.rng hp h.fit h.blk (fun p' l _ hl => h.pend p' l hl) (fun p' => ?_) h.wp ?_ hlp ?_
      · have := h.cnt p'
        by_cases e : p' = p
        · simp only [e, if_true, List.length_append, List.length_cons, List.length_nil] at this ⊢
          omega
        · simp only [e, if_false]
          exact this
      · obtain ⟨f1, f2, f3, f4⟩ := hlf
        refine ⟨f1, f2, fun r hr => ?_, ?_⟩
        · rcases List.mem_append.1 hr with hr | hr
          · exact f3 r hr
          · obtain rfl : r = ⟨c, x⟩ := by simpa using hr
            exact hc
        · rw [List.map_append, List.nodup_append]
          refine ⟨f4, by simp, fun a ha b hb => ?_⟩
          obtain ⟨r, hr, e⟩ := List.mem_map.1 ha
          have hb : b = c := by simpa using hb
          rw [hb, ← e]
          exact hq r hr
      · have := h.pot
        have e : potL (lockOf K.tab p) = sumL phi (lockOf K.tab p).holds + 4 * (lockOf K.tab p).queue.length := rfl
        rw [e]
        simp only [List.length_append, List.length_cons, List.length_nil]
        omega
    cases e : getL c (lockOf K.tab p).holds with
    | none => exact ⟨rfl, hset⟩
    | some d =>
      simp only
      split
      · refine ⟨rfl, ?_⟩
        have hne : (lockOf K.tab p).holds ≠ [] := by intro e2; rw [e2] at e; cases e
        rw [hlk _ rfl (.inr hne)]
        refine ⟨h.nd, h.rng, h.fit, h.blk, fun p' l hl c' d' hd h0 => ?_, fun p' => ?_, fun y hy => ?_, ?_⟩
        · obtain ⟨y, hy, h1⟩ := h.pend p' l hl c' d' hd h0
          refine ⟨y, ?_, h1⟩
          simp only [List.nil_append] at hy ⊢
          exact List.mem_append_left _ hy
        · have := h.cnt p'
          simp only [List.nil_append] at this ⊢
          rw [cntG_app]
          by_cases e2 : p' = p
          · subst e2
            simp [cntG] at this ⊢
            omega
          · have e3 : ¬ p = p' := fun u => e2 u.symm
            simp [cntG, e2, e3] at this ⊢
            omega
        · simp only [List.nil_append] at hy
          rcases List.mem_append.1 hy with hy | hy
          · exact h.wp y (by simpa using hy)
          · obtain rfl : y = ⟨false, c, p, d.x⟩ := by simpa using hy
            exact hp
        · have := h.pot
          simp only [List.nil_append] at this ⊢
          rw [wts_app, wts_one]
          have : wgt ⟨false, c, p, d.x⟩ = 1 := by simp [wgt]
          omega
      · exact ⟨rfl, hset⟩
theorem sv_take {K : KtM} {A G : Int → Nat} {N : Nat} (h : Sv K [] A G N) : Sv ⟨K.tab, []⟩ K.ws A G N := by
  refine ⟨h.nd, h.rng, h.fit, h.blk, ?_, ?_, ?_, ?_⟩
  · intro p l hl; have := h.pend p l hl; simpa using this
  · intro p; have := h.cnt p; simpa using this
  · intro x hx; exact h.wp x (by simpa using hx)
  · have := h.pot; simpa using this
theorem sv_grant {K : KtM} {x : Wd} {R : List Wd} {A G : Int → Nat} {N : Nat} (h : Sv K (x :: R) A G N) (hx : x.call = false) : Sv K R A (fun k => if k = x.p then G k + 1 else G k) (N - 1) := by
  refine ⟨h.nd, h.rng, h.fit, h.blk, fun p l hl c d hd h0 => ?_, fun p => ?_, fun y hy => h.wp y (by rw [List.cons_append]; exact .tail _ hy), ?_⟩
  · obtain ⟨y, hy, h1, h2⟩ := h.pend p l hl c d hd h0
    rw [List.cons_append] at hy
    rcases List.mem_cons.1 hy with e | hy
    · rw [e, hx] at h1; cases h1
    · exact ⟨y, hy, h1, h2⟩
  · have := h.cnt p
    rw [List.cons_append] at this
    by_cases e : p = x.p
    · subst e
      simp only [if_true]
      have e2 : cntG x.p (x :: (R ++ K.ws)) = 1 + cntG x.p (R ++ K.ws) := by
        unfold cntG
        rw [List.filter_cons_of_pos (by simp [hx])]
        simp only [List.length_cons]; omega
      omega
    · simp only [e, if_false]
      have e2 : cntG p (x :: (R ++ K.ws)) = cntG p (R ++ K.ws) := by
        unfold cntG
        rw [List.filter_cons_of_neg (by simp; intro _ u; exact e u.symm)]
      omega
  · have := h.pot
    rw [List.cons_append, wts_cons] at this
    have := wgt_pos x
    omega
theorem cnt_call {x : Wd} (hx : x.call = true) (p : Int) (W : List Wd) : cntG p (x :: W) = cntG p W := by
  unfold cntG
  rw [List.filter_cons_of_neg (by simp [hx])]
theorem sv_free {K : KtM} {x : Wd} {R : List Wd} {A G : Int → Nat} {N : Nat} (h : Sv K (x :: R) A G N) (hx : x.call = true) : Sv (freeM K x.c x.p (!x.x)).2 R A G (N - 1) := by
  have hpot := h.pot
  rw [List.cons_append, wts_cons] at hpot
  have hwp := wgt_pos x
  have hcnt : ∀ p, A p = G p + cntG p (R ++ K.ws) + (lockOf K.tab p).queue.length := by
    intro p
    have := h.cnt p
    rw [List.cons_append, cnt_call hx] at this
    exact this
  have hwpp : ∀ y ∈ R ++ K.ws, 0 ≤ y.p ∧ y.p < 4 := fun y hy => h.wp y (by rw [List.cons_append]; exact .tail _ hy)
  have hpn : ∀ p l, getL p K.tab = some l → ∀ c d, getL c l.holds = some d → 0 < d.called → ¬ (c = x.c ∧ p = x.p) → ∃ y ∈ R ++ K.ws, y.call = true ∧ y.c = c ∧ y.p = p := by
    intro p l hl c d hd h0 hne
    obtain ⟨y, hy, h1, h2, h3⟩ := h.pend p l hl c d hd h0
    rw [List.cons_append] at hy
    rcases List.mem_cons.1 hy with e | hy
    · exact absurd ⟨by rw [← h2, e], by rw [← h3, e]⟩ hne
    · exact ⟨y, hy, h1, h2, h3⟩
  have hsame : holdOf K.tab x.c x.p = none → Sv K R A G (N - 1) := by
    intro hno
    refine ⟨h.nd, h.rng, h.fit, h.blk, fun p l hl c d hd h0 => hpn p l hl c d hd h0 ?_, hcnt, hwpp, by omega⟩
    rintro ⟨rfl, rfl⟩
    unfold holdOf at hno
    rw [hl] at hno
    simp only [Option.bind_some] at hno
    rw [hd] at hno
    cases hno
  unfold freeM
  cases e : getL x.p K.tab with
  | none => exact hsame (by unfold holdOf; rw [e]; rfl)
  | some l =>
    simp only
    cases e2 : getL x.c l.holds with
    | none => exact hsame (by unfold holdOf; rw [e]; exact e2)
    | some d =>
      have hf := h.fit x.p l e
      have hc := hf.1 (x.c, d) (getL_mem e2)
      have hp := h.rng (x.p, l) (getL_mem e)
      have hlo : lockOf K.tab x.p = l := by unfold lockOf; rw [e]; rfl
      have hsd := sum_del phi e2
      have hpl : potL l = sumL phi l.holds + 4 * l.queue.length := rfl
      refine sv_settled h.nd h.rng hp h.fit h.blk (fun p' l' hne hl' c' d' hd h0 => hpn p' l' hl' c' d' hd h0 (fun u => hne u.2)) (fun p' => ?_) hwpp ?_ ?_ ?_
      · have := hcnt p'
        by_cases e3 : p' = x.p
        · rw [if_pos e3]
          rw [e3, hlo] at this
          rw [e3]; exact this
        · rw [if_neg e3]; exact this
      · cases x.x with
        | true => exact hf.del x.c
        | false => exact (hf.del x.c).put _ hc.1 hc.2
      · have hdel : PendL x.p (delL x.c l.holds) (R ++ K.ws) := by
          intro c' d' hd h0
          rw [getL_delL _ _ _ hf.2.1] at hd
          by_cases ec : c' = x.c
          · rw [if_pos ec] at hd; cases hd
          · rw [if_neg ec] at hd
            exact hpn x.p l e c' d' hd h0 (fun u => ec u.1)
        cases x.x with
        | true => exact hdel
        | false =>
          intro c' d' hd h0
          simp only [Bool.not_false, if_true] at hd
          rw [getL_putL] at hd
          by_cases ec : c' = x.c
          · rw [if_pos ec] at hd
            rw [← Option.some.inj hd] at h0
            exact absurd h0 (by show ¬ (0 : Int) < 0; omega)
          · rw [if_neg ec] at hd
            exact hdel c' d' hd h0
      · rw [hlo, hpl]
        cases hxx : x.x with
        | true =>
          simp only [Bool.not_true, Bool.false_eq_true, if_false]
          omega
        | false =>
          have hw2 : wgt x = 2 := by unfold wgt; simp [hx, hxx]
          have h1 := sum_put_le phi x.c ⟨false, false, 0⟩ (delL x.c l.holds)
          have h2 : phi ⟨false, false, 0⟩ = 1 := by simp [phi]
          simp only [Bool.not_false, if_true]
          omega
theorem sv_done {K : KtM} {A G : Int → Nat} {N : Nat} (h : Sv K [] A G N) (hw : K.ws = []) : (∀ p l, getL p K.tab = some l → l.queue = []) ∧ ∀ p, A p = G p := by
  have hq : ∀ p l, getL p K.tab = some l → l.queue = [] := by
    intro p l hl
    cases e : l.queue with
    | nil => rfl
    | cons r q =>
      obtain ⟨h1, h2⟩ := h.blk p l hl r q e
      cases e2 : wayM l.holds r with
      | nil => exact absurd e2 h1
      | cons c cs =>
        obtain ⟨d, hd, h0⟩ := h2 c (by rw [e2]; exact .head _)
        obtain ⟨y, hy, _⟩ := h.pend p l hl c d hd h0
        rw [hw] at hy
        cases hy
  refine ⟨hq, fun p => ?_⟩
  have := h.cnt p
  rw [hw] at this
  have h2 : (lockOf K.tab p).queue = [] := by
    unfold lockOf
    cases e : getL p K.tab with
    | none => rfl
    | some l => exact hq p l e
  rw [h2] at this
  simpa [cntG] using this
theorem sv_zero {K : KtM} {A G : Int → Nat} (h : Sv K [] A G 0) : K.ws = [] := by
  have := h.pot
  cases e : K.ws with
  | nil => rfl
  | cons x r =>
    rw [e] at this
    simp only [List.nil_append, wts_cons] at this
    have := wgt_pos x
    omega
end Go.Proofs.Ythgfbnopbfiifaa
