/- KeyServes in plain data: who waits is served. Conditions: none. -/
import Derived.Test.YthgfbnopbfiifaaKeyS
namespace Go.Proofs.Ythgfbnopbfiifaa
open Go Go.MapKept Go.RowKit Go.Proofs Go.Sort

section
variable {V : Type}
/-- A sum over the values. -/
def sumL (f : V → Nat) (D : List (Int × V)) : Nat := (D.map fun p => f p.2).sum
theorem sum_put_some (f : V → Nat) {k : Int} {u : V} (v : V) : ∀ {D : List (Int × V)}, getL k D = some u → sumL f (putL k v D) + f u = sumL f D + f v
  | q :: r, h => by
    by_cases e : q.1 = k
    · simp only [getL, e, if_true, Option.some.injEq] at h
      subst h
      simp only [sumL, putL, e, if_true, List.map_cons, List.sum_cons]
      omega
    · simp only [getL, e, if_false] at h
      have ih := sum_put_some f v h
      simp only [sumL, putL, e, if_false, List.map_cons, List.sum_cons] at ih ⊢
      omega
theorem sum_put_none (f : V → Nat) {k : Int} (v : V) : ∀ {D : List (Int × V)}, getL k D = none → sumL f (putL k v D) = sumL f D + f v
  | [], _ => by simp [sumL, putL]
  | q :: r, h => by
    by_cases e : q.1 = k
    · simp [getL, e] at h
    · simp only [getL, e, if_false] at h
      have ih := sum_put_none f v h
      simp only [sumL, putL, e, if_false, List.map_cons, List.sum_cons] at ih ⊢
      omega
theorem sum_put_le (f : V → Nat) (k : Int) (v : V) (D : List (Int × V)) : sumL f (putL k v D) ≤ sumL f D + f v := by
  cases e : getL k D with
  | none => rw [sum_put_none f v e]; exact Nat.le_refl _
  | some u => have := sum_put_some f v e; omega
theorem sum_del (f : V → Nat) {k : Int} {u : V} : ∀ {D : List (Int × V)}, getL k D = some u → sumL f (delL k D) + f u = sumL f D
  | q :: r, h => by
    by_cases e : q.1 = k
    · simp only [getL, e, if_true, Option.some.injEq] at h
      subst h
      simp only [sumL, delL, e, if_true, List.map_cons, List.sum_cons]
      omega
    · simp only [getL, e, if_false] at h
      have ih := sum_del f h
      simp only [sumL, delL, e, if_false, List.map_cons, List.sum_cons] at ih ⊢
      omega
end
/-- How much a hold can still be called. -/
def phi (d : Hd) : Nat := if d.x = true then (if d.called < 1 then 3 else if d.called < 2 then 1 else 0) else (if d.called < 2 then 1 else 0)
theorem phi_le (d : Hd) : phi d ≤ 3 := by unfold phi; split <;> split <;> (try split) <;> omega
def wgt (x : Wd) : Nat := if x.call = true ∧ x.x = false then 2 else 1
def wts (ws : List Wd) : Nat := (ws.map wgt).sum
theorem wts_app (a b : List Wd) : wts (a ++ b) = wts a + wts b := by unfold wts; rw [List.map_append, List.sum_append]
theorem wts_one (x : Wd) : wts [x] = wgt x := by unfold wts; simp
theorem wts_cons (x : Wd) (a : List Wd) : wts (x :: a) = wgt x + wts a := by unfold wts; simp
theorem wgt_pos (x : Wd) : 1 ≤ wgt x := by unfold wgt; split <;> omega
/-- What a page can still make be said. -/
def potL (l : LkM) : Nat := sumL phi l.holds + 4 * l.queue.length
theorem callStep_pot (p : Int) (x : Bool) (s : Hds × List Wd) (c : Int) (h : ∀ d, getL c s.1 = some d → x = false → d.x = true) : sumL phi (callStep p x s c).1 + wts (callStep p x s c).2 ≤ sumL phi s.1 + wts s.2 := by
  unfold callStep
  cases e : getL c s.1 with
  | none => exact Nat.le_refl _
  | some d =>
    simp only
    by_cases hl : d.called < lvl x
    · rw [if_pos hl]
      have h1 := sum_put_some phi { d with called := lvl x } e
      simp only [wts_app, wts_one]
      have h2 : phi { d with called := lvl x } + wgt ⟨true, c, p, x⟩ ≤ phi d := by
        cases x with
        | false =>
          have hd := h d e rfl
          simp only [lvl, if_false, Bool.false_eq_true] at hl
          simp [phi, hd, lvl, wgt, hl]
        | true =>
          simp only [lvl, if_true] at hl
          unfold phi lvl wgt
          simp only [if_true]
          by_cases hx : d.x = true
          · simp only [hx, if_true]
            by_cases h1 : d.called < 1
            · simp [h1]
            · simp [h1, hl]
          · simp [hx, hl]
      omega
    · rw [if_neg hl]; exact Nat.le_refl _
theorem callM_pot (p : Int) (x : Bool) : ∀ (cs : List Int) (s : Hds × List Wd), (∀ c ∈ cs, ∀ d, getL c s.1 = some d → x = false → d.x = true) → sumL phi (callM p x cs s).1 + wts (callM p x cs s).2 ≤ sumL phi s.1 + wts s.2
  | [], s, _ => Nat.le_refl _
  | c :: cs, s, h => by
    have e : callM p x (c :: cs) s = callM p x cs (callStep p x s c) := rfl
    rw [e]
    have h1 := callStep_pot p x s c (fun d hd hx => h c (.head _) d hd hx)
    have hsx := callStep_x p x s c
    have h2 := callM_pot p x cs (callStep p x s c) (fun c' hc' d hd hx => by
      have := hsx c'
      rw [hd] at this
      cases e2 : getL c' s.1 with
      | none => rw [e2] at this; cases this
      | some d' =>
        rw [e2] at this
        have e3 : d.x = d'.x := Option.some.inj this
        rw [e3]
        exact h c' (.tail _ hc') d' e2 hx)
    omega
theorem settle_pot (p : Int) : ∀ (q : List Rq) (h : Hds) (ws : List Wd), potL (settleM p q h ws).1 + wts (settleM p q h ws).2 ≤ sumL phi h + 4 * q.length + wts ws
  | [], h, ws => by unfold settleM; simp [potL]
  | r :: q, h, ws => by
    unfold settleM
    by_cases hw : wayM h r = []
    · rw [if_pos hw]
      have h1 := settle_pot p q (putL r.c ⟨r.x || hasX h r.c, false, 0⟩ h) (ws ++ [⟨false, r.c, p, r.x || hasX h r.c⟩])
      have h2 := sum_put_le phi r.c ⟨r.x || hasX h r.c, false, 0⟩ h
      have h3 := phi_le ⟨r.x || hasX h r.c, false, 0⟩
      have h4 : wgt ⟨false, r.c, p, r.x || hasX h r.c⟩ = 1 := by simp [wgt]
      rw [wts_app, wts_one, h4] at h1
      simp only [List.length_cons]
      omega
    · rw [if_neg hw]
      have h1 := callM_pot p r.x (wayM h r) (h, ws) (fun c hc d hd hx => by
        obtain ⟨d', hd', k⟩ := way_mem hc
        have hd : getL c h = some d := hd
        rw [hd'] at hd
        cases hd
        exact k hx)
      unfold potL
      simp only [List.length_cons] at h1 ⊢
      omega
/-- Whoever is in the way of the first has been called. -/
def BlkL (l : LkM) : Prop := ∀ r q, l.queue = r :: q → wayM l.holds r ≠ [] ∧ ∀ c ∈ wayM l.holds r, ∃ d, getL c l.holds = some d ∧ 0 < d.called
theorem callStep_keys2 (p : Int) (x : Bool) (s : Hds × List Wd) (c : Int) : (callStep p x s c).1.map (·.1) = s.1.map (·.1) := by
  unfold callStep
  cases e : getL c s.1 with
  | none => rfl
  | some d =>
    simp only
    split
    · simp only [keys_putL]
      rw [if_pos (List.mem_map.2 ⟨_, getL_mem e, rfl⟩)]
    · rfl
theorem callM_keys2 (p : Int) (x : Bool) : ∀ (cs : List Int) (s : Hds × List Wd), (callM p x cs s).1.map (·.1) = s.1.map (·.1)
  | [], s => rfl
  | c :: cs, s => by
    have e : callM p x (c :: cs) s = callM p x cs (callStep p x s c) := rfl
    rw [e, callM_keys2 p x cs, callStep_keys2]
theorem callStep_up (p : Int) (x : Bool) (s : Hds × List Wd) (c k : Int) {d : Hd} (h : getL k s.1 = some d) : ∃ d', getL k (callStep p x s c).1 = some d' ∧ d.called ≤ d'.called ∧ (k = c → lvl x ≤ d'.called) := by
  unfold callStep
  cases e : getL c s.1 with
  | none =>
    refine ⟨d, h, Int.le_refl _, fun hk => ?_⟩
    rw [hk, e] at h; cases h
  | some d2 =>
    simp only
    by_cases hl : d2.called < lvl x
    · rw [if_pos hl]
      simp only [getL_putL]
      by_cases hk : k = c
      · rw [if_pos hk]
        rw [hk, e] at h
        cases h
        exact ⟨_, rfl, Int.le_of_lt hl, fun _ => Int.le_refl _⟩
      · rw [if_neg hk]
        exact ⟨d, h, Int.le_refl _, fun u => absurd u hk⟩
    · rw [if_neg hl]
      refine ⟨d, h, Int.le_refl _, fun hk => ?_⟩
      rw [hk, e] at h
      cases h
      omega
theorem callM_up (p : Int) (x : Bool) (k : Int) : ∀ (cs : List Int) (s : Hds × List Wd) (d : Hd), getL k s.1 = some d → ∃ d', getL k (callM p x cs s).1 = some d' ∧ d.called ≤ d'.called ∧ (k ∈ cs → lvl x ≤ d'.called)
  | [], s, d, h => ⟨d, h, Int.le_refl _, fun u => by cases u⟩
  | c :: cs, s, d, h => by
    have e : callM p x (c :: cs) s = callM p x cs (callStep p x s c) := rfl
    rw [e]
    obtain ⟨d1, h1, h2, h3⟩ := callStep_up p x s c k h
    obtain ⟨d2, h4, h5, h6⟩ := callM_up p x k cs _ d1 h1
    refine ⟨d2, h4, by omega, fun u => ?_⟩
    rcases List.mem_cons.1 u with u | u
    · have := h3 u; omega
    · exact h6 u
theorem lvl_pos (x : Bool) : 0 < lvl x := by unfold lvl; split <;> omega
theorem way_congr {h h' : Hds} (hk : h'.map (·.1) = h.map (·.1)) (hx : SameX h h') (r : Rq) : wayM h' r = wayM h r := by
  unfold wayM
  rw [hk]
  apply List.filter_congr
  intro c _
  have : hasX h' c = hasX h c := by unfold hasX; rw [hx c]
  rw [this]
theorem settle_blk (p : Int) : ∀ (q : List Rq) (h : Hds) (ws : List Wd), BlkL (settleM p q h ws).1
  | [], h, ws => by unfold settleM; intro r q e; cases e
  | r :: q, h, ws => by
    unfold settleM
    by_cases hw : wayM h r = []
    · rw [if_pos hw]; exact settle_blk p q _ _
    · rw [if_neg hw]
      have hk := callM_keys2 p r.x (wayM h r) (h, ws)
      have hx := callM_x p r.x (wayM h r) (h, ws)
      have hway : wayM (callM p r.x (wayM h r) (h, ws)).1 r = wayM h r := way_congr hk hx r
      intro r' q' e
      simp only [List.cons.injEq] at e
      obtain ⟨rfl, rfl⟩ := e
      simp only
      rw [hway]
      refine ⟨hw, fun c hc => ?_⟩
      obtain ⟨d, hd, _⟩ := way_mem hc
      obtain ⟨d', h1, _, h3⟩ := callM_up p r.x c (wayM h r) (h, ws) d hd
      exact ⟨d', h1, by have := h3 hc; have := lvl_pos r.x; omega⟩
/-- Who has been called is told so by a word to come. -/
def PendL (p : Int) (h : Hds) (W : List Wd) : Prop := ∀ c d, getL c h = some d → 0 < d.called → ∃ x ∈ W, x.call = true ∧ x.c = c ∧ x.p = p
theorem callStep_pend (p : Int) (x : Bool) (s : Hds × List Wd) (c : Int) (R : List Wd) (h : PendL p s.1 (R ++ s.2)) : PendL p (callStep p x s c).1 (R ++ (callStep p x s c).2) := by
  unfold callStep
  cases e : getL c s.1 with
  | none => exact h
  | some d =>
    simp only
    by_cases hl : d.called < lvl x
    · rw [if_pos hl]
      intro k d' hd hp
      simp only [getL_putL] at hd
      by_cases hk : k = c
      · exact ⟨⟨true, c, p, x⟩, by simp, rfl, hk.symm, rfl⟩
      · rw [if_neg hk] at hd
        obtain ⟨y, hy, h1⟩ := h k d' hd hp
        refine ⟨y, ?_, h1⟩
        rw [← List.append_assoc]
        exact List.mem_append_left _ hy
    · rw [if_neg hl]; exact h
theorem callM_pend (p : Int) (x : Bool) (R : List Wd) : ∀ (cs : List Int) (s : Hds × List Wd), PendL p s.1 (R ++ s.2) → PendL p (callM p x cs s).1 (R ++ (callM p x cs s).2)
  | [], s, h => h
  | c :: cs, s, h => by
    have e : callM p x (c :: cs) s = callM p x cs (callStep p x s c) := rfl
    rw [e]
    exact callM_pend p x R cs _ (callStep_pend p x s c R h)
theorem settle_pend (p : Int) (R : List Wd) : ∀ (q : List Rq) (h : Hds) (ws : List Wd), PendL p h (R ++ ws) → PendL p (settleM p q h ws).1.holds (R ++ (settleM p q h ws).2)
  | [], h, ws, hp => by unfold settleM; exact hp
  | r :: q, h, ws, hp => by
    unfold settleM
    by_cases hw : wayM h r = []
    · rw [if_pos hw]
      refine settle_pend p R q _ _ fun c d hd h0 => ?_
      rw [getL_putL] at hd
      by_cases e : c = r.c
      · rw [if_pos e] at hd
        rw [← Option.some.inj hd] at h0
        exact absurd h0 (by show ¬ (0 : Int) < 0; omega)
      · rw [if_neg e] at hd
        obtain ⟨y, hy, h1⟩ := hp c d hd h0
        refine ⟨y, ?_, h1⟩
        rw [← List.append_assoc]
        exact List.mem_append_left _ hy
    · rw [if_neg hw]
      exact callM_pend p r.x R (wayM h r) (h, ws) hp
/-- How many of a page's requests are told to be granted. -/
def cntG (p : Int) (W : List Wd) : Nat := (W.filter fun x => !x.call && decide (x.p = p)).length
theorem cntG_app (p : Int) (a b : List Wd) : cntG p (a ++ b) = cntG p a + cntG p b := by unfold cntG; rw [List.filter_append, List.length_append]
theorem callStep_cnt (p p' : Int) (x : Bool) (s : Hds × List Wd) (c : Int) : cntG p' (callStep p x s c).2 = cntG p' s.2 := by
  unfold callStep
  cases e : getL c s.1 with
  | none => rfl
  | some d =>
    simp only
    split
    · rw [cntG_app]; simp [cntG]
    · rfl
theorem callM_cnt (p p' : Int) (x : Bool) : ∀ (cs : List Int) (s : Hds × List Wd), cntG p' (callM p x cs s).2 = cntG p' s.2
  | [], s => rfl
  | c :: cs, s => by
    have e : callM p x (c :: cs) s = callM p x cs (callStep p x s c) := rfl
    rw [e, callM_cnt p p' x cs, callStep_cnt]
theorem settle_cnt (p p' : Int) : ∀ (q : List Rq) (h : Hds) (ws : List Wd), (if p' = p then (settleM p q h ws).1.queue.length else 0) + cntG p' (settleM p q h ws).2 = (if p' = p then q.length else 0) + cntG p' ws
  | [], h, ws => by unfold settleM; rfl
  | r :: q, h, ws => by
    unfold settleM
    by_cases hw : wayM h r = []
    · rw [if_pos hw]
      have ih := settle_cnt p p' q (putL r.c ⟨r.x || hasX h r.c, false, 0⟩ h) (ws ++ [⟨false, r.c, p, r.x || hasX h r.c⟩])
      rw [ih, cntG_app]
      by_cases e : p' = p
      · subst e
        simp [cntG]
        omega
      · have : ¬ p = p' := fun u => e u.symm
        simp [cntG, e, this]
    · rw [if_neg hw]
      rw [callM_cnt]
end Go.Proofs.Ythgfbnopbfiifaa
