/- KeyGone in plain data: who is gone holds nothing, others keep what they have. Conditions: none. -/
import Derived.Test.YthgfbnopbfiifaaKeyV2
import Derived.Test.YthgfbnopbfiifaaKeyW0
namespace Go.Proofs.Ythgfbnopbfiifaa
open Go Go.MapKept Go.RowKit Go.Proofs Go.Sort

/-- What the table keeps while calls come. -/
structure GO (K : KtM) (n : Nat) : Prop where
  nd : (K.tab.map (·.1)).Nodup
  rng : ∀ q ∈ K.tab, 0 ≤ q.1 ∧ q.1 < 8
  fit : ∀ p l, getL p K.tab = some l → Fit8 l
  ws : K.ws.length ≤ 40 * n
theorem GO.start : GO ⟨[], []⟩ 0 := ⟨by simp, by simp, fun p l hl => by simp [getL] at hl, by simp⟩
theorem rng_len {T : TabM} (nd : (T.map (·.1)).Nodup) (rng : ∀ q ∈ T, 0 ≤ q.1 ∧ q.1 < 8) : T.length ≤ 8 := by
  have h := few8 8 ((T.map (·.1)).map (· + 1)) (fun c hc => by
    obtain ⟨a, ha, e⟩ := List.mem_map.1 hc
    obtain ⟨q, hq, e2⟩ := List.mem_map.1 ha
    have := rng q hq
    omega) (nd.map _ (fun a b h e => h (by omega)))
  simpa using h
theorem GO.mono {K : KtM} {n m : Nat} (h : GO K n) (hn : n ≤ m) : GO K m := ⟨h.nd, h.rng, h.fit, by have := h.ws; omega⟩
theorem GO.putp {K : KtM} {n : Nat} (h : GO K n) {p : Int} {l : LkM} {ws : List Wd} (hp : 0 ≤ p ∧ p < 8) (hf : Fit8 l) (hw : ws.length ≤ K.ws.length + 40) : GO ⟨putL p l K.tab, ws⟩ (n + 1) := by
  refine ⟨nodup_putL _ _ h.nd, fun x hx => ?_, fun p' l' hl => ?_, ?_⟩
  · rcases mem_putL hx with hx | hx
    · exact h.rng x hx
    · rw [hx]; exact hp
  · simp only [getL_putL] at hl
    by_cases e : p' = p
    · rw [if_pos e] at hl; rw [← Option.some.inj hl]; exact hf
    · rw [if_neg e] at hl; exact h.fit p' l' hl
  · have := h.ws
    show ws.length ≤ _
    omega
theorem GO.settled {K : KtM} {n : Nat} (h : GO K n) {p : Int} {hs : Hds} {q : List Rq} (hp : 0 ≤ p ∧ p < 8) (hf : Fit8 ⟨hs, q⟩) : GO (settled K p hs q) (n + 1) := by
  obtain ⟨a, b⟩ := settle_fit p q hs K.ws hf
  have := hf.lens.2
  exact h.putp hp a (by simp only at this; omega)
theorem GO.lock {K : KtM} {n : Nat} (h : GO K n) (p : Int) : Fit8 (lockOf K.tab p) := by
  unfold lockOf
  cases e : getL p K.tab with
  | none => exact fit8_nil
  | some l => exact h.fit p l e
theorem GO.ask {K : KtM} {n : Nat} (h : GO K n) (c : Int) {p : Int} (x : Bool) (hp : 0 ≤ p ∧ p < 8) : GO (askM K c p x).2 (n + 1) := by
  have hlf := h.lock p
  unfold askM
  split
  · rename_i hv
    simp only [Bool.and_eq_true, decide_eq_true_eq] at hv
    split
    · exact h.putp hp hlf (by omega)
    · rename_i hq
      have hq : ∀ r ∈ (lockOf K.tab p).queue, r.c ≠ c := by
        intro r hr e
        exact hq (List.any_eq_true.2 ⟨r, hr, by simpa using e⟩)
      have hset : GO (Go.Proofs.Ythgfbnopbfiifaa.settled K p (lockOf K.tab p).holds ((lockOf K.tab p).queue ++ [⟨c, x⟩])) (n + 1) := by
        refine h.settled hp ?_
        obtain ⟨f1, f2, f3, f4⟩ := hlf
        refine ⟨f1, f2, fun r hr => ?_, ?_⟩
        · rcases List.mem_append.1 hr with hr | hr
          · exact f3 r hr
          · obtain rfl : r = ⟨c, x⟩ := by simpa using hr
            exact ⟨hv.1.1.1, hv.1.1.2⟩
        · rw [List.map_append, List.nodup_append]
          refine ⟨f4, by simp, fun a ha b hb => ?_⟩
          obtain ⟨r, hr, e⟩ := List.mem_map.1 ha
          have hb : b = c := by simpa using hb
          rw [hb, ← e]
          exact hq r hr
      split
      · split
        · exact h.putp hp hlf (by simp)
        · exact hset
      · exact hset
  · exact h.mono (by omega)
theorem GO.free {K : KtM} {n : Nat} (h : GO K n) (c : Int) (p : Int) (k : Bool) : GO (freeM K c p k).2 (n + 1) := by
  unfold freeM
  cases e : getL p K.tab with
  | none => exact h.mono (by omega)
  | some l =>
    simp only
    cases e2 : getL c l.holds with
    | none => exact h.mono (by omega)
    | some d =>
      simp only
      have hf := h.fit p l e
      have hc := hf.1 (c, d) (getL_mem e2)
      refine h.settled (h.rng _ (getL_mem e)) ?_
      cases k with
      | true => exact (hf.del c).put _ hc.1 hc.2
      | false => exact hf.del c
theorem GO.busy {K : KtM} {n : Nat} (h : GO K n) (c : Int) (p : Int) : GO (busyM K c p).2 (n + 1) := by
  unfold busyM
  cases e : getL p K.tab with
  | none => exact h.mono (by omega)
  | some l =>
    simp only
    cases e2 : getL c l.holds with
    | none => exact h.mono (by omega)
    | some d =>
      simp only
      have hf := h.fit p l e
      have hc := hf.1 (c, d) (getL_mem e2)
      exact h.putp (h.rng _ (getL_mem e)) (hf.put _ hc.1 hc.2) (by omega)
/-- How much a client has. -/
def hvOf (h : Hds) (c : Int) : Int := match getL c h with | none => 0 | some d => if d.x then 2 else 1
theorem holdsM_eq (T : TabM) (c p : Int) : holdsM T c p = match getL p T with | none => 0 | some l => hvOf l.holds c := by
  unfold holdsM holdOf hvOf
  cases getL p T with
  | none => rfl
  | some l => rfl
theorem hv_same {h h' : Hds} (hx : SameX h h') (c : Int) : hvOf h' c = hvOf h c := by
  have := hx c
  unfold hvOf
  cases e : getL c h with
  | none =>
    rw [e] at this
    cases e' : getL c h' with
    | none => rfl
    | some d => rw [e'] at this; cases this
  | some d =>
    rw [e] at this
    cases e' : getL c h' with
    | none => rw [e'] at this; cases this
    | some d' =>
      rw [e'] at this
      have := Option.some.inj this
      simp only [this]
theorem settle_gone (c p : Int) : ∀ (q : List Rq) (h : Hds) (ws : List Wd), (∀ r ∈ q, r.c ≠ c) → getL c h = none → getL c (settleM p q h ws).1.holds = none ∧ ∀ r ∈ (settleM p q h ws).1.queue, r.c ≠ c
  | [], h, ws, hq, hn => by unfold settleM; exact ⟨hn, fun r hr => by cases hr⟩
  | r :: q, h, ws, hq, hn => by
    unfold settleM
    by_cases hw : wayM h r = []
    · rw [if_pos hw]
      refine settle_gone c p q _ _ (fun r' hr => hq r' (.tail _ hr)) ?_
      rw [getL_putL, if_neg (fun e => hq r (.head _) e.symm)]
      exact hn
    · rw [if_neg hw]
      refine ⟨?_, hq⟩
      have hk := callM_keys2 p r.x (wayM h r) (h, ws)
      rw [getL_none] at hn ⊢
      rw [hk]; exact hn
theorem settle_ge (c p : Int) : ∀ (q : List Rq) (h : Hds) (ws : List Wd), hvOf h c ≤ hvOf (settleM p q h ws).1.holds c
  | [], h, ws => by unfold settleM; exact Int.le_refl _
  | r :: q, h, ws => by
    unfold settleM
    by_cases hw : wayM h r = []
    · rw [if_pos hw]
      refine Int.le_trans ?_ (settle_ge c p q _ _)
      unfold hvOf
      rw [getL_putL]
      by_cases e : c = r.c
      · rw [if_pos e]
        simp only
        cases e2 : getL c h with
        | none => simp only; split <;> omega
        | some d =>
          have : hasX h r.c = d.x := by unfold hasX; rw [← e, e2]; rfl
          simp only [this]
          cases d.x <;> cases r.x <;> simp
      · rw [if_neg e]; exact Int.le_refl _
    · rw [if_neg hw]
      rw [hv_same (callM_x p r.x (wayM h r) (h, ws)) c]
      exact Int.le_refl _
/-- Somebody is gone. -/
structure GN (T0 : TabM) (c : Int) (K : KtM) : Prop where
  nd : (K.tab.map (·.1)).Nodup
  rng : ∀ q ∈ K.tab, 0 ≤ q.1 ∧ q.1 < 8
  fit : ∀ p l, getL p K.tab = some l → Fit8 l
  no : ∀ p l, getL p K.tab = some l → getL c l.holds = none ∧ ∀ r ∈ l.queue, r.c ≠ c
  ge : ∀ c' p, c' ≠ c → holdsM T0 c' p ≤ holdsM K.tab c' p
theorem left_get (c : Int) (all : Bool) (p : Int) (T : TabM) : getL p (T.map fun q => (q.1, leftL c all q.2)) = (getL p T).map (leftL c all) := getL_seen (fun l => leftL c all l) p T
theorem gn_start {K : KtM} {n : Nat} (h : GO K n) (c : Int) (ws : List Wd) : GN K.tab c ⟨K.tab.map fun q => (q.1, leftL c true q.2), ws⟩ := by
  refine ⟨?_, fun q hq => ?_, fun p l hl => ?_, fun p l hl => ?_, fun c' p hc => ?_⟩
  · have := h.nd
    simpa [List.map_map, Function.comp_def] using this
  · obtain ⟨q', hq', rfl⟩ := List.mem_map.1 hq
    exact h.rng q' hq'
  · simp only [left_get] at hl
    cases e : getL p K.tab with
    | none => rw [e] at hl; cases hl
    | some l0 =>
      rw [e] at hl
      rw [← Option.some.inj hl]
      exact leftL_fit (h.fit p l0 e) c true
  · simp only [left_get] at hl
    cases e : getL p K.tab with
    | none => rw [e] at hl; cases hl
    | some l0 =>
      rw [e] at hl
      rw [← Option.some.inj hl]
      refine ⟨?_, fun r hr => ?_⟩
      · show getL c (delL c l0.holds) = none
        rw [getL_delL _ _ _ (h.fit p l0 e).2.1, if_pos rfl]
      · have := (List.mem_filter.1 hr).2
        simpa using this
  · rw [holdsM_eq, holdsM_eq]
    simp only [left_get]
    cases e : getL p K.tab with
    | none => exact Int.le_refl _
    | some l0 =>
      show hvOf l0.holds c' ≤ hvOf (delL c l0.holds) c'
      unfold hvOf
      rw [getL_delL _ _ _ (h.fit p l0 e).2.1, if_neg hc]
      exact Int.le_refl _
theorem gn_settle {T0 : TabM} {c : Int} {K : KtM} (h : GN T0 c K) {p : Int} (hp : 0 ≤ p ∧ p < 8) : GN T0 c (settleAt K p) := by
  have hlf : Fit8 (lockOf K.tab p) ∧ getL c (lockOf K.tab p).holds = none ∧ ∀ r ∈ (lockOf K.tab p).queue, r.c ≠ c := by
    unfold lockOf
    cases e : getL p K.tab with
    | none => exact ⟨fit8_nil, rfl, fun r hr => by cases hr⟩
    | some l => exact ⟨h.fit p l e, h.no p l e⟩
  obtain ⟨f1, f2, f3⟩ := hlf
  unfold settleAt settled
  refine ⟨nodup_putL _ _ h.nd, fun x hx => ?_, fun p' l' hl => ?_, fun p' l' hl => ?_, fun c' p' hc => ?_⟩
  · rcases mem_putL hx with hx | hx
    · exact h.rng x hx
    · rw [hx]; exact hp
  · simp only [getL_putL] at hl
    by_cases e : p' = p
    · rw [if_pos e] at hl; rw [← Option.some.inj hl]; exact (settle_fit p _ _ _ f1).1
    · rw [if_neg e] at hl; exact h.fit p' l' hl
  · simp only [getL_putL] at hl
    by_cases e : p' = p
    · rw [if_pos e] at hl; rw [← Option.some.inj hl]; exact settle_gone c p _ _ _ f3 f2
    · rw [if_neg e] at hl; exact h.no p' l' hl
  · refine Int.le_trans (h.ge c' p' hc) ?_
    rw [holdsM_eq, holdsM_eq]
    simp only [getL_putL]
    by_cases e : p' = p
    · rw [if_pos e, e]
      have h1 := settle_ge c' p (lockOf K.tab p).queue (lockOf K.tab p).holds K.ws
      unfold lockOf at h1 ⊢
      cases e2 : getL p K.tab with
      | none =>
        rw [e2] at h1
        exact h1
      | some l =>
        rw [e2] at h1
        exact h1
    · rw [if_neg e]; exact Int.le_refl _
theorem gn_leave {K : KtM} {n : Nat} (h : GO K n) (c : Int) : GN K.tab c (leaveM K c true) := by
  unfold leaveM
  have hall : ∀ p ∈ sortK ((K.tab.filter fun q => touchL c true q.2).map (·.1)), 0 ≤ p ∧ p < 8 := by
    intro p hp
    rw [(sortK_perm _).mem_iff] at hp
    obtain ⟨q, hq, e⟩ := List.mem_map.1 hp
    rw [← e]
    exact h.rng q (List.mem_filter.1 hq).1
  generalize sortK ((K.tab.filter fun q => touchL c true q.2).map (·.1)) = ps at hall
  have key : ∀ (ps : List Int) (K1 : KtM), GN K.tab c K1 → (∀ p ∈ ps, 0 ≤ p ∧ p < 8) → GN K.tab c (ps.foldl settleAt K1) := by
    intro ps
    induction ps with
    | nil => intro K1 h1 _; exact h1
    | cons p ps ih => intro K1 h1 hp; exact ih _ (gn_settle h1 (hp p (.head _))) fun p' hp' => hp p' (.tail _ hp')
  exact key ps _ (gn_start h c K.ws) hall
theorem GN.none {T0 : TabM} {c : Int} {K : KtM} (h : GN T0 c K) (p : Int) : holdsM K.tab c p = 0 := by
  rw [holdsM_eq]
  cases e : getL p K.tab with
  | none => rfl
  | some l =>
    show hvOf l.holds c = 0
    unfold hvOf
    rw [(h.no p l e).1]
theorem GN.edge {T0 : TabM} {c : Int} {K : KtM} (h : GN T0 c K) {x : Int × Int} (hx : EdIn K.tab x) : x.1 ≠ c ∧ x.2 ≠ c := by
  obtain ⟨p, l, hl, hx⟩ := hx
  obtain ⟨i, r, _, hr, h1, h2⟩ := edL_mem hx
  obtain ⟨n1, n2⟩ := h.no p l hl
  refine ⟨by rw [h1]; exact n2 r (List.mem_of_getElem? hr), ?_⟩
  rcases h2 with ⟨q, hq, e⟩ | ⟨d, hd⟩
  · rw [e]; exact n2 q hq
  · intro e
    rw [e, n1] at hd
    cases hd
theorem GN.len {T0 : TabM} {c : Int} {K : KtM} (h : GN T0 c K) : K.tab.length ≤ 8 := rng_len h.nd h.rng
end Go.Proofs.Ythgfbnopbfiifaa
