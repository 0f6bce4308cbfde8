/- KeySafe in plain data: what the table keeps behind every call. Conditions: none. -/
import Derived.Test.YthgfbnopbfiifaaKeyL
namespace Go.Proofs.Ythgfbnopbfiifaa
open Go Go.MapKept Go.RowKit Go.Proofs Go.Sort

/-- Nobody else holds what somebody holds as an X. -/
def SafeH (h : Hds) : Prop := ∀ c d, getL c h = some d → d.x = true → ∀ c' d', getL c' h = some d' → c' = c
/-- What is said of a page is so. -/
def SaidL (h : Hds) (x : Wd) : Prop := ∃ d, getL x.c h = some d ∧ (x.call = true → x.x = false → d.x = true) ∧ (x.call = false → x.x = d.x)
theorem way_nil {h : Hds} {r : Rq} (hw : wayM h r = []) {c : Int} {d : Hd} (hc : getL c h = some d) (hn : c ≠ r.c) : r.x = false ∧ d.x = false := by
  have hm : c ∈ sortK (h.map (·.1)) := by
    rw [(sortK_perm _).mem_iff]
    exact List.mem_map.2 ⟨_, getL_mem hc, rfl⟩
  have hnot : (!decide (c = r.c) && (r.x || hasX h c)) = false := by
    cases e : (!decide (c = r.c) && (r.x || hasX h c)) with
    | false => rfl
    | true =>
      have : c ∈ wayM h r := List.mem_filter.2 ⟨hm, e⟩
      rw [hw] at this
      cases this
  have hx : hasX h c = d.x := by unfold hasX; rw [hc]; rfl
  rw [hx] at hnot
  simp [hn] at hnot
  exact hnot
theorem way_mem {h : Hds} {r : Rq} {c : Int} (hw : c ∈ wayM h r) : ∃ d, getL c h = some d ∧ (r.x = false → d.x = true) := by
  obtain ⟨h1, h2⟩ := List.mem_filter.1 hw
  rw [(sortK_perm _).mem_iff] at h1
  cases e : getL c h with
  | none => exact absurd h1 (getL_none.1 e)
  | some d =>
    refine ⟨d, rfl, fun hx => ?_⟩
    have hx2 : hasX h c = d.x := by unfold hasX; rw [e]; rfl
    rw [hx2, hx] at h2
    simpa using (Bool.and_eq_true_iff.1 h2).2
/-- The X's are as they were. -/
def SameX (h h' : Hds) : Prop := ∀ c, (getL c h').map (·.x) = (getL c h).map (·.x)
theorem callStep_x (p : Int) (x : Bool) (s : Hds × List Wd) (c : Int) : SameX s.1 (callStep p x s c).1 := by
  intro k
  unfold callStep
  cases e : getL c s.1 with
  | none => rfl
  | some d =>
    simp only
    split
    · simp only [getL_putL]
      by_cases hk : k = c
      · rw [if_pos hk, hk, e]; rfl
      · rw [if_neg hk]
    · rfl
theorem callM_x (p : Int) (x : Bool) : ∀ (cs : List Int) (s : Hds × List Wd), SameX s.1 (callM p x cs s).1
  | [], s => fun _ => rfl
  | c :: cs, s => by
    intro k
    have e : callM p x (c :: cs) s = callM p x cs (callStep p x s c) := rfl
    rw [e, callM_x p x cs _ k, callStep_x p x s c k]
theorem SameX.safe {h h' : Hds} (hx : SameX h h') (hs : SafeH h) : SafeH h' := by
  have back : ∀ c d', getL c h' = some d' → ∃ d, getL c h = some d ∧ d.x = d'.x := by
    intro c d' hd
    have := hx c
    rw [hd] at this
    cases e : getL c h with
    | none => rw [e] at this; cases this
    | some d => rw [e] at this; exact ⟨d, rfl, (Option.some.inj this).symm⟩
  intro c d hd hdx c' d' hd'
  obtain ⟨d1, h1, e1⟩ := back c d hd
  obtain ⟨d2, h2, e2⟩ := back c' d' hd'
  exact hs c d1 h1 (by rw [e1]; exact hdx) c' d2 h2
theorem SameX.said {h h' : Hds} (hx : SameX h h') {x : Wd} (hs : SaidL h x) : SaidL h' x := by
  obtain ⟨d, hd, h1, h2⟩ := hs
  have := hx x.c
  rw [hd] at this
  cases e : getL x.c h' with
  | none => rw [e] at this; cases this
  | some d' =>
    rw [e] at this
    have e2 : d'.x = d.x := Option.some.inj this
    exact ⟨d', e, (fun a b => by rw [e2]; exact h1 a b), (fun a => by rw [e2]; exact h2 a)⟩
/-- The words that calling adds. -/
theorem callM_ws (p : Int) (x : Bool) : ∀ (cs : List Int) (s : Hds × List Wd), ∀ y ∈ (callM p x cs s).2, y ∈ s.2 ∨ (y.call = true ∧ y.p = p ∧ y.x = x ∧ y.c ∈ cs)
  | [], s => fun y hy => .inl hy
  | c :: cs, s => by
    intro y hy
    have e : callM p x (c :: cs) s = callM p x cs (callStep p x s c) := rfl
    rw [e] at hy
    rcases callM_ws p x cs _ y hy with h | ⟨h1, h2, h3, h4⟩
    · unfold callStep at h
      cases e2 : getL c s.1 with
      | none => rw [e2] at h; exact .inl h
      | some d =>
        rw [e2] at h
        simp only at h
        split at h
        · rcases List.mem_append.1 h with h | h
          · exact .inl h
          · obtain rfl : y = ⟨true, c, p, x⟩ := by simpa using h
            exact .inr ⟨rfl, rfl, rfl, .head _⟩
        · exact .inl h
    · exact .inr ⟨h1, h2, h3, .tail _ h4⟩
theorem grant_safe {h : Hds} {r : Rq} (hs : SafeH h) (hw : wayM h r = []) : SafeH (putL r.c ⟨r.x || hasX h r.c, false, 0⟩ h) := by
  have hone : (r.x || hasX h r.c) = true → ∀ c d, getL c h = some d → c = r.c := by
    intro hx c d hd
    by_cases e : c = r.c
    · exact e
    · obtain ⟨h1, h2⟩ := way_nil hw hd e
      rw [h1] at hx
      unfold hasX at hx
      cases e2 : getL r.c h with
      | none => rw [e2] at hx; cases hx
      | some d2 =>
        rw [e2] at hx
        exact hs r.c d2 e2 (by simpa using hx) c d hd
  intro c d hd hdx c' d' hd'
  rw [getL_putL] at hd hd'
  by_cases e : c = r.c
  · rw [if_pos e] at hd
    have hd := Option.some.inj hd
    rw [← hd] at hdx
    by_cases e' : c' = r.c
    · rw [e, e']
    · rw [if_neg e'] at hd'
      rw [e]
      exact hone hdx c' d' hd'
  · rw [if_neg e] at hd
    obtain ⟨_, h2⟩ := way_nil hw hd e
    rw [h2] at hdx
    cases hdx
/-- What a settling keeps and says. -/
theorem settle_safe (p : Int) : ∀ (q : List Rq) (h : Hds) (ws : List Wd), SafeH h → (q.map (·.c)).Nodup → (∀ x ∈ ws, x.p = p → SaidL h x ∧ x.call = false ∧ x.c ∉ q.map (·.c)) →
    SafeH (settleM p q h ws).1.holds ∧ (∀ x ∈ (settleM p q h ws).2, x.p = p → SaidL (settleM p q h ws).1.holds x) ∧ (∀ x ∈ (settleM p q h ws).2, x ∈ ws ∨ x.p = p)
  | [], h, ws, hs, _, hx => by
    unfold settleM
    exact ⟨hs, fun x hm hp => (hx x hm hp).1, fun x hm => .inl hm⟩
  | r :: q, h, ws, hs, hn, hx => by
    simp only [List.map_cons, List.nodup_cons] at hn
    unfold settleM
    by_cases hw : wayM h r = []
    · rw [if_pos hw]
      have h1 := settle_safe p q (putL r.c ⟨r.x || hasX h r.c, false, 0⟩ h) (ws ++ [⟨false, r.c, p, r.x || hasX h r.c⟩]) (grant_safe hs hw) hn.2 (by
        intro x hm hp
        rcases List.mem_append.1 hm with hm | hm
        · obtain ⟨⟨d, hd, k1, k2⟩, hc, hq⟩ := hx x hm hp
          simp only [List.map_cons, List.mem_cons, not_or] at hq
          exact ⟨⟨d, by rw [getL_putL, if_neg hq.1]; exact hd, k1, k2⟩, hc, hq.2⟩
        · obtain rfl : x = ⟨false, r.c, p, r.x || hasX h r.c⟩ := by simpa using hm
          exact ⟨⟨⟨r.x || hasX h r.c, false, 0⟩, by rw [getL_putL, if_pos rfl], (fun a => Bool.noConfusion a), fun _ => rfl⟩, rfl, hn.1⟩)
      refine ⟨h1.1, h1.2.1, fun x hm => ?_⟩
      rcases h1.2.2 x hm with h2 | h2
      · rcases List.mem_append.1 h2 with h2 | h2
        · exact .inl h2
        · obtain rfl : x = ⟨false, r.c, p, r.x || hasX h r.c⟩ := by simpa using h2
          exact .inr rfl
      · exact .inr h2
    · rw [if_neg hw]
      have hsx := callM_x p r.x (wayM h r) (h, ws)
      refine ⟨hsx.safe hs, fun x hm hp => ?_, fun x hm => ?_⟩
      · rcases callM_ws p r.x (wayM h r) (h, ws) x hm with h2 | ⟨h2, _, h4, h5⟩
        · exact hsx.said (hx x h2 hp).1
        · obtain ⟨d, hd, hdx⟩ := way_mem h5
          refine hsx.said ⟨d, hd, fun _ hxx => hdx (by rw [← h4]; exact hxx), fun a => by rw [h2] at a; cases a⟩
      · rcases callM_ws p r.x (wayM h r) (h, ws) x hm with h2 | ⟨_, h3, _⟩
        · exact .inl h2
        · exact .inr h3
theorem safe_del {h : Hds} (hs : SafeH h) (hnd : (h.map (·.1)).Nodup) (c : Int) : SafeH (delL c h) := by
  intro k d hd hdx k' d' hd'
  rw [getL_delL _ _ _ hnd] at hd hd'
  split at hd
  · cases hd
  · split at hd'
    · cases hd'
    · exact hs k d hd hdx k' d' hd'
/-- Behind every call: the clients are the eight; safe; what was said is so. -/
structure KOk (K : KtM) : Prop where
  nd : (K.tab.map (·.1)).Nodup
  rng : ∀ q ∈ K.tab, 0 ≤ q.1 ∧ q.1 < 8
  fit : ∀ p l, getL p K.tab = some l → Fit8 l
  safe : ∀ p l, getL p K.tab = some l → SafeH l.holds
/-- Each word is of a page that is there, and so. -/
def KSaid (K : KtM) : Prop := ∀ x ∈ K.ws, ∃ l, getL x.p K.tab = some l ∧ SaidL l.holds x
theorem KOk.put {K : KtM} (h : KOk K) {p : Int} {l : LkM} (hp : 0 ≤ p ∧ p < 8) (hf : Fit8 l) (hs : SafeH l.holds) (ws : List Wd) : KOk ⟨putL p l K.tab, ws⟩ := by
  refine ⟨nodup_putL _ _ h.nd, fun q hq => ?_, fun p' l' hl => ?_, fun p' l' hl => ?_⟩
  · rcases mem_putL hq with hq | hq
    · exact h.rng q hq
    · rw [hq]; exact hp
  · simp only [getL_putL] at hl
    by_cases e : p' = p
    · rw [if_pos e] at hl; rw [← Option.some.inj hl]; exact hf
    · rw [if_neg e] at hl; exact h.fit p' l' hl
  · simp only [getL_putL] at hl
    by_cases e : p' = p
    · rw [if_pos e] at hl; rw [← Option.some.inj hl]; exact hs
    · rw [if_neg e] at hl; exact h.safe p' l' hl
/-- A page is settled of which nothing has been said. -/
theorem settled_ok {K : KtM} (h : KOk K) {p : Int} (hp : 0 ≤ p ∧ p < 8) {hs : Hds} {q : List Rq} (hf : Fit8 ⟨hs, q⟩) (hsf : SafeH hs) (hno : ∀ x ∈ K.ws, x.p ≠ p) (hsd : KSaid K) : KOk (settled K p hs q) ∧ KSaid (settled K p hs q) ∧ ∀ x ∈ (settled K p hs q).ws, x ∈ K.ws ∨ x.p = p := by
  obtain ⟨a, b, c⟩ := settle_safe p q hs K.ws hsf hf.2.2.2 (fun x hx e => absurd e (hno x hx))
  obtain ⟨d, _⟩ := settle_fit p q hs K.ws hf
  refine ⟨h.put hp d a _, fun x hx => ?_, c⟩
  unfold settled at hx ⊢
  simp only [getL_putL] at hx ⊢
  by_cases e : x.p = p
  · rw [if_pos e]
    exact ⟨_, rfl, b x hx e⟩
  · rw [if_neg e]
    rcases c x hx with h1 | h1
    · exact hsd x h1
    · exact absurd h1 e
theorem lockOf_ok {K : KtM} (h : KOk K) (p : Int) : Fit8 (lockOf K.tab p) ∧ SafeH (lockOf K.tab p).holds := by
  unfold lockOf
  cases e : getL p K.tab with
  | none => exact ⟨fit8_nil, fun c d hd => by cases hd⟩
  | some l => exact ⟨h.fit p l e, h.safe p l e⟩
theorem said_nil {T : TabM} : KSaid ⟨T, []⟩ := fun x hx => by cases hx
theorem ask_ok {K : KtM} (h : KOk K) (hw : K.ws = []) {c p : Int} (x : Bool) (hp : 0 ≤ p ∧ p < 8) : KOk (askM K c p x).2 ∧ KSaid (askM K c p x).2 := by
  obtain ⟨tab, ws⟩ := K
  simp only at hw
  subst hw
  obtain ⟨hf, hs⟩ := lockOf_ok h p
  unfold askM
  split
  · rename_i hv
    simp only [Bool.and_eq_true, decide_eq_true_eq] at hv
    split
    · exact ⟨h.put hp hf hs _, said_nil⟩
    · rename_i hq
      have hq : ∀ r ∈ (lockOf tab p).queue, r.c ≠ c := by
        intro r hr e
        exact hq (List.any_eq_true.2 ⟨r, hr, by simpa using e⟩)
      have hset : KOk (settled ⟨tab, []⟩ p (lockOf tab p).holds ((lockOf tab p).queue ++ [⟨c, x⟩])) ∧ KSaid (settled ⟨tab, []⟩ p (lockOf tab p).holds ((lockOf tab p).queue ++ [⟨c, x⟩])) := by
        have hfit : Fit8 ⟨(lockOf tab p).holds, (lockOf tab p).queue ++ [⟨c, x⟩]⟩ := by
          obtain ⟨f1, f2, f3, f4⟩ := hf
          refine ⟨f1, f2, fun r hr => ?_, ?_⟩
          · rcases List.mem_append.1 hr with hr | hr
            · exact f3 r hr
            · obtain rfl : r = ⟨c, x⟩ := by simpa using hr
              exact ⟨by show _ ≤ c; omega, by show c ≤ _; omega⟩
          · rw [List.map_append, List.nodup_append]
            refine ⟨f4, by simp, fun a ha b hb => ?_⟩
            obtain ⟨r, hr, e⟩ := List.mem_map.1 ha
            have hb : b = c := by simpa using hb
            rw [hb, ← e]
            exact hq r hr
        have := settled_ok h hp hfit hs (fun x hx => by cases hx) said_nil
        exact ⟨this.1, this.2.1⟩
      cases e : getL c (lockOf tab p).holds with
      | none => exact hset
      | some d =>
        simp only
        split
        · refine ⟨h.put hp hf hs _, fun y hy => ?_⟩
          obtain rfl : y = ⟨false, c, p, d.x⟩ := by simpa using hy
          refine ⟨lockOf tab p, by simp only [getL_putL, if_true], d, e, (fun a => Bool.noConfusion a), fun _ => rfl⟩
        · exact hset
  · exact ⟨h, said_nil⟩
theorem free_ok {K : KtM} (h : KOk K) (hw : K.ws = []) (c p : Int) (keep : Bool) : KOk (freeM K c p keep).2 ∧ KSaid (freeM K c p keep).2 := by
  obtain ⟨tab, ws⟩ := K
  simp only at hw
  subst hw
  unfold freeM
  cases e : getL p tab with
  | none => exact ⟨h, said_nil⟩
  | some l =>
    have hp := h.rng (p, l) (getL_mem e)
    have hf := h.fit p l e
    have hs := h.safe p l e
    simp only
    cases e2 : getL c l.holds with
    | none => exact ⟨h, said_nil⟩
    | some d =>
      simp only
      have hc := hf.1 (c, d) (getL_mem e2)
      have hdel := safe_del hs hf.2.1 c
      cases keep with
      | false =>
        have := settled_ok h hp (hf.del c) hdel (fun x hx => by cases hx) said_nil
        exact ⟨this.1, this.2.1⟩
      | true =>
        have hsf : SafeH (putL c ⟨false, false, 0⟩ (delL c l.holds)) := by
          intro k d1 hd1 hx1 k' d2 hd2
          rw [getL_putL] at hd1 hd2
          by_cases ek : k = c
          · rw [if_pos ek] at hd1
            rw [← Option.some.inj hd1] at hx1
            cases hx1
          · rw [if_neg ek] at hd1
            rw [getL_delL _ _ _ hf.2.1, if_neg ek] at hd1
            exact absurd (hs k d1 hd1 hx1 c d e2) (fun u => ek u.symm)
        have := settled_ok h hp ((hf.del c).put ⟨false, false, 0⟩ hc.1 hc.2) hsf (fun x hx => by cases hx) said_nil
        exact ⟨this.1, this.2.1⟩
theorem busy_ok {K : KtM} (h : KOk K) (hw : K.ws = []) (c p : Int) : KOk (busyM K c p).2 ∧ KSaid (busyM K c p).2 := by
  obtain ⟨tab, ws⟩ := K
  simp only at hw
  subst hw
  unfold busyM
  cases e : getL p tab with
  | none => exact ⟨h, said_nil⟩
  | some l =>
    have hp := h.rng (p, l) (getL_mem e)
    have hf := h.fit p l e
    have hs := h.safe p l e
    simp only
    cases e2 : getL c l.holds with
    | none => exact ⟨h, said_nil⟩
    | some d =>
      simp only
      have hc := hf.1 (c, d) (getL_mem e2)
      have hx : SameX l.holds (putL c { d with busy := true } l.holds) := by
        intro k
        rw [getL_putL]
        by_cases ek : k = c
        · rw [if_pos ek, ek, e2]; rfl
        · rw [if_neg ek]
      exact ⟨h.put hp (Fit8.put (l := l) hf _ hc.1 hc.2) (hx.safe hs) _, said_nil⟩
theorem settleAt_ok {K : KtM} (h : KOk K) {p : Int} (hp : 0 ≤ p ∧ p < 8) (hno : ∀ x ∈ K.ws, x.p ≠ p) (hsd : KSaid K) : KOk (settleAt K p) ∧ KSaid (settleAt K p) ∧ ∀ x ∈ (settleAt K p).ws, x ∈ K.ws ∨ x.p = p := by
  obtain ⟨hf, hs⟩ := lockOf_ok h p
  exact settled_ok h hp hf hs hno hsd
theorem settles_ok : ∀ (ss : List Int) (K : KtM), KOk K → (∀ p ∈ ss, 0 ≤ p ∧ p < 8) → ss.Nodup → (∀ x ∈ K.ws, x.p ∉ ss) → KSaid K → KOk (ss.foldl settleAt K) ∧ KSaid (ss.foldl settleAt K)
  | [], K, h, _, _, _, hsd => ⟨h, hsd⟩
  | p :: ss, K, h, hp, hn, hno, hsd => by
    rw [List.nodup_cons] at hn
    obtain ⟨a, b, c⟩ := settleAt_ok h (hp p (.head _)) (fun x hx e => hno x hx (by rw [e]; exact .head _)) hsd
    exact settles_ok ss (settleAt K p) a (fun q hq => hp q (.tail _ hq)) hn.2 (fun x hx e => by
      rcases c x hx with h1 | h1
      · exact hno x h1 (.tail _ e)
      · rw [h1] at e; exact hn.1 e) b
theorem leave_ok {K : KtM} (h : KOk K) (hw : K.ws = []) (c : Int) (all : Bool) : KOk (leaveM K c all) ∧ KSaid (leaveM K c all) := by
  obtain ⟨tab, ws⟩ := K
  simp only at hw
  subst hw
  have hk : (tab.map fun q => (q.1, leftL c all q.2)).map (·.1) = tab.map (·.1) := by rw [List.map_map]; rfl
  have hg : ∀ p l, getL p (tab.map fun q => (q.1, leftL c all q.2)) = some l → ∃ l0, getL p tab = some l0 ∧ leftL c all l0 = l := by
    intro p l hl
    have h2 := getL_seen (fun l => leftL c all l) p tab
    unfold seenL at h2
    rw [h2] at hl
    cases e : getL p tab with
    | none => rw [e] at hl; cases hl
    | some l0 => rw [e] at hl; exact ⟨l0, rfl, Option.some.inj hl⟩
  have h1 : KOk ⟨tab.map fun q => (q.1, leftL c all q.2), []⟩ := by
    refine ⟨by show ((tab.map fun q => (q.1, leftL c all q.2)).map (·.1)).Nodup; rw [hk]; exact h.nd, fun q hq => ?_, fun p l hl => ?_, fun p l hl => ?_⟩
    · obtain ⟨q0, hq0, e⟩ := List.mem_map.1 hq
      rw [← e]
      exact h.rng q0 hq0
    · obtain ⟨l0, hl0, e⟩ := hg p l hl
      rw [← e]
      exact leftL_fit (h.fit p l0 hl0) c all
    · obtain ⟨l0, hl0, e⟩ := hg p l hl
      rw [← e]
      unfold leftL
      cases all with
      | false => exact h.safe p l0 hl0
      | true => exact safe_del (h.safe p l0 hl0) (h.fit p l0 hl0).2.1 c
  have hsub : ((tab.filter fun q => touchL c all q.2).map (·.1)).Sublist (tab.map (·.1)) := List.filter_sublist.map _
  unfold leaveM
  refine settles_ok _ _ h1 (fun p hp => ?_) ?_ (fun x hx => by cases hx) said_nil
  · rw [(sortK_perm _).mem_iff] at hp
    obtain ⟨q, hq, e⟩ := List.mem_map.1 (hsub.subset hp)
    rw [← e]
    exact h.rng q hq
  · rw [(sortK_perm _).nodup_iff]
    exact hsub.nodup h.nd
/-- The table between two acts. -/
theorem KOk.take {K : KtM} (h : KOk K) : KOk ⟨K.tab, []⟩ := ⟨h.nd, h.rng, h.fit, h.safe⟩
theorem KOk.len {K : KtM} (h : KOk K) : K.tab.length ≤ 8 := by
  have := few8 8 ((K.tab.map (·.1)).map (· + 1)) (fun c hc => by
    obtain ⟨a, ha, e⟩ := List.mem_map.1 hc
    obtain ⟨q, hq, e2⟩ := List.mem_map.1 ha
    have := h.rng q hq
    omega) (by
      rw [List.Nodup, List.pairwise_map]
      exact h.nd.imp (fun hn e => hn (by omega)))
  simpa using this
/-- One page: nobody has an X; or one, who is alone. -/
theorem page_ok {K : KtM} (h : KOk K) (p : Int) : (∀ c, holdsM K.tab c p = 0 ∨ holdsM K.tab c p = 1) ∨ ∃ c0, holdsM K.tab c0 p = 2 ∧ ∀ c, c ≠ c0 → holdsM K.tab c p = 0 := by
  unfold holdsM holdOf
  cases e : getL p K.tab with
  | none => exact .inl fun c => .inl rfl
  | some l =>
    have hs := h.safe p l e
    by_cases hx : ∃ c d, getL c l.holds = some d ∧ d.x = true
    · obtain ⟨c, d, hd, hdx⟩ := hx
      refine .inr ⟨c, by simp [hd, hdx], fun c' hc' => ?_⟩
      cases e2 : getL c' l.holds with
      | none => simp [e2]
      | some d' => exact absurd (hs c d hd hdx c' d' e2) hc'
    · refine .inl fun c => ?_
      cases e2 : getL c l.holds with
      | none => left; simp [e2]
      | some d =>
        right
        cases e3 : d.x with
        | true => exact absurd ⟨c, d, e2, e3⟩ hx
        | false => simp [e2, e3]
theorem word_ok {K : KtM} (hsd : KSaid K) {x : Wd} (hx : x ∈ K.ws) : (holdsM K.tab x.c x.p = 1 ∨ holdsM K.tab x.c x.p = 2) ∧ (x.call = true → x.x = false → holdsM K.tab x.c x.p = 2) ∧ (x.call = false → x.x = decide (holdsM K.tab x.c x.p = 2)) := by
  obtain ⟨l, hl, d, hd, h1, h2⟩ := hsd x hx
  have e : holdsM K.tab x.c x.p = if d.x = true then 2 else 1 := by
    unfold holdsM holdOf
    rw [hl]
    simp only [Option.bind_some, hd]
  rw [e]
  cases hdx : d.x with
  | true => exact ⟨.inr rfl, (fun _ _ => rfl), (fun a => by rw [h2 a, hdx]; rfl)⟩
  | false => exact ⟨.inl rfl, (fun a b => by rw [h1 a b] at hdx; cases hdx), (fun a => by rw [h2 a, hdx]; rfl)⟩
end Go.Proofs.Ythgfbnopbfiifaa
