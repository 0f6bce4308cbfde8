/- What becomes of the table while a client leaves, in plain data. Conditions: none. -/
import Derived.Test.YthgfbnopbfiifaaKey10
namespace Go.Proofs.Ythgfbnopbfiifaa
open Go Go.MapKept Go.RowKit Go.Proofs Go.Sort

/-- The pages of S are still as they were. -/
def mixT (T : TabM) (S : List Int) (c : Int) (all : Bool) : TabM := T.map fun q => (q.1, if q.1 ∈ S then q.2 else leftL c all q.2)
/-- What was touched, S apart. -/
def touT (T : TabM) (S : List Int) (c : Int) (all : Bool) : List Int := (T.filter fun q => !decide (q.1 ∈ S) && touchL c all q.2).map (·.1)
theorem mix_start (T : TabM) (c : Int) (all : Bool) {S : List Int} (h : ∀ q ∈ T, q.1 ∈ S) : mixT T S c all = T := by
  unfold mixT
  have : T.map (fun q => (q.1, if q.1 ∈ S then q.2 else leftL c all q.2)) = T.map id := by
    apply List.map_congr_left
    intro q hq
    rw [if_pos (h q hq)]; rfl
  rw [this, List.map_id]
theorem mix_end (T : TabM) (c : Int) (all : Bool) : mixT T [] c all = T.map fun q => (q.1, leftL c all q.2) := by
  unfold mixT
  simp
theorem tou_start (T : TabM) (c : Int) (all : Bool) {S : List Int} (h : ∀ q ∈ T, q.1 ∈ S) : touT T S c all = [] := by
  unfold touT
  rw [List.map_eq_nil_iff, List.filter_eq_nil_iff]
  intro q hq
  simp [h q hq]
theorem tou_end (T : TabM) (c : Int) (all : Bool) : touT T [] c all = (T.filter fun q => touchL c all q.2).map (·.1) := by
  unfold touT
  simp
theorem mix_get {T : TabM} {S : List Int} {c p : Int} {all : Bool} (hp : p ∈ S) : getL p (mixT T S c all) = getL p T := by
  induction T with
  | nil => rfl
  | cons q r ih =>
    unfold mixT at ih ⊢
    by_cases e : q.1 = p
    · simp [getL, e, hp]
    · simp only [List.map_cons, getL, e, if_false]
      exact ih
theorem mix_keys (T : TabM) (S : List Int) (c : Int) (all : Bool) : (mixT T S c all).map (·.1) = T.map (·.1) := by
  unfold mixT
  rw [List.map_map]; rfl
theorem mix_put {S S' : List Int} {c p : Int} {all : Bool} (hS : ∀ x, x ∈ S ↔ x = p ∨ x ∈ S') (hn : p ∉ S') : ∀ {T : TabM} {l : LkM}, (T.map (·.1)).Nodup → getL p T = some l → putL p (leftL c all l) (mixT T S c all) = mixT T S' c all
  | q :: r, l, hnd, hg => by
    rw [List.map_cons, List.nodup_cons] at hnd
    by_cases e : q.1 = p
    · simp only [getL, e, if_true, Option.some.injEq] at hg
      subst hg
      unfold mixT
      simp only [List.map_cons, putL, e, if_true, hn, if_false]
      congr 1
      apply List.map_congr_left
      intro x hx
      have hxp : x.1 ≠ p := fun h => hnd.1 (by rw [e, ← h]; exact List.mem_map.2 ⟨x, hx, rfl⟩)
      have : (x.1 ∈ S) ↔ (x.1 ∈ S') := by rw [hS]; simp [hxp]
      simp only [this]
    · simp only [getL, e, if_false] at hg
      have ih := mix_put (c := c) (all := all) hS hn hnd.2 hg
      unfold mixT at ih ⊢
      simp only [List.map_cons, putL, e, if_false, ih]
      congr 2
      have : (q.1 ∈ S) ↔ (q.1 ∈ S') := by rw [hS]; simp [e]
      simp only [this]
theorem tou_cons (q : Int × LkM) (r : TabM) (S : List Int) (c : Int) (all : Bool) : touT (q :: r) S c all = (if (!decide (q.1 ∈ S) && touchL c all q.2) = true then [q.1] else []) ++ touT r S c all := by
  unfold touT
  rw [List.filter_cons]
  cases h : (!decide (q.1 ∈ S) && touchL c all q.2) <;> rfl
theorem tou_step {S S' : List Int} {c p : Int} {all : Bool} (hS : ∀ x, x ∈ S ↔ x = p ∨ x ∈ S') (hn : p ∉ S') : ∀ {T : TabM} {l : LkM}, (T.map (·.1)).Nodup → getL p T = some l → (touT T S' c all).Perm (touT T S c all ++ if touchL c all l then [p] else [])
  | q :: r, l, hnd, hg => by
    rw [List.map_cons, List.nodup_cons] at hnd
    by_cases e : q.1 = p
    · simp only [getL, e, if_true, Option.some.injEq] at hg
      subst hg
      have hp : q.1 ∈ S := by rw [e]; exact (hS p).2 (.inl rfl)
      have hq : ¬ q.1 ∈ S' := by rw [e]; exact hn
      have hr : touT r S' c all = touT r S c all := by
        unfold touT
        congr 1
        apply List.filter_congr
        intro x hx
        have hxp : x.1 ≠ p := fun h => hnd.1 (by rw [e, ← h]; exact List.mem_map.2 ⟨x, hx, rfl⟩)
        have : (x.1 ∈ S) ↔ (x.1 ∈ S') := by rw [hS]; simp [hxp]
        simp only [this]
      have h1 : touT (q :: r) S c all = touT r S c all := by rw [tou_cons]; simp [hp]
      have h2 : touT (q :: r) S' c all = (if touchL c all q.2 then [p] else []) ++ touT r S' c all := by rw [tou_cons]; simp [e, hn]
      rw [h1, h2, hr]
      exact List.perm_append_comm
    · simp only [getL, e, if_false] at hg
      have ih := tou_step (c := c) (all := all) hS hn hnd.2 hg
      have : (q.1 ∈ S) ↔ (q.1 ∈ S') := by rw [hS]; simp [e]
      rw [tou_cons, tou_cons]
      simp only [this]
      rw [List.append_assoc]
      exact ih.append_left _
theorem leftL_fit {l : LkM} (h : Fit8 l) (c : Int) (all : Bool) : Fit8 (leftL c all l) := by
  obtain ⟨f1, f2, f3, f4⟩ := h
  unfold leftL
  cases all
  · exact ⟨f1, f2, fun r hr => f3 r (List.mem_filter.1 hr).1, (List.filter_sublist.map _).nodup f4⟩
  · exact ⟨fun q hq => f1 q (mem_delL hq), nodup_delL _ f2, fun r hr => f3 r (List.mem_filter.1 hr).1, (List.filter_sublist.map _).nodup f4⟩
/-- What a settling leaves. -/
theorem settle_fit (p : Int) : ∀ (q : List Rq) (h : Hds) (ws : List Wd), Fit8 ⟨h, q⟩ → Fit8 (settleM p q h ws).1 ∧ (settleM p q h ws).2.length ≤ ws.length + q.length + 16
  | [], h, ws, hf => by
    unfold settleM
    exact ⟨hf, by simp⟩
  | r :: q, h, ws, hf => by
    unfold settleM
    split
    · obtain ⟨f1, f2, f3, f4⟩ := hf
      have hr := f3 r (.head _)
      have hf' : Fit8 ⟨putL r.c ⟨r.x || hasX h r.c, false, 0⟩ h, q⟩ := by
        refine Fit8.put (l := ⟨h, q⟩) ⟨f1, f2, fun x hx => f3 x (.tail _ hx), ?_⟩ _ hr.1 hr.2
        simp only [List.map_cons, List.nodup_cons] at f4
        exact f4.2
      obtain ⟨a, b⟩ := settle_fit p q _ (ws ++ [⟨false, r.c, p, r.x || hasX h r.c⟩]) hf'
      exact ⟨a, by simp only [List.length_append, List.length_cons, List.length_nil] at b ⊢; omega⟩
    · have hcall : ∀ (cs : List Int) (s : Hds × List Wd), Fit8 ⟨s.1, r :: q⟩ → Fit8 ⟨(callM p r.x cs s).1, r :: q⟩ ∧ (callM p r.x cs s).2.length ≤ s.2.length + cs.length := by
        intro cs
        induction cs with
        | nil => intro s hs; exact ⟨hs, by simp [callM]⟩
        | cons c cs ih =>
          intro s hs
          have h1 : Fit8 ⟨(callStep p r.x s c).1, r :: q⟩ ∧ (callStep p r.x s c).2.length ≤ s.2.length + 1 := by
            unfold callStep
            cases e : getL c s.1 with
            | none => exact ⟨hs, by simp⟩
            | some d =>
              simp only
              split
              · have := hs.1 (c, d) (getL_mem e)
                exact ⟨Fit8.put (l := ⟨s.1, r :: q⟩) hs _ this.1 this.2, by simp⟩
              · exact ⟨hs, by simp⟩
          obtain ⟨a, b⟩ := ih _ h1.1
          exact ⟨a, by
            have e : callM p r.x (c :: cs) s = callM p r.x cs (callStep p r.x s c) := rfl
            rw [e]
            simp only [List.length_cons]
            omega⟩
      obtain ⟨a, b⟩ := hcall (wayM h r) (h, ws) hf
      refine ⟨a, ?_⟩
      have hwl : (wayM h r).length ≤ h.length := by
        unfold wayM
        have h1 := List.length_filter_le (fun c => !decide (c = r.c) && (r.x || hasX h c)) (sortK (h.map (·.1)))
        rw [(sortK_perm _).length_eq, List.length_map] at h1
        exact h1
      have hl := hf.lens.1
      simp only [List.length_cons] at b ⊢
      have hl : h.length ≤ 8 := hl
      omega
end Go.Proofs.Ythgfbnopbfiifaa
