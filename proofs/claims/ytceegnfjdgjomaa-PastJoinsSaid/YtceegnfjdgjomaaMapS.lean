/- Maps whose keys are structs: entries read as pairs; looked up, updated. Conditions: none. -/
import Derived.Test.YtceegnfjdgjomaaPa4
namespace Go.Proofs.Ytceegnfjdgjomaa
open Go Go.MapKept Go.RowKit Go.Proofs Go.Sort

section
variable {K V : Type} [DecidableEq K]
/-- What the model's steps over a map's keys come to. -/
structure KeyRuns (P : Program) (kt : TypeId) (ke : K → Value) : Prop where
  check : ∀ (e : Bool) (k : K) (w : World), (Instr.checkKey e 10000 kt (ke k)).run P w = .ok () w
  same : ∀ (a b : K) (w : World), (Op.equal kt (ke a) (ke b)).run P w = .ok (decide (a = b)) w
  slow : ∀ (k : K) (d : TypeDesc), P.underlying kt = some d → ∀ x, Instr.sameNow d (ke k) x = none
  stays : ∀ (k : K) (w : World), (Instr.keyThatStays (ke k) (ke k)).run P w = .ok (ke k) w
  inj : ∀ a b, ke a = ke b → a = b
/-- The entries read as this list of pairs. -/
structure MapOkS (ke : K → Value) (ve : V → Value) (es : Array MapEntry) (clock : Nat) (D : List (K × V)) : Prop where
  reads : es.toList.map (fun e => (e.key, e.val)) = D.map (fun p => (ke p.1, ve p.2))
  stamped : Stamped es clock
variable {P : Program} {t kt et : TypeId} {d : TypeDesc} {ke : K → Value} {ve : V → Value} {es : Array MapEntry} {clock : Nat} {D : List (K × V)} {w : World} {b : Nat}
omit [DecidableEq K] in
theorem MapOkS.keys (h : MapOkS ke ve es clock D) : es.toList.map (·.key) = D.map (fun p => ke p.1) := by
  have := congrArg (List.map Prod.fst) h.reads
  simpa [Function.comp_def] using this
omit [DecidableEq K] in
theorem MapOkS.size (h : MapOkS ke ve es clock D) : es.size = D.length := by
  have := congrArg List.length h.reads
  simpa using this
omit [DecidableEq K] in
theorem MapOkS.nodup (h : MapOkS ke ve es clock D) : (D.map (·.1)).Nodup := by
  have h3 := h.stamped.2.2
  rw [h.keys] at h3
  have : D.map (fun p => ke p.1) = (D.map (·.1)).map ke := by simp [Function.comp_def]
  rw [this] at h3
  rw [List.Nodup, List.pairwise_map] at h3
  exact h3.imp (fun hne e => hne (by rw [e]))
theorem findAsking_getL (hk : KeyRuns P kt ke) (k : K) : ∀ (l : List MapEntry) (D : List (K × V)) (i : Nat), l.map (fun e => (e.key, e.val)) = D.map (fun p => (ke p.1, ve p.2)) →
    (Instr.findAsking kt (ke k) l i).run P w = .ok ((getL k D).map fun v => (i + posL k D, ve v)) w
  | [], [], _, _ => by simp [Instr.findAsking, getL]
  | [], _ :: _, _, h => by simp at h
  | _ :: _, [], _, h => by simp at h
  | e :: l, p :: D, i, h => by
    simp only [List.map_cons, List.cons.injEq, Prod.mk.injEq] at h
    obtain ⟨⟨h1, h2⟩, h3⟩ := h
    have hr := hk.same k p.1 w
    by_cases hkp : p.1 = k
    · subst hkp
      simp [Instr.findAsking, h1, hr, h2, getL, posL, Result.andThen]
    · have hkp' : ¬ k = p.1 := fun e => hkp e.symm
      have ih := findAsking_getL hk k l D (i + 1) h3
      simp only [getL, hkp, if_false, posL]
      simp [Instr.findAsking, h1, hr, hkp', ih, Result.andThen]
      cases getL k D <;> simp
      omega
theorem run_findKeyS (hk : KeyRuns P kt ke) (hd : P.underlying kt = some d) (h : MapOkS ke ve es clock D) (k : K) :
    (Instr.findKey kt (ke k) es.toList).run P w = .ok ((getL k D).map fun v => (posL k D, ve v)) w := by
  have ha := findAsking_getL (w := w) hk k es.toList D 0 h.reads
  simp only [Nat.zero_add] at ha
  cases hl : es.toList with
  | nil =>
    have hr := h.reads
    rw [hl] at hr
    cases D with
    | nil => simp [Instr.findKey, run_underlying hd, Result.andThen, Instr.findNow, getL]
    | cons p D => simp at hr
  | cons e l =>
    rw [hl] at ha
    simp [Instr.findKey, run_underlying hd, Result.andThen, Instr.findNow, hk.slow k d hd, ha]
theorem lookS (ht : P.underlying t = some (.map kt et)) (hk : KeyRuns P kt ke) (hd : P.underlying kt = some d) {z : Value} (hz : (zeroValue et).run P w = .ok z w)
    (hb : w.heap[b]? = some (.map es clock)) (h : MapOkS ke ve es clock D) (k : K) :
    (Instr.lookup t (.map (some b)) (ke k) false).run P w = .ok (((getL k D).map ve).getD z) w := by
  have hf := run_findKeyS (w := w) hk hd h k
  cases hg : getL k D with
  | none =>
    rw [hg] at hf
    simp [Instr.lookup, run_underlying ht, MapKept.run_getObj_map hb, hk.check, hf, Result.andThen, hz]
  | some v =>
    rw [hg] at hf
    simp [Instr.lookup, run_underlying ht, MapKept.run_getObj_map hb, hk.check, hf, Result.andThen]
theorem updS (ht : P.underlying t = some (.map kt et)) (hk : KeyRuns P kt ke) (hd : P.underlying kt = some d)
    (hb : w.heap[b]? = some (.map es clock)) (h : MapOkS ke ve es clock D) (k : K) (v : V) :
    ∃ es' clock', (Instr.mapUpdate t (.map (some b)) (ke k) (ve v)).run P w = .ok () (ChangeMaps.setBlock w b (.map es' clock')) ∧ MapOkS ke ve es' clock' (putL k v D) := by
  have hf := run_findKeyS (w := w) hk hd h k
  cases hg : getL k D with
  | none =>
    rw [hg] at hf
    have hne : ∀ x ∈ es.toList, x.key ≠ ke k := by
      intro x hx e
      have : x.key ∈ es.toList.map (·.key) := List.mem_map.2 ⟨x, hx, rfl⟩
      rw [h.keys] at this
      obtain ⟨p, hp, e2⟩ := List.mem_map.1 this
      have := hk.inj _ _ (e2.trans e)
      exact getL_none.1 hg (List.mem_map.2 ⟨p, hp, this⟩)
    refine ⟨es.push ⟨ke k, ve v, clock⟩, clock + 1, ?_, ⟨?_, stamped_push h.stamped hne⟩⟩
    · simp [Instr.mapUpdate, run_underlying ht, MapKept.run_getObj_map hb, hk.check, hf, MapKept.run_setObj_map _ hb, Result.andThen, ChangeMaps.setBlock]
    · rw [putL_push k v D hg]
      simp [h.reads]
  | some u =>
    rw [hg] at hf
    have hp := pos_lt hg
    have hlen := h.size
    have hj : posL k D < es.size := by rw [hlen]; exact hp.1
    have hkey : (es[posL k D]).key = ke k := by
      have := congrArg (fun l => l[posL k D]?) h.keys
      simp only [List.getElem?_map, Array.getElem?_toList, hp.2, Option.map_some] at this
      rw [Array.getElem?_eq_getElem hj] at this
      simpa using this
    refine ⟨es.modify (posL k D) (fun e' => { e' with key := ke k, val := ve v }), clock, ?_, ⟨?_, stamped_modify h.stamped _ _ (fun _ _ => rfl) (fun e' _ he' => ?_)⟩⟩
    · simp only [Option.map_some] at hf
      simp [Instr.mapUpdate, run_underlying ht, MapKept.run_getObj_map hb, hk.check, hf, hj, hkey, hk.stays, MapKept.run_setObj_map _ hb, Result.andThen, ChangeMaps.setBlock]
    · rw [putL_set k v u D hg, List.map_set, ← h.reads]
      apply List.ext_getElem?
      intro j
      simp only [List.getElem?_map, Array.getElem?_toList, Array.getElem?_modify, List.getElem?_set, List.length_map, Array.length_toList]
      by_cases e : posL k D = j
      · subst e
        simp [hj]
      · simp [e]
    · rw [Array.getElem?_eq_getElem hj] at he'
      cases he'
      exact hkey.symm
theorem sat_updS {F : Heaplet} (ht : P.underlying t = some (.map kt et)) (hk : KeyRuns P kt ke) (hd : P.underlying kt = some d) (h : MapOkS ke ve es clock D) (s : Sat w (.blk b (.map es clock) :: F)) (k : K) (v : V) :
    ∃ w' es' clock', (Instr.mapUpdate t (.map (some b)) (ke k) (ve v)).run P w = .ok () w' ∧ MapOkS ke ve es' clock' (putL k v D) ∧ Sat w' (.blk b (.map es' clock') :: F) := by
  obtain ⟨es', clock', h1, h2⟩ := updS ht hk hd s.h0 h k v
  exact ⟨_, es', clock', h1, h2, s.setBlock _⟩
omit [DecidableEq K] in
theorem mapOkS_new : MapOkS ke ve #[] 0 ([] : List (K × V)) := ⟨rfl, stamped_empty 0⟩
end
set_option maxRecDepth 100000 in
theorem keys_tx : KeyRuns (K := Tx) Try.prog 23 tV where
  check e k w := by
    obtain ⟨a1, a2, a3⟩ := k
    cases e <;> rfl
  same a b w := by
    obtain ⟨a1, a2, a3⟩ := a
    obtain ⟨b1, b2, b3⟩ := b
    show (Op.equalIn (9999 + 1) 23 (tV ⟨a1, a2, a3⟩) (tV ⟨b1, b2, b3⟩)).run Try.prog w = _
    simp [go_sem]
    repeat' split
    all_goals
      simp_all
  slow k d hd x := by
    cases x <;> cases d <;> rfl
  stays k w := by
    obtain ⟨a1, a2, a3⟩ := k
    have h : Instr.sameBits (9999 + 1) (tV ⟨a1, a2, a3⟩) (tV ⟨a1, a2, a3⟩) = true := by simp [Instr.sameBits]
    have h : Instr.sameBits 10000 (tV ⟨a1, a2, a3⟩) (tV ⟨a1, a2, a3⟩) = true := h
    simp [Instr.keyThatStays, h]
  inj a b h := by
    obtain ⟨a1, a2, a3⟩ := a
    obtain ⟨b1, b2, b3⟩ := b
    cases h
    rfl
end Go.Proofs.Ytceegnfjdgjomaa
