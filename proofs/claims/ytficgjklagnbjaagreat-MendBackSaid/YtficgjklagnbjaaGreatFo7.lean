/- Texts put together: Me4, MapS, Pa5, Pa6, Pa7, Sub. Conditions: none. -/
import Derived.Test.YtficgjklagnbjaaGreatFo1
import Derived.Test.YtficgjklagnbjaaGreatFo2
import Derived.Test.YtficgjklagnbjaaGreatFo3
import Derived.Test.YtficgjklagnbjaaGreatFo5
namespace Go.Proofs.YtficgjklagnbjaaGreat
open Go Go.MapKept Go.RowKit Go.Proofs

theorem trimU_cases : ∀ (L : List Sl), ∃ Z, L = trimU L ++ Z ∧ ∀ s ∈ Z, s.1 = false := by
  suffices h : ∀ R : List Sl, ∃ Z, R.reverse = trimU R.reverse ++ Z ∧ ∀ s ∈ Z, s.1 = false by
    intro L; have := h L.reverse; rwa [List.reverse_reverse] at this
  intro R
  induction R with
  | nil => exact ⟨[], rfl, by simp⟩
  | cons s R ih =>
    obtain ⟨Z, e, hz⟩ := ih
    rw [List.reverse_cons]
    cases hs : s.1 with
    | true => exact ⟨[], by rw [trimU_keep _ hs, List.append_nil], by simp⟩
    | false =>
      refine ⟨Z ++ [s], ?_, ?_⟩
      · rw [trimU_drop _ hs, ← List.append_assoc, ← e]
      · intro x hx
        rcases List.mem_append.1 hx with h | h
        · exact hz x h
        · rw [List.mem_singleton.1 h]; exact hs
theorem trimU_len (L : List Sl) : (trimU L).length ≤ L.length := by
  obtain ⟨Z, e, _⟩ := trimU_cases L
  have := congrArg List.length e
  rw [List.length_append] at this
  omega
theorem trimU_mem {L : List Sl} {s : Sl} (h : s ∈ trimU L) : s ∈ L := by
  obtain ⟨Z, e, _⟩ := trimU_cases L
  rw [e]; exact List.mem_append_left _ h
theorem trimU_last (L : List Sl) : lastU (trimU L) = true := by
  suffices h : ∀ R : List Sl, lastU (trimU R.reverse) = true by
    have := h L.reverse; rwa [List.reverse_reverse] at this
  intro R
  induction R with
  | nil => rfl
  | cons s R ih =>
    rw [List.reverse_cons]
    cases hs : s.1 with
    | true =>
      rw [trimU_keep _ hs]
      unfold lastU
      rw [List.getLast?_append]
      simp [hs]
    | false => rw [trimU_drop _ hs]; exact ih
/-- A slot of a list, an empty one behind its end. -/
def slotOf (L : List Sl) (k : Nat) : Sl := (L[k]?).getD noSl
theorem trimU_slot (L : List Sl) (h : ∀ s ∈ L, oddS s = false) (k : Nat) : slotOf (trimU L) k = slotOf L k := by
  obtain ⟨Z, e, hz⟩ := trimU_cases L
  unfold slotOf
  conv => rhs; rw [e]
  by_cases hk : k < (trimU L).length
  · rw [List.getElem?_append_left hk]
  · rw [List.getElem?_append_right (by omega), List.getElem?_eq_none (by omega)]
    cases hq : Z[k - (trimU L).length]? with
    | none => rfl
    | some s =>
      have hm : s ∈ Z := List.mem_of_getElem? hq
      have h1 := hz s hm
      have h2 := (odd_no (h s (by rw [e]; exact List.mem_append_right _ hm))).1 h1
      obtain ⟨u, d⟩ := s
      simp only at h1 h2
      subst h1
      show noSl = (false, d)
      unfold noSl
      congr 1
      apply ba_ext
      rw [ba_size] at h2
      exact (List.eq_nil_of_length_eq_zero h2).symm
theorem widen_len (L : List Sl) (n : Nat) : (widen L n).length = max L.length n := by
  unfold widen
  rw [List.length_append, List.length_replicate]; omega
theorem widen_mem {L : List Sl} {n : Nat} {s : Sl} (h : s ∈ widen L n) : s ∈ L ∨ s = noSl := by
  unfold widen at h
  rcases List.mem_append.1 h with h | h
  · exact .inl h
  · exact .inr (List.eq_of_mem_replicate h)
theorem widen_slot (L : List Sl) (n k : Nat) : slotOf (widen L n) k = slotOf L k := by
  unfold slotOf widen
  by_cases hk : k < L.length
  · rw [List.getElem?_append_left hk]
  · rw [List.getElem?_append_right (by omega), List.getElem?_eq_none (l := L) (by omega), List.getElem?_replicate]
    split <;> rfl
theorem set_slot (L : List Sl) (j k : Nat) (x : Sl) (hj : j < L.length) : slotOf (L.set j x) k = if k = j then x else slotOf L k := by
  unfold slotOf
  rw [List.getElem?_set]
  by_cases h : j = k
  · subst h; simp [hj]
  · rw [if_neg h, if_neg (fun e => h e.symm)]
theorem noSl_odd : oddS noSl = false := by decide
/-- What Put leaves, when it can. -/
theorem putM_ok {p : Pg} {k : Int} {x : Sl} (h : (putM p k x).2 = 0) : goodP p = true ∧ 0 ≤ k ∧ k < 32 ∧ oddS x = false ∧ szL (putM p k x).1.slots ≤ 240 ∧
    putM p k x = (⟨p.lsn, trimU ((widen p.slots (k.toNat + 1)).set k.toNat x)⟩, 0) := by
  unfold putM at h ⊢
  split at h
  · exact absurd h (by decide)
  · rename_i h1
    simp only [Bool.or_eq_true, Bool.not_eq_true', decide_eq_true_eq, not_or, Bool.and_eq_true, Bool.not_eq_false, decide_eq_false_iff_not] at h1
    obtain ⟨⟨⟨h1, h2⟩, h3⟩, h4⟩ := h1
    split at h
    · exact absurd h (by decide)
    · rename_i h5
      split at h
      · exact absurd h (by decide)
      · rename_i h6
        rw [if_neg (by simp only [Bool.or_eq_true, Bool.not_eq_true', decide_eq_true_eq, not_or, Bool.and_eq_true, Bool.not_eq_false, decide_eq_false_iff_not]; exact ⟨⟨⟨h1, h2⟩, h3⟩, h4⟩), if_neg h5, if_neg h6]
        refine ⟨h1, by omega, by omega, ?_, by simp only; omega, rfl⟩
        unfold oddS
        simp only [Bool.or_eq_false_iff, Bool.and_eq_false_imp, Bool.not_eq_true', decide_eq_false_iff_not]
        refine ⟨fun e => ?_, by omega⟩
        have := h4
        by_cases hz : x.2.size = 0
        · simp [hz]
        · exact absurd ⟨e, hz⟩ this
theorem put_good {p : Pg} {k : Int} {x : Sl} (h : (putM p k x).2 = 0) {n : Int} (h0 : 0 ≤ n) (h1 : n ≤ 1099511627776) : goodP ⟨n, (putM p k x).1.slots⟩ = true := by
  obtain ⟨hg, k0, k1, ho, hs, e⟩ := putM_ok h
  have hp := goodP_iff.1 hg
  rw [goodP_iff]
  refine ⟨h0, h1, ?_, ?_, ?_, hs⟩
  · rw [e]
    refine Nat.le_trans (trimU_len _) ?_
    rw [List.length_set, widen_len]
    have := hp.2.2.1
    omega
  · rw [e]
    intro s hs
    have := trimU_mem hs
    rcases List.mem_or_eq_of_mem_set this with h | rfl
    · rcases widen_mem h with h | rfl
      · exact hp.2.2.2.1 s h
      · exact noSl_odd
    · exact ho
  · rw [e]; exact trimU_last _
theorem put_slot {p : Pg} {k : Int} {x : Sl} (h : (putM p k x).2 = 0) (j : Nat) : slotOf (putM p k x).1.slots j = if (j : Int) = k then x else slotOf p.slots j := by
  obtain ⟨hg, k0, k1, ho, hs, e⟩ := putM_ok h
  have hp := goodP_iff.1 hg
  rw [e]
  simp only
  rw [trimU_slot, set_slot _ _ _ _ (by rw [widen_len]; omega), widen_slot]
  · by_cases hj : (j : Int) = k
    · rw [if_pos hj, if_pos (by omega)]
    · rw [if_neg hj, if_neg (by omega)]
  · intro s hs
    rcases List.mem_or_eq_of_mem_set hs with h | rfl
    · rcases widen_mem h with h | rfl
      · exact hp.2.2.2.1 s h
      · exact noSl_odd
    · exact ho
theorem atM_slot {p : Pg} (h : goodP p = true) (k : Nat) : atM p k = slotOf p.slots k := by
  unfold atM slotOf
  rw [if_pos ⟨h, by omega⟩]; rfl
theorem goodM_lsn {x : En} (h : goodM x = true) : 1 ≤ x.lsn ∧ x.lsn ≤ 1099511627776 := by
  unfold goodM headM withinM at h
  simp only [Bool.and_eq_true, decide_eq_true_eq] at h
  omega
/-- What Redo leaves, when it can. -/
theorem redoM_ok {p : Pg} {x : En} (h : (redoM p x).2.2 = 0) : goodP p = true ∧ goodM x = true ∧ chgM x = true ∧ goodP (redoM p x).1 = true ∧
    ((x.lsn ≤ p.lsn ∧ redoM p x = (p, false, 0)) ∨ (p.lsn < x.lsn ∧ atM p x.slot = x.was ∧ (putM p x.slot x.is).2 = 0 ∧ redoM p x = (⟨x.lsn, (putM p x.slot x.is).1.slots⟩, true, 0))) := by
  unfold redoM at h ⊢
  split at h
  · exact absurd h (by decide)
  · rename_i h1
    simp only [Bool.or_eq_true, Bool.not_eq_true', not_or, Bool.not_eq_false] at h1
    obtain ⟨⟨h1, h2⟩, h3⟩ := h1
    rw [if_neg (by simp [h1, h2, h3])]
    split at h
    · rename_i h4
      rw [if_pos h4]
      exact ⟨h1, h2, h3, h1, .inl ⟨h4, rfl⟩⟩
    · rename_i h4
      split at h
      · exact absurd h (by decide)
      · rename_i h5
        split at h
        · rename_i h6
          exact absurd h h6
        · rename_i h6
          rw [if_neg h4, if_neg h5, if_neg h6]
          have hl := goodM_lsn h2
          have h6' : (putM p x.slot x.is).2 = 0 := Decidable.not_not.1 h6
          exact ⟨h1, h2, h3, put_good h6' (by omega) (by omega), .inr ⟨by omega, Decidable.not_not.1 h5, h6', rfl⟩⟩
theorem good_bd {p : Pg} (h : goodP p = true) : p.slots.length ≤ 1000 ∧ (∀ x ∈ p.slots, x.2.size ≤ 1000000) ∧ -9223372036854775808 ≤ p.lsn ∧ p.lsn ≤ 9223372036854775807 := by
  have hp := goodP_iff.1 h
  refine ⟨by omega, fun x hx => ?_, by omega, by omega⟩
  have := (odd_no (hp.2.2.2.1 x hx)).2
  omega
end Go.Proofs.YtficgjklagnbjaaGreat
namespace Go.Proofs.YtficgjklagnbjaaGreat
open Go Go.MapKept Go.RowKit Go.Proofs Go.Sort

section
variable {K V : Type} [DecidableEq K]
/-- What the model's steps over a map's keys come to. -/
structure KeyRuns (P : Program) (kt : TypeId) (ke : K → Value) : Prop where
  check : ∀ (e : Bool) (k : K) (w : World), (Instr.checkKey e 10000 kt (ke k)).run P w = .ok () w
  same : ∀ (a b : K) (w : World), (Op.equal kt (ke a) (ke b)).run P w = .ok (decide (a = b)) w
  slow : ∀ (k : K) (d : TypeDesc), P.underlying kt = some d → ∀ x, Instr.sameNow d (ke k) x = none
  stays : ∀ (k : K) (w : World), (Instr.keyThatStays (ke k) (ke k)).run P w = .ok (ke k) w
  inj : ∀ a b, ke a = ke b → a = b
/-- The entries read as this list of pairs. -/
structure MapOkS (ke : K → Value) (ve : V → Value) (es : Array MapEntry) (clock : Nat) (D : List (K × V)) : Prop where
  reads : es.toList.map (fun e => (e.key, e.val)) = D.map (fun p => (ke p.1, ve p.2))
  stamped : Stamped es clock
variable {P : Program} {t kt et : TypeId} {d : TypeDesc} {ke : K → Value} {ve : V → Value} {es : Array MapEntry} {clock : Nat} {D : List (K × V)} {w : World} {b : Nat}
omit [DecidableEq K] in
theorem MapOkS.keys (h : MapOkS ke ve es clock D) : es.toList.map (·.key) = D.map (fun p => ke p.1) := by
  have := congrArg (List.map Prod.fst) h.reads
  simpa [Function.comp_def] using this
omit [DecidableEq K] in
theorem MapOkS.size (h : MapOkS ke ve es clock D) : es.size = D.length := by
  have := congrArg List.length h.reads
  simpa using this
omit [DecidableEq K] in
theorem MapOkS.nodup (h : MapOkS ke ve es clock D) : (D.map (·.1)).Nodup := by
  have h3 := h.stamped.2.2
  rw [h.keys] at h3
  have : D.map (fun p => ke p.1) = (D.map (·.1)).map ke := by simp [Function.comp_def]
  rw [this] at h3
  rw [List.Nodup, List.pairwise_map] at h3
  exact h3.imp (fun hne e => hne (by rw [e]))
theorem findAsking_getL (hk : KeyRuns P kt ke) (k : K) : ∀ (l : List MapEntry) (D : List (K × V)) (i : Nat), l.map (fun e => (e.key, e.val)) = D.map (fun p => (ke p.1, ve p.2)) →
    (Instr.findAsking kt (ke k) l i).run P w = .ok ((getL k D).map fun v => (i + posL k D, ve v)) w
  | [], [], _, _ => by simp [Instr.findAsking, getL]
  | [], _ :: _, _, h => by simp at h
  | _ :: _, [], _, h => by simp at h
  | e :: l, p :: D, i, h => by
    simp only [List.map_cons, List.cons.injEq, Prod.mk.injEq] at h
    obtain ⟨⟨h1, h2⟩, h3⟩ := h
    have hr := hk.same k p.1 w
    by_cases hkp : p.1 = k
    · subst hkp
      simp [Instr.findAsking, h1, hr, h2, getL, posL, Result.andThen]
    · have hkp' : ¬ k = p.1 := fun e => hkp e.symm
      have ih := findAsking_getL hk k l D (i + 1) h3
      simp only [getL, hkp, if_false, posL]
      simp [Instr.findAsking, h1, hr, hkp', ih, Result.andThen]
      cases getL k D <;> simp
      omega
theorem run_findKeyS (hk : KeyRuns P kt ke) (hd : P.underlying kt = some d) (h : MapOkS ke ve es clock D) (k : K) :
    (Instr.findKey kt (ke k) es.toList).run P w = .ok ((getL k D).map fun v => (posL k D, ve v)) w := by
  have ha := findAsking_getL (w := w) hk k es.toList D 0 h.reads
  simp only [Nat.zero_add] at ha
  cases hl : es.toList with
  | nil =>
    have hr := h.reads
    rw [hl] at hr
    cases D with
    | nil => simp [Instr.findKey, run_underlying hd, Result.andThen, Instr.findNow, getL]
    | cons p D => simp at hr
  | cons e l =>
    rw [hl] at ha
    simp [Instr.findKey, run_underlying hd, Result.andThen, Instr.findNow, hk.slow k d hd, ha]
theorem lookS (ht : P.underlying t = some (.map kt et)) (hk : KeyRuns P kt ke) (hd : P.underlying kt = some d) {z : Value} (hz : (zeroValue et).run P w = .ok z w)
    (hb : w.heap[b]? = some (.map es clock)) (h : MapOkS ke ve es clock D) (k : K) :
    (Instr.lookup t (.map (some b)) (ke k) false).run P w = .ok (((getL k D).map ve).getD z) w := by
  have hf := run_findKeyS (w := w) hk hd h k
  cases hg : getL k D with
  | none =>
    rw [hg] at hf
    simp [Instr.lookup, run_underlying ht, MapKept.run_getObj_map hb, hk.check, hf, Result.andThen, hz]
  | some v =>
    rw [hg] at hf
    simp [Instr.lookup, run_underlying ht, MapKept.run_getObj_map hb, hk.check, hf, Result.andThen]
theorem updS (ht : P.underlying t = some (.map kt et)) (hk : KeyRuns P kt ke) (hd : P.underlying kt = some d)
    (hb : w.heap[b]? = some (.map es clock)) (h : MapOkS ke ve es clock D) (k : K) (v : V) :
    ∃ es' clock', (Instr.mapUpdate t (.map (some b)) (ke k) (ve v)).run P w = .ok () (ChangeMaps.setBlock w b (.map es' clock')) ∧ MapOkS ke ve es' clock' (putL k v D) := by
  have hf := run_findKeyS (w := w) hk hd h k
  cases hg : getL k D with
  | none =>
    rw [hg] at hf
    have hne : ∀ x ∈ es.toList, x.key ≠ ke k := by
      intro x hx e
      have : x.key ∈ es.toList.map (·.key) := List.mem_map.2 ⟨x, hx, rfl⟩
      rw [h.keys] at this
      obtain ⟨p, hp, e2⟩ := List.mem_map.1 this
      have := hk.inj _ _ (e2.trans e)
      exact getL_none.1 hg (List.mem_map.2 ⟨p, hp, this⟩)
    refine ⟨es.push ⟨ke k, ve v, clock⟩, clock + 1, ?_, ⟨?_, stamped_push h.stamped hne⟩⟩
    · simp [Instr.mapUpdate, run_underlying ht, MapKept.run_getObj_map hb, hk.check, hf, MapKept.run_setObj_map _ hb, Result.andThen, ChangeMaps.setBlock]
    · rw [putL_push k v D hg]
      simp [h.reads]
  | some u =>
    rw [hg] at hf
    have hp := pos_lt hg
    have hlen := h.size
    have hj : posL k D < es.size := by rw [hlen]; exact hp.1
    have hkey : (es[posL k D]).key = ke k := by
      have := congrArg (fun l => l[posL k D]?) h.keys
      simp only [List.getElem?_map, Array.getElem?_toList, hp.2, Option.map_some] at this
      rw [Array.getElem?_eq_getElem hj] at this
      simpa using this
    refine ⟨es.modify (posL k D) (fun e' => { e' with key := ke k, val := ve v }), clock, ?_, ⟨?_, stamped_modify h.stamped _ _ (fun _ _ => rfl) (fun e' _ he' => ?_)⟩⟩
    · simp only [Option.map_some] at hf
      simp [Instr.mapUpdate, run_underlying ht, MapKept.run_getObj_map hb, hk.check, hf, hj, hkey, hk.stays, MapKept.run_setObj_map _ hb, Result.andThen, ChangeMaps.setBlock]
    · rw [putL_set k v u D hg, List.map_set, ← h.reads]
      apply List.ext_getElem?
      intro j
      simp only [List.getElem?_map, Array.getElem?_toList, Array.getElem?_modify, List.getElem?_set, List.length_map, Array.length_toList]
      by_cases e : posL k D = j
      · subst e
        simp [hj]
      · simp [e]
    · rw [Array.getElem?_eq_getElem hj] at he'
      cases he'
      exact hkey.symm
theorem sat_updS {F : Heaplet} (ht : P.underlying t = some (.map kt et)) (hk : KeyRuns P kt ke) (hd : P.underlying kt = some d) (h : MapOkS ke ve es clock D) (s : Sat w (.blk b (.map es clock) :: F)) (k : K) (v : V) :
    ∃ w' es' clock', (Instr.mapUpdate t (.map (some b)) (ke k) (ve v)).run P w = .ok () w' ∧ MapOkS ke ve es' clock' (putL k v D) ∧ Sat w' (.blk b (.map es' clock') :: F) := by
  obtain ⟨es', clock', h1, h2⟩ := updS ht hk hd s.h0 h k v
  exact ⟨_, es', clock', h1, h2, s.setBlock _⟩
omit [DecidableEq K] in
theorem mapOkS_new : MapOkS ke ve #[] 0 ([] : List (K × V)) := ⟨rfl, stamped_empty 0⟩
end
set_option maxRecDepth 100000 in
theorem keys_tx : KeyRuns (K := Tx) Tryz.prog 56 tV where
  check e k w := by
    obtain ⟨a1, a2, a3⟩ := k
    cases e <;> rfl
  same a b w := by
    obtain ⟨a1, a2, a3⟩ := a
    obtain ⟨b1, b2, b3⟩ := b
    show (Op.equalIn (9999 + 1) 56 (tV ⟨a1, a2, a3⟩) (tV ⟨b1, b2, b3⟩)).run Tryz.prog w = _
    simp [go_sem]
    repeat' split
    all_goals
      simp_all
  slow k d hd x := by
    cases x <;> cases d <;> rfl
  stays k w := by
    obtain ⟨a1, a2, a3⟩ := k
    have h : Instr.sameBits (9999 + 1) (tV ⟨a1, a2, a3⟩) (tV ⟨a1, a2, a3⟩) = true := by simp [Instr.sameBits]
    have h : Instr.sameBits 10000 (tV ⟨a1, a2, a3⟩) (tV ⟨a1, a2, a3⟩) = true := h
    simp [Instr.keyThatStays, h]
  inj a b h := by
    obtain ⟨a1, a2, a3⟩ := a
    obtain ⟨b1, b2, b3⟩ := b
    cases h
    rfl
end Go.Proofs.YtficgjklagnbjaaGreat
namespace Go.Proofs.YtficgjklagnbjaaGreat
open Go Go.MapKept Go.RowKit Go.Proofs Go.Sort

/-- An entry's cells from o on. -/
def EnO (w : World) (g o : Nat) (x : En) : Prop :=
  w.cell? ⟨g, o, none⟩ = some (kI x.kind) ∧ w.cell? ⟨g, o + 1, none⟩ = some (kI x.t.c) ∧ w.cell? ⟨g, o + 2, none⟩ = some (kI x.t.e) ∧ w.cell? ⟨g, o + 3, none⟩ = some (kI x.t.n) ∧ w.cell? ⟨g, o + 4, none⟩ = some (kI x.lsn) ∧ w.cell? ⟨g, o + 5, none⟩ = some (kI x.prev) ∧
  w.cell? ⟨g, o + 6, none⟩ = some (kI x.page) ∧ w.cell? ⟨g, o + 7, none⟩ = some (kI x.slot) ∧ w.cell? ⟨g, o + 8, none⟩ = some (.bool x.wu) ∧ w.cell? ⟨g, o + 9, none⟩ = some (kS x.wd) ∧ w.cell? ⟨g, o + 10, none⟩ = some (.bool x.iu) ∧ w.cell? ⟨g, o + 11, none⟩ = some (kS x.idt) ∧ w.cell? ⟨g, o + 12, none⟩ = some (kI x.next)
/-- Where F holds, v is the slice of these entries. -/
def EnsIn (F : Heaplet) (v : Value) (l : List En) : Prop :=
  ∃ a cap, v = .slice a l.length cap ∧ ∀ w, Sat w F → ∀ i q, l[i]? = some q → ∃ g off, a = some ⟨g, off, none⟩ ∧ EnO w g (off + i * 13) q
abbrev EnSl (v : Value) (l : List En) (h : Heaplet) : Prop := SliceIs 58 13 v l.length (l.flatMap eC) h
theorem eC_len (q : En) : (eC q).length = 13 := rfl
theorem ens_in {v : Value} {l : List En} {h : Heaplet} (hv : EnSl v l h) (F : Heaplet) : EnsIn (h ++ F) v l := by
  obtain ⟨a, cap, rfl⟩ := sl_form hv
  refine ⟨a, cap, rfl, fun w hs i q hq => ?_⟩
  obtain ⟨a', cap', e, hc⟩ := sl_cells eC_len hv hs
  cases e
  obtain ⟨g, ea, _, hu⟩ := hc i q hq
  refine ⟨g, 0, ea, ?_⟩
  rw [Nat.zero_add]
  exact ⟨hu 0 _ rfl, hu 1 _ rfl, hu 2 _ rfl, hu 3 _ rfl, hu 4 _ rfl, hu 5 _ rfl, hu 6 _ rfl, hu 7 _ rfl, hu 8 _ rfl, hu 9 _ rfl, hu 10 _ rfl, hu 11 _ rfl, hu 12 _ rfl⟩
theorem EnsIn.mono {F F' : Heaplet} {v : Value} {l : List En} (h : EnsIn F v l) (hs : ∀ w, Sat w F' → Sat w F) : EnsIn F' v l := by
  obtain ⟨a, cap, e, hc⟩ := h
  exact ⟨a, cap, e, fun w hw => hc w (hs w hw)⟩
theorem EnsIn.right {F : Heaplet} {v : Value} {l : List En} (h : EnsIn F v l) (A : Heaplet) : EnsIn (A ++ F) v l := h.mono (fun _ hw => hw.right)
theorem EnsIn.cons {F : Heaplet} {v : Value} {l : List En} (h : EnsIn F v l) (A : HItem) : EnsIn (A :: F) v l := h.mono (fun _ hw => hw.tail)
/-- The numbers fit. -/
def FitL (l : List En) : Prop := ∀ x ∈ l, -9223372036854775808 ≤ x.lsn ∧ x.lsn ≤ 9223372036854775807
theorem FitL.get {l : List En} (h : FitL l) {i : Nat} {x : En} (hx : l[i]? = some x) : -9223372036854775808 ≤ x.lsn ∧ x.lsn ≤ 9223372036854775807 := h x (List.mem_of_getElem? hx)
/-- Whether a transaction is at its end. -/
def endM (l : List En) (t : Tx) : Bool := l.any fun x => goodM x && isEndM x && decide (x.t = t)
abbrev vB (b : Bool) : Value := .bool b
def EndMap (b : Nat) (l : List En) (F : Heaplet) (w : World) : Prop := ∃ es clk D, MapOkS tV vB es clk D ∧ (∀ k, (getL k D).getD false = endM l k) ∧ Sat w (.blk b (.map es clk) :: F)
section
variable {b : Nat} {l : List En} {F : Heaplet} {w : World}
theorem und_mtb : Tryz.prog.underlying 116 = some (.map 56 4) := by kernel_rfl
theorem und_tx : ∃ d, Tryz.prog.underlying 56 = some d := by
  refine Option.isSome_iff_exists.1 ?_
  kernel_rfl
theorem EndMap.frame (h : EndMap b l F w) : Sat w F := by
  obtain ⟨es, clk, D, _, _, s⟩ := h
  exact s.tail
theorem EndMap.grown {w' : World} (h : EndMap b l F w) (k : Grown w w') : EndMap b l F w' := by
  obtain ⟨es, clk, D, h1, h2, s⟩ := h
  exact ⟨es, clk, D, h1, h2, s.grown k⟩
theorem EndMap.look (h : EndMap b l F w) (t : Tx) : (Instr.lookup 116 (.map (some b)) (tV t) false).run Tryz.prog w = .ok (.bool (endM l t)) w := by
  obtain ⟨es, clk, D, h1, h2, s⟩ := h
  obtain ⟨d, hd⟩ := und_tx
  rw [lookS und_mtb keys_tx hd (z := .bool false) (by simp [go_sem]) s.h0 h1 t, ← h2 t]
  cases getL t D <;> rfl
theorem EndMap.skip (h : EndMap b l F w) {x : En} (hx : (goodM x && isEndM x) = false) : EndMap b (l ++ [x]) F w := by
  obtain ⟨es, clk, D, h1, h2, s⟩ := h
  refine ⟨es, clk, D, h1, fun k => ?_, s⟩
  rw [h2 k]
  simp [endM, hx]
theorem EndMap.step (h : EndMap b l F w) {x : En} (hx : (goodM x && isEndM x) = true) : ∃ w', (Instr.mapUpdate 116 (.map (some b)) (tV x.t) (.bool true)).run Tryz.prog w = .ok () w' ∧ EndMap b (l ++ [x]) F w' := by
  obtain ⟨es, clk, D, h1, h2, s⟩ := h
  obtain ⟨d, hd⟩ := und_tx
  obtain ⟨w', es', clk', hr, h1', s'⟩ := sat_updS und_mtb keys_tx hd h1 s x.t true
  refine ⟨w', hr, es', clk', _, h1', fun k => ?_, s'⟩
  rw [getL_putL]
  unfold endM
  rw [List.any_append]
  have := h2 k
  unfold endM at this
  by_cases e : k = x.t
  · subst e
    simp [hx]
  · have e2 : ¬ x.t = k := fun q => e q.symm
    simp [e, e2, this]
end
end Go.Proofs.YtficgjklagnbjaaGreat
namespace Go.Proofs.YtficgjklagnbjaaGreat
open Go Go.MapKept Go.RowKit Go.Proofs Go.Sort

set_option maxRecDepth 100000 in
set_option maxHeartbeats 4000000 in
theorem ended_any (v : Value) (l : List En) (F : Heaplet) (w : World) (hs : Sat w F) (hE : EnsIn F v l) (hl : l.length ≤ 100000) (hf : FitL l) :
    Calls Tryz.prog 52 #[v] w fun e w' => ∃ b, e = .returned (.map (some b)) ∧ EndMap b l F w' := by
  obtain ⟨a, cap, rfl, hc⟩ := hE
  have HC := Lib.hid hc
  have HFit := Lib.hid hf
  have hmm := @run_makeMap Tryz.prog
  have hg0 : EndMap w.heap.size [] F (w.alloc (.map #[] 0)) := ⟨#[], 0, [], mapOkS_new, (fun k => rfl), hs.new (.map #[] 0)⟩
  have HG0 := Lib.hid hg0
  clear hc hs hg0 hf
  go_enter Tryz.func52, Tryz.ntmps52
  go_wp2_with fail
  generalize w.heap.size = m at *
  go_loopw [9] (fun v9 wr => ∃ r : Nat, r ≤ l.length ∧ v9 = .int .i64 r ∧ EndMap m (l.take r) F wr) (fun v9 _ => 100000 - (RowKit.intOf v9).toNat)
  case atStart => exact ⟨0, by omega, rfl, HG0.out⟩
  case round =>
    clear HG0
    obtain ⟨r, hr, rfl, hg⟩ := hrel
    have r0 : (0 : Int) ≤ (r : Int) := by omega
    by_cases hlr : r < l.length
    · have r1 : (r : Int) < (l.length : Int) := by omega
      obtain ⟨x, hx⟩ : ∃ x, l[r]? = some x := ⟨_, List.getElem?_eq_getElem hlr⟩
      obtain ⟨g, off, rfl, e0, e1, e2, e3, e4, e5, e6, e7, e8, e9, e10, e11, e12⟩ := HC.out wr hg.frame r x hx
      have htk : l.take (r + 1) = l.take r ++ [x] := by rw [List.take_add_one, hx]; rfl
      have HTK := Lib.hid htk
      have hfit := HFit.out.get hx
      have HX := Lib.hid hfit
      have HG := Lib.hid (hg.grown (Grown.alloc wr (eO x)))
      have HN := Lib.hid (enAt_new wr x)
      clear hx htk hg hfit
      go_upto_region 5 with (fail)
      generalize wr.alloc (eO x) = W1 at *
      generalize wr.heap.size = g1 at *
      have hN := HN.out
      clear e0 e1 e2 e3 e4 e5 e6 e7 e8 e9 e10 e11 e12
      obtain ⟨n0, n1, n2, n3, n4, n5, n6, n7, n8, n9, n10, n11, n12⟩ := hN
      go_wp2_with fail
      refine (good_any x _ HX.out.1 HX.out.2).mono ?_
      rintro e w3 ⟨rfl, hg3⟩
      have HG3 := Lib.hid (HG.out.grown hg3)
      have HN3 := Lib.hid (HN.out.grown hg3)
      clear hg3 n0 n1 n2 n3 n4 n5 n6 n7 n8 n9 n10 n11 n12
      clear HN HG
      cases hgd : goodM x with
      | false =>
        have hsk := HG3.out.skip (x := x) (by rw [hgd]; rfl)
        rw [← HTK.out] at hsk
        have FIN := Lib.hid hsk
        clear hsk
        go_wp2_with fail
        exact ⟨⟨r + 1, by omega, by simp, FIN.out⟩, by simp only [RowKit.intOf]; omega⟩
      | true =>
        obtain ⟨n0, n1, n2, n3, n4, n5, n6, n7, n8, n9, n10, n11, n12⟩ := HN3.out
        go_wp2_with fail
        refine (isEnd_any x _).mono ?_
        rintro e w4 ⟨rfl, hg4⟩
        have HG4 := Lib.hid (HG3.out.grown hg4)
        have HN4 := Lib.hid (HN3.out.grown hg4)
        clear hg4 n0 n1 n2 n3 n4 n5 n6 n7 n8 n9 n10 n11 n12
        cases hed : isEndM x with
        | false =>
          have hsk := HG4.out.skip (x := x) (by rw [hgd, hed]; rfl)
          rw [← HTK.out] at hsk
          have FIN := Lib.hid hsk
          clear hsk
          go_wp2_with fail
          exact ⟨⟨r + 1, by omega, by simp, FIN.out⟩, by simp only [RowKit.intOf]; omega⟩
        | true =>
          obtain ⟨w5, hu, hst⟩ := HG4.out.step (x := x) (by rw [hgd, hed]; rfl)
          rw [← HTK.out] at hst
          have FIN := Lib.hid hst
          obtain ⟨_, n1, n2, n3, _⟩ := HN4.out
          clear hst
          go_wp2_with fail
          exact ⟨⟨r + 1, by omega, by simp, FIN.out⟩, by simp only [RowKit.intOf]; omega⟩
    · obtain rfl : r = l.length := by omega
      rw [List.take_length] at hg
      have Fin := Lib.hid hg
      clear hg hlr
      go_wp2_with fail
      go_ret
      exact ⟨m, rfl, Fin.out⟩
end Go.Proofs.YtficgjklagnbjaaGreat
namespace Go.Proofs.YtficgjklagnbjaaGreat
open Go Go.MapKept Go.RowKit Go.Proofs Go.Sort

/-- A transaction's entries. -/
def ofM (l : List En) (t : Tx) : List En := l.filter fun x => decide (x.t = t) && goodM x
theorem ofM_step (l : List En) (t : Tx) (x : En) : ofM (l ++ [x]) t = ofM l t ++ (if (decide (x.t = t) && goodM x) = true then [x] else []) := by
  unfold ofM
  rw [List.filter_append]
  congr 1
  by_cases h : (decide (x.t = t) && goodM x) = true
  · simp [h]
  · simp [h]
theorem ofM_len (l : List En) (t : Tx) : (ofM l t).length ≤ l.length := List.length_filter_le _ _
theorem one_e (q : En) : ∀ u ∈ eC q, u.oneCell' = true := by
  intro u hu
  simp only [List.mem_cons, List.not_mem_nil, or_false] at hu
  rcases hu with rfl | rfl | rfl | rfl | rfl | rfl | rfl | rfl | rfl | rfl | rfl | rfl | rfl <;> rfl
theorem infoEn : (Tryz.prog.info? 58).map (fun i => (i.zero, i.size, i.bytes)) = some (some (.agg #[kI 0, kI 0, kI 0, kI 0, kI 0, kI 0, kI 0, kI 0, .bool false, .string ⟨#[]⟩, .bool false, .string ⟨#[]⟩, kI 0]), 13, 120) := by kernel_rfl
theorem en_push {R : List En} {v : Value} {h A B : Heaplet} {w : World} {x : Nat} (q : En) (hv : EnSl v R h) (s : Sat w (.blk x (eO q) :: (A ++ (h ++ B)))) (hlen : R.length + 1 ≤ 200000) :
    ∃ v' w' h', (∀ ty, (Builtin.append_ #[29, 29] ty #[v, .slice (some ⟨x, 0, none⟩) 1 1]).run Tryz.prog w = .ok v' w') ∧ EnSl v' (R ++ [q]) h' ∧ Sat w' (A ++ (h' ++ B)) := by
  obtain ⟨i0, hi, hz, hsize, hby⟩ := info_parts infoEn
  exact sl_push (P := Tryz.prog) eC_len Tryz.underlying29 hi hz hsize hby rfl (by decide) hv q s (one_e q) (by unfold maxLen; omega) (by omega)
set_option maxRecDepth 100000 in
set_option maxHeartbeats 4000000 in
theorem Of_any (v : Value) (l : List En) (t : Tx) (F : Heaplet) (w : World) (hs : Sat w F) (hE : EnsIn F v l) (hl : l.length ≤ 100000) (hf : FitL l) :
    Calls Tryz.prog 36 #[v, tV t] w fun e w' => ∃ v' h, e = .returned v' ∧ EnSl v' (ofM l t) h ∧ Sat w' (h ++ F) := by
  obtain ⟨a, cap, rfl, hc⟩ := hE
  have HC := Lib.hid hc
  have HFit := Lib.hid hf
  have hs1 : Sat (w.alloc (.cells #[kI t.c, kI t.e, kI t.n] 56)) ([] ++ (.blk w.heap.size (.cells #[kI t.c, kI t.e, kI t.n] 56) :: F)) := hs.new _
  have hn1 : EnSl (.slice none 0 0) (ofM [] t) [] := SliceIs.nil _ _
  have H0 := Lib.hid (And.intro hn1 hs1)
  have HEQ := Lib.hid eq_tx
  clear hc hs hs1 hf hn1
  go_enter Tryz.func36, Tryz.ntmps36
  go_wp2_with fail
  generalize w.alloc (.cells #[kI t.c, kI t.e, kI t.n] 56) = W0 at *
  generalize w.heap.size = m at *
  go_loopw [5, 10] (fun v5 v10 wr => ∃ (r : Nat) (h : Heaplet), r ≤ l.length ∧ v10 = .int .i64 r ∧ EnSl v5 (ofM (l.take r) t) h ∧ Sat wr (h ++ (.blk m (.cells #[kI t.c, kI t.e, kI t.n] 56) :: F))) (fun _ v10 _ => 200000 - (RowKit.intOf v10).toNat)
  case atStart => exact ⟨0, _, by omega, rfl, H0.out.1, H0.out.2⟩
  case round =>
    clear H0
    obtain ⟨r, h, hr, rfl, hv, hg⟩ := hrel
    have r0 : (0 : Int) ≤ (r : Int) := by omega
    by_cases hlr : r < l.length
    · have r1 : (r : Int) < (l.length : Int) := by omega
      obtain ⟨x, hx⟩ : ∃ x, l[r]? = some x := ⟨_, List.getElem?_eq_getElem hlr⟩
      obtain ⟨g, off, rfl, e0, e1, e2, e3, e4, e5, e6, e7, e8, e9, e10, e11, e12⟩ := HC.out wr hg.right.tail r x hx
      have htk : l.take (r + 1) = l.take r ++ [x] := by rw [List.take_add_one, hx]; rfl
      have hst := ofM_step (l.take r) t x
      rw [← htk] at hst
      have HST := Lib.hid hst
      have hfit := HFit.out.get hx
      have HX := Lib.hid hfit
      have HG := Lib.hid (hg.new (eO x))
      have HN := Lib.hid (enAt_new wr x)
      have HV := Lib.hid hv
      have hlen : (ofM (l.take r) t).length + 1 ≤ 200000 := by
        have := ofM_len (l.take r) t
        rw [List.length_take] at this
        omega
      have HLEN := Lib.hid hlen
      clear hx htk hg hfit hst hv hlen
      go_upto_region 5 with (fail)
      generalize wr.alloc (eO x) = W1 at *
      generalize wr.heap.size = g1 at *
      clear e0 e1 e2 e3 e4 e5 e6 e7 e8 e9 e10 e11 e12
      have hN := HN.out
      obtain ⟨n0, n1, n2, n3, n4, n5, n6, n7, n8, n9, n10, n11, n12⟩ := hN
      have m0 : W1.cell? ⟨m, 0, none⟩ = some (kI t.c) := by rw [cell_of HG.out.tail.right.h0]; rfl
      have m1 : W1.cell? ⟨m, 1, none⟩ = some (kI t.e) := by rw [cell_of HG.out.tail.right.h0]; rfl
      have m2 : W1.cell? ⟨m, 2, none⟩ = some (kI t.n) := by rw [cell_of HG.out.tail.right.h0]; rfl
      have heq := HEQ.out x.t t
      have hgd : ∀ W, (eqGuard .eql 56 (.tmp 15) (.tmp 16) (tV x.t) (tV t)).run Tryz.prog W = .ok () W := fun W => by first | rfl | (simp [go_sem, eqGuard])
      cases hbt : decide (x.t = t) with
      | false =>
        rw [hbt] at heq
        have hst := HST.out
        rw [hbt, Bool.false_and, if_neg (by simp), List.append_nil] at hst
        have FIN : Hid (EnSl u5 (ofM (l.take (r + 1)) t) h ∧ Sat W1 (h ++ (.blk m (.cells #[kI t.c, kI t.e, kI t.n] 56) :: F))) := Lib.hid ⟨by rw [hst]; exact HV.out, HG.out.tail⟩
        clear hst
        go_wp2_with fail
        exact ⟨⟨r + 1, h, by omega, by simp, FIN.out.1, FIN.out.2⟩, by simp only [RowKit.intOf]; omega⟩
      | true =>
        rw [hbt] at heq
        go_wp2_with fail
        refine (good_any x _ HX.out.1 HX.out.2).mono ?_
        rintro e w3 ⟨rfl, hg3⟩
        have HG3 := Lib.hid (HG.out.grown hg3)
        have HN3 := Lib.hid (HN.out.grown hg3)
        clear hg3 n0 n1 n2 n3 n4 n5 n6 n7 n8 n9 n10 n11 n12 m0 m1 m2
        clear HN HG
        cases hgo : goodM x with
        | false =>
          have hst := HST.out
          rw [hbt, hgo, Bool.and_false, if_neg (by simp), List.append_nil] at hst
          have FIN : Hid (EnSl u5 (ofM (l.take (r + 1)) t) h ∧ Sat w3 (h ++ (.blk m (.cells #[kI t.c, kI t.e, kI t.n] 56) :: F))) := Lib.hid ⟨by rw [hst]; exact HV.out, HG3.out.tail⟩
          clear hst
          go_wp2_with fail
          exact ⟨⟨r + 1, h, by omega, by simp, FIN.out.1, FIN.out.2⟩, by simp only [RowKit.intOf]; omega⟩
        | true =>
          have hst := HST.out
          rw [hbt, hgo, Bool.and_true, if_pos rfl] at hst
          obtain ⟨v7, w7, h7, hap, hv7, hs7⟩ := en_push (A := []) x HV.out (HG3.out.tail.new (eO x)) HLEN.out
          rw [← hst] at hv7
          have FIN := Lib.hid (And.intro hv7 (show Sat w7 (h7 ++ _) from hs7))
          have HAP := Lib.hid hap
          have hN := HN3.out
          obtain ⟨n0, n1, n2, n3, n4, n5, n6, n7, n8, n9, n10, n11, n12⟩ := hN
          clear hst hap hv7 hs7
          go_wp2_with (at_builtin; refine wpList_append_run rfl _ _ _ _ rfl _ _ _ _ rfl rfl HAP.out ?_)
          exact ⟨⟨r + 1, h7, by omega, by simp, FIN.out.1, FIN.out.2⟩, by simp only [RowKit.intOf]; omega⟩
    · obtain rfl : r = l.length := by omega
      rw [List.take_length] at hv
      have Fin := Lib.hid (And.intro hv hg)
      clear hv hg hlr
      go_wp2_with fail
      go_ret
      refine ⟨u5, h, rfl, Fin.out.1, ?_⟩
      exact (Fin.out.2.perm List.perm_middle).tail
end Go.Proofs.YtficgjklagnbjaaGreat
namespace Go.Proofs.YtficgjklagnbjaaGreat
open Go

/-- How often an item is there. -/
noncomputable def ind (a b : HItem) : Nat := open Classical in if a = b then 1 else 0
noncomputable def cnt (a : HItem) : Heaplet → Nat
  | [] => 0
  | b :: l => ind a b + cnt a l
theorem cnt_nil (a : HItem) : cnt a [] = 0 := rfl
theorem cnt_cons (a b : HItem) (l : Heaplet) : cnt a (b :: l) = ind a b + cnt a l := rfl
theorem cnt_append (a : HItem) : ∀ (l m : Heaplet), cnt a (l ++ m) = cnt a l + cnt a m
  | [], m => by simp [cnt]
  | b :: l, m => by
    have ih := cnt_append a l m
    rw [List.cons_append, cnt_cons, cnt_cons, ih]; omega
theorem cnt_mem {a : HItem} : ∀ {l : Heaplet}, 0 < cnt a l → ∃ m, l.Perm (a :: m) ∧ ∀ b, cnt b l = ind b a + cnt b m
  | [], h => by simp [cnt] at h
  | c :: l, h => by
    by_cases e : a = c
    · subst e; exact ⟨l, List.Perm.refl _, fun b => rfl⟩
    · have h1 : ind a c = 0 := by unfold ind; rw [if_neg e]
      rw [cnt_cons, h1] at h
      obtain ⟨m, p, hc⟩ := cnt_mem (a := a) (l := l) (by omega)
      exact ⟨c :: m, (p.cons c).trans (List.Perm.swap _ _ _), fun b => by rw [cnt_cons, cnt_cons, hc b]; omega⟩
theorem cnt_part : ∀ {k l : Heaplet}, (∀ a, cnt a k ≤ cnt a l) → ∃ r, l.Perm (k ++ r)
  | [], l, _ => ⟨l, List.Perm.refl _⟩
  | b :: k, l, h => by
    have h1 : ind b b = 1 := by unfold ind; rw [if_pos rfl]
    have h2 := h b
    rw [cnt_cons, h1] at h2
    obtain ⟨m, p, hc⟩ := cnt_mem (a := b) (l := l) (by omega)
    obtain ⟨r, q⟩ := cnt_part (k := k) (l := m) (fun a => by
      have := h a
      rw [cnt_cons, hc a] at this; omega)
    exact ⟨r, p.trans (q.cons b)⟩
theorem Sat.left' {w : World} {h k : Heaplet} (s : Sat w (h ++ k)) : Sat w h := Sat.right (h' := k) (s.perm List.perm_append_comm)
theorem Sat.part {w : World} {k l : Heaplet} (s : Sat w l) (h : ∀ a, cnt a k ≤ cnt a l) : Sat w k := by
  obtain ⟨r, p⟩ := cnt_part h
  exact (s.perm p).left'
end Go.Proofs.YtficgjklagnbjaaGreat
