/- A plate that loses power and the pages on it, in plain data. Conditions: none. -/
import Derived.Test.YtgocmnejlbfplaaDoorTw21
namespace Go.Proofs.YtgocmnejlbfplaaDoor
open Go Go.MapKept Go.RowKit Go.Proofs

abbrev Sc := List (Int × ByteArray)
theorem lastM_snoc (n : Int) (q : Sc) (x : Int × ByteArray) : lastM n (q ++ [x]) = if x.1 = n then some x.2 else lastM n q := by
  unfold lastM
  rw [List.reverse_append, List.reverse_singleton, List.singleton_append, List.find?_cons]
  by_cases h : x.1 = n
  · simp [h]
  · have h2 : (x.1 == n) = false := by simpa using h
    simp [h2, h]
theorem lastM_cons (n : Int) (q : Sc) (x : Int × ByteArray) : lastM n (x :: q) = match lastM n q with | some s => some s | none => if x.1 = n then some x.2 else none := by
  unfold lastM
  rw [List.reverse_cons, List.find?_append]
  cases hf : q.reverse.find? (fun x => x.1 == n) with
  | some y => rfl
  | none =>
    by_cases h : x.1 = n
    · simp [h]
    · have h2 : (x.1 == n) = false := by simpa using h
      simp [h2, h]
theorem getL_putAll (n : Int) : ∀ (q D : Sc), getL n (putAll D q) = match lastM n q with | some s => some s | none => getL n D
  | [], D => rfl
  | x :: q, D => by
    have ih := getL_putAll n q (putL x.1 x.2 D)
    have e : putAll D (x :: q) = putAll (putL x.1 x.2 D) q := rfl
    rw [e, ih, lastM_cons, getL_putL]
    cases lastM n q with
    | some s => rfl
    | none =>
      by_cases h : n = x.1
      · simp [h]
      · have h2 : ¬ x.1 = n := fun e => h e.symm
        simp [h, h2]
theorem lastM_not {n : Int} {q : Sc} (h : ∀ y ∈ q, y.1 ≠ n) : lastM n q = none := by
  unfold lastM
  have : q.reverse.find? (fun x => x.1 == n) = none := by
    rw [List.find?_eq_none]
    intro y hy
    simpa using h y (List.mem_reverse.1 hy)
  rw [this]; rfl
theorem lastM_mem {n : Int} {q : Sc} {s : ByteArray} (h : lastM n q = some s) : (n, s) ∈ q := by
  unfold lastM at h
  cases hf : q.reverse.find? (fun x => x.1 == n) with
  | none => rw [hf] at h; cases h
  | some y =>
    rw [hf] at h
    cases h
    have h1 := List.find?_some hf
    have h2 := List.mem_reverse.1 (List.mem_of_find?_eq_some hf)
    have e : y.1 = n := by simpa using h1
    rw [← e]; exact h2
theorem lastM_key {n : Int} {q : Sc} (h : ∃ y ∈ q, y.1 = n) : ∃ s, lastM n q = some s := by
  cases hl : lastM n q with
  | some s => exact ⟨s, rfl⟩
  | none =>
    obtain ⟨y, hy, e⟩ := h
    unfold lastM at hl
    rw [Option.map_eq_none_iff, List.find?_eq_none] at hl
    exact absurd (by simpa using e) (hl y (List.mem_reverse.2 hy))
/-- What a sector reads as, nothing waiting. -/
def holdD (D : Sc) (x : Int) : ByteArray × Int := match getL x D with
  | none => (zeros256, 0)
  | some s => if s.size = 0 then (⟨#[]⟩, 20) else (s, 0)
theorem readM_q {M : PM} {n : Int} (hd : M.down = false) (h0 : 0 ≤ n) (hn : n < M.count) : readM M n = match lastM n M.queue with
    | some s => (s, 0)
    | none => holdD M.secs n := by
  unfold readM
  rw [readyM_up hd h0 hn, if_neg (by simp)]
  rfl
/-- An act is done, or it ends the power. -/
theorem actM_cases {M : PM} (hd : M.down = false) (ha : 0 ≤ M.armed) :
    ((actM M).1 = 0 ∧ (actM M).2.down = false ∧ 0 ≤ (actM M).2.armed ∧ (M.armed = 0 → (actM M).2.armed = 0) ∧ (actM M).2.life = M.life) ∨ (M.armed ≠ 0 ∧ (actM M).1 = 10 ∧ (actM M).2.down = true ∧ (actM M).2.armed = 0) := by
  unfold actM
  by_cases h : 0 < M.armed
  · rw [if_pos h]
    by_cases h1 : M.armed = 1
    · rw [if_pos h1]
      exact .inr ⟨by omega, rfl, by simp [offM, hd], by simp [offM, hd]⟩
    · rw [if_neg h1]
      exact .inl ⟨rfl, hd, by simp only; omega, fun e => by omega, rfl⟩
  · rw [if_neg h]
    exact .inl ⟨rfl, hd, ha, fun e => e, rfl⟩
/-- So many sectors are laid and synced, or the power goes. -/
theorem layQ_any : ∀ (ws : Sc) (M : PM), M.down = false → 0 ≤ M.armed → (∀ x ∈ ws, 0 ≤ x.1 ∧ x.1 < M.count ∧ x.2.size = 256) →
    ((layQ M ws).2.count = M.count) ∧ (((layQ M ws).1 = 0 ∧ (layQ M ws).2.down = false ∧ 0 ≤ (layQ M ws).2.armed ∧ (layQ M ws).2.queue = [] ∧ (layQ M ws).2.secs = putAll M.secs (M.queue ++ ws) ∧ (layQ M ws).2.life = M.life) ∨
    ((layQ M ws).1 = 10 ∧ (layQ M ws).2.down = true ∧ (layQ M ws).2.armed = 0 ∧ (layQ M ws).2.secs = M.secs ∧ ∀ y ∈ (layQ M ws).2.queue, y ∈ M.queue ∨ y ∈ ws))
  | [], M, hd, ha, _ => by
    obtain ⟨q1, q2, q3⟩ := act_queue M
    have e : layQ M [] = if (actM M).1 ≠ 0 then actM M else (0, { (actM M).2 with secs := putAll M.secs M.queue, queue := [] }) := by
      show syncM M = _
      unfold syncM
      rw [hd]; simp
    rcases actM_cases hd ha with ⟨h1, h2, h3, _, h4⟩ | ⟨_, h1, h2, h3⟩
    · rw [e, if_neg (by omega)]
      exact ⟨q3, .inl ⟨rfl, h2, h3, rfl, by simp, h4⟩⟩
    · rw [e, if_pos (by omega)]
      exact ⟨q3, .inr ⟨h1, h2, h3, q2, fun y hy => .inl (by rw [q1] at hy; exact hy)⟩⟩
  | x :: t, M, hd, ha, hx => by
    obtain ⟨x0, x1, x2⟩ := hx x (.head _)
    have e1 : writeM M x.1 x.2 = actM (pushM M x.1 x.2) := by
      unfold writeM
      rw [readyM_up hd x0 x1, if_neg (by simp), if_neg (by omega)]
    have e : layQ M (x :: t) = if (actM (pushM M x.1 x.2)).1 ≠ 0 then actM (pushM M x.1 x.2) else layQ (actM (pushM M x.1 x.2)).2 t := by
      show (if _ then _ else _ : Int × PM) = _
      rw [e1]
    obtain ⟨q1, q2, q3⟩ := act_queue (pushM M x.1 x.2)
    rcases actM_cases (M := pushM M x.1 x.2) hd ha with ⟨h1, h2, h3, _, h4⟩ | ⟨_, h1, h2, h3⟩
    · rw [e, if_neg (by omega)]
      obtain ⟨i0, ih⟩ := layQ_any t (actM (pushM M x.1 x.2)).2 h2 h3 (fun y hy => by rw [q3]; exact hx y (.tail _ hy))
      refine ⟨i0.trans q3, ?_⟩
      rcases ih with ⟨i1, i2, i3, i4, i5, i6⟩ | ⟨i1, i2, i3, i4, i5⟩
      · refine .inl ⟨i1, i2, i3, i4, ?_, i6.trans h4⟩
        rw [i5, q1, q2]
        simp [pushM]
      · refine .inr ⟨i1, i2, i3, i4.trans q2, fun y hy => ?_⟩
        rcases i5 y hy with h | h
        · rw [q1] at h
          rcases List.mem_append.1 (show y ∈ M.queue ++ [(x.1, x.2)] from h) with h | h
          · exact .inl h
          · exact .inr (by rw [List.mem_singleton] at h; rw [h]; exact .head _)
        · exact .inr (.tail _ h)
    · rw [e, if_pos (by omega)]
      refine ⟨q3, .inr ⟨h1, h2, h3, q2, fun y hy => ?_⟩⟩
      rw [q1] at hy
      rcases List.mem_append.1 (show y ∈ M.queue ++ [(x.1, x.2)] from hy) with h | h
      · exact .inl h
      · exact .inr (by rw [List.mem_singleton] at h; rw [h]; exact .head _)
/-- Power comes back: each sector is as it was, or one of the waiting writes, or torn. -/
theorem fateTo_at (f : Nat → Int) (q D : Sc) (x : Int) : ∀ k, getL x (fateTo f q D k) = getL x D ∨ ∃ v, (x, v) ∈ q ∧ (getL x (fateTo f q D k) = some v ∨ getL x (fateTo f q D k) = some ⟨#[]⟩) := by
  intro k
  induction k with
  | zero => exact .inl rfl
  | succ k ih =>
    show getL x (match q[k]? with | some y => stepF (f k) y (fateTo f q D k) | none => fateTo f q D k) = _ ∨ ∃ v, _ ∧ (getL x (match q[k]? with | some y => stepF (f k) y (fateTo f q D k) | none => fateTo f q D k) = _ ∨ getL x (match q[k]? with | some y => stepF (f k) y (fateTo f q D k) | none => fateTo f q D k) = _)
    cases hq : q[k]? with
    | none => exact ih
    | some y =>
      simp only
      have hm := List.mem_of_getElem? hq
      unfold stepF
      by_cases h1 : f k = 1
      · rw [if_pos h1, getL_putL]
        by_cases hx : x = y.1
        · rw [if_pos hx]
          exact .inr ⟨y.2, by rw [hx]; exact hm, .inl rfl⟩
        · rw [if_neg hx]; exact ih
      · rw [if_neg h1]
        by_cases h2 : f k = 2
        · rw [if_pos h2, getL_putL]
          by_cases hx : x = y.1
          · rw [if_pos hx]
            exact .inr ⟨y.2, by rw [hx]; exact hm, .inr rfl⟩
          · rw [if_neg hx]; exact ih
        · rw [if_neg h2]; exact ih
theorem be4_inj {n m : Nat} (hn : n < 4294967296) (hm : m < 4294967296) (h : be4 n = be4 m) : n = m := by
  rw [← getB_be4 hn, ← getB_be4 hm, h]
/-- A page's sector is that page's alone. -/
theorem pageM_sec {n m : Nat} {p q : Pg} (hn : n < 4294967296) (hm : m < 4294967296) (hp : goodP p = true) (h : pageM n (secM m p) = some q) : n = m ∧ q = p := by
  obtain ⟨h1, h2⟩ := pageB_some h
  have h3 : secB n q = secB m p := h2
  have e1 : encB q = encB p := by
    have := congrArg (List.take 240) h3
    unfold secB at this
    rwa [List.take_left' (encB_len h1), List.take_left' (encB_len hp)] at this
  have e2 : be4 n = be4 m := by
    unfold secB at h3
    rw [e1] at h3
    have h4 := List.append_cancel_left (List.append_cancel_left h3)
    have := congrArg (List.take 4) h4
    rwa [List.take_left' (be4_len n), List.take_left' (be4_len m)] at this
  exact ⟨be4_inj hn hm e2, encB_inj h1 hp e1⟩
theorem pageM_own {n : Nat} {p : Pg} (hp : goodP p = true) : pageM n (secM n p) = some p := pageB_sec hp
/-- The best copy, nothing waiting. -/
def copD (D : Sc) (n k : Nat) : Option Pg := (List.range k).foldl (fun b (i : Nat) => copyStep n b (holdD D (i : Int))) none
theorem copD_succ (D : Sc) (n k : Nat) : copD D n (k + 1) = copyStep n (copD D n k) (holdD D (k : Int)) := by
  unfold copD
  rw [List.range_succ, List.foldl_append]
  rfl
theorem copiedN_hold {M : PM} {D : Sc} {n : Nat} : ∀ k, (∀ c, c < k → readM M ((c : Nat) : Int) = holdD D (c : Int)) → copiedN M 0 n k = copD D n k := by
  intro k
  induction k with
  | zero => intro _; rfl
  | succ k ih =>
    intro h
    rw [copiedN_succ, copD_succ, ih (fun c hc => h c (by omega)), Int.zero_add, h k (by omega)]
theorem copD_same {D D' : Sc} {n : Nat} : ∀ k, (∀ c, c < k → holdD D' ((c : Nat) : Int) = holdD D (c : Int)) → copD D' n k = copD D n k := by
  intro k
  induction k with
  | zero => intro _; rfl
  | succ k ih =>
    intro h
    rw [copD_succ, copD_succ, ih (fun c hc => h c (by omega)), h k (by omega)]
theorem copD_good {D : Sc} {n : Nat} {p : Pg} : ∀ {k : Nat}, copD D n k = some p → goodP p = true := by
  intro k
  induction k generalizing p with
  | zero => intro h; cases h
  | succ k ih =>
    intro h
    rw [copD_succ] at h
    unfold copyStep at h
    split at h
    · exact ih h
    · cases hp : pageM n (holdD D (k : Int)).1 with
      | none => rw [hp] at h; exact ih h
      | some q =>
        rw [hp] at h
        have h' : better (copD D n k) q = some p := h
        cases hc : copD D n k with
        | none =>
          rw [hc] at h'
          cases h'
          exact pageM_good hp
        | some r =>
          rw [hc] at h'
          have h2 : (if r.lsn < q.lsn then some q else some r) = some p := h'
          split at h2
          · cases h2; exact pageM_good hp
          · cases h2; exact ih hc
theorem cop_best {D : Sc} {n : Nat} {p : Pg} : ∀ k : Nat, (∀ (c : Nat) q, c < k → (holdD D (c : Int)).2 = 0 → pageM n (holdD D (c : Int)).1 = some q → q = p ∨ q.lsn < p.lsn) →
    ((∃ c : Nat, c < k ∧ (holdD D (c : Int)).2 = 0 ∧ pageM n (holdD D (c : Int)).1 = some p) → copD D n k = some p) ∧ (copD D n k = none ∨ copD D n k = some p ∨ ∃ q, copD D n k = some q ∧ q.lsn < p.lsn) := by
  intro k
  induction k with
  | zero => intro _; exact ⟨fun ⟨c, hc, _⟩ => absurd hc (by omega), .inl rfl⟩
  | succ k ih =>
    intro h
    obtain ⟨i1, i2⟩ := ih (fun c q hc => h c q (by omega))
    rw [copD_succ]
    unfold copyStep
    by_cases hr : (holdD D (k : Int)).2 = 0
    · rw [if_neg (by omega)]
      cases hp : pageM n (holdD D (k : Int)).1 with
      | none =>
        refine ⟨fun ⟨c, hc, h1, h2⟩ => i1 ⟨c, ?_, h1, h2⟩, i2⟩
        by_cases e : c = k
        · subst e; rw [hp] at h2; cases h2
        · omega
      | some q =>
        have hb : ∀ b, took b (some q) = better b q := fun b => rfl
        rw [hb]
        rcases h k q (by omega) hr hp with e | hlt
        · subst e
          have key : better (copD D n k) q = some q := by
            rcases i2 with e | e | ⟨x, e, hx⟩ <;> rw [e]
            · rfl
            · show (if _ then _ else _ : Option Pg) = _
              rw [if_neg (by omega)]
            · show (if _ then _ else _ : Option Pg) = _
              rw [if_pos hx]
          exact ⟨fun _ => key, .inr (.inl key)⟩
        · refine ⟨fun ⟨c, hc, h1, h2⟩ => ?_, ?_⟩
          · have hck : c < k := by
              by_cases e : c = k
              · subst e
                rw [hp] at h2
                cases h2
                omega
              · omega
            rw [i1 ⟨c, hck, h1, h2⟩]
            show (if _ then _ else _ : Option Pg) = _
            rw [if_neg (by omega)]
          · rcases i2 with e | e | ⟨x, e, hx⟩ <;> rw [e]
            · exact .inr (.inr ⟨q, rfl, hlt⟩)
            · refine .inr (.inl ?_)
              show (if _ then _ else _ : Option Pg) = _
              rw [if_neg (by omega)]
            · refine .inr (.inr ?_)
              by_cases h5 : x.lsn < q.lsn
              · exact ⟨q, by show (if _ then _ else _ : Option Pg) = _; rw [if_pos h5], hlt⟩
              · exact ⟨x, by show (if _ then _ else _ : Option Pg) = _; rw [if_neg h5], hx⟩
    · rw [if_pos hr]
      refine ⟨fun ⟨c, hc, h1, h2⟩ => i1 ⟨c, ?_, h1, h2⟩, i2⟩
      by_cases e : c = k
      · subst e; exact absurd h1 hr
      · omega
end Go.Proofs.YtgocmnejlbfplaaDoor
namespace Go.Proofs.YtgocmnejlbfplaaDoor
open Go Go.MapKept Go.RowKit Go.Proofs

/-- Page n stands at its home. -/
def HomeIs (D : Sc) (n : Nat) (p : Pg) : Prop := (holdD D (3 + (n : Int))).2 = 0 ∧ (pageM n (holdD D (3 + (n : Int))).1 = some p ∨ ((holdD D (3 + (n : Int))).1 = zeros256 ∧ p = emptyP))
/-- Its home is torn, its best copy is p. -/
def TornIs (D : Sc) (n : Nat) (p : Pg) : Prop := (holdD D (3 + (n : Int))).2 ≠ 0 ∧ copD D n 3 = some p
def RecD (D : Sc) (was now : Nat → Pg) : Prop := ∀ n : Nat, n < 5 → HomeIs D n (was n) ∨ HomeIs D n (now n) ∨ TornIs D n (now n)
/-- What waits: torn homes' pages. -/
def HomeQ (D : Sc) (now : Nat → Pg) (k : Nat) (q : Sc) : Prop := ∀ y ∈ q, ∃ n : Nat, n < k ∧ TornIs D n (now n) ∧ y = (3 + (n : Int), secM n (now n))
theorem HomeQ.mono {D : Sc} {now : Nat → Pg} {k k' : Nat} {q : Sc} (h : HomeQ D now k q) (hk : k ≤ k') : HomeQ D now k' q := fun y hy => by
  obtain ⟨n, hn, h1⟩ := h y hy
  exact ⟨n, by omega, h1⟩
theorem HomeQ.none {D : Sc} {now : Nat → Pg} {k : Nat} {q : Sc} (h : HomeQ D now k q) {x : Int} (hx : x < 3 ∨ 3 + (k : Int) ≤ x) : lastM x q = none := lastM_not (fun y hy e => by
  obtain ⟨n, hn, _, rfl⟩ := h y hy
  simp only at e
  omega)
theorem HomeIs.of_eq {D D' : Sc} {n : Nat} {p : Pg} (h : HomeIs D n p) (e : holdD D' (3 + (n : Int)) = holdD D (3 + (n : Int))) : HomeIs D' n p := by
  unfold HomeIs
  rw [e]; exact h
theorem holdD_sec {D : Sc} {x : Int} {s : ByteArray} (h : getL x D = some s) (hs : s.size = 256) : holdD D x = (s, 0) := by
  unfold holdD
  rw [h]
  simp only
  rw [if_neg (by omega)]
theorem holdD_torn {D : Sc} {x : Int} (h : getL x D = some ⟨#[]⟩) : holdD D x = (⟨#[]⟩, 20) := by
  unfold holdD
  rw [h]
  rfl
theorem holdD_eq {D D' : Sc} {x : Int} (h : getL x D' = getL x D) : holdD D' x = holdD D x := by
  unfold holdD
  rw [h]
theorem HomeIs.of_sec {D : Sc} {n : Nat} {p : Pg} (h : getL (3 + (n : Int)) D = some (secM n p)) (hp : goodP p = true) : HomeIs D n p := by
  unfold HomeIs
  rw [holdD_sec h (secM_size hp)]
  exact ⟨rfl, .inl (pageM_own hp)⟩
theorem loadP_home {S : TS} {M : PM} {n : Nat} {p : Pg} {D : Sc} (hf : S.frm = 0) (ht : S.twins = 3) (hr : readM M (3 + (n : Int)) = holdD D (3 + (n : Int))) (h : HomeIs D n p) : loadP S M n = (0, true, S.push p, M) := by
  unfold loadP
  rw [hf, ht, show (0 : Int) + 3 + (n : Int) = 3 + (n : Int) from by omega, hr, if_pos h.1]
  rcases h.2 with e | ⟨e1, e2⟩
  · rw [e]
  · rw [e1, pageM_zero, e2]
    simp only [zeroB_zero]
theorem loadP_torn {S : TS} {M : PM} {n : Nat} {p : Pg} {D : Sc} (hf : S.frm = 0) (ht : S.twins = 3) (hr : readM M (3 + (n : Int)) = holdD D (3 + (n : Int))) (hc : copiedN M 0 n 3 = copD D n 3) (h : TornIs D n p) (hd : M.down = false) (hn : 3 + (n : Int) < M.count) :
    loadP S M n = if (actM (pushM M (3 + (n : Int)) (secM n p))).1 ≠ 0 then ((actM (pushM M (3 + (n : Int)) (secM n p))).1, false, S, (actM (pushM M (3 + (n : Int)) (secM n p))).2) else (0, true, (S.die true).push p, (actM (pushM M (3 + (n : Int)) (secM n p))).2) := by
  unfold loadP
  have e1 : writeM M (3 + (n : Int)) (secM n p) = actM (pushM M (3 + (n : Int)) (secM n p)) := by
    unfold writeM
    rw [readyM_up hd (by omega) hn, if_neg (by simp), if_neg (by rw [secM_size (copD_good h.2)]; simp)]
  rw [hf, ht, show (0 : Int) + 3 + (n : Int) = 3 + (n : Int) from by omega, hr, if_neg h.1, show (3 : Int).toNat = 3 from rfl, hc, h.2]
  simp only [e1]
/-- So far the pages are read. -/
def LdOk (M : PM) (was now : Nat → Pg) (k : Nat) (r : Int × Bool × TS × PM) : Prop :=
  r.2.2.2.count = M.count ∧ r.2.2.2.secs = M.secs ∧ HomeQ M.secs now k r.2.2.2.queue ∧
  ((r.1 = 0 ∧ r.2.1 = true ∧ r.2.2.2.down = false ∧ 0 ≤ r.2.2.2.armed ∧ (M.armed = 0 → r.2.2.2.armed = 0) ∧ r.2.2.2.life = M.life ∧ (r.2.2.1.dead = false → r.2.2.2.queue = []) ∧ ∃ pg : Nat → Pg, r.2.2.1.pages = (List.range k).map pg ∧ ∀ n : Nat, n < k → (pg n = was n ∨ pg n = now n) ∧ ((lastM (3 + (n : Int)) r.2.2.2.queue = none ∧ HomeIs M.secs n (pg n)) ∨ (lastM (3 + (n : Int)) r.2.2.2.queue = some (secM n (pg n)) ∧ goodP (pg n) = true)))
  ∨ (M.armed ≠ 0 ∧ r.1 = 10 ∧ r.2.2.2.down = true ∧ r.2.2.2.armed = 0))
theorem pg_more {k : Nat} {pg : Nat → Pg} {p : Pg} {P : List Pg} (h : P = (List.range k).map pg) : P ++ [p] = (List.range (k + 1)).map (fun n => if n < k then pg n else p) := by
  rw [List.range_succ, List.map_append, h]
  congr 1
  · apply List.map_congr_left
    intro n hn
    rw [if_pos (List.mem_range.1 hn)]
  · simp
theorem loads_rec {M : PM} {was now : Nat → Pg} (hd : M.down = false) (hq : M.queue = []) (ha : 0 ≤ M.armed) (hc : M.count = 16) (hr : RecD M.secs was now) : ∀ k, k ≤ 5 → LdOk M was now k (loads ⟨0, 3, [], M.life, false⟩ M k) := by
  intro k
  induction k with
  | zero =>
    intro _
    have h0 : HomeQ M.secs now 0 (loads ⟨0, 3, [], M.life, false⟩ M 0).2.2.2.queue := fun y hy => by
      rw [show (loads ⟨0, 3, [], M.life, false⟩ M 0).2.2.2.queue = M.queue from rfl, hq] at hy
      cases hy
    exact ⟨rfl, rfl, h0, .inl ⟨rfl, rfl, hd, ha, fun e => e, rfl, fun _ => hq, was, rfl, fun n hn => absurd hn (by omega)⟩⟩
  | succ k ih =>
    intro hk
    obtain ⟨i1, i2, i3, i4⟩ := ih (by omega)
    obtain ⟨kf, kt, _, _, _⟩ := loads_keep ⟨0, 3, [], M.life, false⟩ M k
    rcases i4 with ⟨j1, j2, j3, j4, j5, j6, j7, pg, j8, j9⟩ | ⟨j0, j1, j2, j3⟩
    · have e : loads ⟨0, 3, [], M.life, false⟩ M (k + 1) = ((loadP (loads ⟨0, 3, [], M.life, false⟩ M k).2.2.1 (loads ⟨0, 3, [], M.life, false⟩ M k).2.2.2 k).1, (loads ⟨0, 3, [], M.life, false⟩ M k).2.1 && (loadP (loads ⟨0, 3, [], M.life, false⟩ M k).2.2.1 (loads ⟨0, 3, [], M.life, false⟩ M k).2.2.2 k).2.1, (loadP (loads ⟨0, 3, [], M.life, false⟩ M k).2.2.1 (loads ⟨0, 3, [], M.life, false⟩ M k).2.2.2 k).2.2) := by
        show (if _ then _ else _ : Int × Bool × TS × PM) = _
        rw [if_neg (by omega)]
      rw [e, j2, Bool.true_and]
      generalize loads ⟨0, 3, [], M.life, false⟩ M k = r at *
      obtain ⟨re, rw9, S, M'⟩ := r
      simp only at *
      have hrd : ∀ x : Int, 0 ≤ x → x < 16 → (x < 3 ∨ 3 + (k : Int) ≤ x) → readM M' x = holdD M.secs x := fun x h0 h1 h2 => by
        rw [readM_q j3 h0 (by omega), i3.none h2, i2]
      have hcp : copiedN M' 0 k 3 = copD M.secs k 3 := copiedN_hold 3 (fun c hc => hrd c (by omega) (by omega) (.inl (by omega)))
      have hh := hrd (3 + (k : Int)) (by omega) (by omega) (.inr (by omega))
      have hme : ∀ p, HomeIs M.secs k p → (p = was k ∨ p = now k) → LdOk M was now (k + 1) ((loadP S M' k).1, (loadP S M' k).2.1, (loadP S M' k).2.2) := fun p hp hw => by
        rw [loadP_home kf kt hh hp]
        refine ⟨i1, i2, i3.mono (by omega), .inl ⟨rfl, rfl, j3, j4, j5, j6, j7, fun n => if n < k then pg n else p, pg_more j8, fun n hn => ?_⟩⟩
        by_cases h : n < k
        · simp only [if_pos h]; exact j9 n h
        · obtain rfl : n = k := by omega
          simp only [if_neg h]
          exact ⟨hw, .inl ⟨i3.none (.inr (by omega)), hp⟩⟩
      rcases hr k (by omega) with h | h | h
      · exact hme _ h (.inl rfl)
      · exact hme _ h (.inr rfl)
      · rw [loadP_torn kf kt hh hcp h j3 (by omega)]
        have hg := copD_good h.2
        obtain ⟨q1, q2, q3⟩ := act_queue (pushM M' (3 + (k : Int)) (secM k (now k)))
        have hq' : (pushM M' (3 + (k : Int)) (secM k (now k))).queue = M'.queue ++ [(3 + (k : Int), secM k (now k))] := rfl
        have hhq : HomeQ M.secs now (k + 1) (M'.queue ++ [(3 + (k : Int), secM k (now k))]) := fun y hy => by
          rcases List.mem_append.1 hy with hy | hy
          · exact i3.mono (by omega) y hy
          · rw [List.mem_singleton] at hy
            exact ⟨k, by omega, h, hy⟩
        rcases actM_cases (M := pushM M' (3 + (k : Int)) (secM k (now k))) j3 j4 with ⟨h1, h2, h3, h4, h5⟩ | ⟨h0, h1, h2, h3⟩
        · rw [if_neg (by omega)]
          refine ⟨q3.trans i1, q2.trans i2, by simp only; rw [q1, hq']; exact hhq, .inl ⟨rfl, rfl, h2, h3, fun e => h4 (j5 e), h5.trans j6, fun e => by simp [TS.push, TS.die] at e, fun n => if n < k then pg n else now k, pg_more j8, fun n hn => ?_⟩⟩
          simp only
          rw [q1, hq', lastM_snoc]
          by_cases h9 : n < k
          · simp only [if_pos h9]
            rw [if_neg (by omega)]
            exact j9 n h9
          · obtain rfl : n = k := by omega
            simp only [if_neg h9]
            exact ⟨.inr (by simp), .inr ⟨by simp, hg⟩⟩
        · rw [if_pos (by omega)]
          exact ⟨q3.trans i1, q2.trans i2, by simp only; rw [q1, hq']; exact hhq, .inr ⟨fun e => h0 (j5 e), h1, h2, h3⟩⟩
    · have e : loads ⟨0, 3, [], M.life, false⟩ M (k + 1) = loads ⟨0, 3, [], M.life, false⟩ M k := loads_err (by omega) (k + 1) (by omega)
      rw [e]
      exact ⟨i1, i2, i3.mono (by omega), .inr ⟨j0, j1, j2, j3⟩⟩
/-- What Open leaves behind a loss of power. -/
theorem open_rec {M : PM} {was now : Nat → Pg} (hd : M.down = false) (hq : M.queue = []) (ha : 0 ≤ M.armed) (hc : M.count = 16) (hr : RecD M.secs was now) :
    (openP M 0 3 5).2.2.count = M.count ∧
    ((∃ pg : Nat → Pg, (openP M 0 3 5).1 = some ⟨0, 3, (List.range 5).map pg, M.life, false⟩ ∧ (openP M 0 3 5).2.1 = 0 ∧ (openP M 0 3 5).2.2.down = false ∧ (openP M 0 3 5).2.2.queue = [] ∧ 0 ≤ (openP M 0 3 5).2.2.armed ∧ (M.armed = 0 → (openP M 0 3 5).2.2.armed = 0) ∧ (openP M 0 3 5).2.2.life = M.life ∧ (∀ n : Nat, n < 5 → (pg n = was n ∨ pg n = now n) ∧ HomeIs (openP M 0 3 5).2.2.secs n (pg n)) ∧ ∀ c : Int, c < 3 → holdD (openP M 0 3 5).2.2.secs c = holdD M.secs c)
    ∨ (M.armed ≠ 0 ∧ (openP M 0 3 5).1 = none ∧ (openP M 0 3 5).2.1 = 10 ∧ (openP M 0 3 5).2.2.down = true ∧ (openP M 0 3 5).2.2.armed = 0 ∧ (openP M 0 3 5).2.2.secs = M.secs ∧ HomeQ M.secs now 5 (openP M 0 3 5).2.2.queue)) := by
  have hl := loads_rec hd hq ha hc hr 5 (by omega)
  obtain ⟨kf, kt, kl, _, _⟩ := loads_keep ⟨0, 3, [], M.life, false⟩ M 5
  unfold openP
  rw [if_neg (by omega), if_neg (by rw [hd]; simp), show (5 : Int).toNat = 5 from rfl]
  generalize loads ⟨0, 3, [], M.life, false⟩ M 5 = r at *
  obtain ⟨re, wh, S, M'⟩ := r
  obtain ⟨i1, i2, i3, i4⟩ := hl
  simp only at *
  rcases i4 with ⟨rfl, rfl, j3, j4, j5, j6, j7, pg, j8, j9⟩ | ⟨j0, rfl, j2, j3⟩
  · rw [if_neg (by simp)]
    have hS : S.die false = ⟨0, 3, (List.range 5).map pg, M.life, false⟩ := by
      cases S
      simp only [TS.die] at *
      rw [kf, kt, kl, j8]
    cases hde : S.dead with
    | false =>
      have hq0 := j7 hde
      rw [if_neg (by simp), if_pos rfl, if_pos rfl, if_neg (by simp), hS]
      simp only
      refine ⟨i1, .inl ⟨pg, by simp, by simp, j3, hq0, j4, j5, j6, fun n hn => ⟨(j9 n hn).1, ?_⟩, fun c _ => by rw [i2]⟩⟩
      rcases (j9 n hn).2 with ⟨_, h⟩ | ⟨h, _⟩
      · rw [i2]; exact h
      · rw [hq0] at h; cases h
    | true =>
      obtain ⟨q1, q2, q3⟩ := act_queue M'
      have e : syncM M' = if (actM M').1 ≠ 0 then actM M' else (0, { (actM M').2 with secs := putAll M'.secs M'.queue, queue := [] }) := by
        unfold syncM
        rw [j3]; simp
      rcases actM_cases j3 j4 with ⟨h1, h2, h3, h4, h5⟩ | ⟨h0, h1, h2, h3⟩
      · rw [e, if_neg (show ¬ (actM M').1 ≠ 0 by omega), if_neg (by simp), if_pos rfl, if_pos rfl, if_pos rfl, hS]
        simp only
        refine ⟨q3.trans i1, .inl ⟨pg, by simp, by simp, h2, by simp, h3, fun e => h4 (j5 e), h5.trans j6, fun n hn => ⟨(j9 n hn).1, ?_⟩, fun c hc => holdD_eq (by rw [getL_putAll, i3.none (.inl hc), i2])⟩⟩
        rcases (j9 n hn).2 with ⟨h6, h7⟩ | ⟨h6, h7⟩
        · exact h7.of_eq (holdD_eq (by rw [getL_putAll, h6, i2]))
        · exact HomeIs.of_sec (by rw [getL_putAll, h6]) h7
      · rw [e, if_pos (show (actM M').1 ≠ 0 by omega), if_pos ⟨rfl, by omega⟩]
        simp only
        exact ⟨q3.trans i1, .inr ⟨fun e => h0 (j5 e), by simp, h1, h2, h3, q2.trans i2, by rw [q1]; exact i3⟩⟩
  · rw [if_pos (by simp)]
    simp only
    exact ⟨i1, .inr ⟨j0, by simp, by simp, j2, j3, i2, i3⟩⟩
end Go.Proofs.YtgocmnejlbfplaaDoor
namespace Go.Proofs.YtgocmnejlbfplaaDoor
open Go Go.MapKept Go.RowKit Go.Proofs

/-- No copy is younger. -/
def CpLe (D : Sc) (lim : Int) : Prop := ∀ (c : Nat), c < 3 → ∀ (n : Nat) p, n < 5 → (holdD D (c : Int)).2 = 0 → pageM n (holdD D (c : Int)).1 = some p → p.lsn ≤ lim
theorem CpLe.same {D D' : Sc} {lim : Int} (h : CpLe D lim) (e : ∀ c : Int, c < 3 → holdD D' c = holdD D c) : CpLe D' lim := fun c hc n p hn h1 h2 => by
  rw [e _ (by omega)] at h1 h2
  exact h c hc n p hn h1 h2
structure St8 (b : Nat) (was : Nat → Pg) (lim : Int) (S : TS) (M : PM) : Prop where
  up : M.down = false
  ar : 0 ≤ M.armed
  qu : M.queue = []
  ct : M.count = 16
  st : S = ⟨0, 3, (List.range 5).map was, M.life, false⟩
  hm : ∀ n : Nat, n < 5 → HomeIs M.secs n (was n)
  gd : ∀ n : Nat, n < 5 → (was n).slots.length ≤ 1000
  cp : CpLe M.secs lim
  ok : PlOk b M
/-- Power is there again. -/
structure Rcv (b : Nat) (was now : Nat → Pg) (lim : Int) (M : PM) : Prop where
  up : M.down = false
  ar : 0 ≤ M.armed
  qu : M.queue = []
  ct : M.count = 16
  rc : RecD M.secs was now
  cp : CpLe M.secs lim
  ok : PlOk b M
/-- Power is gone. -/
structure Gone (b : Nat) (was now : Nat → Pg) (lim : Int) (M : PM) : Prop where
  dn : M.down = true
  ar : M.armed = 0
  ct : M.count = 16
  rc : ∀ f, RecD (fateTo f M.queue M.secs M.queue.length) was now ∧ CpLe (fateTo f M.queue M.secs M.queue.length) lim
  ok : PlOk b M
theorem fateTo_mem (f : Nat → Int) (q D : Sc) {x : Int × ByteArray} : ∀ k, x ∈ fateTo f q D k → x ∈ D ∨ x ∈ q ∨ x.2 = ⟨#[]⟩ := by
  intro k
  induction k with
  | zero => exact fun h => .inl h
  | succ k ih =>
    intro h
    have h' : x ∈ (match q[k]? with | some y => stepF (f k) y (fateTo f q D k) | none => fateTo f q D k) := h
    cases hq : q[k]? with
    | none => rw [hq] at h'; exact ih h'
    | some y =>
      rw [hq] at h'
      simp only at h'
      unfold stepF at h'
      split at h'
      · rcases putL_mem h' with e | h'
        · exact .inr (.inl (by rw [e]; exact List.mem_of_getElem? hq))
        · exact ih h'
      · split at h'
        · rcases putL_mem h' with e | h'
          · exact .inr (.inr (by rw [e]))
          · exact ih h'
        · exact ih h'
theorem onM_down {M : PM} {f : Nat → Int} (hd : M.down = true) : onM M f = { M with down := false, secs := fateTo f M.queue M.secs M.queue.length, queue := [] } := by
  unfold onM
  rw [hd]; simp
theorem PlOk.on {b : Nat} {M : PM} (h : PlOk b M) (f : Nat → Int) : PlOk b (onM M f) := by
  cases hd : M.down with
  | false =>
    have e : onM M f = M := by unfold onM; rw [hd]; simp
    rw [e]; exact h
  | true =>
    obtain ⟨h1, h2, h3⟩ := h
    rw [onM_down hd]
    refine ⟨fun x hx => ?_, fun x hx => (by cases hx), by simp only [List.length_nil]; omega⟩
    rcases fateTo_mem f M.queue M.secs _ hx with h | h | h
    · exact h1 x h
    · exact .inr (h2 x h)
    · exact .inl (by rw [h]; rfl)
theorem PlOk.arm {b : Nat} {M : PM} (h : PlOk b M) {n : Int} (hn : n ≤ 9223372036854775807) : PlOk b (armM M n) := by
  obtain ⟨h1, h2, h3⟩ := h
  exact ⟨h1, h2, by simp only [armM]; omega⟩
theorem Gone.on {b : Nat} {was now : Nat → Pg} {lim : Int} {M : PM} (h : Gone b was now lim M) (f : Nat → Int) : Rcv b was now lim (onM M f) ∧ (onM M f).armed = 0 := by
  have hok := h.ok.on f
  rw [onM_down h.dn] at hok ⊢
  exact ⟨⟨rfl, by simp only [h.ar]; omega, rfl, h.ct, (h.rc f).1, (h.rc f).2, hok⟩, h.ar⟩
theorem Rcv.arm {b : Nat} {was now : Nat → Pg} {lim : Int} {M : PM} (h : Rcv b was now lim M) {n : Int} (hn : n ≤ 9223372036854775807) : Rcv b was now lim (armM M n) :=
  ⟨h.up, by simp only [armM]; omega, h.qu, h.ct, h.rc, h.cp, h.ok.arm hn⟩
theorem St8.arm {b : Nat} {was : Nat → Pg} {lim : Int} {S : TS} {M : PM} (h : St8 b was lim S M) {n : Int} (hn : n ≤ 9223372036854775807) : St8 b was lim S (armM M n) :=
  ⟨h.up, by simp only [armM]; omega, h.qu, h.ct, h.st, h.hm, h.gd, h.cp, h.ok.arm hn⟩
theorem open_ok {b : Nat} {M : PM} (h : PlOk b M) (hb : b + 6 ≤ 100000) : PlOk (b + 6) (openP M 0 3 5).2.2 := by
  have h1 := loads_ok (S := ⟨0, 3, [], M.life, false⟩) h 5 (by omega)
  unfold openP
  split
  · exact h.mono (by omega) hb
  · split
    · exact h.mono (by omega) hb
    · split
      · exact h1.mono (by omega) hb
      · split
        · exact h1.sync (by omega)
        · show PlOk _ (if _ then _ else _ : PM)
          split
          · exact h1.sync (by omega)
          · exact h1.mono (by omega) hb
/-- A round of Open under a fate, Off and On. -/
theorem Rcv.again {b : Nat} {was now : Nat → Pg} {lim : Int} {M : PM} (h : Rcv b was now lim M) (hb : b + 8 ≤ 100000) (f : Nat → Int) : Rcv (b + 8) was now lim (onM (offM (openP M 0 3 5).2.2) f) ∧ (onM (offM (openP M 0 3 5).2.2) f).armed = 0 := by
  have hok := (open_ok h.ok (by omega)).off (by omega)
  obtain ⟨k1, k2⟩ := open_rec h.up h.qu h.ar h.ct h.rc
  have hg : Gone (b + 8) was now lim (offM (openP M 0 3 5).2.2) := by
    rcases k2 with ⟨pg, _, _, k5, k6, _, _, _, k9, k10⟩ | ⟨_, _, _, k5, k6, k7, k8⟩
    · have e : offM (openP M 0 3 5).2.2 = { (openP M 0 3 5).2.2 with down := true, armed := 0, life := (openP M 0 3 5).2.2.life + 1 } := by unfold offM; rw [k5]; simp
      rw [e] at hok ⊢
      refine ⟨rfl, rfl, k1.trans h.ct, fun f => ?_, hok.mono (by omega) hb⟩
      simp only [k6]
      show RecD (openP M 0 3 5).2.2.secs was now ∧ CpLe (openP M 0 3 5).2.2.secs lim
      refine ⟨fun n hn => ?_, h.cp.same k10⟩
      rcases (k9 n hn).1 with e | e
      · exact .inl (by rw [← e]; exact (k9 n hn).2)
      · exact .inr (.inl (by rw [← e]; exact (k9 n hn).2))
    · have e : offM (openP M 0 3 5).2.2 = (openP M 0 3 5).2.2 := by unfold offM; rw [k5]; simp
      rw [e] at hok ⊢
      refine ⟨k5, k6, k1.trans h.ct, fun f => ?_, hok.mono (by omega) hb⟩
      generalize (openP M 0 3 5).2.2 = M' at *
      rw [k7]
      have hcs : ∀ c : Int, c < 3 → holdD (fateTo f M'.queue M.secs M'.queue.length) c = holdD M.secs c := fun c hc => by
        rcases fateTo_at f M'.queue M.secs c M'.queue.length with e | ⟨v, hm, _⟩
        · exact holdD_eq e
        · obtain ⟨n, _, _, e⟩ := k8 _ hm
          have := congrArg Prod.fst e
          simp only at this
          omega
      refine ⟨fun n hn => ?_, h.cp.same hcs⟩
      rcases fateTo_at f M'.queue M.secs (3 + (n : Int)) M'.queue.length with e | ⟨v, hm, e⟩
      · have e2 := holdD_eq e
        rcases h.rc n hn with h1 | h1 | h1
        · exact .inl (h1.of_eq e2)
        · exact .inr (.inl (h1.of_eq e2))
        · exact .inr (.inr ⟨by rw [e2]; exact h1.1, by rw [copD_same 3 (fun c hc => hcs _ (by omega))]; exact h1.2⟩)
      · obtain ⟨m, _, ht, e3⟩ := k8 _ hm
        have e4 := congrArg Prod.fst e3
        have e5 := congrArg Prod.snd e3
        simp only at e4 e5
        obtain rfl : n = m := by omega
        subst e5
        have hg := copD_good ht.2
        rcases e with e | e
        · exact .inr (.inl (HomeIs.of_sec e hg))
        · exact .inr (.inr ⟨by rw [holdD_torn e]; decide, by rw [copD_same 3 (fun c hc => hcs _ (by omega))]; exact ht.2⟩)
  exact hg.on f
theorem HomeIs.small {D : Sc} {n : Nat} {p : Pg} (h : HomeIs D n p) : p.slots.length ≤ 1000 := by
  rcases h.2 with e | ⟨_, e⟩
  · exact (good_bds (pageM_good e)).1
  · rw [e]; decide
/-- Open with no fate near. -/
theorem Rcv.open {b : Nat} {was now : Nat → Pg} {lim : Int} {M : PM} (h : Rcv b was now lim M) (hb : b + 8 ≤ 100000) (ha : M.armed = 0) :
    ∃ pg S M', openP M 0 3 5 = (some S, 0, M') ∧ (∀ n : Nat, n < 5 → pg n = was n ∨ pg n = now n) ∧ St8 (b + 8) pg lim S M' ∧ M'.armed = 0 := by
  have hok := open_ok h.ok (by omega)
  obtain ⟨k1, k2⟩ := open_rec h.up h.qu h.ar h.ct h.rc
  rcases k2 with ⟨pg, k3, k4, k5, k6, k7, k7', k8, k9, k10⟩ | ⟨k3, _⟩
  · refine ⟨pg, ⟨0, 3, (List.range 5).map pg, M.life, false⟩, (openP M 0 3 5).2.2, ?_, fun n hn => (k9 n hn).1, ?_, k7' ha⟩
    · exact Prod.ext k3 (Prod.ext k4 rfl)
    · exact ⟨k5, k7, k6, k1.trans h.ct, by rw [k8], fun n hn => (k9 n hn).2, fun n hn => (k9 n hn).2.small, h.cp.same k10, hok.mono (by omega) hb⟩
  · exact absurd ha k3
theorem St8.rcv {b : Nat} {was : Nat → Pg} {lim : Int} {S : TS} {M : PM} (h : St8 b was lim S M) : Rcv b was was lim M := ⟨h.up, h.ar, h.qu, h.ct, fun n hn => .inl (h.hm n hn), h.cp, h.ok⟩
end Go.Proofs.YtgocmnejlbfplaaDoor
namespace Go.Proofs.YtgocmnejlbfplaaDoor
open Go Go.MapKept Go.RowKit Go.Proofs

/-- The pages with these leaves in. -/
def nowF (was : Nat → Pg) (L : List Lf) (n : Nat) : Pg := match L.find? (fun p => p.1 == (n : Int)) with
  | some p => p.2
  | none => was n
theorem nowF_in {was : Nat → Pg} {L : List Lf} (hn : (L.map (·.1)).Nodup) {p : Lf} {n : Nat} (hp : p ∈ L) (e : p.1 = (n : Int)) : nowF was L n = p.2 := by
  unfold nowF
  cases hf : L.find? (fun p => p.1 == (n : Int)) with
  | none =>
    rw [List.find?_eq_none] at hf
    exact absurd (by simpa using e) (hf p hp)
  | some q =>
    have h1 : q.1 = (n : Int) := by simpa using List.find?_some hf
    have h2 := List.mem_of_find?_eq_some hf
    obtain ⟨i, hi⟩ := List.mem_iff_getElem?.1 hp
    obtain ⟨j, hj⟩ := List.mem_iff_getElem?.1 h2
    have hil := (List.getElem?_eq_some_iff.1 hi).1
    have hjl := (List.getElem?_eq_some_iff.1 hj).1
    have h3 : i = j := by
      have e1 : (L.map (·.1))[i]? = some (n : Int) := by rw [List.getElem?_map, hi]; simp [e]
      have e2 : (L.map (·.1))[j]? = some (n : Int) := by rw [List.getElem?_map, hj]; simp [h1]
      rw [List.getElem?_eq_getElem (by simpa using hil)] at e1
      rw [List.getElem?_eq_getElem (by simpa using hjl)] at e2
      have hpw := List.pairwise_iff_getElem.1 hn
      rcases Nat.lt_trichotomy i j with h | h | h
      · exact absurd ((Option.some.inj e1).trans (Option.some.inj e2).symm) (hpw i j (by simpa using hil) (by simpa using hjl) h)
      · exact h
      · exact absurd ((Option.some.inj e2).trans (Option.some.inj e1).symm) (hpw j i (by simpa using hjl) (by simpa using hil) h)
    subst h3
    rw [hi] at hj
    cases hj
    rfl
theorem nowF_out {was : Nat → Pg} {L : List Lf} {n : Nat} (h : ∀ p ∈ L, p.1 ≠ (n : Int)) : nowF was L n = was n := by
  unfold nowF
  have : L.find? (fun p => p.1 == (n : Int)) = none := by
    rw [List.find?_eq_none]
    intro p hp
    simpa using h p hp
  rw [this]
theorem putT_pages {was : Nat → Pg} {L : List Lf} (S : TS) (hS : S.pages = (List.range 5).map was) (hn : (L.map (·.1)).Nodup) (hb : ∀ p ∈ L, 0 ≤ p.1 ∧ p.1 < 5) : (putT S L).pages = (List.range 5).map (nowF was L) := by
  have hl : S.pages.length = 5 := by rw [hS]; simp
  apply List.ext_getElem?
  intro k
  by_cases hk : k < 5
  · rw [List.getElem?_map, List.getElem?_range hk]
    by_cases h : ∃ p ∈ L, p.1 = (k : Int)
    · obtain ⟨p, hp, e⟩ := h
      obtain ⟨i, hi⟩ := List.mem_iff_getElem?.1 hp
      have := putT_at L S i p hn (fun q hq => by have := hb q hq; omega) hi
      rw [show p.1.toNat = k from by omega] at this
      rw [this]
      simp only [Option.map_some, nowF_in hn hp e]
    · have h2 : ∀ p ∈ L, p.1 ≠ (k : Int) := fun p hp e => h ⟨p, hp, e⟩
      rw [putT_other L S k (fun p hp e => h2 p hp (by have := hb p hp; omega)), hS, List.getElem?_map, List.getElem?_range hk]
      simp only [Option.map_some, nowF_out h2]
  · rw [List.getElem?_eq_none (by rw [(putT_keep L S).2.2.1, hl]; omega), List.getElem?_eq_none (by simp; omega)]
theorem lastM_one {ws : Sc} {x : Int} {s : ByteArray} (h : (x, s) ∈ ws) (hu : ∀ v, (x, v) ∈ ws → v = s) : lastM x ws = some s := by
  obtain ⟨v, hv⟩ := lastM_key ⟨(x, s), h, rfl⟩
  rw [hv, hu v (lastM_mem hv)]
theorem wsOf_in {pl : Nat → Int} {L : List Lf} {i : Nat} {p : Lf} (h : L[i]? = some p) : (pl i, secM p.1.toNat p.2) ∈ wsOf pl L := by
  unfold wsOf
  refine List.mem_map.2 ⟨(p, i), ?_, rfl⟩
  rw [List.mem_iff_getElem?]
  exact ⟨i, by rw [List.getElem?_zipIdx, h]; simp⟩
/-- Leaves that fit a store of five pages. -/
structure Fits5 (L : List Lf) : Prop where
  nd : (L.map (·.1)).Nodup
  ok : ∀ p ∈ L, 0 ≤ p.1 ∧ p.1 < 5 ∧ goodP p.2 = true
  le : L.length ≤ 3
section
variable {D : Sc} {L : List Lf} {was : Nat → Pg} {lim : Int}
abbrev ws1 (L : List Lf) : Sc := wsOf (fun i => (0 : Int) + (i : Int)) L
abbrev ws2 (L : List Lf) : Sc := wsOf (fun i => (0 : Int) + 3 + ((L[i]?).map (fun p => p.1)).getD 0) L
theorem ws1_mem (h : Fits5 L) {x : Int × ByteArray} (hx : x ∈ ws1 L) : ∃ (i : Nat) (p : Lf), i < 3 ∧ L[i]? = some p ∧ x = ((i : Int), secM p.1.toNat p.2) := by
  obtain ⟨i, p, hp, rfl⟩ := wsOf_mem hx
  have := (List.getElem?_eq_some_iff.1 hp).1
  have := h.le
  exact ⟨i, p, by omega, hp, by rw [Int.zero_add]⟩
theorem ws2_mem (h : Fits5 L) {x : Int × ByteArray} (hx : x ∈ ws2 L) : ∃ (n : Nat) (p : Lf), n < 5 ∧ p ∈ L ∧ p.1 = (n : Int) ∧ x = (3 + (n : Int), secM n p.2) := by
  obtain ⟨i, p, hp, rfl⟩ := wsOf_mem hx
  have hm := List.mem_of_getElem? hp
  have := h.ok p hm
  refine ⟨p.1.toNat, p, by omega, hm, by omega, ?_⟩
  rw [hp]
  simp only [Option.map_some, Option.getD_some]
  rw [show (0 : Int) + 3 + p.1 = 3 + ((p.1.toNat : Nat) : Int) from by omega]
theorem ws2_in (_h : Fits5 L) {p : Lf} {n : Nat} (hp : p ∈ L) (e : p.1 = (n : Int)) : (3 + (n : Int), secM n p.2) ∈ ws2 L := by
  obtain ⟨i, hi⟩ := List.mem_iff_getElem?.1 hp
  have := wsOf_in (pl := fun i => (0 : Int) + 3 + ((L[i]?).map (fun p => p.1)).getD 0) hi
  simp only [hi, Option.map_some, Option.getD_some] at this
  rw [e, show (0 : Int) + 3 + (n : Int) = 3 + (n : Int) from by omega, Int.toNat_natCast] at this
  exact this
theorem ws2_val (h : Fits5 L) {p : Lf} {n : Nat} (hp : p ∈ L) (e : p.1 = (n : Int)) {v : ByteArray} (hv : (3 + (n : Int), v) ∈ ws2 L) : v = secM n p.2 := by
  obtain ⟨m, q, _, hq, e2, e3⟩ := ws2_mem h hv
  have e4 := congrArg Prod.fst e3
  have e5 := congrArg Prod.snd e3
  simp only at e4 e5
  obtain rfl : n = m := by omega
  rw [e5, ← nowF_in (was := fun _ => emptyP) h.nd hq e2, nowF_in h.nd hp e]
/-- One sector of the copies. -/
theorem cop_at (h : Fits5 L) (D' : Sc) (hD : ∀ c : Int, c < 3 → getL c D' = getL c D ∨ ∃ v, (c, v) ∈ ws1 L ∧ (getL c D' = some v ∨ getL c D' = some ⟨#[]⟩)) (hc : CpLe D lim) (hl : ∀ p ∈ L, p.2.lsn = lim + 1) : CpLe D' (lim + 1) := by
  intro c hc3 n p hn5 h1 h2
  rcases hD (c : Int) (by omega) with e | ⟨v, hv, e⟩
  · rw [holdD_eq e] at h1 h2
    have := hc c hc3 n p hn5 h1 h2
    omega
  · obtain ⟨i, q, hi, hq, e3⟩ := ws1_mem h hv
    have hm := List.mem_of_getElem? hq
    obtain ⟨b1, b2, b3⟩ := h.ok q hm
    have e5 := congrArg Prod.snd e3
    simp only at e5
    subst e5
    rcases e with e | e
    · rw [holdD_sec e (secM_size b3)] at h2
      obtain ⟨_, e6⟩ := pageM_sec (by omega) (by omega) b3 h2
      rw [e6, hl q hm]
      omega
    · rw [holdD_torn e] at h1
      cases h1
/-- Behind the copies' sync each leaf has its copy. -/
theorem cop_all (h : Fits5 L) (D1 : Sc) (hD : D1 = putAll D (ws1 L)) (hc : CpLe D lim) (hl : ∀ p ∈ L, p.2.lsn = lim + 1) {p : Lf} {n : Nat} (hp : p ∈ L) (e : p.1 = (n : Int)) : copD D1 n 3 = some p.2 := by
  obtain ⟨b1, b2, b3⟩ := h.ok p hp
  obtain ⟨j, hj⟩ := List.mem_iff_getElem?.1 hp
  have hjl := (List.getElem?_eq_some_iff.1 hj).1
  have hle := h.le
  have hlast : ∀ (i : Nat) q, L[i]? = some q → lastM (i : Int) (ws1 L) = some (secM q.1.toNat q.2) := fun i q hi => by
    refine lastM_one (by have := wsOf_in (pl := fun i => (0 : Int) + (i : Int)) hi; rwa [Int.zero_add] at this) (fun v hv => ?_)
    obtain ⟨i', q', _, hq', e3⟩ := ws1_mem h hv
    have e4 := congrArg Prod.fst e3
    have e5 := congrArg Prod.snd e3
    simp only at e4 e5
    obtain rfl : i = i' := by omega
    rw [hi] at hq'
    cases hq'
    exact e5
  have hat : ∀ (i : Nat) q, L[i]? = some q → holdD D1 (i : Int) = (secM q.1.toNat q.2, 0) := fun i q hi => holdD_sec (by rw [hD, getL_putAll, hlast i q hi]) (secM_size (h.ok q (List.mem_of_getElem? hi)).2.2)
  refine (cop_best 3 (fun c q hc3 h1 h2 => ?_)).1 ⟨j, by omega, ?_, ?_⟩
  · by_cases hcl : c < L.length
    · obtain ⟨r, hr⟩ : ∃ r, L[c]? = some r := ⟨_, List.getElem?_eq_getElem hcl⟩
      have hm := List.mem_of_getElem? hr
      obtain ⟨c1, c2, c3⟩ := h.ok r hm
      rw [hat c r hr] at h2
      obtain ⟨e1, e2⟩ := pageM_sec (by omega) (by omega) c3 h2
      left
      rw [e2, ← nowF_in (was := fun _ => emptyP) (n := n) h.nd hm (by omega), nowF_in h.nd hp e]
    · right
      have hnone : lastM (c : Int) (ws1 L) = none := lastM_not (fun y hy e6 => by
        obtain ⟨i', q', _, hq', e3⟩ := ws1_mem h hy
        rw [e3] at e6
        have := (List.getElem?_eq_some_iff.1 hq').1
        simp only at e6
        omega)
      rw [holdD_eq (D := D) (by rw [hD, getL_putAll, hnone])] at h1 h2
      have h3 := hc c hc3 n q (by omega) h1 h2
      rw [hl p hp]
      omega
  · rw [hat j p hj]
  · rw [hat j p hj, show p.1.toNat = n from by omega]
    exact pageM_own b3
/-- What writing leaves. -/
theorem write_std {b : Nat} {S : TS} {M : PM} (h : St8 b was lim S M) (hb : b + 300 ≤ 100000) (hF : Fits5 L) (hft : fitsT S L = true) (hl : ∀ p ∈ L, p.2.lsn = lim + 1) :
    ∃ S' M', (writeT S M L = (0, S', M') ∧ St8 (b + 300) (nowF was L) (lim + 1) S' M') ∨ (writeT S M L = (10, S', M') ∧ Gone (b + 300) was (nowF was L) (lim + 1) M') := by
  obtain ⟨hd, ha, hq, hct, rfl, hm, hg, hcp, hok⟩ := h
  have hcp' : CpLe M.secs (lim + 1) := fun c hc n p hn h1 h2 => by have := hcp c hc n p hn h1 h2; omega
  unfold writeT
  rw [rdyT_calm hd rfl rfl, if_neg (by simp), if_neg (by rw [hft]; simp)]
  by_cases h0 : L.length = 0
  · rw [if_pos h0]
    obtain rfl : L = [] := by simpa using h0
    exact ⟨_, _, .inl ⟨rfl, hd, ha, hq, hct, rfl, hm, hg, hcp', hok.mono (by omega) hb⟩⟩
  rw [if_neg h0]
  have hle := hF.le
  have hlf : LfOk L := fun p hp => ⟨(hF.ok p hp).2.2, (hF.ok p hp).1, by have := (hF.ok p hp).2.1; omega⟩
  have e1 : wsOf (fun i => (⟨0, 3, (List.range 5).map was, M.life, false⟩ : TS).frm + (i : Int)) L = ws1 L := rfl
  have e2 : wsOf (plH ⟨0, 3, (List.range 5).map was, M.life, false⟩ L) L = ws2 L := rfl
  rw [e1, e2]
  have r1 : ∀ x ∈ ws1 L, 0 ≤ x.1 ∧ x.1 < M.count ∧ x.2.size = 256 := fun x hx => by
    have hs := wsOf_size hlf x hx
    obtain ⟨i, p, hi, _, rfl⟩ := ws1_mem hF hx
    exact ⟨by simp only; omega, by simp only; omega, hs⟩
  have hk1 := layQ_ok hok (wsOf_size (pl := fun i => (0 : Int) + (i : Int)) hlf) (by rw [wsOf_len]; omega)
  rw [wsOf_len] at hk1
  have hL1 := layQ_any (ws1 L) M hd ha r1
  generalize layQ M (ws1 L) = q1 at *
  obtain ⟨c1, M1⟩ := q1
  simp only at *
  obtain ⟨n1, hL1⟩ := hL1
  rcases hL1 with ⟨rfl, u1, a1, z1, s1, l1⟩ | ⟨rfl, u1, a1, s1, z1⟩
  · rw [if_neg (by simp)]
    rw [hq, List.nil_append] at s1
    have r2 : ∀ x ∈ ws2 L, 0 ≤ x.1 ∧ x.1 < M1.count ∧ x.2.size = 256 := fun x hx => by
      have hs := wsOf_size hlf x hx
      obtain ⟨n, p, hn, _, _, rfl⟩ := ws2_mem hF hx
      exact ⟨by simp only; omega, by simp only; omega, hs⟩
    have hk2 := layQ_ok (ws := ws2 L) hk1 (wsOf_size hlf) (by rw [wsOf_len]; omega)
    rw [wsOf_len] at hk2
    have hL2 := layQ_any (ws2 L) M1 u1 a1 r2
    generalize layQ M1 (ws2 L) = q2 at *
    obtain ⟨c2, M2⟩ := q2
    simp only at *
    obtain ⟨n2, hL2⟩ := hL2
    have hcp1 : CpLe M1.secs (lim + 1) := cop_at hF M1.secs (fun c _ => by
      rw [s1, getL_putAll]
      cases hx : lastM c (ws1 L) with
      | none => exact .inl rfl
      | some v => exact .inr ⟨v, lastM_mem hx, .inl rfl⟩) hcp hl
    have hm1 : ∀ n : Nat, n < 5 → HomeIs M1.secs n (was n) := fun n hn => (hm n hn).of_eq (holdD_eq (by
      rw [s1, getL_putAll, lastM_not (fun y hy e => by
        obtain ⟨i, p, hi, _, rfl⟩ := ws1_mem hF hy
        simp only at e
        omega)]))
    have hno : ∀ c : Int, c < 3 → ∀ v, (c, v) ∉ ws2 L := fun c hc v hv => by
      obtain ⟨n, p, _, _, _, e⟩ := ws2_mem hF hv
      have := congrArg Prod.fst e
      simp only at this
      omega
    rcases hL2 with ⟨rfl, u2, a2, z2, s2, l2⟩ | ⟨rfl, u2, a2, s2, z2⟩
    · rw [if_neg (by simp)]
      rw [z1, List.nil_append] at s2
      refine ⟨_, _, .inl ⟨rfl, u2, a2, z2, by omega, ?_, fun n hn => ?_, fun n hn => ?_, ?_, hk2.mono (by omega) hb⟩⟩
      · have hp := putT_pages (L := L) (TS.die ⟨0, 3, (List.range 5).map was, M.life, false⟩ false) rfl hF.nd (fun p hp => ⟨(hF.ok p hp).1, (hF.ok p hp).2.1⟩)
        obtain ⟨t1, t2, _, t4, t5⟩ := putT_keep L (TS.die ⟨0, 3, (List.range 5).map was, M.life, false⟩ false)
        generalize putT (TS.die ⟨0, 3, (List.range 5).map was, M.life, false⟩ false) L = S9 at *
        cases S9
        simp only [TS.die] at *
        rw [t1, t2, t4, t5, hp, l2, l1]
      · by_cases hx : ∃ p ∈ L, p.1 = (n : Int)
        · obtain ⟨p, hp, e⟩ := hx
          rw [nowF_in hF.nd hp e]
          exact HomeIs.of_sec (by rw [s2, getL_putAll, lastM_one (ws2_in hF hp e) (fun v hv => ws2_val hF hp e hv)]) (hF.ok p hp).2.2
        · have hx2 : ∀ p ∈ L, p.1 ≠ (n : Int) := fun p hp e => hx ⟨p, hp, e⟩
          rw [nowF_out hx2]
          refine (hm1 n hn).of_eq (holdD_eq ?_)
          rw [s2, getL_putAll, lastM_not (fun y hy e => by
            obtain ⟨m, p, _, hp, e3, rfl⟩ := ws2_mem hF hy
            simp only at e
            exact hx2 p hp (by omega))]
      · by_cases hx : ∃ p ∈ L, p.1 = (n : Int)
        · obtain ⟨p, hp, e⟩ := hx
          rw [nowF_in hF.nd hp e]
          exact (good_bds (hF.ok p hp).2.2).1
        · rw [nowF_out (fun p hp e => hx ⟨p, hp, e⟩)]
          exact hg n hn
      · refine hcp1.same (fun c hc => holdD_eq ?_)
        rw [s2, getL_putAll]
        cases hx : lastM c (ws2 L) with
        | none => rfl
        | some v => exact absurd (lastM_mem hx) (hno c hc v)
    · rw [if_pos (by simp)]
      refine ⟨_, _, .inr ⟨rfl, u2, a2, by omega, fun f => ?_, hk2.mono (by omega) hb⟩⟩
      rw [z1] at z2
      have hin : ∀ {x v}, (x, v) ∈ M2.queue → (x, v) ∈ ws2 L := fun {x v} hm => by
        rcases z2 _ hm with h | h
        · cases h
        · exact h
      have hcs : ∀ c : Int, c < 3 → holdD (fateTo f M2.queue M2.secs M2.queue.length) c = holdD M1.secs c := fun c hc => by
        rcases fateTo_at f M2.queue M2.secs c M2.queue.length with e | ⟨v, hm, _⟩
        · exact holdD_eq (by rw [e, s2])
        · exact absurd (hin hm) (hno c hc v)
      refine ⟨fun n hn => ?_, hcp1.same hcs⟩
      rcases fateTo_at f M2.queue M2.secs (3 + (n : Int)) M2.queue.length with e | ⟨v, hm9, e⟩
      · exact .inl ((hm1 n hn).of_eq (holdD_eq (by rw [e, s2])))
      · obtain ⟨m, p, _, hp, e3, e4⟩ := ws2_mem hF (hin hm9)
        have e5 := congrArg Prod.fst e4
        have e6 := congrArg Prod.snd e4
        simp only at e5 e6
        obtain rfl : n = m := by omega
        subst e6
        rw [nowF_in hF.nd hp e3]
        rcases e with e | e
        · exact .inr (.inl (HomeIs.of_sec e (hF.ok p hp).2.2))
        · exact .inr (.inr ⟨by rw [holdD_torn e]; decide, by rw [copD_same 3 (fun c hc => hcs _ (by omega))]; exact cop_all hF M1.secs s1 hcp hl hp e3⟩)
  · rw [if_pos (by simp)]
    refine ⟨_, _, .inr ⟨rfl, u1, a1, by omega, fun f => ?_, hk1.mono (by omega) hb⟩⟩
    rw [hq] at z1
    have hin : ∀ {x v}, (x, v) ∈ M1.queue → (x, v) ∈ ws1 L := fun {x v} hm => by
      rcases z1 _ hm with h | h
      · cases h
      · exact h
    refine ⟨fun n hn => .inl ((hm n hn).of_eq (holdD_eq ?_)), cop_at hF _ (fun c hc => ?_) hcp hl⟩
    · rcases fateTo_at f M1.queue M1.secs (3 + (n : Int)) M1.queue.length with e | ⟨v, hm9, _⟩
      · rw [e, s1]
      · obtain ⟨i, p, hi, _, e⟩ := ws1_mem hF (hin hm9)
        have := congrArg Prod.fst e
        simp only at this
        omega
    · rcases fateTo_at f M1.queue M1.secs c M1.queue.length with e | ⟨v, hm9, e⟩
      · exact .inl (by rw [e, s1])
      · exact .inr ⟨v, hin hm9, e⟩
end
end Go.Proofs.YtgocmnejlbfplaaDoor
