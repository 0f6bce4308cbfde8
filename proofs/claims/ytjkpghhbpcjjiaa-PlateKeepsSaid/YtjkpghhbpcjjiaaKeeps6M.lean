/- What PlateKeeps holds of the plate and of its own two lists, in plain data. Conditions: none. -/
import Derived.Test.YtjkpghhbpcjjiaaArms
namespace Go.Proofs.Ytjkpghhbpcjjiaa
open Go Go.MapKept Go.RowKit Go.Proofs

theorem lastM_eq (n : Int) (q : List (Int × ByteArray)) : lastM n q = ((q.filter (fun x => x.1 == n)).map (·.2)).getLast? := by
  unfold lastM
  rw [List.getLast?_map, ← List.head?_filter, List.filter_reverse, List.head?_reverse]
theorem lastM_snoc (n : Int) (q : List (Int × ByteArray)) (x : Int × ByteArray) : lastM n (q ++ [x]) = if x.1 = n then some x.2 else lastM n q := by
  unfold lastM
  rw [List.reverse_append, List.reverse_singleton, List.singleton_append, List.find?_cons]
  by_cases h : x.1 = n
  · simp [h]
  · have h2 : (x.1 == n) = false := by simpa using h
    simp [h2, h]
theorem lastM_cons (n : Int) (q : List (Int × ByteArray)) (x : Int × ByteArray) : lastM n (x :: q) = match lastM n q with | some s => some s | none => if x.1 = n then some x.2 else none := by
  unfold lastM
  rw [List.reverse_cons, List.find?_append]
  cases hf : q.reverse.find? (fun x => x.1 == n) with
  | some y => rfl
  | none =>
    by_cases h : x.1 = n
    · simp [h]
    · have h2 : (x.1 == n) = false := by simpa using h
      simp [h2, h]
theorem getL_putAll (n : Int) : ∀ (q D : List (Int × ByteArray)), getL n (putAll D q) = match lastM n q with | some s => some s | none => getL n D
  | [], D => rfl
  | x :: q, D => by
    have ih := getL_putAll n q (putL x.1 x.2 D)
    have e : putAll D (x :: q) = putAll (putL x.1 x.2 D) q := rfl
    rw [e, ih, lastM_cons, getL_putL]
    cases lastM n q with
    | some s => rfl
    | none =>
      by_cases h : n = x.1
      · simp [h]
      · have h2 : ¬ x.1 = n := fun e => h e.symm
        simp [h, h2]
structure KInv (M : PM) (sf : Nat → UInt8) (lt : Nat → List UInt8) (n : Nat) : Prop where
  count : M.count = 40
  secs : ∀ k s, getL k M.secs = some s → ∃ j : Nat, j < 40 ∧ k = (j : Int) ∧ s = fillB (sf j)
  fresh : ∀ j : Nat, j < 40 → getL (j : Int) M.secs = none → sf j = 0
  queue : ∀ x ∈ M.queue, ∃ j : Nat, j < 40 ∧ x.1 = (j : Int) ∧ ∃ c ∈ lt j, x.2 = fillB c
  same : M.down = false → ∀ j : Nat, j < 40 → (M.queue.filter (fun x => x.1 == (j : Int))).map (·.2) = (lt j).map fillB
  qlen : M.queue.length ≤ n
  llen : ∀ j, (lt j).length ≤ n
  acts : 0 ≤ M.acts ∧ M.acts ≤ 2 * n
  armed : 0 ≤ M.armed ∧ M.armed ≤ 80
  life : 0 ≤ M.life ∧ M.life ≤ 1
  up : M.down = false → M.life = 0
def addL (lt : Nat → List UInt8) (j0 : Nat) (c : UInt8) : Nat → List UInt8 := fun j => if j = j0 then lt j ++ [c] else lt j
theorem addL_mem {lt : Nat → List UInt8} {j0 : Nat} {c : UInt8} {j : Nat} {d : UInt8} (h : d ∈ lt j) : d ∈ addL lt j0 c j := by
  unfold addL
  split
  · exact List.mem_append_left _ h
  · exact h
theorem KInv.more {M : PM} {sf : Nat → UInt8} {lt : Nat → List UInt8} {n : Nat} (h : KInv M sf lt n) {M' : PM} {lt' : Nat → List UInt8}
    (e1 : M'.count = M.count) (e2 : M'.secs = M.secs) (hq : ∀ x ∈ M'.queue, ∃ j : Nat, j < 40 ∧ x.1 = (j : Int) ∧ ∃ c ∈ lt' j, x.2 = fillB c) (hd : M'.down = false → ∀ j : Nat, j < 40 → (M'.queue.filter (fun x => x.1 == (j : Int))).map (·.2) = (lt' j).map fillB)
    {m : Nat} (h3 : M'.queue.length ≤ m) (h4 : ∀ j, (lt' j).length ≤ m) (h5 : 0 ≤ M'.acts ∧ M'.acts ≤ 2 * m) (h6 : 0 ≤ M'.armed ∧ M'.armed ≤ 80) (h7 : 0 ≤ M'.life ∧ M'.life ≤ 1) (h8 : M'.down = false → M'.life = 0) : KInv M' sf lt' m :=
  ⟨e1.trans h.count, fun k s hk => h.secs k s (by rw [← e2]; exact hk), fun j hj hn => h.fresh j hj (by rw [← e2]; exact hn), hq, hd, h3, h4, h5, h6, h7, h8⟩
theorem addL_len {lt : Nat → List UInt8} {j0 : Nat} {c : UInt8} {n : Nat} (h : ∀ j, (lt j).length ≤ n) (j : Nat) : (addL lt j0 c j).length ≤ n + 1 := by
  unfold addL
  have := h j
  split
  · simp; omega
  · omega
theorem addL_same {lt : Nat → List UInt8} {q : List (Int × ByteArray)} {j0 : Nat} {c : UInt8} (h : ∀ j : Nat, j < 40 → (q.filter (fun x => x.1 == (j : Int))).map (·.2) = (lt j).map fillB) (j : Nat) (hj : j < 40) :
    ((q ++ [((j0 : Int), fillB c)]).filter (fun x => x.1 == (j : Int))).map (·.2) = (addL lt j0 c j).map fillB := by
  rw [List.filter_append, List.map_append, h j hj]
  unfold addL
  by_cases e : j = j0
  · subst e; simp
  · have : ((j0 : Int) == (j : Int)) = false := by rw [beq_eq_false_iff_ne]; omega
    simp [e, this]
/-- A write, taken or refused, and told to the list. -/
theorem KInv.write {M : PM} {sf : Nat → UInt8} {lt : Nat → List UInt8} {n : Nat} (h : KInv M sf lt n) (hn : n ≤ 60) (j0 : Nat) (hj : j0 < 40) (c : UInt8) :
    KInv (writeM M (j0 : Int) (fillB c)).2 sf (addL lt j0 c) (n + 1) ∧ ((writeM M (j0 : Int) (fillB c)).1 = 0 → (writeM M (j0 : Int) (fillB c)).2.down = false) ∧ (writeM M (j0 : Int) (fillB c)).2.acts ≤ 2 * n + 1 := by
  have hqo : ∀ x ∈ M.queue, ∃ j : Nat, j < 40 ∧ x.1 = (j : Int) ∧ ∃ d ∈ addL lt j0 c j, x.2 = fillB d := by
    intro x hx
    obtain ⟨j, h1, h2, d, h3, h4⟩ := h.queue x hx
    exact ⟨j, h1, h2, d, addL_mem h3, h4⟩
  have hqn : ∀ x ∈ M.queue ++ [((j0 : Int), fillB c)], ∃ j : Nat, j < 40 ∧ x.1 = (j : Int) ∧ ∃ d ∈ addL lt j0 c j, x.2 = fillB d := by
    intro x hx
    rcases List.mem_append.1 hx with hx | hx
    · exact hqo x hx
    · obtain rfl : x = ((j0 : Int), fillB c) := by simpa using hx
      exact ⟨j0, hj, rfl, c, by simp [addL], rfl⟩
  have hl := h.qlen
  have ha := h.acts
  have hr := h.armed
  have hf := h.life
  cases hd : M.down with
  | true =>
    have e : writeM M (j0 : Int) (fillB c) = (10, M) := by
      unfold writeM readyM
      rw [hd]; simp
    rw [e]
    refine ⟨h.more (by rfl) (by rfl) hqo (fun e => by rw [hd] at e; cases e) (by omega) (addL_len h.llen) (by omega) hr hf h.up, fun e => ?_, by first | omega | (simp only; omega)⟩
    have : (10 : Int) = 0 := e
    omega
  | false =>
    have hu := h.up hd
    rw [writeM_up hd (by omega) (by rw [h.count]; omega) (fillB_size c)]
    have hs := addL_same (j0 := j0) (c := c) (h.same hd)
    unfold actM pushM
    by_cases h1 : 0 < M.armed
    · rw [if_pos h1]
      by_cases h2 : M.armed = 1
      · rw [if_pos h2]
        unfold offM
        simp only [hd, Bool.false_eq_true, if_false]
        refine ⟨h.more (by rfl) (by rfl) hqn (fun e => by cases e) (by simp; omega) (addL_len h.llen) (by simp only; omega) (by simp) (by simp only; omega) (fun e => by cases e), fun e => ?_, by omega⟩
        have : (10 : Int) = 0 := e
        omega
      · rw [if_neg h2]
        exact ⟨h.more (by rfl) (by rfl) hqn (fun _ => hs) (by simp; omega) (addL_len h.llen) (by simp only; omega) (by simp only; omega) (by simp only; omega) (fun _ => hu), fun _ => hd, by simp only; omega⟩
    · rw [if_neg h1]
      exact ⟨h.more (by rfl) (by rfl) hqn (fun _ => hs) (by simp; omega) (addL_len h.llen) (by simp only; omega) (by simp only; omega) (by simp only; omega) (fun _ => hu), fun _ => hd, by simp only; omega⟩
/-- What is safe behind a sync. -/
def lastL (sf : Nat → UInt8) (lt : Nat → List UInt8) (j : Nat) : UInt8 := match (lt j).getLast? with
  | some c => c
  | none => sf j
theorem KInv.sync {M : PM} {sf : Nat → UInt8} {lt : Nat → List UInt8} {n : Nat} (h : KInv M sf lt n) (hd : M.down = false) (hn : 0 < n) (ha : M.acts ≤ 2 * n - 1) :
    ((syncM M).1 ≠ 0 → KInv (syncM M).2 sf lt n) ∧ ((syncM M).1 = 0 → KInv (syncM M).2 (lastL sf lt) (fun _ => []) n) := by
  have hu := h.up hd
  have hl := h.qlen
  have hr := h.armed
  have hac := h.acts
  obtain ⟨aq, asx, ac⟩ := act_queue M
  have key : ∀ a r : Int, 0 ≤ a ∧ a ≤ 2 * n → 0 ≤ r ∧ r ≤ 80 → KInv { M with acts := a, armed := r, secs := putAll M.secs M.queue, queue := [] } (lastL sf lt) (fun _ => []) n := by
    intro a r h1 h2
    have hg : ∀ j : Nat, j < 40 → getL (j : Int) (putAll M.secs M.queue) = match (lt j).getLast? with | some c => some (fillB c) | none => getL (j : Int) M.secs := by
      intro j hj
      rw [getL_putAll, lastM_eq, h.same hd j hj, List.getLast?_map]
      cases (lt j).getLast? <;> rfl
    refine ⟨h.count, ?_, ?_, by simp, fun _ j hj => rfl, by simp, fun _ => by simp, h1, h2, by simp only; omega, fun _ => hu⟩
    · intro k s hk
      change getL k (putAll M.secs M.queue) = some s at hk
      by_cases hin : ∃ j : Nat, j < 40 ∧ k = (j : Int)
      · obtain ⟨j, hj, rfl⟩ := hin
        rw [hg j hj] at hk
        refine ⟨j, hj, rfl, ?_⟩
        unfold lastL
        cases hc : (lt j).getLast? with
        | some c => rw [hc] at hk; simpa using hk.symm
        | none =>
          rw [hc] at hk
          obtain ⟨j', _, e, hs⟩ := h.secs _ _ hk
          have : j' = j := by omega
          subst this; exact hs
      · rw [getL_putAll] at hk
        have hln : lastM k M.queue = none := by
          rw [lastM_eq]
          have : M.queue.filter (fun x => x.1 == k) = [] := by
            rw [List.filter_eq_nil_iff]
            intro x hx e
            obtain ⟨j, hj, e2, _⟩ := h.queue x hx
            exact hin ⟨j, hj, (by simpa using e : x.1 = k).symm.trans e2⟩
          rw [this]; rfl
        rw [hln] at hk
        obtain ⟨j, hj, e, _⟩ := h.secs _ _ hk
        exact absurd ⟨j, hj, e⟩ hin
    · intro j hj hk
      change getL (j : Int) (putAll M.secs M.queue) = none at hk
      rw [hg j hj] at hk
      unfold lastL
      cases hc : (lt j).getLast? with
      | some c => rw [hc] at hk; cases hk
      | none => rw [hc] at hk; exact h.fresh j hj hk
  unfold syncM
  rw [hd]
  simp only [Bool.false_eq_true, if_false]
  unfold actM
  by_cases h1 : 0 < M.armed
  · rw [if_pos h1]
    by_cases h2 : M.armed = 1
    · rw [if_pos h2]
      simp only [ne_eq, show ¬ ((10 : Int) = 0) from by omega, not_false_eq_true, if_true, offM, hd, Bool.false_eq_true, if_false]
      exact ⟨fun _ => h.more (by rfl) (by rfl) (by exact h.queue) (fun e => by cases e) (by exact hl) h.llen (by simp only; omega) (by simp) (by simp only; omega) (fun e => by cases e), fun e => by simp at e⟩
    · rw [if_neg h2]
      simp only [ne_eq, not_true_eq_false, if_false]
      exact ⟨fun e => e.elim, fun _ => key _ _ (by omega) (by omega)⟩
  · rw [if_neg h1]
    simp only [ne_eq, not_true_eq_false, if_false]
    exact ⟨fun e => e.elim, fun _ => key _ _ (by omega) (by omega)⟩
/-- What a sector can be behind a loss of power. -/
def Fin6 (sf : Nat → UInt8) (lt : Nat → List UInt8) (j : Nat) (r : ByteArray × Int) : Prop :=
  (r = (fillB (sf j), 0)) ∨ (∃ c ∈ lt j, r = (fillB c, 0)) ∨ (lt j ≠ [] ∧ r = (⟨#[]⟩, 20))
theorem fateTo_fin {lt : Nat → List UInt8} {q D : List (Int × ByteArray)} (f : Nat → Int) (hq : ∀ x ∈ q, ∃ j : Nat, j < 40 ∧ x.1 = (j : Int) ∧ ∃ c ∈ lt j, x.2 = fillB c) (j : Nat) :
    ∀ k, getL (j : Int) (fateTo f q D k) = getL (j : Int) D ∨ (∃ c ∈ lt j, getL (j : Int) (fateTo f q D k) = some (fillB c)) ∨ (lt j ≠ [] ∧ getL (j : Int) (fateTo f q D k) = some ⟨#[]⟩) := by
  intro k
  induction k with
  | zero => exact .inl rfl
  | succ k ih =>
    unfold fateTo
    cases hx : q[k]? with
    | none => exact ih
    | some x =>
      obtain ⟨j', hj', e, c, hc, e2⟩ := hq x (List.mem_of_getElem? hx)
      simp only
      unfold stepF
      by_cases h1 : f k = 1
      · rw [if_pos h1, getL_putL]
        by_cases h2 : (j : Int) = x.1
        · rw [if_pos h2]
          have : j' = j := by omega
          subst this
          exact .inr (.inl ⟨c, hc, by rw [e2]⟩)
        · rw [if_neg h2]; exact ih
      · rw [if_neg h1]
        by_cases h2 : f k = 2
        · rw [if_pos h2, getL_putL]
          by_cases h3 : (j : Int) = x.1
          · rw [if_pos h3]
            have : j' = j := by omega
            subst this
            exact .inr (.inr ⟨fun e => (by rw [e] at hc; cases hc), rfl⟩)
          · rw [if_neg h3]; exact ih
        · rw [if_neg h2]; exact ih
theorem zeros_fill : zeros256 = fillB 0 := rfl
theorem KInv.read {M : PM} {sf : Nat → UInt8} {lt : Nat → List UInt8} {n : Nat} (h : KInv M sf lt n) (f : Nat → Int) (a r l : Int) (j : Nat) (hj : j < 40) :
    Fin6 sf lt j (readM { M with down := false, acts := a, armed := r, life := l, secs := fateTo f M.queue M.secs M.queue.length, queue := [] } (j : Int)) := by
  rw [readM_up rfl (by omega) (by simp only; rw [h.count]; omega)]
  simp only [lastM_nil]
  unfold Fin6
  rcases fateTo_fin (lt := lt) f h.queue j (D := M.secs) M.queue.length with e | ⟨c, hc, e⟩ | ⟨hl, e⟩
  · rw [e]
    cases hg : getL (j : Int) M.secs with
    | none =>
      left
      simp only
      rw [h.fresh j hj hg]; rfl
    | some s =>
      obtain ⟨j', _, e2, e3⟩ := h.secs _ _ hg
      have : j' = j := by omega
      subst this
      left
      simp only
      rw [e3, if_neg (by rw [fillB_size]; decide)]
  · rw [e]
    right; left
    refine ⟨c, hc, ?_⟩
    simp only
    rw [if_neg (by rw [fillB_size]; decide)]
  · rw [e]
    right; right
    exact ⟨hl, rfl⟩
end Go.Proofs.Ytjkpghhbpcjjiaa
