/- A page of a store is read off its plate: load walked. Conditions: none. -/
import Derived.Test.YtgocmnejlbfplaaDoorTw7
import Derived.Test.YtgocmnejlbfplaaDoorLater
namespace Go.Proofs.YtgocmnejlbfplaaDoor
open Go Go.MapKept Go.RowKit Go.Proofs

attribute [local go_sem] Oper.semAt_some

/-- All bytes are nought. -/
def zeroB (s : ByteArray) : Bool := s.data.toList.all (· == 0)
theorem dropWhile_nil {l : List UInt8} : l.dropWhile (· == 0) = [] ↔ l.all (· == 0) = true := by
  induction l with
  | nil => simp
  | cons b l ih =>
    by_cases h : b = 0
    · subst h; simpa using ih
    · simp [List.dropWhile_cons, h]
theorem dropWhile_head {b : UInt8} {r : List UInt8} : ∀ {l : List UInt8}, l.dropWhile (· == 0) = b :: r → b ≠ 0
  | [], h => by simp at h
  | c :: l, h => by
    by_cases hc : c = 0
    · subst hc
      exact dropWhile_head (l := l) (by simpa using h)
    · simp only [List.dropWhile_cons, beq_iff_eq, hc, if_false, List.cons.injEq] at h
      rw [← h.1]; exact hc
theorem trim_zero (s : ByteArray) : (((⟨(Lib.trimB s.data.toList 0).toArray⟩ : ByteArray).toList == []) : Bool) = zeroB s := by
  rw [ba_nil]
  have e : ((⟨(Lib.trimB s.data.toList 0).toArray⟩ : ByteArray).size = 0) ↔ Lib.trimB s.data.toList 0 = [] := by
    show (Lib.trimB s.data.toList 0).toArray.size = 0 ↔ _
    rw [List.size_toArray, List.length_eq_zero_iff]
  unfold zeroB
  by_cases h : s.data.toList.all (· == 0) = true
  · rw [h]
    refine decide_eq_true (e.2 ?_)
    unfold Lib.trimB Lib.trimRightB
    have h1 : (s.data.toList.reverse).dropWhile (· == 0) = [] := dropWhile_nil.2 (by rw [List.all_reverse]; exact h)
    rw [h1]; rfl
  · rw [Bool.not_eq_true] at h
    rw [h]
    refine decide_eq_false (fun h2 => ?_)
    have h3 := e.1 h2
    unfold Lib.trimB Lib.trimLeftB at h3
    have h4 := dropWhile_nil.1 h3
    unfold Lib.trimRightB at h4
    rw [List.all_reverse] at h4
    cases hq : (s.data.toList.reverse).dropWhile (· == 0) with
    | nil =>
      have := dropWhile_nil.1 hq
      rw [List.all_reverse, h] at this
      cases this
    | cons b r =>
      rw [hq] at h4
      simp only [List.all_cons, Bool.and_eq_true, beq_iff_eq] at h4
      exact dropWhile_head hq h4.1
theorem PlOk.mono {b b' : Nat} {M : PM} (h : PlOk b M) (hb : b ≤ b') (h2 : b' ≤ 100000) : PlOk b' M := by
  obtain ⟨h1, h3, h4⟩ := h
  exact ⟨h1, h3, by omega⟩
theorem PlOk.off {b : Nat} {M : PM} (h : PlOk b M) (hb : b + 1 ≤ 100000) : PlOk (b + 1) (offM M) := by
  obtain ⟨h1, h3, h4⟩ := h
  unfold offM
  split
  · exact ⟨h1, h3, by omega⟩
  · exact ⟨h1, h3, by simp only; omega⟩
theorem PlOk.act {b : Nat} {M : PM} (h : PlOk b M) (hb : b + 1 ≤ 100000) : PlOk (b + 1) (actM M).2 := by
  obtain ⟨h1, h3, h4⟩ := h
  unfold actM
  split
  · split
    · unfold offM
      split
      · exact ⟨h1, h3, by simp only; omega⟩
      · exact ⟨h1, h3, by simp only; omega⟩
    · exact ⟨h1, h3, by simp only; omega⟩
  · exact ⟨h1, h3, by simp only; omega⟩
theorem PlOk.write {b : Nat} {M : PM} (h : PlOk b M) (hb : b + 1 ≤ 100000) (n : Int) (s : ByteArray) (hs : s.size = 256) : PlOk (b + 1) (writeM M n s).2 := by
  unfold writeM
  split
  · exact h.mono (by omega) hb
  · rw [if_neg (by omega)]
    obtain ⟨h1, h3, h4⟩ := h
    have key : ∀ (M' : PM), M'.secs = M.secs → M'.queue = M.queue ++ [(n, s)] → M'.count = M.count → M'.life = M.life → M'.acts = M.acts → M'.armed = M.armed → PlOk (b + 1) (actM M').2 := by
      intro M' e1 e2 e3 e4 e5 e6
      have hq : ∀ x ∈ M'.queue, x.2.size = 256 := by
        rw [e2]
        intro x hx
        rcases List.mem_append.1 hx with hx | hx
        · exact h3 x hx
        · rw [List.mem_singleton.1 hx]; exact hs
      have hl : M'.queue.length = M.queue.length + 1 := by rw [e2]; simp
      unfold actM
      split
      · split
        · unfold offM
          split
          · exact ⟨by rw [e1]; exact h1, hq, by simp only; omega⟩
          · exact ⟨by simp only; rw [e1]; exact h1, hq, by simp only; omega⟩
        · exact ⟨by simp only; rw [e1]; exact h1, hq, by simp only; omega⟩
      · exact ⟨by simp only; rw [e1]; exact h1, hq, by simp only; omega⟩
    exact key (pushM M n s) rfl rfl rfl rfl rfl rfl
theorem putL_mem {k : Int} {v : ByteArray} {x : Int × ByteArray} : ∀ {D : List (Int × ByteArray)}, x ∈ putL k v D → x = (k, v) ∨ x ∈ D
  | [], h => .inl (by simpa [putL] using h)
  | p :: r, h => by
    simp only [putL] at h
    split at h
    · rcases List.mem_cons.1 h with h | h
      · exact .inl h
      · exact .inr (.tail _ h)
    · rcases List.mem_cons.1 h with h | h
      · exact .inr (by rw [h]; exact .head _)
      · rcases putL_mem h with h | h
        · exact .inl h
        · exact .inr (.tail _ h)
theorem putAll_mem {x : Int × ByteArray} : ∀ {q D : List (Int × ByteArray)}, x ∈ putAll D q → x ∈ q ∨ x ∈ D
  | [], _, h => .inr h
  | y :: q, D, h => by
    have h' : x ∈ putAll (putL y.1 y.2 D) q := h
    rcases putAll_mem h' with h | h
    · exact .inl (.tail _ h)
    · rcases putL_mem h with h | h
      · exact .inl (by rw [h]; exact .head _)
      · exact .inr h
theorem PlOk.sync {b : Nat} {M : PM} (h : PlOk b M) (hb : b + 1 ≤ 100000) : PlOk (b + 1) (syncM M).2 := by
  unfold syncM
  split
  · exact h.mono (by omega) hb
  · split
    · exact h.act hb
    · obtain ⟨h1, h3, h4⟩ := h.act hb
      refine ⟨fun x hx => ?_, fun x hx => by simp at hx, by simp only [List.length_nil]; omega⟩
      rcases putAll_mem hx with hx | hx
      · exact .inr (h.2.1 x hx)
      · exact h.1 x hx
end Go.Proofs.YtgocmnejlbfplaaDoor
