/- A store is opened: Open walked. Conditions: none. -/
import Derived.Test.YtgocmnejlbfplaaDoorTw10
namespace Go.Proofs.YtgocmnejlbfplaaDoor
open Go Go.MapKept Go.RowKit Go.Proofs

attribute [local go_sem] Oper.semAt_some

/-- So many pages are read: the error, whether all are whole, the store, the plate. -/
def loads (S : TS) (M : PM) : Nat → Int × Bool × TS × PM
  | 0 => (0, true, S, M)
  | n + 1 => if (loads S M n).1 ≠ 0 then loads S M n else ((loadP (loads S M n).2.2.1 (loads S M n).2.2.2 n).1, (loads S M n).2.1 && (loadP (loads S M n).2.2.1 (loads S M n).2.2.2 n).2.1, (loadP (loads S M n).2.2.1 (loads S M n).2.2.2 n).2.2)
theorem loads_err {S : TS} {M : PM} {k : Nat} (h : (loads S M k).1 ≠ 0) : ∀ m, k ≤ m → loads S M m = loads S M k := by
  intro m
  induction m with
  | zero => intro hm; rw [show k = 0 from by omega]
  | succ m ih =>
    intro hm
    by_cases e : k = m + 1
    · rw [e]
    · have := ih (by omega)
      show (if (loads S M m).1 ≠ 0 then loads S M m else _) = _
      rw [this, if_pos h]
theorem loadP_keep (S : TS) (M : PM) (n : Nat) : (loadP S M n).2.2.1.frm = S.frm ∧ (loadP S M n).2.2.1.twins = S.twins ∧ (loadP S M n).2.2.1.life = S.life ∧ (loadP S M n).2.2.1.pages.length ≤ S.pages.length + 1 ∧ ((loadP S M n).1 = 0 → (loadP S M n).2.2.1.pages.length = S.pages.length + 1) := by
  unfold loadP
  split
  · split <;> simp [TS.push]
  · split
    · simp [TS.push]
    · split
      · rename_i h
        exact ⟨rfl, rfl, rfl, by simp, fun e => absurd e h⟩
      · simp [TS.push, TS.die]
theorem loadP_ok {b : Nat} {S : TS} {M : PM} {n : Nat} (h : PlOk b M) (hb : b + 1 ≤ 100000) : PlOk (b + 1) (loadP S M n).2.2.2 := by
  unfold loadP
  split
  · split <;> exact h.mono (by omega) hb
  · split
    · exact h.mono (by omega) hb
    · rename_i p hp
      have := h.write hb (S.frm + S.twins + (n : Int)) (secM n p) (secM_size (copiedN_good hp))
      split <;> exact this
theorem loads_keep (S : TS) (M : PM) : ∀ n, (loads S M n).2.2.1.frm = S.frm ∧ (loads S M n).2.2.1.twins = S.twins ∧ (loads S M n).2.2.1.life = S.life ∧ (loads S M n).2.2.1.pages.length ≤ S.pages.length + n ∧ ((loads S M n).1 = 0 → (loads S M n).2.2.1.pages.length = S.pages.length + n) := by
  intro n
  induction n with
  | zero => simp [loads]
  | succ n ih =>
    obtain ⟨h1, h2, h3, h4, h5⟩ := ih
    by_cases h : (loads S M n).1 ≠ 0
    · have e : loads S M (n + 1) = loads S M n := by show (if _ then _ else _) = _; rw [if_pos h]
      rw [e]
      exact ⟨h1, h2, h3, by omega, fun e => absurd e h⟩
    · have e : loads S M (n + 1) = ((loadP (loads S M n).2.2.1 (loads S M n).2.2.2 n).1, (loads S M n).2.1 && (loadP (loads S M n).2.2.1 (loads S M n).2.2.2 n).2.1, (loadP (loads S M n).2.2.1 (loads S M n).2.2.2 n).2.2) := by show (if _ then _ else _) = _; rw [if_neg h]
      rw [e]
      obtain ⟨g1, g2, g3, g4, g5⟩ := loadP_keep (loads S M n).2.2.1 (loads S M n).2.2.2 n
      have h5' := h5 (by simpa using h)
      exact ⟨g1.trans h1, g2.trans h2, g3.trans h3, by simp only; omega, fun e => by have := g5 e; simp only; omega⟩
theorem loads_ok {b : Nat} {S : TS} {M : PM} (h : PlOk b M) : ∀ n, b + n ≤ 100000 → PlOk (b + n) (loads S M n).2.2.2 := by
  intro n
  induction n with
  | zero => intro _; exact h
  | succ n ih =>
    intro hb
    have h1 := ih (by omega)
    show PlOk (b + (n + 1)) (if _ then _ else _ : Int × Bool × TS × PM).2.2.2
    split
    · exact h1.mono (by omega) hb
    · exact loadP_ok h1 (by omega)
/-- What Open comes to: the store, the error, the plate. -/
def openP (M : PM) (frm twins pages : Int) : Option TS × Int × PM :=
  if frm < 0 ∨ twins < 1 ∨ 64 < twins ∨ pages < 1 ∨ 1024 < pages ∨ M.count - twins - pages < frm then (none, 1, M)
  else if M.down = true then (none, 10, M)
  else if (loads ⟨frm, twins, [], M.life, false⟩ M pages.toNat).1 ≠ 0 then (none, (loads ⟨frm, twins, [], M.life, false⟩ M pages.toNat).1, (loads ⟨frm, twins, [], M.life, false⟩ M pages.toNat).2.2.2)
  else if (loads ⟨frm, twins, [], M.life, false⟩ M pages.toNat).2.2.1.dead = true ∧ (syncM (loads ⟨frm, twins, [], M.life, false⟩ M pages.toNat).2.2.2).1 ≠ 0 then (none, (syncM (loads ⟨frm, twins, [], M.life, false⟩ M pages.toNat).2.2.2).1, (syncM (loads ⟨frm, twins, [], M.life, false⟩ M pages.toNat).2.2.2).2)
  else (if (loads ⟨frm, twins, [], M.life, false⟩ M pages.toNat).2.1 = true then some ((loads ⟨frm, twins, [], M.life, false⟩ M pages.toNat).2.2.1.die false) else none, (if (loads ⟨frm, twins, [], M.life, false⟩ M pages.toNat).2.1 = true then 0 else 4),
    if (loads ⟨frm, twins, [], M.life, false⟩ M pages.toNat).2.2.1.dead = true then (syncM (loads ⟨frm, twins, [], M.life, false⟩ M pages.toNat).2.2.2).2 else (loads ⟨frm, twins, [], M.life, false⟩ M pages.toNat).2.2.2)
def OpRet (r : Option TS × Int × PM) (pb : Nat) (F : Heaplet) (e : Ending) (w' : World) : Prop := match r.1 with
  | some S => ∃ tb, e = .returned (.tuple #[.pointer (some ⟨tb, 0, none⟩), .int .i64 r.2.1]) ∧ StIs tb pb S r.2.2 F w'
  | none => e = .returned (.tuple #[.pointer none, .int .i64 r.2.1]) ∧ PlateIs pb r.2.2 F w'
theorem PlateIs.sub {b : Nat} {M : PM} {F F' : Heaplet} {w : World} (h : PlateIs b M F w) (hc : ∀ a, cnt a F' ≤ cnt a F) : PlateIs b M F' w := by
  obtain ⟨m, es, clk, qv, qh, h1, h2, hs⟩ := h
  refine ⟨m, es, clk, qv, qh, h1, h2, hs.part (fun a => ?_)⟩
  have := hc a
  simp only [cnt_cons, cnt_append]
  omega
theorem StIs.toPlate {tb pb : Nat} {S : TS} {M : PM} {G : Heaplet} {w : World} (h : StIs tb pb S M G w) : PlateIs pb M G w := by
  obtain ⟨pv, R, h', K, h1, h2, hp⟩ := h
  exact hp.sub (fun a => by simp only [cnt_cons, cnt_append]; omega)
theorem StIs.sync {tb pb : Nat} {S : TS} {M : PM} {G : Heaplet} {w : World} (h : StIs tb pb S M G w) {bd : Nat} (hk : PlOk bd M) : Calls Tryd.prog 23 #[.pointer (some ⟨pb, 0, none⟩)] w (Ret (.int .i64 (syncM M).1) (StIs tb pb S (syncM M).2 G)) := by
  obtain ⟨pv, R, h', K, h1, h2, hp⟩ := h
  obtain ⟨_, _, k1⟩ := hk
  refine (sync_any pb M _ w hp (by omega) (by omega) (by omega) (by omega) (by omega)).mono ?_
  rintro e w' ⟨rfl, hp'⟩
  exact ⟨rfl, pv, R, h', K, h1, h2, hp'⟩
theorem open_nil (frm twins pages : Int) (w : World) : Calls Tryd.prog 8 #[.pointer none, .int .i64 frm, .int .i64 twins, .int .i64 pages] w (Ret (.tuple #[.pointer none, .int .i64 2]) (Same w)) := by
  go_enter Tryd.func8, Tryd.ntmps8
  go_wp2
  go_ret2
  exact ⟨rfl, rfl⟩
end Go.Proofs.YtgocmnejlbfplaaDoor
