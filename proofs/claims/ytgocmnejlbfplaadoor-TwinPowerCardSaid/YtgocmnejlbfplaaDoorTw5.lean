/- A store of pages as it lies; whether it is ready, where a page stands. Conditions: none. -/
import Derived.Test.YtgocmnejlbfplaaDoorTw4
import Derived.Test.YtgocmnejlbfplaaDoorPlate8
import Derived.Test.YtgocmnejlbfplaaDoorSlCl
namespace Go.Proofs.YtgocmnejlbfplaaDoor
open Go Go.MapKept Go.RowKit Go.Proofs

attribute [local go_sem] Oper.semAt_some

/-- The store, in plain data. -/
structure TS where
  frm : Int
  twins : Int
  pages : List Pg
  life : Int
  dead : Bool
abbrev stO (S : TS) (pb : Nat) (pv : Value) : Obj := .cells #[.pointer (some ⟨pb, 0, none⟩), kI S.frm, kI S.twins, pv, kI S.life, .bool S.dead] 66
/-- A page's cells. -/
abbrev Pr := Int × Value
abbrev prC (r : Pr) : List Value := [kI r.1, r.2]
theorem prC_len (r : Pr) : (prC r).length = 2 := rfl
abbrev PrSl (v : Value) (R : List Pr) (h : Heaplet) : Prop := SliceIs 25 2 v R.length (R.flatMap prC) h
/-- The slots of pages lie in K. -/
def PrIs (K : Heaplet) (R : List Pr) (P : List Pg) : Prop := R.length = P.length ∧ ∀ (i : Nat) r p, R[i]? = some r → P[i]? = some p → r.1 = p.lsn ∧ SlAt K r.2 p.slots
/-- A store lies at tb, its plate at pb. -/
def StIs (tb pb : Nat) (S : TS) (M : PM) (G : Heaplet) (w : World) : Prop := ∃ pv R h K, PrSl pv R h ∧ PrIs K R S.pages ∧ PlateIs pb M (.blk tb (stO S pb pv) :: (h ++ (K ++ G))) w
theorem StIs.plate {tb pb : Nat} {S : TS} {M : PM} {G : Heaplet} {w : World} (h : StIs tb pb S M G w) : ∃ H, PlateIs pb M H w := by
  obtain ⟨pv, R, h, K, _, _, hp⟩ := h
  exact ⟨_, hp⟩
theorem StIs.cells {tb pb : Nat} {S : TS} {M : PM} {G : Heaplet} {w : World} (h : StIs tb pb S M G w) : ∃ pv a cap, pv = .slice a S.pages.length cap ∧ w.cell? ⟨tb, 0, none⟩ = some (.pointer (some ⟨pb, 0, none⟩)) ∧ w.cell? ⟨tb, 1, none⟩ = some (kI S.frm) ∧ w.cell? ⟨tb, 2, none⟩ = some (kI S.twins) ∧ w.cell? ⟨tb, 3, none⟩ = some pv ∧
    w.cell? ⟨tb, 4, none⟩ = some (kI S.life) ∧ w.cell? ⟨tb, 5, none⟩ = some (.bool S.dead) ∧ ∀ i, w.frozen? ⟨tb, i, none⟩ = false := by
  obtain ⟨pv, R, h, K, h1, h2, hp⟩ := h
  have hb := hp.frame.h0
  obtain ⟨a, cap, e⟩ := sl_form h1
  refine ⟨pv, a, cap, by rw [e, h2.1], ?_, ?_, ?_, ?_, ?_, ?_, fun i => unfrozen_of hb i⟩ <;> (rw [cell_of hb]; rfl)
theorem StIs.below {tb pb : Nat} {S : TS} {M : PM} {G : Heaplet} {w w' : World} (h : StIs tb pb S M G w) (hb : Below w.heap.size w w') : StIs tb pb S M G w' := by
  obtain ⟨pv, R, h, K, h1, h2, hp⟩ := h
  exact ⟨pv, R, h, K, h1, h2, hp.mono hb⟩
theorem below_drewN (w : World) : ∀ n, Below w.heap.size w (w.drewN n) := fun n => (Grown.drewN w n).below
theorem StIs.frame {tb pb : Nat} {S : TS} {M : PM} {G : Heaplet} {w : World} (h : StIs tb pb S M G w) : Sat w G := by
  obtain ⟨pv, R, h, K, h1, h2, hp⟩ := h
  exact hp.frame.tail.right.right
/-- Whether anything can be done. -/
def rdyT (S : TS) (M : PM) : Int := if (S.dead || M.down || decide (M.life ≠ S.life)) = true then 10 else 0
/-- It tells, and draws at most. -/
def Qt (v : Value) (w : World) (e : Ending) (w' : World) : Prop := e = .returned v ∧ ∃ m, w' = w.drewN m
theorem trdy_nil (w : World) : Calls Tryd.prog 24 #[.pointer none] w (Ret (.int .i64 2) (Same w)) := by
  go_enter Tryd.func24, Tryd.ntmps24
  go_wp2
  go_ret
  exact ⟨rfl, rfl⟩
set_option maxRecDepth 100000 in
theorem trdy_any {tb pb : Nat} {S : TS} {M : PM} {G : Heaplet} {w : World} (h : StIs tb pb S M G w) :
    Calls Tryd.prog 24 #[.pointer (some ⟨tb, 0, none⟩)] w (Qt (.int .i64 (rdyT S M)) w) := by
  obtain ⟨H, hp⟩ := h.plate
  have HDN : Hid (∀ k, Calls Tryd.prog 20 #[.pointer (some ⟨pb, 0, none⟩)] (w.drewN k) (fun e w' => e = .returned (.bool M.down) ∧ w' = w.drewN k)) := Lib.hid (fun k => (down_any pb M H _ (hp.mono (below_drewN w k))).mono (fun e w' ⟨h1, h2⟩ => ⟨h1, h2.symm⟩))
  have HLF : Hid (∀ k, Calls Tryd.prog 21 #[.pointer (some ⟨pb, 0, none⟩)] (w.drewN k) (fun e w' => e = .returned (.int .i64 M.life) ∧ w' = w.drewN k)) := Lib.hid (fun k => (life_any pb M H _ (hp.mono (below_drewN w k))).mono (fun e w' ⟨h1, h2⟩ => ⟨h1, h2.symm⟩))
  obtain ⟨pv, a, cap, rfl, c0, c1, c2, c3, c4, c5, _⟩ := h.cells
  unfold Qt
  obtain ⟨rv, hrv⟩ : ∃ rv, rdyT S M = rv := ⟨_, rfl⟩
  rw [hrv]
  have HRV := Lib.hid hrv
  clear h hp hrv
  obtain ⟨frm, twins, pages, life, dead⟩ := S
  obtain ⟨cnt, secs, queue, down, acts, armed, mlife⟩ := M
  simp only at *
  go_enter Tryd.func24, Tryd.ntmps24
  go_upto_region 3 with (fail)
  cases dead with
  | true =>
    go_quiet (first | (go_at_call 20; exact Calls.quiet_of_same (HDN.out _)) | (trace_state; fail))
    go_wp2_with fail
    go_ret
    exact ⟨by rw [← HRV.out]; simp [rdyT], _, rfl⟩
  | false =>
    cases down with
    | true =>
      go_quiet (first | (go_at_call 20; exact Calls.quiet_of_same (HDN.out _)))
      go_wp2_with fail
      go_ret
      exact ⟨by rw [← HRV.out]; simp [rdyT], _, rfl⟩
    | false =>
      have hd : (mlife != life) = decide (mlife ≠ life) := by by_cases h : mlife = life <;> simp [h]
      by_cases hl : mlife = life
      · subst hl
        go_quiet (first | (go_at_call 20; exact Calls.quiet_of_same (HDN.out _)) | (go_at_call 21; exact Calls.quiet_of_same (HLF.out _)))
        go_wp2_with fail
        go_ret
        exact ⟨by rw [← HRV.out]; simp [rdyT], _, rfl⟩
      · have h2 : (mlife == life) = false := by rw [beq_eq_false_iff_ne]; exact hl
        have h3 : (mlife != life) = true := by rw [bne, h2]; rfl
        go_quiet (first | (go_at_call 20; exact Calls.quiet_of_same (HDN.out _)) | (go_at_call 21; exact Calls.quiet_of_same (HLF.out _)))
        go_wp2_with fail
        go_ret
        exact ⟨by rw [← HRV.out]; simp [rdyT, hl], _, rfl⟩
set_option maxRecDepth 100000 in
theorem home_any {tb pb : Nat} {S : TS} {M : PM} {G : Heaplet} {w : World} (h : StIs tb pb S M G w) (n : Int) (hb : 0 ≤ S.frm ∧ S.frm ≤ 1000000 ∧ 0 ≤ S.twins ∧ S.twins ≤ 1000000 ∧ 0 ≤ n ∧ n ≤ 1000000) :
    Calls Tryd.prog 29 #[.pointer (some ⟨tb, 0, none⟩), .int .i64 n] w (Qt (.int .i64 (S.frm + S.twins + n)) w) := by
  obtain ⟨pv, a, cap, rfl, c0, c1, c2, c3, c4, c5, _⟩ := h.cells
  unfold Qt
  clear h
  obtain ⟨frm, twins, pages, life, dead⟩ := S
  simp only at *
  obtain ⟨b0, b1, b2, b3, b4, b5⟩ := hb
  have hw1 : IntKind.i64.wrap (frm + twins) = frm + twins := IntWalk.i64_in _ (by omega)
  have hw2 : IntKind.i64.wrap (frm + twins + n) = frm + twins + n := IntWalk.i64_in _ (by omega)
  go_enter Tryd.func29, Tryd.ntmps29
  go_upto_region 1 with (fail)
  go_quiet (fail)
  go_wp2_with fail
  go_ret
  exact ⟨rfl, _, rfl⟩
end Go.Proofs.YtgocmnejlbfplaaDoor
