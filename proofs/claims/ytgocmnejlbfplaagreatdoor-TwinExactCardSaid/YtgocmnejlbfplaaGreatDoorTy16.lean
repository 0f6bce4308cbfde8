/- Texts put together: SlA, SlCl, Tw5, Tx5. Conditions: none. -/
import Derived.Lib.SliceRun
import Derived.Deep.QuietTactic
import Derived.BigQuiet
import Derived.Test.YtgocmnejlbfplaaGreatDoorTy4
import Derived.Test.YtgocmnejlbfplaaGreatDoorTy7
import Derived.Test.YtgocmnejlbfplaaGreatDoorTy10
import Derived.Test.YtgocmnejlbfplaaGreatDoorTy14
import Derived.Test.YtgocmnejlbfplaaGreatDoorTy15
namespace Go.Proofs.YtgocmnejlbfplaaGreatDoor
open Go Go.MapKept Go.RowKit Go.Proofs

section
variable {α : Type} {fl : α → List Value} {T t : TypeId} {sz n : Nat} {v : Value} {R : List α} {h F : Heaplet} {w : World} {P : Program}
theorem run_append_zero {i : TypeInfo} (ht : P.underlying t = some (.slice T)) (hi : P.info? T = some i) (a p : Option Addr) (n cap c : Nat) (hn : n ≤ cap) (ty : TypeId) :
    (Builtin.append_ #[t, t] ty #[.slice a n cap, .slice p 0 c]).run P w = .ok (.slice a n cap) w := by
  cases p with
  | none =>
    cases a with
    | none => simp [Builtin.append_, run_underlying ht, sizeOf, typeInfo, hi, Builtin.lenOf, hn, Builtin.firstCells]
    | some a => simp [Builtin.append_, run_underlying ht, sizeOf, typeInfo, hi, Builtin.lenOf, hn, Builtin.firstCells, storeCells]
  | some p =>
    have hf := run_firstCells_some (P := P) w i.size 0 p 0 c [] (by simp) (by simp)
    cases a with
    | none => simp [Builtin.append_, run_underlying ht, sizeOf, typeInfo, hi, Builtin.lenOf, hn, hf]
    | some a => simp [Builtin.append_, run_underlying ht, sizeOf, typeInfo, hi, Builtin.lenOf, hn, hf, storeCells]
theorem fm_inv (hfl : ∀ q, (fl q).length = sz) (hsz : 0 < sz) {j : Nat} {u : Value} (hu : (R.flatMap fl)[j]? = some u) : ∃ q, R[j / sz]? = some q ∧ (fl q)[j % sz]? = some u := by
  have hlt := (List.getElem?_eq_some_iff.1 hu).1
  rw [fm_len hfl] at hlt
  have hi : j / sz < R.length := Nat.div_lt_of_lt_mul (by rw [Nat.mul_comm]; exact hlt)
  refine ⟨R[j / sz], List.getElem?_eq_getElem hi, ?_⟩
  have hf : j % sz < (fl R[j / sz]).length := by rw [hfl]; exact Nat.mod_lt _ hsz
  have := fm_get hfl R (j / sz) (j % sz) _ _ (List.getElem?_eq_getElem hi) (List.getElem?_eq_getElem hf)
  rw [Nat.mul_comm, Nat.div_add_mod, hu] at this
  rw [List.getElem?_eq_getElem hf, this]
/-- Where the elements of what is appended lie. -/
def SrcAt (fl : α → List Value) (sz : Nat) (w : World) (a : Option Addr) (R : List α) : Prop :=
  ∀ i q, R[i]? = some q → ∃ g off, a = some ⟨g, off, none⟩ ∧ ∀ j u, (fl q)[j]? = some u → w.cell? ⟨g, off + i * sz + j, none⟩ = some u
theorem sl_app {i : TypeInfo} {z : Value} {bytes : Nat} (hfl : ∀ q, (fl q).length = sz) (ht : P.underlying t = some (.slice T)) (hi : P.info? T = some i) (hz : i.zero = some z) (hsize : i.size = sz) (hby : i.bytes = bytes) (hzs : z.cells.size = sz) (hsz : 0 < sz)
    (hv : SliceIs T sz v R.length (R.flatMap fl) h) (s : Sat w (h ++ F)) {a : Option Addr} {c : Nat} {R2 : List α} (hs : SrcAt fl sz w a R2) (h1 : ∀ q, ∀ u ∈ fl q, u.oneCell' = true) (h63 : R.length + R2.length ≤ maxLen) (hbytes : (R.length + R2.length) * bytes ≤ 140737488355328) :
    ∃ v' w' h', (∀ ty, (Builtin.append_ #[t, t] ty #[v, .slice a R2.length c]).run P w = .ok v' w') ∧ SliceIs T sz v' (R ++ R2).length ((R ++ R2).flatMap fl) h' ∧ Sat w' (h' ++ F) := by
  by_cases h0 : R2 = []
  · subst h0
    obtain ⟨va, vc, rfl⟩ := sl_form hv
    have hn : R.length ≤ vc := by
      rcases hv.2 with ⟨e2, e3, _⟩ | ⟨g', cap', cur, e2, hnc, _⟩
      · omega
      · simp only [Value.slice.injEq] at e2
        omega
    refine ⟨_, w, h, fun ty => run_append_zero ht hi va a R.length vc c hn ty, ?_, s⟩
    simpa using hv
  · have hpos : 0 < R2.length := List.length_pos_iff.2 h0
    obtain ⟨q0, hq0⟩ : ∃ q, R2[0]? = some q := ⟨_, List.getElem?_eq_getElem hpos⟩
    obtain ⟨g, off, rfl, _⟩ := hs 0 q0 hq0
    have hnews : ∀ j u, (R2.flatMap fl)[j]? = some u → w.cell? ((⟨g, off, none⟩ : Addr).add j) = some u := by
      intro j u hu
      obtain ⟨q, hq, hqu⟩ := fm_inv hfl hsz hu
      obtain ⟨g', off', e, hc⟩ := hs _ q hq
      cases e
      have := hc _ u hqu
      have hadd : (⟨g, off, none⟩ : Addr).add j = ⟨g, off + j, none⟩ := by
        unfold Addr.add
        by_cases hz : j = 0
        · simp [hz]
        · simp [hz]
      rw [hadd]
      rw [Nat.add_assoc, Nat.mul_comm, Nat.div_add_mod] at this
      exact this
    obtain ⟨v', w', h', hr, hsl, hsat⟩ := sat_append (P := P) (ty := 0) ht hi hz hsize hby hzs hsz hv s ⟨g, off, none⟩ R2.length c (R2.flatMap fl) (fm_len hfl R2) hnews (fun u hu => by
      obtain ⟨q, _, hq⟩ := List.mem_flatMap.1 hu
      exact h1 q u hq) hpos h63 hbytes
    refine ⟨v', w', h', fun ty => hr, ?_, hsat⟩
    rw [List.length_append, List.flatMap_append]
    exact hsl
end
end Go.Proofs.YtgocmnejlbfplaaGreatDoor
namespace Go.Proofs.YtgocmnejlbfplaaGreatDoor
open Go Go.MapKept Go.RowKit Go.Proofs Go.Sort

theorem SlAt.src {F : Heaplet} {a : Option Addr} {n cap : Nat} {L : List Sl} (h : SlAt F (.slice a n cap) L) {w : World} (s : Sat w F) : SrcAt slC 2 w a L := by
  obtain ⟨a', cap', e, hc⟩ := h
  cases e
  intro i q hq
  obtain ⟨g, off, e, hu⟩ := hc i q hq
  refine ⟨g, off, e, fun j u hu2 => ?_⟩
  obtain ⟨u0, u1⟩ := hu w s
  match j, hu2 with
  | 0, hu2 =>
    have : Value.bool q.1 = u := by simpa [slC] using hu2
    rw [← this]; exact u0
  | 1, hu2 =>
    have : kS q.2 = u := by simpa [slC] using hu2
    rw [← this]; exact u1
  | j + 2, hu2 => simp [slC] at hu2
set_option maxRecDepth 100000 in
theorem clone_sl {v : Value} {L : List Sl} {F : Heaplet} {w : World} (hv : SlAt F v L) (s : Sat w F) (hl : L.length ≤ 1000) :
    Calls Tryz.prog 46 #[v] w fun e w' => ∃ v' h, e = .returned v' ∧ SlOwn v' L h ∧ Sat w' (h ++ F) := by
  have hv0 := hv
  obtain ⟨a, cap, rfl, hc⟩ := hv
  cases a with
  | none =>
    have hL : L = [] := by
      cases L with
      | nil => rfl
      | cons x r =>
        obtain ⟨g, off, e, _⟩ := hc 0 x rfl
        cases e
    subst hL
    have HS := Lib.hid s
    have heq : ∀ w : World, (binOp .eql 46 (.slice none 0 cap) (.slice none 0 0)).run Tryz.prog w = .ok (.bool true) w := fun w => Lib.run_eql_slice_nil w _ _ none 0 cap 0 0 Tryz.underlying46
    clear hv0 hc s
    simp only [List.length_nil]
    go_enter Tryz.func46, Tryz.ntmps46
    go_wp2_with fail
    go_ret
    exact ⟨_, [], rfl, SliceIs.nil _ _, HS.out⟩
  | some ad =>
    have hs1 := s.new (.cells #[] 59)
    have hsrc := (hv0.mono (F' := .blk w.heap.size (.cells #[] 59) :: F) (fun w hw => hw.tail)).src hs1
    obtain ⟨i0, hi, hz, hsize, hby⟩ := info_parts infoSl
    obtain ⟨v', w', h', hap, hv', hs'⟩ := sl_app (P := Tryz.prog) (R := []) (R2 := L) (c := cap) slC_len Tryz.underlying46 hi hz hsize hby rfl (by decide) (sl_new 59 2 w.heap.size) (h := [.blk w.heap.size (.cells #[] 59)]) hs1 hsrc (fun q u hu => one_sl q u hu) (by unfold maxLen; simp; omega) (by simp; omega)
    have HAP := Lib.hid hap
    have heq : ∀ w : World, (binOp .eql 46 (.slice (some ad) L.length cap) (.slice none 0 0)).run Tryz.prog w = .ok (.bool false) w := fun w => Lib.run_eql_slice_nil w _ _ (some ad) L.length cap 0 0 Tryz.underlying46
    have FIN : Hid (SlOwn v' L h' ∧ Sat w' (h' ++ F)) := Lib.hid ⟨hv', hs'⟩
    clear hv0 hc s hs1 hsrc hap hv' hs'
    go_enter Tryz.func46, Tryz.ntmps46
    go_wp2_with (at_builtin; refine wpList_append_run rfl _ _ _ _ rfl _ _ _ _ rfl rfl HAP.out ?_)
    go_ret
    exact ⟨_, h', rfl, FIN.out.1, FIN.out.2⟩
end Go.Proofs.YtgocmnejlbfplaaGreatDoor
namespace Go.Proofs.YtgocmnejlbfplaaGreatDoor
open Go Go.MapKept Go.RowKit Go.Proofs

attribute [local go_sem] Oper.semAt_some

/-- The store, in plain data. -/
structure TS where
  frm : Int
  twins : Int
  pages : List Pg
  life : Int
  dead : Bool
abbrev stO (S : TS) (pb : Nat) (pv : Value) : Obj := .cells #[.pointer (some ⟨pb, 0, none⟩), kI S.frm, kI S.twins, pv, kI S.life, .bool S.dead] 70
/-- A page's cells. -/
abbrev Pr := Int × Value
abbrev prC (r : Pr) : List Value := [kI r.1, r.2]
theorem prC_len (r : Pr) : (prC r).length = 2 := rfl
abbrev PrSl (v : Value) (R : List Pr) (h : Heaplet) : Prop := SliceIs 48 2 v R.length (R.flatMap prC) h
/-- The slots of pages lie in K. -/
def PrIs (K : Heaplet) (R : List Pr) (P : List Pg) : Prop := R.length = P.length ∧ ∀ (i : Nat) r p, R[i]? = some r → P[i]? = some p → r.1 = p.lsn ∧ SlAt K r.2 p.slots
/-- A store lies at tb, its plate at pb. -/
def StIs (tb pb : Nat) (S : TS) (M : PM) (G : Heaplet) (w : World) : Prop := ∃ pv R h K, PrSl pv R h ∧ PrIs K R S.pages ∧ PlateIs pb M (.blk tb (stO S pb pv) :: (h ++ (K ++ G))) w
theorem StIs.plate {tb pb : Nat} {S : TS} {M : PM} {G : Heaplet} {w : World} (h : StIs tb pb S M G w) : ∃ H, PlateIs pb M H w := by
  obtain ⟨pv, R, h, K, _, _, hp⟩ := h
  exact ⟨_, hp⟩
theorem StIs.cells {tb pb : Nat} {S : TS} {M : PM} {G : Heaplet} {w : World} (h : StIs tb pb S M G w) : ∃ pv a cap, pv = .slice a S.pages.length cap ∧ w.cell? ⟨tb, 0, none⟩ = some (.pointer (some ⟨pb, 0, none⟩)) ∧ w.cell? ⟨tb, 1, none⟩ = some (kI S.frm) ∧ w.cell? ⟨tb, 2, none⟩ = some (kI S.twins) ∧ w.cell? ⟨tb, 3, none⟩ = some pv ∧
    w.cell? ⟨tb, 4, none⟩ = some (kI S.life) ∧ w.cell? ⟨tb, 5, none⟩ = some (.bool S.dead) ∧ ∀ i, w.frozen? ⟨tb, i, none⟩ = false := by
  obtain ⟨pv, R, h, K, h1, h2, hp⟩ := h
  have hb := hp.frame.h0
  obtain ⟨a, cap, e⟩ := sl_form h1
  refine ⟨pv, a, cap, by rw [e, h2.1], ?_, ?_, ?_, ?_, ?_, ?_, fun i => unfrozen_of hb i⟩ <;> (rw [cell_of hb]; rfl)
theorem StIs.below {tb pb : Nat} {S : TS} {M : PM} {G : Heaplet} {w w' : World} (h : StIs tb pb S M G w) (hb : Below w.heap.size w w') : StIs tb pb S M G w' := by
  obtain ⟨pv, R, h, K, h1, h2, hp⟩ := h
  exact ⟨pv, R, h, K, h1, h2, hp.mono hb⟩
theorem below_drewN (w : World) : ∀ n, Below w.heap.size w (w.drewN n) := fun n => (Grown.drewN w n).below
theorem StIs.frame {tb pb : Nat} {S : TS} {M : PM} {G : Heaplet} {w : World} (h : StIs tb pb S M G w) : Sat w G := by
  obtain ⟨pv, R, h, K, h1, h2, hp⟩ := h
  exact hp.frame.tail.right.right
/-- Whether anything can be done. -/
def rdyT (S : TS) (M : PM) : Int := if (S.dead || M.down || decide (M.life ≠ S.life)) = true then 10 else 0
/-- It tells, and draws at most. -/
def Qt (v : Value) (w : World) (e : Ending) (w' : World) : Prop := e = .returned v ∧ ∃ m, w' = w.drewN m
theorem trdy_nil (w : World) : Calls Tryz.prog 40 #[.pointer none] w (Ret (.int .i64 2) (Same w)) := by
  go_enter Tryz.func40, Tryz.ntmps40
  go_wp2
  go_ret
  exact ⟨rfl, rfl⟩
set_option maxRecDepth 100000 in
theorem trdy_any {tb pb : Nat} {S : TS} {M : PM} {G : Heaplet} {w : World} (h : StIs tb pb S M G w) :
    Calls Tryz.prog 40 #[.pointer (some ⟨tb, 0, none⟩)] w (Qt (.int .i64 (rdyT S M)) w) := by
  obtain ⟨H, hp⟩ := h.plate
  have HDN : Hid (∀ k, Calls Tryz.prog 29 #[.pointer (some ⟨pb, 0, none⟩)] (w.drewN k) (fun e w' => e = .returned (.bool M.down) ∧ w' = w.drewN k)) := Lib.hid (fun k => (down_any pb M H _ (hp.mono (below_drewN w k))).mono (fun e w' ⟨h1, h2⟩ => ⟨h1, h2.symm⟩))
  have HLF : Hid (∀ k, Calls Tryz.prog 30 #[.pointer (some ⟨pb, 0, none⟩)] (w.drewN k) (fun e w' => e = .returned (.int .i64 M.life) ∧ w' = w.drewN k)) := Lib.hid (fun k => (life_any pb M H _ (hp.mono (below_drewN w k))).mono (fun e w' ⟨h1, h2⟩ => ⟨h1, h2.symm⟩))
  obtain ⟨pv, a, cap, rfl, c0, c1, c2, c3, c4, c5, _⟩ := h.cells
  unfold Qt
  obtain ⟨rv, hrv⟩ : ∃ rv, rdyT S M = rv := ⟨_, rfl⟩
  rw [hrv]
  have HRV := Lib.hid hrv
  clear h hp hrv
  obtain ⟨frm, twins, pages, life, dead⟩ := S
  obtain ⟨cnt, secs, queue, down, acts, armed, mlife⟩ := M
  simp only at *
  go_enter Tryz.func40, Tryz.ntmps40
  go_upto_region 3 with (fail)
  cases dead with
  | true =>
    go_quiet (first | (go_at_call 29; exact Calls.quiet_of_same (HDN.out _)) | (trace_state; fail))
    go_wp2_with fail
    go_ret
    exact ⟨by rw [← HRV.out]; simp [rdyT], _, rfl⟩
  | false =>
    cases down with
    | true =>
      go_quiet (first | (go_at_call 29; exact Calls.quiet_of_same (HDN.out _)))
      go_wp2_with fail
      go_ret
      exact ⟨by rw [← HRV.out]; simp [rdyT], _, rfl⟩
    | false =>
      have hd : (mlife != life) = decide (mlife ≠ life) := by by_cases h : mlife = life <;> simp [h]
      by_cases hl : mlife = life
      · subst hl
        go_quiet (first | (go_at_call 29; exact Calls.quiet_of_same (HDN.out _)) | (go_at_call 30; exact Calls.quiet_of_same (HLF.out _)))
        go_wp2_with fail
        go_ret
        exact ⟨by rw [← HRV.out]; simp [rdyT], _, rfl⟩
      · have h2 : (mlife == life) = false := by rw [beq_eq_false_iff_ne]; exact hl
        have h3 : (mlife != life) = true := by rw [bne, h2]; rfl
        go_quiet (first | (go_at_call 29; exact Calls.quiet_of_same (HDN.out _)) | (go_at_call 30; exact Calls.quiet_of_same (HLF.out _)))
        go_wp2_with fail
        go_ret
        exact ⟨by rw [← HRV.out]; simp [rdyT, hl], _, rfl⟩
set_option maxRecDepth 100000 in
theorem home_any {tb pb : Nat} {S : TS} {M : PM} {G : Heaplet} {w : World} (h : StIs tb pb S M G w) (n : Int) (hb : 0 ≤ S.frm ∧ S.frm ≤ 1000000 ∧ 0 ≤ S.twins ∧ S.twins ≤ 1000000 ∧ 0 ≤ n ∧ n ≤ 1000000) :
    Calls Tryz.prog 45 #[.pointer (some ⟨tb, 0, none⟩), .int .i64 n] w (Qt (.int .i64 (S.frm + S.twins + n)) w) := by
  obtain ⟨pv, a, cap, rfl, c0, c1, c2, c3, c4, c5, _⟩ := h.cells
  unfold Qt
  clear h
  obtain ⟨frm, twins, pages, life, dead⟩ := S
  simp only at *
  obtain ⟨b0, b1, b2, b3, b4, b5⟩ := hb
  have hw1 : IntKind.i64.wrap (frm + twins) = frm + twins := IntWalk.i64_in _ (by omega)
  have hw2 : IntKind.i64.wrap (frm + twins + n) = frm + twins + n := IntWalk.i64_in _ (by omega)
  go_enter Tryz.func45, Tryz.ntmps45
  go_upto_region 1 with (fail)
  go_quiet (fail)
  go_wp2_with fail
  go_ret
  exact ⟨rfl, _, rfl⟩
end Go.Proofs.YtgocmnejlbfplaaGreatDoor
namespace Go.Proofs.YtgocmnejlbfplaaGreatDoor
open Go Go.MapKept Go.RowKit Go.Proofs

attribute [local go_sem] Oper.semAt_some

/-- A row of numbers that came in. -/
def IsAt (F : Heaplet) (p : Option Addr) (len : Nat) (A : Nat → Int) : Prop := ∀ i, i < len → ∃ b off, p = some ⟨b, off, none⟩ ∧ (-9223372036854775808 ≤ A i ∧ A i ≤ 9223372036854775807) ∧ ∀ w, Sat w F → w.cell? ⟨b, off + i, none⟩ = some (kI (A i))
theorem IsAt.mono {F F' : Heaplet} {p : Option Addr} {len : Nat} {A : Nat → Int} (h : IsAt F p len A) (hF : ∀ w, Sat w F' → Sat w F) : IsAt F' p len A := fun i hi => by
  obtain ⟨b, off, e, hb, hw⟩ := h i hi
  exact ⟨b, off, e, hb, fun w hs => hw w (hF w hs)⟩
theorem fate_at {F : Heaplet} {p : Option Addr} {len cap : Nat} {A : Nat → Int} (hI : IsAt F p len A) (hl : (len : Int) ≤ 9223372036854775807) (i : Nat) (w : World) (hi : i < 1000000) (hs : Sat w F) :
    Calls Tryz.prog 50 #[.slice p len cap, .int .i64 (i : Int)] w (Ret (.int .i64 (fateM len A i)) (Same w)) := by
  refine fate_any p len cap A i w w ⟨by omega, fun j hj => ?_⟩ (Below.refl _ _) (by omega)
  obtain ⟨b, off, e, hb, hw⟩ := hI j hj
  have hc := hw w hs
  exact ⟨b, off, e, World.block_lt_of_cell? w ⟨b, off + j, none⟩ hc, hc, hb⟩
theorem on_at {pb : Nat} {M : PM} {F : Heaplet} {w : World} (h : PlateIs pb M F w) (hq : M.queue.length ≤ 1000000) {p : Option Addr} {len cap : Nat} {A : Nat → Int} (hI : IsAt F p len A) (hl : (len : Int) ≤ 9223372036854775807) :
    Calls Tryz.prog 14 #[.pointer (some ⟨pb, 0, none⟩), .slice p len cap] w (Ret (.tuple #[]) (PlateIs pb (onM M (fateM len A)) F)) :=
  on_any pb M F _ _ w h hq (fun i w' hi hs => fate_at hI hl i w' hi hs)
theorem fateTo_len (f : Nat → Int) (q D : List (Int × ByteArray)) : ∀ k, (fateTo f q D k).length ≤ D.length + k
  | 0 => Nat.le_refl _
  | k + 1 => by
    have ih := fateTo_len f q D k
    unfold fateTo
    split
    · rename_i x _
      unfold stepF
      have h1 := putL_len x.1 x.2 (fateTo f q D k)
      have h2 := putL_len x.1 ⟨#[]⟩ (fateTo f q D k)
      split
      · omega
      · split <;> omega
    · omega
theorem tmod_fate (a : Int) : ∃ r : Int, a.tmod 3 = r ∧ -2 ≤ r ∧ r ≤ 2 ∧ (r + 3).tmod 3 = a % 3 := by
  refine ⟨a.tmod 3, rfl, ?_⟩
  have h := tmod3 a
  have h2 := tmod3 (a.tmod 3 + 3)
  rw [if_pos (by rw [h]; split <;> omega)] at h2
  rw [h2, h]
  split <;> omega
set_option maxRecDepth 100000 in
set_option maxHeartbeats 4000000 in
theorem rp_on {b : Nat} {M : PM} {F : Heaplet} {w : World} (h : RPl b M F w) (hl : M.secs.length + M.queue.length ≤ 900000) {p : Option Addr} {len cap : Nat} {A : Nat → Int} (hI : IsAt F p len A) (hlen : (len : Int) ≤ 9223372036854775807) :
    Calls Tryz.prog 15 #[.pointer (some ⟨b, 0, none⟩), .slice p len cap] w (Ret (.tuple #[]) (RPl b (onM M (fateM len A)) F)) := by
  obtain ⟨la, lc, qa, qc, c0, c1, c2, c3, c4, c5, c6, u⟩ := h.cells
  unfold onM
  cases hd : M.down with
  | false =>
    rw [hd] at c3
    have H := Lib.hid h
    clear h hd u c0 c1 c2 c4 c5 c6 hl hI hlen
    simp only [Bool.false_eq_true, if_false]
    go_enter Tryz.func15, Tryz.ntmps15
    go_wp2_with fail
    refine bodyPost_end (results_none rfl _ _ _) rfl ?_
    exact ⟨rfl, H.out⟩
  | true =>
    rw [hd] at c3
    simp only [if_true]
    have h1 := h.setField (M' := { M with down := false }) 3 (.bool false) rfl rfl h.armed (fun _ _ => by rw [hd]; rfl)
    have z3 := u 3
    have S1 := Lib.hid h1
    have HI := Lib.hid hI
    have HL := Lib.hid hl
    have hl9 : (M.queue.length : Int) ≤ 900000 := by omega
    obtain ⟨fm, hfm⟩ : ∃ fm, fateM len A = fm := ⟨_, rfl⟩
    have HFM := Lib.hid hfm
    rw [hfm]
    clear h h1 hd u c0 c1 c2 c4 c5 c6 hl hI hfm
    go_enter Tryz.func15, Tryz.ntmps15
    go_upto_block 0 with (fail)
    go_wp2_with fail
    go_loopw [4] (fun v4 wr => ∃ i : Nat, i ≤ M.queue.length ∧ v4 = .int .i64 (i : Int) ∧ RPl b { M with down := false, secs := fateTo fm M.queue M.secs i } F wr) (fun v4 _ => 1000000 - (RowKit.intOf v4).toNat)
    case atStart => exact ⟨0, by omega, rfl, S1.out⟩
    case round =>
      clear S1 c3 z3
      obtain ⟨i, hi, rfl, hs⟩ := hrel
      have HS := Lib.hid hs
      have i0 : (0 : Int) ≤ (i : Int) := by omega
      by_cases hil : i < M.queue.length
      · have i1 : (i : Int) < (M.queue.length : Int) := by omega
        have i9 : i < 1000000 := by have := HL.out; omega
        obtain ⟨⟨m, s0⟩, hx⟩ : ∃ x, M.queue[i]? = some x := ⟨_, List.getElem?_eq_getElem hil⟩
        obtain ⟨g, qc, c2, e0, e1⟩ := hs.qrow (i := i) (x := (m, s0)) hx
        have c2' : wr.cell? ⟨b, 2, none⟩ = some (.slice (some ⟨g, 0, none⟩) M.queue.length qc) := c2
        have h6 : s0.size = 256 := hs.big (m, s0) (List.mem_of_getElem? hx)
        have hln := fateTo_len fm M.queue M.secs i
        have hset := rp_set hs.drew m s0 (by
          have h7 := HL.out
          show (fateTo fm M.queue M.secs i).length + 1 ≤ _
          omega)
        have hset2 := rp_set hs m ⟨#[]⟩ (by
          have h7 := HL.out
          show (fateTo fm M.queue M.secs i).length + 1 ≤ _
          omega)
        rw [decide_eq_false (by omega)] at hset
        have est : fateTo fm M.queue M.secs (i + 1) = stepF (fm i) (m, s0) (fateTo fm M.queue M.secs i) := by
          show (match M.queue[i]? with | some x => stepF (fm i) x (fateTo fm M.queue M.secs i) | none => _) = _
          rw [hx]
        have HSET := Lib.hid hset
        have HSET2 : Hid (Calls Tryz.prog 51 #[.pointer (some ⟨b, 0, none⟩), .agg #[kI m, .string ⟨#[]⟩, .bool true]] wr (Ret (.tuple #[]) (RPl b (putS { M with down := false, secs := fateTo fm M.queue M.secs i } m ⟨#[]⟩) F))) := Lib.hid hset2
        have EST := Lib.hid est
        have HIL := Lib.hid hil
        have HF := Lib.hid hs.frame
        clear hi hx hs hil hset hset2 c2 h6 hln est
        go_upto_if 29 with (fail)
        obtain ⟨z, hz⟩ : ∃ z, decide (0 < len) = z := ⟨_, rfl⟩
        rw [hz]
        have HZ := Lib.hid hz
        clear hz
        go_cut [5] (fun v wx => v = .int .i64 (fm i) ∧ wx = wr)
        case first =>
          cases z with
          | false =>
            have h0 : len = 0 := by have := of_decide_eq_false HZ.out; omega
            have e : fateM len A i = 0 := by unfold fateM; rw [if_pos h0]
            have E := Lib.hid e
            clear e h0
            go_wp2_with fail
            go_meet
            exact ⟨by rw [← HFM.out, E.out], rfl⟩
          | true =>
            have h0 : ¬ len = 0 := by have := of_decide_eq_true HZ.out; omega
            have e : fateM len A i = A (i % len) % 3 := by unfold fateM; rw [if_neg h0]
            have hm : i % len < len := Nat.mod_lt _ (by omega)
            obtain ⟨fb, off, rfl, hab, hfc⟩ := HI.out _ hm
            have xf := hfc _ HF.out
            have E := Lib.hid e
            have hrem : ((i : Int).tmod (len : Int)) = ((i % len : Nat) : Int) := by
              rw [Int.tmod_eq_emod_of_nonneg (by omega)]; rfl
            have hne2 : ((len : Int) == 0) = false := by rw [beq_eq_false_iff_ne]; omega
            have m0 : (0 : Int) < (len : Int) := by omega
            have m1 : 0 < len := by omega
            generalize hj : i % len = j at *
            have j0 : (0 : Int) ≤ (j : Int) := by omega
            have j1 : (j : Int) < (len : Int) := by omega
            obtain ⟨r, hr, r0, r1, hrr⟩ := tmod_fate (A j)
            clear e hab hfc hm h0 hj
            generalize A j = a at *
            go_wp2_with fail
            go_meet
            exact ⟨by rw [← HFM.out, E.out, ← hrr], rfl⟩
        case rest =>
          obtain ⟨rfl, hww⟩ := hcut
          cases hww
          by_cases hf1 : fm i = 1
          · have est2 := EST.out
            rw [show stepF (fm i) (m, s0) (fateTo fm M.queue M.secs i) = putL m s0 (fateTo fm M.queue M.secs i) by unfold stepF; rw [if_pos hf1]] at est2
            have EST2 := Lib.hid est2
            have b1 : (fm i == 1) = true := by rw [hf1]; rfl
            clear EST HSET2 est2
            rw [hf1]
            clear hf1 b1
            go_upto_region 9 with (fail)
            go_still_tail 18, (by kernel_rfl)
            change wpList _ _ _ _ _ wr.drew
            generalize wr.drew = W9 at *
            go_wp2_with (go_at_call 51; refine (HSET.out).mono ?_; rintro e w5 ⟨rfl, h5⟩; have S5 := Lib.hid h5; clear h5)
            exact ⟨⟨i + 1, HIL.out, by simp, by rw [EST2.out]; exact S5.out⟩, by simp only [RowKit.intOf]; omega⟩
          · by_cases hf2 : fm i = 2
            · have est2 := EST.out
              rw [show stepF (fm i) (m, s0) (fateTo fm M.queue M.secs i) = putL m ⟨#[]⟩ (fateTo fm M.queue M.secs i) by unfold stepF; rw [if_neg hf1, if_pos hf2]] at est2
              have EST2 := Lib.hid est2
              clear EST HSET est2 hf1
              rw [hf2]
              clear hf2
              go_wp2_with (go_at_call 51; refine (HSET2.out).mono ?_; rintro e w5 ⟨rfl, h5⟩; have S5 := Lib.hid h5; clear h5)
              exact ⟨⟨i + 1, HIL.out, by simp, by rw [EST2.out]; exact S5.out⟩, by simp only [RowKit.intOf]; omega⟩
            · have est2 := EST.out
              rw [show stepF (fm i) (m, s0) (fateTo fm M.queue M.secs i) = fateTo fm M.queue M.secs i by unfold stepF; rw [if_neg hf1, if_neg hf2]] at est2
              have EST2 := Lib.hid est2
              have n1 : (fm i == 1) = false := by rw [beq_eq_false_iff_ne]; exact hf1
              have n2 : (fm i == 2) = false := by rw [beq_eq_false_iff_ne]; exact hf2
              clear EST HSET HSET2 est2
              clear hf1 hf2
              generalize fm i = fi at *
              go_wp2_with fail
              exact ⟨⟨i + 1, HIL.out, by simp, by rw [EST2.out]; exact HS.out⟩, by simp only [RowKit.intOf]; omega⟩
      · obtain rfl : i = M.queue.length := by omega
        have i1 : ((M.queue.length : Int) < (M.queue.length : Int)) = False := eq_false (by omega)
        obtain ⟨la, lc, qa, qc, c0, c1, c2, c3, c4, c5, c6, u⟩ := hs.cells
        have c2' : wr.cell? ⟨b, 2, none⟩ = some (.slice qa M.queue.length qc) := c2
        have z2 := u 2
        have FIN := Lib.hid hs.clearQ
        clear hi hil hs u c0 c1 c2 c3 c4 c5 c6 HS
        go_wp2_with fail
        refine bodyPost_end (results_none rfl _ _ _) rfl ?_
        exact ⟨rfl, FIN.out⟩
end Go.Proofs.YtgocmnejlbfplaaGreatDoor
