/- Texts put together: Me18, Me19. Conditions: none. -/
import Derived.Test.YtficgjklagnbjaaGreatFo11
namespace Go.Proofs.YtficgjklagnbjaaGreat
open Go Go.MapKept Go.RowKit Go.Proofs Go.Sort

/-- A page of its own is replaced. -/
theorem lv_set {P : List Lf} {h hn B : Heaplet} {w : World} {g cap len k : Nat} {n : Int} {p q : Pg} {sv : Value} (hv : LvOwn (.slice (some ⟨g, 0, none⟩) len cap) P h) (s : Sat w (h ++ (hn ++ B))) (hk : P[k]? = some (n, p)) (hsl : SlAt hn sv q.slots) :
    ∃ h', LvOwn (.slice (some ⟨g, 0, none⟩) len cap) (P.set k (n, q)) h' ∧ Sat ((w.setCell ⟨g, k * 3 + 1, none⟩ (kI q.lsn)).setCell ⟨g, k * 3 + 2, none⟩ sv) (h' ++ B) := by
  obtain ⟨R, h1, h2, hs, hi, rfl⟩ := hv
  have hkl : k < P.length := (List.getElem?_eq_some_iff.1 hk).1
  obtain ⟨r, hr⟩ : ∃ r, R[k]? = some r := ⟨_, List.getElem?_eq_getElem (by rw [hi.1]; exact hkl)⟩
  obtain ⟨e1, e2, e3⟩ := hi.2 k r _ hr hk
  obtain ⟨r1, r2, r3⟩ := r
  simp only at e1 e2 e3
  subst e1
  obtain ⟨_, _, el⟩ := sl_form hs
  cases el
  have s1 : Sat w (h1 ++ (h2 ++ (hn ++ B))) := by rw [← List.append_assoc]; exact s
  obtain ⟨ha, hsa, hSa⟩ := sl_set (f := 1) (q' := (r1, q.lsn, r3)) lrC_len hs s1 hr (by decide) (u := kI q.lsn) rfl
  have hra : (R.set k (r1, q.lsn, r3))[k]? = some (r1, q.lsn, r3) := by rw [List.getElem?_set_self (by rw [hi.1]; exact hkl)]
  have hsa' : SliceIs 54 3 (.slice (some ⟨g, 0, none⟩) (R.set k (r1, q.lsn, r3)).length cap) (R.set k (r1, q.lsn, r3)).length ((R.set k (r1, q.lsn, r3)).flatMap lrC) ha := by rw [List.length_set] at hsa ⊢; exact hsa
  obtain ⟨hb, hsb, hSb⟩ := sl_set (f := 2) (q' := (r1, q.lsn, sv)) lrC_len hsa' hSa hra (by decide) (u := sv) rfl
  rw [List.set_set, List.length_set] at hsb
  refine ⟨hb ++ (h2 ++ hn), ⟨R.set k (r1, q.lsn, sv), hb, h2 ++ hn, hsb, ⟨by simp [hi.1], fun i a b ha hb' => ?_⟩, rfl⟩, by (refine Sat.part hSb ?_; intro a; simp only [cnt_append]; omega)⟩
  by_cases hik : i = k
  · subst hik
    rw [List.getElem?_set_self (by rw [hi.1]; exact hkl)] at ha
    rw [List.getElem?_set_self hkl] at hb'
    cases ha; cases hb'
    exact ⟨rfl, rfl, hsl.mono (fun w hw => Sat.right hw)⟩
  · rw [List.getElem?_set_ne (fun e => hik e.symm)] at ha hb'
    obtain ⟨f1, f2, f3⟩ := hi.2 i a b ha hb'
    exact ⟨f1, f2, f3.left hn⟩
/-- What Turn made, if it did. -/
theorem turnM_ok {x y : En} {lsn prev : Int} (h : turnM x lsn prev = (y, 0)) : y = turnE x lsn prev ∧ goodM y = true ∧ goodM x = true ∧ x.kind = 1 := by
  unfold turnM at h
  split at h
  · cases h
  · rename_i hc
    have e : turnE x lsn prev = y := congrArg Prod.fst h
    subst e
    simp only [Bool.or_eq_true, Bool.not_eq_true', not_or, Bool.not_eq_false, beq_iff_eq] at hc
    refine ⟨rfl, by simpa using hc.2, by simpa using hc.1.1, ?_⟩
    have := hc.1.2
    simpa using this
theorem lv_unfrozen {g len cap : Nat} {P : List Lf} {h F : Heaplet} {w : World} (hv : LvOwn (.slice (some ⟨g, 0, none⟩) len cap) P h) (s : Sat w (h ++ F)) : ∀ i, w.frozen? ⟨g, i, none⟩ = false := by
  obtain ⟨R, h1, h2, hs, hi, rfl⟩ := hv
  rcases hs.2 with ⟨e, _⟩ | ⟨g', cap', cur, e, _, _, _, _, rfl⟩
  · cases e
  · simp only [Value.slice.injEq, Option.some.injEq, Addr.mk.injEq] at e
    obtain ⟨⟨rfl, _, _⟩, _, rfl⟩ := e
    exact unfrozen_of (Sat.h0 s)
abbrev pgZ : Obj := .cells #[kI 0, .slice none 0 0] 52
theorem LvOwn.some {v : Value} {P : List Lf} {h : Heaplet} (hv : LvOwn v P h) (h0 : 0 < P.length) : ∃ g cap, v = .slice (some ⟨g, 0, none⟩) P.length cap := by
  obtain ⟨R, h1, h2, hs, hi, _⟩ := hv
  obtain ⟨g, cap, e⟩ := sl_some hs (by rw [hi.1]; exact h0)
  exact ⟨g, cap, by rw [e, hi.1]⟩
/-- The last Lsn of a transaction. -/
def lastL (l : List En) (t : Tx) : Int := match (ofM l t).getLast? with | some z => z.lsn | none => 0
/-- An entry is undone: the log, the pages, the error. -/
def undoM (l : List En) (P : List Lf) (x : En) : List En × List Lf × Int :=
  match P[(idxF (atN x.page) P).toNat]? with
  | none => (l, P, 0)
  | some p =>
    if 1099511627776 < max (lastL l x.t) p.2.lsn + 1 then (l, P, 36)
    else if (turnM x (max (lastL l x.t) p.2.lsn + 1) (lastL l x.t)).2 ≠ 0 then (l, P, (turnM x (max (lastL l x.t) p.2.lsn + 1) (lastL l x.t)).2)
    else if (redoM p.2 (turnM x (max (lastL l x.t) p.2.lsn + 1) (lastL l x.t)).1).2.2 ≠ 0 then (l, P, (redoM p.2 (turnM x (max (lastL l x.t) p.2.lsn + 1) (lastL l x.t)).1).2.2)
    else (l ++ [(turnM x (max (lastL l x.t) p.2.lsn + 1) (lastL l x.t)).1], P.set (idxF (atN x.page) P).toNat (p.1, (redoM p.2 (turnM x (max (lastL l x.t) p.2.lsn + 1) (lastL l x.t)).1).1), 0)
/-- An undoing lies at b. -/
def UdSt (b : Nat) (l : List En) (P : List Lf) (sv : Value) (G : Heaplet) (w : World) : Prop := ∃ lv pv h hp, EnSl lv l h ∧ LvOwn pv P hp ∧ Sat w (.blk b (udO lv pv sv) :: (h ++ (hp ++ G)))
theorem UdSt.mk {b : Nat} {l : List En} {P : List Lf} {sv lv pv : Value} {h hp G : Heaplet} {w : World} (h1 : EnSl lv l h) (h2 : LvOwn pv P hp) (h3 : Sat w (.blk b (udO lv pv sv) :: (h ++ (hp ++ G)))) : UdSt b l P sv G w := ⟨lv, pv, h, hp, h1, h2, h3⟩
set_option maxRecDepth 100000 in
set_option maxHeartbeats 4000000 in
theorem undo_any {b : Nat} {l : List En} {P : List Lf} {sv : Value} {G : Heaplet} {w : World} (x z : En) {n : Int} {p : Pg} (k : Nat) (hU : UdSt b l P sv G w) (hl : l.length + 1 ≤ 100000) (hf : FitL l) (hPl : P.length ≤ 1000) (hk : idxF (atN x.page) P = k) (hkp : P[k]? = some (n, p)) (hgp : goodP p = true) (hz : (ofM l x.t).getLast? = some z) (hx : -9223372036854775808 ≤ x.lsn ∧ x.lsn ≤ 9223372036854775807) :
    Calls Tryz.prog 62 #[.pointer (some ⟨b, 0, none⟩), eV x] w (Ret (kI (undoM l P x).2.2) (UdSt b (undoM l P x).1 (undoM l P x).2.1 sv G)) := by
  obtain ⟨lr, Pr, rc, hr⟩ : ∃ lr Pr rc, undoM l P x = (lr, Pr, rc) := ⟨_, _, _, rfl⟩
  rw [hr]
  have hlz : lastL l x.t = z.lsn := by unfold lastL; rw [hz]
  have hzb := goodM_lsn (ofM_good (List.mem_of_getLast? hz))
  have hpb := goodP_iff.1 hgp
  unfold undoM at hr
  rw [hk, Int.toNat_natCast, hkp] at hr
  simp only [hlz] at hr
  obtain ⟨lv, pv, h, hp, h1, h2, s⟩ := hU
  have s1 := s.new (eO x)
  have HV := Lib.hid (And.intro h1 h2)
  obtain ⟨a0, c0, rfl⟩ := sl_form h1
  have hE : EnsIn (h ++ (hp ++ G)) (.slice a0 l.length c0) l := ens_in h1 _
  have hL : LvAt (h ++ (hp ++ G)) pv P := (h2.at G).mono (fun w hw => hw.right)
  have HE := Lib.hid hE
  have HL := Lib.hid hL
  have hkl : k < P.length := (List.getElem?_eq_some_iff.1 hkp).1
  obtain ⟨pg, pc, rfl⟩ := LvOwn.some h2 (by omega)
  obtain ⟨pa, _, ep, hpc⟩ := hL
  obtain ⟨_, off, psv, rfl, hps, hpu⟩ := hpc k _ hkp
  simp only [Value.slice.injEq, Option.some.injEq, Addr.mk.injEq] at ep
  obtain ⟨⟨rfl, rfl, _⟩, _, rfl⟩ := ep
  simp only [Nat.zero_add] at hps hpu
  have HPU := Lib.hid (And.intro hps hpu)
  have hk0 : (0 : Int) ≤ (k : Int) := by omega
  have hk1 : (k : Int) < (P.length : Int) := by omega
  have hPl9 : (P.length : Int) ≤ 1000 := by omega
  obtain ⟨lsn, hlsn⟩ : ∃ lsn, max z.lsn p.lsn + 1 = lsn := ⟨_, rfl⟩
  have hlb : 1 ≤ lsn ∧ lsn ≤ 1099511627777 := by omega
  have hwr : wrap64 (max z.lsn p.lsn + 1) = lsn := by rw [← hlsn, IntWalk.wrap64_in _ (by omega)]
  have hwr2 : IntKind.i64.wrap (max z.lsn p.lsn + 1) = lsn := by rw [← hlsn, IntWalk.i64_in _ (by omega)]
  rw [hlsn] at hr
  have HR := Lib.hid hr
  have HF := Lib.hid (And.intro hf (And.intro hPl (And.intro hk (And.intro hkp (And.intro hgp (And.intro hz (And.intro hzb hpb)))))))
  have HS1 := Lib.hid s1
  have HW := Lib.hid (And.intro hwr (And.intro hwr2 hlsn))
  clear hE hpc hps hpu hkp hf hlz hr hk s s1 h1 h2 hgp hz hzb hpb hkl hPl hwr hwr2 hlsn hlb
  go_enter Tryz.func62, Tryz.ntmps62
  go_upto_region 1 with (fail)
  generalize w.alloc (.cells #[kI x.kind, kI x.t.c, kI x.t.e, kI x.t.n, kI x.lsn, kI x.prev, kI x.page, kI x.slot, .bool x.wu, kS x.wd, .bool x.iu, kS x.idt, kI x.next] 58) = W1 at *
  generalize w.heap.size = g at *
  go_cut [5] (fun v5 wx => v5 = .int .i64 (k : Int) ∧ Sat wx (.blk g (eO x) :: .blk b (udO (.slice a0 l.length c0) (.slice (some ⟨pg, 0, none⟩) P.length pc) sv) :: (h ++ (hp ++ G))))
  case first =>
    have hcell : ∀ W, Sat W (.blk g (eO x) :: .blk b (udO (.slice a0 l.length c0) (.slice (some ⟨pg, 0, none⟩) P.length pc) sv) :: (h ++ (hp ++ G))) → W.cell? ⟨b, 1, none⟩ = some (.slice (some ⟨pg, 0, none⟩) P.length pc) ∧ W.cell? ⟨g, 6, none⟩ = some (kI x.page) := fun W hW => ⟨by rw [cell_of hW.h1]; rfl, by rw [cell_of hW.h0]; rfl⟩
    have HC := Lib.hid hcell
    have K1 := Lib.hid (hcell _ HS1.out)
    have K2 := Lib.hid (hcell _ HS1.out.drew)
    have HPC := Lib.hid (place_any x.page (HL.out.mono (fun w hw => hw.tail.tail)) HS1.out.drew HF.out.2.1)
    rw [HF.out.2.2.1] at HPC
    clear hcell
    go_region_held3 (fun w' => w'.cell? ⟨b, 1, none⟩ = some (.slice (some ⟨pg, 0, none⟩) P.length pc) ∧ w'.cell? ⟨g, 6, none⟩ = some (kI x.page))
      (with_reducible first | exact K1.out | exact K2.out | exact K3.out)
      (first
        | (go_at_call 47
           with_reducible refine (HPC.out).mono ?_
           rintro e w2 ⟨rfl, hg⟩
           have HS2 := Lib.hid (HS1.out.drew.grown hg)
           have K3 := Lib.hid (HC.out _ HS2.out)))
    all_goals
      have FIN := Lib.hid HS2.out
      clear HS2 K1 K2 K3 HPC HS1
      go_wp2_with fail
      go_meet
      exact ⟨rfl, FIN.out⟩
  case rest =>
    obtain ⟨rfl, hs2⟩ := hcut
    clear HS1
    have hE2 : EnsIn (.blk g (eO x) :: (h ++ (hp ++ G))) (.slice a0 l.length c0) l := HE.out.mono (fun w hw => hw.tail)
    have HLA := Lib.hid (last_any x.t z hE2 (hs2.swap) (by omega) HF.out.1 HF.out.2.2.2.2.2.1)
    have HS2 := Lib.hid hs2
    obtain ⟨x0, x1, x2, x3, x4, x5, x6, x7, x8, x9, x10, x11, x12⟩ := enAt_of hs2.h0
    clear hE2 hs2
    have hwr := HW.out.1
    have hwr2 := HW.out.2.1
    by_cases hlm : 1099511627776 < lsn
    · have hrs := HR.out
      rw [if_pos hlm] at hrs
      have h1 : l = lr := congrArg Prod.fst hrs
      have h2 : P = Pr := congrArg (fun y => y.2.1) hrs
      have h3 : 36 = rc := congrArg (fun y => y.2.2) hrs
      subst h1; subst h2; subst h3
      clear hrs HR HF HW HE HL
      go_wp2_with (go_at_call 89; refine (HLA.out).mono ?_; rintro e w3 ⟨rfl, hb⟩; have HS3 := Lib.hid (HS2.out.monoB hb); clear hb HLA HS2 x0 x1 x2 x3 x4 x5 x6 x7 x8 x9 x10 x11 x12; obtain ⟨x0, x1, x2, x3, x4, x5, x6, x7, x8, x9, x10, x11, x12⟩ := enAt_of HS3.out.h0; have hb1 : w3.cell? ⟨b, 1, none⟩ = some (.slice (some ⟨pg, 0, none⟩) P.length pc) := (by rw [cell_of HS3.out.h1]; rfl); obtain ⟨p0, p1, p2⟩ := HPU.out.2 w3 HS3.out.tail.tail)
      have FIN := Lib.hid (UdSt.mk HV.out.1 HV.out.2 HS3.out.tail)
      clear HV HS3 HPU
      go_ret
      exact ⟨rfl, FIN.out⟩
    · have hrs := HR.out
      rw [if_neg hlm] at hrs
      have hlm' : (1099511627776 < lsn) = False := eq_false hlm
      have hlb : 1 ≤ lsn ∧ lsn ≤ 1099511627776 := by have := HW.out.2.2; have := HF.out.2.2.2.2.2.2.1; omega
      obtain ⟨y, c, hy⟩ : ∃ y c, turnM x lsn z.lsn = (y, c) := ⟨_, _, rfl⟩
      have HT : Hid (∀ W, Calls Tryz.prog 19 #[eV x, kI lsn, kI z.lsn] W (Ret (.tuple #[eV y, kI c]) (Below W.heap.size W))) := Lib.hid (fun W => by
        have := turn_any x lsn z.lsn W hx (by omega)
        rw [hy] at this; exact this)
      rw [hy] at hrs
      simp only at hrs
      have HRS := Lib.hid hrs
      have HY := Lib.hid hy
      clear hrs HR hy hlm
      by_cases hc : c = 0
      · subst hc
        go_wp2_with (first | (go_at_call 89; refine (HLA.out).mono ?_; rintro e w3 ⟨rfl, hb⟩; have HS3 := Lib.hid (HS2.out.monoB hb); clear hb HLA HS2 x0 x1 x2 x3 x4 x5 x6 x7 x8 x9 x10 x11 x12; obtain ⟨x0, x1, x2, x3, x4, x5, x6, x7, x8, x9, x10, x11, x12⟩ := enAt_of HS3.out.h0; have hb1 : w3.cell? ⟨b, 1, none⟩ = some (.slice (some ⟨pg, 0, none⟩) P.length pc) := (by rw [cell_of HS3.out.h1]; rfl); obtain ⟨p0, p1, p2⟩ := HPU.out.2 w3 HS3.out.tail.tail) | (go_at_call 19; refine (HT.out _).mono ?_; rintro e w4 ⟨rfl, hb⟩; have HS4 := Lib.hid (HS3.out.monoB hb); clear hb HT HS3 x0 x1 x2 x3 x4 x5 x6 x7 x8 x9 x10 x11 x12 hb1 p0 p1 p2))
        have hrs := HRS.out
        rw [if_neg (by decide)] at hrs
        obtain ⟨q, dn, rc', hrd⟩ : ∃ q dn rc', redoM p y = (q, dn, rc') := ⟨_, _, _, rfl⟩
        rw [hrd] at hrs
        simp only at hrs
        have hyl : y.lsn = lsn := by rw [(turnM_ok HY.out).1]; rfl
        have hs5 := HS4.out.new (eO y)
        have HS5 := Lib.hid hs5
        have HRD : Hid (∀ (W : World) (H : Heaplet), Sat W (H ++ (.blk b (udO (.slice a0 l.length c0) (.slice (some ⟨pg, 0, none⟩) P.length pc) sv) :: (h ++ (hp ++ G)))) → Calls Tryz.prog 38 #[pgV p.lsn psv, eV y] W (RdRet q dn rc' (H ++ (.blk b (udO (.slice a0 l.length c0) (.slice (some ⟨pg, 0, none⟩) P.length pc) sv) :: (h ++ (hp ++ G)))))) := Lib.hid (fun W H hW => by
          have := redo_any (p := p) y (HPU.out.1.mono (fun w hw => (Sat.right hw).tail)) hW (good_bd HF.out.2.2.2.2.1).1 (good_bd HF.out.2.2.2.2.1).2.1 (good_bd HF.out.2.2.2.2.1).2.2 (by rw [hyl]; omega)
          rw [hrd] at this; exact this)
        have HRS2 := Lib.hid hrs
        clear hrs HRS hrd HY hwr hwr2 hs5 hyl hlm' hlb
        generalize w4.alloc (.cells #[kI y.kind, kI y.t.c, kI y.t.e, kI y.t.n, kI y.lsn, kI y.prev, kI y.page, kI y.slot, .bool y.wu, kS y.wd, .bool y.iu, kS y.idt, kI y.next] 58) = W5 at *
        generalize w4.heap.size = yb at *
        have hcell : ∀ W, Sat W (.blk yb (eO y) :: .blk g (eO x) :: .blk b (udO (.slice a0 l.length c0) (.slice (some ⟨pg, 0, none⟩) P.length pc) sv) :: (h ++ (hp ++ G))) → W.cell? ⟨b, 1, none⟩ = some (.slice (some ⟨pg, 0, none⟩) P.length pc) ∧ W.cell? ⟨pg, k * 3 + 1, none⟩ = some (kI p.lsn) ∧ W.cell? ⟨pg, k * 3 + 2, none⟩ = some psv ∧ W.cell? ⟨yb, 0, none⟩ = some (kI y.kind) ∧ W.cell? ⟨yb, 1, none⟩ = some (kI y.t.c) ∧ W.cell? ⟨yb, 2, none⟩ = some (kI y.t.e) ∧ W.cell? ⟨yb, 3, none⟩ = some (kI y.t.n) ∧ W.cell? ⟨yb, 4, none⟩ = some (kI y.lsn) ∧ W.cell? ⟨yb, 5, none⟩ = some (kI y.prev) ∧ W.cell? ⟨yb, 6, none⟩ = some (kI y.page) ∧ W.cell? ⟨yb, 7, none⟩ = some (kI y.slot) ∧ W.cell? ⟨yb, 8, none⟩ = some (.bool y.wu) ∧ W.cell? ⟨yb, 9, none⟩ = some (kS y.wd) ∧ W.cell? ⟨yb, 10, none⟩ = some (.bool y.iu) ∧ W.cell? ⟨yb, 11, none⟩ = some (kS y.idt) ∧ W.cell? ⟨yb, 12, none⟩ = some (kI y.next) := fun W hW => by
          obtain ⟨y0, y1, y2, y3, y4, y5, y6, y7, y8, y9, y10, y11, y12⟩ := enAt_of hW.h0
          obtain ⟨_, p1, p2⟩ := HPU.out.2 W hW.tail.tail.tail
          exact ⟨by rw [cell_of hW.h2]; rfl, p1, p2, y0, y1, y2, y3, y4, y5, y6, y7, y8, y9, y10, y11, y12⟩
        have HC := Lib.hid hcell
        have K1 := Lib.hid (hcell _ HS5.out)
        have K2 := Lib.hid (hcell _ HS5.out.drew)
        have K3 := Lib.hid (hcell _ (HS5.out.new pgZ).drew.tail)
        have HS6 := Lib.hid (HS5.out.new pgZ).drew
        clear hcell
        go_cut [9, 10] (fun v9 v10 wx => ∃ pb qv hn, v10 = .pointer (some ⟨pb, 0, none⟩) ∧ v9 = kI rc' ∧ SlAt hn qv q.slots ∧ Sat wx (.blk pb (.cells #[kI q.lsn, qv] 52) :: .blk yb (eO y) :: .blk g (eO x) :: .blk b (udO (.slice a0 l.length c0) (.slice (some ⟨pg, 0, none⟩) P.length pc) sv) :: (h ++ (hp ++ (hn ++ G)))))
        case first =>
          go_region_held3 (fun w' => w'.cell? ⟨b, 1, none⟩ = some (.slice (some ⟨pg, 0, none⟩) P.length pc) ∧ w'.cell? ⟨pg, k * 3 + 1, none⟩ = some (kI p.lsn) ∧ w'.cell? ⟨pg, k * 3 + 2, none⟩ = some psv ∧ w'.cell? ⟨yb, 0, none⟩ = some (kI y.kind) ∧ w'.cell? ⟨yb, 1, none⟩ = some (kI y.t.c) ∧ w'.cell? ⟨yb, 2, none⟩ = some (kI y.t.e) ∧ w'.cell? ⟨yb, 3, none⟩ = some (kI y.t.n) ∧ w'.cell? ⟨yb, 4, none⟩ = some (kI y.lsn) ∧ w'.cell? ⟨yb, 5, none⟩ = some (kI y.prev) ∧ w'.cell? ⟨yb, 6, none⟩ = some (kI y.page) ∧ w'.cell? ⟨yb, 7, none⟩ = some (kI y.slot) ∧ w'.cell? ⟨yb, 8, none⟩ = some (.bool y.wu) ∧ w'.cell? ⟨yb, 9, none⟩ = some (kS y.wd) ∧ w'.cell? ⟨yb, 10, none⟩ = some (.bool y.iu) ∧ w'.cell? ⟨yb, 11, none⟩ = some (kS y.idt) ∧ w'.cell? ⟨yb, 12, none⟩ = some (kI y.next))
            (with_reducible first | exact K1.out | exact K2.out | exact K3.out | exact K7.out | exact K8.out | exact K9.out | exact K9.out.1 | exact K9.out.2.1 | exact K9.out.2.2.1 | exact K9.out.2.2.2.1 | exact K9.out.2.2.2.2.1 | exact K9.out.2.2.2.2.2.1 | exact K9.out.2.2.2.2.2.2.1 | exact K9.out.2.2.2.2.2.2.2.1 | exact K9.out.2.2.2.2.2.2.2.2.1 | exact K9.out.2.2.2.2.2.2.2.2.2.1 | exact K9.out.2.2.2.2.2.2.2.2.2.2.1 | exact K9.out.2.2.2.2.2.2.2.2.2.2.2.1 | exact K9.out.2.2.2.2.2.2.2.2.2.2.2.2.1 | exact K9.out.2.2.2.2.2.2.2.2.2.2.2.2.2.1 | exact K9.out.2.2.2.2.2.2.2.2.2.2.2.2.2.2.1 | exact K9.out.2.2.2.2.2.2.2.2.2.2.2.2.2.2.2 | (trace_state; fail))
            (first
              | (go_at_call 38
                 first
                 | ((with_reducible refine (HRD.out _ [.blk yb (eO y), .blk g (eO x)] HS5.out.drew).mono ?_)
                    rintro e w7 ⟨qv, hn, rfl, hs7, hqv⟩
                    have HQ := Lib.hid hqv
                    obtain ⟨qa, qc, rfl, _⟩ := hqv
                    have HS8 := Lib.hid (hs7.new (.cells #[kI q.lsn, .slice qa q.slots.length qc] 52))
                    have K7 := Lib.hid (HC.out _ hs7.right)
                    have K8 := Lib.hid (HC.out _ (hs7.new pgZ).tail.right)
                    have K9 := Lib.hid (HC.out _ HS8.out.tail.right))
                 | ((with_reducible refine (HRD.out _ [.blk W5.heap.size pgZ, .blk yb (eO y), .blk g (eO x)] HS6.out).mono ?_)
                    rintro e w7 ⟨qv, hn, rfl, hs7, hqv⟩
                    have HQ := Lib.hid hqv
                    obtain ⟨qa, qc, rfl, _⟩ := hqv
                    have hs7' := hs7.perm (List.perm_middle (l₁ := hn))
                    have HS8 := Lib.hid (show Sat ((w7.setCell ⟨W5.heap.size, 0, none⟩ (kI q.lsn)).setCell ⟨W5.heap.size, 1, none⟩ (.slice qa q.slots.length qc)) (.blk W5.heap.size (.cells #[kI q.lsn, .slice qa q.slots.length qc] 52) :: (hn ++ (.blk yb (eO y) :: .blk g (eO x) :: .blk b (udO (.slice a0 l.length c0) (.slice (some ⟨pg, 0, none⟩) P.length pc) sv) :: (h ++ (hp ++ G))))) from (hs7'.setCell (i := 0) (kI q.lsn)).setCell (i := 1) (.slice qa q.slots.length qc))
                    have K7 := Lib.hid (HC.out _ hs7.right.tail)
                    have z0 : w7.cell? ⟨W5.heap.size, 0, none⟩ = some (kI 0) := (by rw [cell_of hs7'.h0]; rfl)
                    have z1 : w7.cell? ⟨W5.heap.size, 1, none⟩ = some (.slice none 0 0) := (by rw [cell_of hs7'.h0]; rfl)
                    have ff := unfrozen_of hs7'.h0
                    have K9 := Lib.hid (HC.out _ HS8.out.tail.right))))
          · have FIN := Lib.hid (And.intro HQ.out HS8.out)
            clear K1 K2 K3 K7 K8 K9 HS8 hs7 HQ HRD HS5 HS6 HC
            go_wp2_with fail
            go_meet
            exact ⟨_, _, hn, rfl, rfl, FIN.out.1, by (refine Sat.part FIN.out.2 ?_; intro a; simp only [cnt_cons, cnt_append, List.cons_append, List.nil_append]; omega)⟩
          · have FIN := Lib.hid (And.intro HQ.out HS8.out)
            clear K1 K2 K3 K7 K9 HS8 hs7 hs7' HQ HRD HS5 HS6 HC z0 z1 ff
            go_wp2_with fail
            go_meet
            exact ⟨_, _, hn, rfl, rfl, FIN.out.1, by (refine Sat.part FIN.out.2 ?_; intro a; simp only [cnt_cons, cnt_append]; omega)⟩
        case rest =>
          obtain ⟨pb, qv, hn, rfl, rfl, hqv, hs9⟩ := hcut
          clear K1 K2 K3 HS6 HRD HC HS5
          by_cases hc : rc' = 0
          · subst hc
            have hrs := HRS2.out
            rw [if_neg (by decide)] at hrs
            have h1 : l ++ [y] = lr := congrArg Prod.fst hrs
            have h2 : P.set k (n, q) = Pr := congrArg (fun y => y.2.1) hrs
            have h3 : 0 = rc := congrArg (fun y => y.2.2) hrs
            subst h1; subst h2; subst h3
            have HQ := Lib.hid hqv
            obtain ⟨qa, qc, rfl, _⟩ := hqv
            have hsB : Sat wc (hp ++ (hn ++ (.blk yb (eO y) :: .blk b (udO (.slice a0 l.length c0) (.slice (some ⟨pg, 0, none⟩) P.length pc) sv) :: (h ++ G)))) := by (refine Sat.part hs9 ?_; intro a; simp only [cnt_cons, cnt_append]; omega)
            obtain ⟨hp', hown, hsC⟩ := lv_set (q := q) HV.out.2 hsB HF.out.2.2.2.1 HQ.out
            have hsD : Sat ((wc.setCell ⟨pg, k * 3 + 1, none⟩ (kI q.lsn)).setCell ⟨pg, k * 3 + 1 + 1, none⟩ (.slice qa q.slots.length qc)).drew (.blk b (udO (.slice a0 l.length c0) (.slice (some ⟨pg, 0, none⟩) P.length pc) sv) :: (h ++ (hp' ++ G))) := by (refine Sat.part hsC.drew ?_; intro a; simp only [cnt_cons, cnt_append]; omega)
            have HD := Lib.hid (And.intro hown hsD)
            have hyy : EnAt ((wc.setCell ⟨pg, k * 3 + 1, none⟩ (kI q.lsn)).setCell ⟨pg, k * 3 + 1 + 1, none⟩ (.slice qa q.slots.length qc)).drew yb y := enAt_of (hsC.drew.get (by simp))
            have HAD := Lib.hid (add_any (G := hp' ++ G) y HV.out.1 hsD (by omega))
            have HYY := Lib.hid hyy
            have c1 : wc.cell? ⟨b, 1, none⟩ = some (.slice (some ⟨pg, 0, none⟩) P.length pc) := by rw [cell_of hs9.h3]; rfl
            have c2 : wc.cell? ⟨pb, 0, none⟩ = some (kI q.lsn) := by rw [cell_of hs9.h0]; rfl
            have c3 : wc.cell? ⟨pb, 1, none⟩ = some (.slice qa q.slots.length qc) := by rw [cell_of hs9.h0]; rfl
            have hsE : Sat wc (h ++ (hp ++ G)) := by (refine Sat.part hs9 ?_; intro a; simp only [cnt_cons, cnt_append]; omega)
            obtain ⟨_, p1, p2⟩ := HPU.out.2 wc hsE
            have ff : ∀ i, wc.frozen? ⟨pg, i, none⟩ = false := lv_unfrozen HV.out.2 (show Sat wc (hp ++ (h ++ G)) by (refine Sat.part hs9 ?_; intro a; simp only [cnt_cons, cnt_append]; omega))
            clear hrs HRS2 HF HS4 hs9 hsB hsC hsD hsE hown hyy HW HE HL HPU
            go_upto_region 12 with (fail)
            go_still_tail 8, (by kernel_rfl)
            obtain ⟨y0, y1, y2, y3, y4, y5, y6, y7, y8, y9, y10, y11, y12⟩ := HYY.out
            go_wp2_with ((go_at_call 90; refine (HAD.out).mono ?_; rintro e w8 ⟨rfl, lv', h', hv', hs8⟩; have FIN := Lib.hid (UdSt.mk hv' HD.out.1 hs8)))
            go_ret
            exact ⟨rfl, FIN.out⟩
          · have hb1 : (rc' == 0) = false := beq_eq_false_iff_ne.2 hc
            have hb2 : (rc' != 0) = true := by rw [bne, hb1]; rfl
            have hrs := HRS2.out
            rw [if_pos hc] at hrs
            have h1 : l = lr := congrArg Prod.fst hrs
            have h2 : P = Pr := congrArg (fun y => y.2.1) hrs
            have h3 : rc' = rc := congrArg (fun y => y.2.2) hrs
            subst h1; subst h2; subst h3
            have FIN := Lib.hid (UdSt.mk (G := G) HV.out.1 HV.out.2 (show Sat wc (.blk b (udO (.slice a0 l.length c0) (.slice (some ⟨pg, 0, none⟩) P.length pc) sv) :: (h ++ (hp ++ G))) by (refine Sat.part hs9 ?_; intro a; simp only [cnt_cons, cnt_append]; omega)))
            clear hrs HRS2 HF HE HL HV HS4 HPU HW hs9 hc
            go_wp2_with fail
            go_ret
            exact ⟨rfl, FIN.out⟩
      · have hcb1 : (c == 0) = false := beq_eq_false_iff_ne.2 hc
        have hcb2 : (c != 0) = true := by rw [bne, hcb1]; rfl
        have hrs := HRS.out
        rw [if_pos hc] at hrs
        clear hc
        go_wp2_with (first | (go_at_call 89; refine (HLA.out).mono ?_; rintro e w3 ⟨rfl, hb⟩; have HS3 := Lib.hid (HS2.out.monoB hb); clear hb HLA HS2 x0 x1 x2 x3 x4 x5 x6 x7 x8 x9 x10 x11 x12; obtain ⟨x0, x1, x2, x3, x4, x5, x6, x7, x8, x9, x10, x11, x12⟩ := enAt_of HS3.out.h0; have hb1 : w3.cell? ⟨b, 1, none⟩ = some (.slice (some ⟨pg, 0, none⟩) P.length pc) := (by rw [cell_of HS3.out.h1]; rfl); obtain ⟨p0, p1, p2⟩ := HPU.out.2 w3 HS3.out.tail.tail) | (go_at_call 19; refine (HT.out _).mono ?_; rintro e w4 ⟨rfl, hb⟩; have HS4 := Lib.hid (HS3.out.monoB hb); clear hb HT HS3 x0 x1 x2 x3 x4 x5 x6 x7 x8 x9 x10 x11 x12 hb1 p0 p1 p2))
        have h1 : l = lr := congrArg Prod.fst hrs
        have h2 : P = Pr := congrArg (fun y => y.2.1) hrs
        have h3 : c = rc := congrArg (fun y => y.2.2) hrs
        subst h1; subst h2; subst h3
        have FIN := Lib.hid (UdSt.mk HV.out.1 HV.out.2 (HS4.out.new (eO y)).tail.tail)
        clear hrs HRS HF HW HE HL HV HS4 HPU HY
        go_ret
        exact ⟨rfl, FIN.out⟩
end Go.Proofs.YtficgjklagnbjaaGreat
namespace Go.Proofs.YtficgjklagnbjaaGreat
open Go Go.MapKept Go.RowKit Go.Proofs Go.Sort

/-- The entry that ends a transaction. -/
def endE (t : Tx) (n : Int) : En := ⟨4, t, n + 1, n, 0, 0, false, ⟨#[]⟩, false, ⟨#[]⟩, 0⟩
def endsM (l : List En) : List (Tx × Int) → List En × Int
  | [] => (l, 0)
  | q :: r => if 1099511627776 ≤ lastL l q.1 then (l, 36) else endsM (l ++ [endE q.1 (lastL l q.1)]) r
theorem ofM_more {l : List En} {t : Tx} (x : En) (h : ofM l t ≠ []) : ofM (l ++ [x]) t ≠ [] := by
  rw [ofM_step]
  intro h0
  exact h (List.append_eq_nil_iff.1 h0).1
theorem ofM_last {l : List En} {t : Tx} (h : ofM l t ≠ []) : ∃ z, (ofM l t).getLast? = some z ∧ lastL l t = z.lsn ∧ 1 ≤ z.lsn ∧ z.lsn ≤ 1099511627776 := by
  have hz := List.getLast?_eq_some_getLast h
  refine ⟨_, hz, by unfold lastL; rw [hz], goodM_lsn (ofM_good (List.getLast_mem h))⟩
theorem FitL.snoc {l : List En} {x : En} (h : FitL l) (hx : -9223372036854775808 ≤ x.lsn ∧ x.lsn ≤ 9223372036854775807) : FitL (l ++ [x]) := by
  intro y hy
  rcases List.mem_append.1 hy with h1 | h1
  · exact h y h1
  · rw [List.mem_singleton.1 h1]; exact hx
set_option maxRecDepth 100000 in
set_option maxHeartbeats 4000000 in
theorem ends_any {b : Nat} {l : List En} {P : List Lf} {L : List (Tx × Int)} {sv : Value} {G : Heaplet} {w : World} (hU : UdSt b l P sv G w) (hL : LoIn G sv L) (hl : l.length + L.length ≤ 99999) (hf : FitL l) (ho : ∀ q ∈ L, ofM l q.1 ≠ []) :
    Calls Tryz.prog 61 #[.pointer (some ⟨b, 0, none⟩)] w (Ret (kI (endsM l L).2) (UdSt b (endsM l L).1 P sv G)) := by
  obtain ⟨lr, rc, hr⟩ : ∃ lr rc, endsM l L = (lr, rc) := ⟨_, _, rfl⟩
  rw [hr]
  obtain ⟨la, lc, rfl, hlo⟩ := hL
  have HLO := Lib.hid hlo
  have HU := Lib.hid hU
  have HST : Hid (∃ l' : List En, UdSt b l' P (.slice la L.length lc) G w ∧ endsM l' L = (lr, rc) ∧ l'.length = l.length + 0 ∧ FitL l' ∧ ∀ q ∈ L, ofM l' q.1 ≠ []) := Lib.hid ⟨l, hU, hr, rfl, hf, ho⟩
  have hub : ∀ (l' : List En) W, UdSt b l' P (.slice la L.length lc) G W → W.cell? ⟨b, 2, none⟩ = some (.slice la L.length lc) := fun l' W hW => by
    obtain ⟨_, _, _, _, _, _, s⟩ := hW
    rw [cell_of s.h0]; rfl
  have ub := hub _ _ hU
  have hll : (L.length : Int) ≤ 99999 := by omega
  have HLL := Lib.hid hl
  clear hr hlo hU hf ho hub hl
  go_enter Tryz.func61, Tryz.ntmps61
  go_wp2_with fail
  clear ub
  go_loopw [11] (fun v11 wr => ∃ (i : Nat) (l' : List En), i ≤ L.length ∧ v11 = .int .i64 i ∧ UdSt b l' P (.slice la L.length lc) G wr ∧ endsM l' (L.drop i) = (lr, rc) ∧ l'.length = l.length + i ∧ FitL l' ∧ ∀ q ∈ L, ofM l' q.1 ≠ []) (fun v11 _ => 200000 - (RowKit.intOf v11).toNat)
  case atStart =>
    obtain ⟨l', h1, h2, h3, h4, h5⟩ := HST.out
    exact ⟨0, l', by omega, rfl, h1, h2, h3, h4, h5⟩
  case round =>
    clear HST HU
    obtain ⟨i, l', hi, rfl, hU, hrest, hlen, hf, ho⟩ := hrel
    have i0 : (0 : Int) ≤ (i : Int) := by omega
    by_cases hil : i < L.length
    · have i1 : (i : Int) < (L.length : Int) := by omega
      obtain ⟨q, hq⟩ : ∃ q, L[i]? = some q := ⟨_, List.getElem?_eq_getElem hil⟩
      have hdr : L.drop i = q :: L.drop (i + 1) := by rw [List.drop_eq_getElem_cons hil]; congr 1; exact Option.some.inj ((List.getElem?_eq_getElem hil).symm.trans hq)
      rw [hdr] at hrest
      simp only [endsM] at hrest
      obtain ⟨z, hz, hlz, hz1, hz2⟩ := ofM_last (ho q (List.mem_of_getElem? hq))
      rw [hlz] at hrest
      obtain ⟨lv, pv, h, hp, h1, h2, s⟩ := hU
      obtain ⟨a0, c0, rfl⟩ := sl_form h1
      obtain ⟨eg, off, rfl, e0, e1, e2, e3⟩ := HLO.out wr s.tail.right.right i q hq
      have s1 := s.new (.cells #[kI q.1.c, kI q.1.e, kI q.1.n, kI q.2] 89)
      have HS1 := Lib.hid s1
      have HV := Lib.hid (And.intro h1 h2)
      have hE : EnsIn (.blk wr.heap.size (.cells #[kI q.1.c, kI q.1.e, kI q.1.n, kI q.2] 89) :: (h ++ (hp ++ G))) (.slice a0 l'.length c0) l' := (ens_in h1 _).mono (fun w hw => hw.tail)
      have HLA := Lib.hid (last_any q.1 z hE s1.swap (by have := HLL.out; omega) hf hz)
      have HRS := Lib.hid (And.intro hrest (And.intro hlen (And.intro hf ho)))
      have hbk : wr.heap.size ≠ b := fun e => by
        have := s1.ne (c := b) (.head _)
        exact this e.symm
      clear hrest hf ho hE s s1 h1 h2 hz hdr hq hlz
      go_upto_region 4 with (fail)
      clear e0 e1 e2 e3
      have k0 : (wr.alloc (.cells #[kI q.1.c, kI q.1.e, kI q.1.n, kI q.2] 89)).cell? ⟨wr.heap.size, 0, none⟩ = some (kI q.1.c) := by rw [cell_of HS1.out.h0]; rfl
      have k1 : (wr.alloc (.cells #[kI q.1.c, kI q.1.e, kI q.1.n, kI q.2] 89)).cell? ⟨wr.heap.size, 1, none⟩ = some (kI q.1.e) := by rw [cell_of HS1.out.h0]; rfl
      have k2 : (wr.alloc (.cells #[kI q.1.c, kI q.1.e, kI q.1.n, kI q.2] 89)).cell? ⟨wr.heap.size, 2, none⟩ = some (kI q.1.n) := by rw [cell_of HS1.out.h0]; rfl
      generalize wr.alloc (.cells #[kI q.1.c, kI q.1.e, kI q.1.n, kI q.2] 89) = W1 at *
      generalize wr.heap.size = lb at *
      by_cases hlm : 1099511627776 ≤ z.lsn
      · have hrs := HRS.out.1
        rw [if_pos hlm] at hrs
        have h1 : l' = lr := congrArg Prod.fst hrs
        have h2 : 36 = rc := congrArg Prod.snd hrs
        subst h1; subst h2
        clear hrs
        go_wp2_with (go_at_call 89; refine (HLA.out).mono ?_; rintro e w3 ⟨rfl, hb⟩; have HS3 := Lib.hid (HS1.out.monoB hb); clear hb HLA)
        have FIN := Lib.hid (UdSt.mk HV.out.1 HV.out.2 HS3.out.tail)
        clear HV HS3 HS1 HRS HLO
        go_ret
        exact ⟨rfl, FIN.out⟩
      · have hrs := HRS.out.1
        rw [if_neg hlm] at hrs
        have hlm' : (1099511627776 ≤ z.lsn) = False := eq_false hlm
        have hwr : wrap64 (z.lsn + 1) = z.lsn + 1 := IntWalk.wrap64_in _ (by omega)
        have HRS2 := Lib.hid hrs
        clear hrs hlm
        go_wp2_with (first
          | (go_at_call 89; refine (HLA.out).mono ?_; rintro e w3 ⟨rfl, hb⟩; have HS3 := Lib.hid (HS1.out.monoB hb); clear hb HLA k0 k1 k2; have k0 : w3.cell? ⟨lb, 0, none⟩ = some (kI q.1.c) := (by rw [cell_of HS3.out.h0]; rfl); have k1 : w3.cell? ⟨lb, 1, none⟩ = some (kI q.1.e) := (by rw [cell_of HS3.out.h0]; rfl); have k2 : w3.cell? ⟨lb, 2, none⟩ = some (kI q.1.n) := (by rw [cell_of HS3.out.h0]; rfl); have HAD : Hid (Calls Tryz.prog 90 #[.pointer (some ⟨b, 0, none⟩), .agg #[kI 4, kI q.1.c, kI q.1.e, kI q.1.n, kI (z.lsn + 1), kI z.lsn, kI 0, kI 0, .bool false, kS ⟨#[]⟩, .bool false, kS ⟨#[]⟩, kI 0]] w3 (Ret (.tuple #[]) fun w' => ∃ lv' h', EnSl lv' (l' ++ [endE q.1 z.lsn]) h' ∧ Sat w' (.blk b (udO lv' pv (.slice (some ⟨eg, off, none⟩) L.length lc)) :: (h' ++ (hp ++ G))))) := Lib.hid (add_any (endE q.1 z.lsn) HV.out.1 HS3.out.tail (by have := HLL.out; have := HRS.out.2.1; omega)))
          | (go_at_call 90; refine (HAD.out).mono ?_; rintro e w8 ⟨rfl, lv', h', hv', hs8⟩; have FIN := Lib.hid (UdSt.mk hv' HV.out.2 hs8)))
        have F2 := HRS.out
        exact ⟨⟨i + 1, l' ++ [endE q.1 z.lsn], by omega, by simp, FIN.out, HRS2.out, by rw [List.length_append, F2.2.1]; simp; omega, F2.2.2.1.snoc (by show -9223372036854775808 ≤ z.lsn + 1 ∧ z.lsn + 1 ≤ 9223372036854775807; omega), fun q hq => ofM_more _ (F2.2.2.2 q hq)⟩, by simp only [RowKit.intOf]; omega⟩
    · obtain rfl : i = L.length := by omega
      rw [List.drop_length] at hrest
      have h1 : l' = lr := congrArg Prod.fst hrest
      have h2 : 0 = rc := congrArg Prod.snd hrest
      subst h1; subst h2
      have FIN := Lib.hid hU
      clear hU hrest hlen hf ho hi hil HLO HLL
      go_wp2_with fail
      go_ret
      exact ⟨rfl, FIN.out⟩
end Go.Proofs.YtficgjklagnbjaaGreat
