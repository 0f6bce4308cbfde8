/- Texts put together: Pa4, SlA, Me1. Conditions: none. -/
import Derived.Deep.CutBlock
import Derived.Lib.SliceRun
import Derived.Deep.QuietTactic
import Derived.BigQuiet
import Derived.Test.YtficgjklagnbjaaGreatFo2
import Derived.Test.YtficgjklagnbjaaGreatFo4
namespace Go.Proofs.YtficgjklagnbjaaGreat
open Go Go.MapKept Go.RowKit Go.Proofs Go.Sort

abbrev eO (x : En) : Obj := .cells #[kI x.kind, kI x.t.c, kI x.t.e, kI x.t.n, kI x.lsn, kI x.prev, kI x.page, kI x.slot, .bool x.wu, kS x.wd, .bool x.iu, kS x.idt, kI x.next] 58
/-- The entry's cells at block g. -/
def EnAt (w : World) (g : Nat) (x : En) : Prop :=
  w.cell? ⟨g, 0, none⟩ = some (kI x.kind) ∧ w.cell? ⟨g, 1, none⟩ = some (kI x.t.c) ∧ w.cell? ⟨g, 2, none⟩ = some (kI x.t.e) ∧ w.cell? ⟨g, 3, none⟩ = some (kI x.t.n) ∧ w.cell? ⟨g, 4, none⟩ = some (kI x.lsn) ∧ w.cell? ⟨g, 5, none⟩ = some (kI x.prev) ∧
  w.cell? ⟨g, 6, none⟩ = some (kI x.page) ∧ w.cell? ⟨g, 7, none⟩ = some (kI x.slot) ∧ w.cell? ⟨g, 8, none⟩ = some (.bool x.wu) ∧ w.cell? ⟨g, 9, none⟩ = some (kS x.wd) ∧ w.cell? ⟨g, 10, none⟩ = some (.bool x.iu) ∧ w.cell? ⟨g, 11, none⟩ = some (kS x.idt) ∧ w.cell? ⟨g, 12, none⟩ = some (kI x.next)
theorem enAt_of {w : World} {g : Nat} {x : En} (h : w.heap[g]? = some (eO x)) : EnAt w g x := by
  refine ⟨?_, ?_, ?_, ?_, ?_, ?_, ?_, ?_, ?_, ?_, ?_, ?_, ?_⟩
  all_goals
    rw [cell_of h]; rfl
theorem enAt_new (w : World) (x : En) : EnAt (w.alloc (eO x)) w.heap.size x := enAt_of ((sat_all w).new (eO x)).h0
theorem Grown.cell {w w' : World} (h : Grown w w') {a : Addr} {v : Value} (hc : w.cell? a = some v) : w'.cell? a = some v := by
  obtain ⟨q, os, rfl⟩ := h
  exact cell_grown (World.block_lt_of_cell? w a hc) hc q os
theorem EnAt.grown {w w' : World} {g : Nat} {x : En} (h : EnAt w g x) (k : Grown w w') : EnAt w' g x := by
  obtain ⟨h0, h1, h2, h3, h4, h5, h6, h7, h8, h9, h10, h11, h12⟩ := h
  exact ⟨k.cell h0, k.cell h1, k.cell h2, k.cell h3, k.cell h4, k.cell h5, k.cell h6, k.cell h7, k.cell h8, k.cell h9, k.cell h10, k.cell h11, k.cell h12⟩
set_option maxRecDepth 100000 in
theorem plain_any (x : En) (w : World) : Calls Tryz.prog 71 #[eV x] w (Pur (eV (plainM x)) w) := by
  unfold Pur
  obtain ⟨h0, h1, h2, h3, h4, h5, _, _, _, _, _, _, _⟩ := enAt_new w x
  have hg : Hid (Grown w ((w.alloc (eO x)).alloc (eO (plainM x)))) := Lib.hid ((Grown.alloc w _).trans (Grown.alloc _ _))
  have hk := enAt_new (w.alloc (eO x)) (plainM x)
  rw [World.size_alloc] at hk
  go_enter Tryz.func71, Tryz.ntmps71
  go_wp2_with fail
  have hg2 : Grown w _ := hg.out
  refine bodyPost_ret (v := eV (plainM x)) ?_ rfl ⟨rfl, hg2⟩
  change (results Tryz.f71 _).run Tryz.prog ((w.alloc (eO x)).alloc (eO (plainM x))) = .ok _ ((w.alloc (eO x)).alloc (eO (plainM x)))
  generalize (w.alloc (eO x)).alloc (eO (plainM x)) = W2 at *
  obtain ⟨k0, k1, k2, k3, k4, k5, k6, k7, k8, k9, k10, k11, k12⟩ := hk
  simp [results, Tryz.results71, go_sem, k0, k1, k2, k3, k4, k5, k6, k7, k8, k9, k10, k11, k12]
set_option maxRecDepth 100000 in
set_option maxHeartbeats 2000000 in
theorem eq_plain (x : En) (w : World) : (binOp .eql 58 (eV x) (eV (plainM x))).run Tryz.prog w = .ok (.bool (bareM x)) w := by
  simp only [plainM]
  simp [go_sem]
  unfold bareM
  repeat' split
  all_goals
    simp_all
theorem eq_tx (a b : Tx) (w : World) : (binOp .eql 56 (tV a) (tV b)).run Tryz.prog w = .ok (.bool (decide (a = b))) w := by
  obtain ⟨a1, a2, a3⟩ := a
  obtain ⟨b1, b2, b3⟩ := b
  simp [go_sem]
  repeat' split
  all_goals
    simp_all
set_option maxRecDepth 100000 in
set_option maxHeartbeats 4000000 in
theorem good_any (x : En) (w : World) (hb : -9223372036854775808 ≤ x.lsn) (hb2 : x.lsn ≤ 9223372036854775807) : Calls Tryz.prog 37 #[eV x] w (Pur (.bool (goodM x)) w) := by
  unfold Pur
  have HE : Hid (EnAt (w.alloc (eO x)) w.heap.size x) := Lib.hid (enAt_new w x)
  have HG : Hid (Grown w (w.alloc (eO x))) := Lib.hid (Grown.alloc w _)
  go_enter Tryz.func37, Tryz.ntmps37
  go_upto_region 1 with (fail)
  generalize w.alloc (.cells #[kI x.kind, kI x.t.c, kI x.t.e, kI x.t.n, kI x.lsn, kI x.prev, kI x.page, kI x.slot, .bool x.wu, kS x.wd, .bool x.iu, kS x.idt, kI x.next] 58) = W1 at *
  generalize w.heap.size = g at *
  obtain ⟨hm, hhm⟩ : ∃ hm, headM x = hm := ⟨_, rfl⟩
  have HHM := Lib.hid hhm
  clear hhm
  go_cut [22] from 4 to 23 (fun v wx => v = .bool (!hm) ∧ EnAt wx g x ∧ Grown w wx)
  case first =>
    obtain ⟨e0, e1, e2, e3, e4, e5, _, _, _, _, _, _, _⟩ := HE.out
    go_wp2_with fail
    refine (known_any x.t _).mono ?_
    rintro e w2 ⟨rfl, hg2⟩
    obtain ⟨f0, f1, f2, f3, f4, f5, _, _, _, _, _, _, _⟩ := HE.out.grown hg2
    have HE2 := Lib.hid (HE.out.grown hg2)
    have HG2 := Lib.hid (HG.out.trans hg2)
    clear hg2 e0 e1 e2 e3 e4 e5
    have hhm := HHM.out
    unfold headM at hhm
    have HW := Lib.hid within_any
    cases hk : knownM x.t with
    | false =>
      rw [hk, Bool.false_and, Bool.false_and] at hhm
      subst hhm
      clear hk
      go_wp2_with fail
      go_meet
      exact ⟨rfl, HE2.out, HG2.out⟩
    | true =>
      rw [hk, Bool.true_and] at hhm
      clear hk
      obtain ⟨b1, hb1⟩ : ∃ b1, withinM x.lsn 1 1099511627776 = b1 := ⟨_, rfl⟩
      obtain ⟨b2, hb2'⟩ : ∃ b2, withinM x.prev 0 (x.lsn - 1) = b2 := ⟨_, rfl⟩
      rw [hb1, hb2'] at hhm
      go_wp2_with fail
      refine (HW.out _ _ _ _).mono ?_
      rintro e w3 ⟨rfl, rfl⟩
      rw [hb1]
      have hlow : 1 ≤ x.lsn ∨ b1 = false := by
        rw [← hb1]; unfold withinM
        by_cases h : 1 ≤ x.lsn
        · exact .inl h
        · exact .inr (by simp [h])
      cases b1 with
      | false =>
        rw [Bool.false_and] at hhm
        subst hhm
        clear hb1 hb2' hlow
        go_wp2_with fail
        go_meet
        exact ⟨rfl, HE2.out, HG2.out⟩
      | true =>
        rw [Bool.true_and] at hhm
        subst hhm
        have hl1 : 1 ≤ x.lsn := hlow.resolve_right (by simp)
        clear hb1 hlow
        go_wp2_with fail
        refine (HW.out _ _ _ _).mono ?_
        rintro e w3 ⟨rfl, rfl⟩
        rw [hb2']
        clear hb2'
        go_wp2_with fail
        go_meet
        exact ⟨rfl, HE2.out, HG2.out⟩
  case rest =>
    clear HE HG
    obtain ⟨rfl, hE, hG⟩ := hcut
    cases hm with
    | false =>
      have e : Hid (goodM x = false) := Lib.hid (by unfold goodM; rw [HHM.out, Bool.false_and])
      have HG := Lib.hid hG
      clear hE hG
      go_wp2_with fail
      go_ret
      exact ⟨by rw [e.out]; rfl, HG.out⟩
    | true =>
      have HE := Lib.hid hE
      have HG := Lib.hid hG
      clear hE hG
      obtain ⟨cm, hcm⟩ : ∃ cm, changeM x = cm := ⟨_, rfl⟩
      have HCM := Lib.hid hcm
      clear hcm
      go_upto_region 3 with (fail)
      go_cut [3] from 23 to 41 (fun v wx => v = .bool cm ∧ EnAt wx g x ∧ Grown w wx)
      case first =>
        obtain ⟨_, _, _, _, _, _, e6, e7, e8, e9, e10, e11, _⟩ := HE.out
        have HW := Lib.hid within_any
        have hcm := HCM.out
        unfold changeM at hcm
        obtain ⟨b1, hb1⟩ : ∃ b, withinM x.page 0 1023 = b := ⟨_, rfl⟩
        obtain ⟨b2, hb2'⟩ : ∃ b, withinM x.slot 0 31 = b := ⟨_, rfl⟩
        obtain ⟨b3, hb3⟩ : ∃ b, slotM x.wu x.wd = b := ⟨_, rfl⟩
        obtain ⟨b4, hb4⟩ : ∃ b, slotM x.iu x.idt = b := ⟨_, rfl⟩
        rw [hb1, hb2', hb3, hb4] at hcm
        go_wp2_with fail
        refine (HW.out _ _ _ _).mono ?_
        rintro e w3 ⟨rfl, rfl⟩
        rw [hb1]
        cases b1 with
        | false =>
          simp only [Bool.false_and] at hcm
          subst hcm
          clear hb1 hb2' hb3 hb4
          go_wp2_with fail
          go_meet
          exact ⟨rfl, HE.out, HG.out⟩
        | true =>
          go_wp2_with fail
          refine (HW.out _ _ _ _).mono ?_
          rintro e w3 ⟨rfl, rfl⟩
          rw [hb2']
          cases b2 with
          | false =>
            simp only [Bool.true_and, Bool.false_and] at hcm
            subst hcm
            clear hb1 hb2' hb3 hb4
            go_wp2_with fail
            go_meet
            exact ⟨rfl, HE.out, HG.out⟩
          | true =>
            clear hb1 hb2'
            go_wp2_with fail
            refine (isSlot_any x.wu x.wd _).mono ?_
            rintro e w4 ⟨rfl, hg4⟩
            have HE4 := Lib.hid (HE.out.grown hg4)
            have HG4 := Lib.hid (HG.out.trans hg4)
            clear hg4 e6 e7 e8 e9 e10 e11
            obtain ⟨_, _, _, _, _, _, e6, e7, e8, e9, e10, e11, _⟩ := HE4.out
            rw [hb3]
            cases b3 with
            | false =>
              simp only [Bool.true_and, Bool.false_and] at hcm
              subst hcm
              clear hb3 hb4
              go_wp2_with fail
              go_meet
              exact ⟨rfl, HE4.out, HG4.out⟩
            | true =>
              simp only [Bool.true_and] at hcm
              subst hcm
              clear hb3
              go_wp2_with fail
              refine (isSlot_any x.iu x.idt _).mono ?_
              rintro e w5 ⟨rfl, hg5⟩
              have HE5 := Lib.hid (HE4.out.grown hg5)
              have HG5 := Lib.hid (HG4.out.trans hg5)
              clear hg5 e6 e7 e8 e9 e10 e11
              rw [hb4]
              clear hb4
              go_wp2_with fail
              go_meet
              exact ⟨rfl, HE5.out, HG5.out⟩
      case rest =>
        clear HE HG
        obtain ⟨rfl, hE, hG⟩ := hcut
        have hgm : goodM x = (if x.kind = 1 then cm && x.next == 0 else if x.kind = 2 then cm && withinM x.next 0 x.prev else if x.kind = 3 ∨ x.kind = 4 then bareM x else false) := by
          unfold goodM; rw [HHM.out, HCM.out, Bool.true_and]
        obtain ⟨e0, e1, e2, e3, e4, e5, e6, e7, e8, e9, e10, e11, e12⟩ := hE
        have HG := Lib.hid hG
        by_cases k1 : x.kind = 1
        · rw [if_pos k1] at hgm
          have HGM := Lib.hid hgm
          have b1 : (x.kind == 1) = true := by simpa using k1
          clear hG hgm k1
          cases cm with
          | false =>
            go_wp2_with fail
            go_ret
            exact ⟨by rw [HGM.out]; rfl, HG.out⟩
          | true =>
            go_wp2_with fail
            go_ret
            exact ⟨by rw [HGM.out]; rfl, HG.out⟩
        · rw [if_neg k1] at hgm
          have b1 : (x.kind == 1) = false := by simpa using k1
          by_cases k2 : x.kind = 2
          · rw [if_pos k2] at hgm
            have HGM := Lib.hid hgm
            have b2 : (x.kind == 2) = true := by simpa using k2
            clear hG hgm k1 k2
            cases cm with
            | false =>
              go_wp2_with fail
              go_ret
              exact ⟨by rw [HGM.out]; rfl, HG.out⟩
            | true =>
              go_wp2_with fail
              refine (within_any _ _ _ _).mono ?_
              rintro e w3 ⟨rfl, rfl⟩
              go_wp2_with fail
              go_ret
              exact ⟨by rw [HGM.out]; rfl, HG.out⟩
          · rw [if_neg k2] at hgm
            have b2 : (x.kind == 2) = false := by simpa using k2
            by_cases k34 : x.kind = 3 ∨ x.kind = 4
            · rw [if_pos k34] at hgm
              have HGM := Lib.hid hgm
              have HE : Hid (EnAt wc g x) := Lib.hid ⟨e0, e1, e2, e3, e4, e5, e6, e7, e8, e9, e10, e11, e12⟩
              have HED : Hid (EnAt wc.drew g x) := Lib.hid ⟨e0, e1, e2, e3, e4, e5, e6, e7, e8, e9, e10, e11, e12⟩
              clear hG hgm k1 k2
              have hpl : ∀ W, Calls Tryz.prog 71 #[eV x] W (Pur (eV (plainM x)) W) := fun W => plain_any x W
              have heq := eq_plain x
              have hgd : ∀ W, (eqGuard .eql 58 (.tmp 64) (.tmp 66) (eV x) (eV (plainM x))).run Tryz.prog W = .ok () W := fun W => by first | rfl | (simp only [plainM]; simp [go_sem, eqGuard])
              generalize eV (plainM x) = pv at *
              rcases k34 with k3 | k4
              · have b3 : (x.kind == 3) = true := by simpa using k3
                clear k3
                go_upto_region 11 with (fail)
                go_region_held3 (fun w' => w'.cell? ⟨g, 0, none⟩ = some (kI x.kind) ∧ w'.cell? ⟨g, 1, none⟩ = some (kI x.t.c) ∧ w'.cell? ⟨g, 2, none⟩ = some (kI x.t.e) ∧ w'.cell? ⟨g, 3, none⟩ = some (kI x.t.n) ∧ w'.cell? ⟨g, 4, none⟩ = some (kI x.lsn) ∧ w'.cell? ⟨g, 5, none⟩ = some (kI x.prev) ∧
                    w'.cell? ⟨g, 6, none⟩ = some (kI x.page) ∧ w'.cell? ⟨g, 7, none⟩ = some (kI x.slot) ∧ w'.cell? ⟨g, 8, none⟩ = some (.bool x.wu) ∧ w'.cell? ⟨g, 9, none⟩ = some (kS x.wd) ∧ w'.cell? ⟨g, 10, none⟩ = some (.bool x.iu) ∧ w'.cell? ⟨g, 11, none⟩ = some (kS x.idt) ∧ w'.cell? ⟨g, 12, none⟩ = some (kI x.next))
                  (first | exact HE.out | exact HED.out | exact HE6.out)
                  (first | (go_at_call 71; refine (hpl _).mono ?_; rintro e w6 ⟨rfl, hg6⟩; have HE6 := Lib.hid (HED.out.grown hg6); have HG6 := Lib.hid ((HG.out.trans (Grown.drew _)).trans hg6)))
                go_wp2_with fail
                go_ret
                exact ⟨by rw [HGM.out]; rfl, HG6.out⟩
              · have b3 : (x.kind == 3) = false := by rw [beq_eq_false_iff_ne]; omega
                have b4 : (x.kind == 4) = true := by simpa using k4
                clear k4
                go_upto_region 11 with (fail)
                go_region_held3 (fun w' => w'.cell? ⟨g, 0, none⟩ = some (kI x.kind) ∧ w'.cell? ⟨g, 1, none⟩ = some (kI x.t.c) ∧ w'.cell? ⟨g, 2, none⟩ = some (kI x.t.e) ∧ w'.cell? ⟨g, 3, none⟩ = some (kI x.t.n) ∧ w'.cell? ⟨g, 4, none⟩ = some (kI x.lsn) ∧ w'.cell? ⟨g, 5, none⟩ = some (kI x.prev) ∧
                    w'.cell? ⟨g, 6, none⟩ = some (kI x.page) ∧ w'.cell? ⟨g, 7, none⟩ = some (kI x.slot) ∧ w'.cell? ⟨g, 8, none⟩ = some (.bool x.wu) ∧ w'.cell? ⟨g, 9, none⟩ = some (kS x.wd) ∧ w'.cell? ⟨g, 10, none⟩ = some (.bool x.iu) ∧ w'.cell? ⟨g, 11, none⟩ = some (kS x.idt) ∧ w'.cell? ⟨g, 12, none⟩ = some (kI x.next))
                  (first | exact HE.out | exact HED.out | exact HE6.out)
                  (first | (go_at_call 71; refine (hpl _).mono ?_; rintro e w6 ⟨rfl, hg6⟩; have HE6 := Lib.hid (HED.out.grown hg6); have HG6 := Lib.hid ((HG.out.trans (Grown.drew _)).trans hg6)))
                go_wp2_with fail
                go_ret
                exact ⟨by rw [HGM.out]; rfl, HG6.out⟩
            · rw [if_neg k34] at hgm
              have HGM := Lib.hid hgm
              have b3 : (x.kind == 3) = false := by rw [beq_eq_false_iff_ne]; omega
              have b4 : (x.kind == 4) = false := by rw [beq_eq_false_iff_ne]; omega
              clear hG hgm k1 k2 k34
              go_wp2_with fail
              go_ret
              exact ⟨by rw [HGM.out]; rfl, HG.out⟩
end Go.Proofs.YtficgjklagnbjaaGreat
namespace Go.Proofs.YtficgjklagnbjaaGreat
open Go Go.MapKept Go.RowKit Go.Proofs

section
variable {α : Type} {fl : α → List Value} {T t : TypeId} {sz n : Nat} {v : Value} {R : List α} {h F : Heaplet} {w : World} {P : Program}
theorem run_append_zero {i : TypeInfo} (ht : P.underlying t = some (.slice T)) (hi : P.info? T = some i) (a p : Option Addr) (n cap c : Nat) (hn : n ≤ cap) (ty : TypeId) :
    (Builtin.append_ #[t, t] ty #[.slice a n cap, .slice p 0 c]).run P w = .ok (.slice a n cap) w := by
  cases p with
  | none =>
    cases a with
    | none => simp [Builtin.append_, run_underlying ht, sizeOf, typeInfo, hi, Builtin.lenOf, hn, Builtin.firstCells]
    | some a => simp [Builtin.append_, run_underlying ht, sizeOf, typeInfo, hi, Builtin.lenOf, hn, Builtin.firstCells, storeCells]
  | some p =>
    have hf := run_firstCells_some (P := P) w i.size 0 p 0 c [] (by simp) (by simp)
    cases a with
    | none => simp [Builtin.append_, run_underlying ht, sizeOf, typeInfo, hi, Builtin.lenOf, hn, hf]
    | some a => simp [Builtin.append_, run_underlying ht, sizeOf, typeInfo, hi, Builtin.lenOf, hn, hf, storeCells]
theorem fm_inv (hfl : ∀ q, (fl q).length = sz) (hsz : 0 < sz) {j : Nat} {u : Value} (hu : (R.flatMap fl)[j]? = some u) : ∃ q, R[j / sz]? = some q ∧ (fl q)[j % sz]? = some u := by
  have hlt := (List.getElem?_eq_some_iff.1 hu).1
  rw [fm_len hfl] at hlt
  have hi : j / sz < R.length := Nat.div_lt_of_lt_mul (by rw [Nat.mul_comm]; exact hlt)
  refine ⟨R[j / sz], List.getElem?_eq_getElem hi, ?_⟩
  have hf : j % sz < (fl R[j / sz]).length := by rw [hfl]; exact Nat.mod_lt _ hsz
  have := fm_get hfl R (j / sz) (j % sz) _ _ (List.getElem?_eq_getElem hi) (List.getElem?_eq_getElem hf)
  rw [Nat.mul_comm, Nat.div_add_mod, hu] at this
  rw [List.getElem?_eq_getElem hf, this]
/-- Where the elements of what is appended lie. -/
def SrcAt (fl : α → List Value) (sz : Nat) (w : World) (a : Option Addr) (R : List α) : Prop :=
  ∀ i q, R[i]? = some q → ∃ g off, a = some ⟨g, off, none⟩ ∧ ∀ j u, (fl q)[j]? = some u → w.cell? ⟨g, off + i * sz + j, none⟩ = some u
theorem sl_app {i : TypeInfo} {z : Value} {bytes : Nat} (hfl : ∀ q, (fl q).length = sz) (ht : P.underlying t = some (.slice T)) (hi : P.info? T = some i) (hz : i.zero = some z) (hsize : i.size = sz) (hby : i.bytes = bytes) (hzs : z.cells.size = sz) (hsz : 0 < sz)
    (hv : SliceIs T sz v R.length (R.flatMap fl) h) (s : Sat w (h ++ F)) {a : Option Addr} {c : Nat} {R2 : List α} (hs : SrcAt fl sz w a R2) (h1 : ∀ q, ∀ u ∈ fl q, u.oneCell' = true) (h63 : R.length + R2.length ≤ maxLen) (hbytes : (R.length + R2.length) * bytes ≤ 140737488355328) :
    ∃ v' w' h', (∀ ty, (Builtin.append_ #[t, t] ty #[v, .slice a R2.length c]).run P w = .ok v' w') ∧ SliceIs T sz v' (R ++ R2).length ((R ++ R2).flatMap fl) h' ∧ Sat w' (h' ++ F) := by
  by_cases h0 : R2 = []
  · subst h0
    obtain ⟨va, vc, rfl⟩ := sl_form hv
    have hn : R.length ≤ vc := by
      rcases hv.2 with ⟨e2, e3, _⟩ | ⟨g', cap', cur, e2, hnc, _⟩
      · omega
      · simp only [Value.slice.injEq] at e2
        omega
    refine ⟨_, w, h, fun ty => run_append_zero ht hi va a R.length vc c hn ty, ?_, s⟩
    simpa using hv
  · have hpos : 0 < R2.length := List.length_pos_iff.2 h0
    obtain ⟨q0, hq0⟩ : ∃ q, R2[0]? = some q := ⟨_, List.getElem?_eq_getElem hpos⟩
    obtain ⟨g, off, rfl, _⟩ := hs 0 q0 hq0
    have hnews : ∀ j u, (R2.flatMap fl)[j]? = some u → w.cell? ((⟨g, off, none⟩ : Addr).add j) = some u := by
      intro j u hu
      obtain ⟨q, hq, hqu⟩ := fm_inv hfl hsz hu
      obtain ⟨g', off', e, hc⟩ := hs _ q hq
      cases e
      have := hc _ u hqu
      have hadd : (⟨g, off, none⟩ : Addr).add j = ⟨g, off + j, none⟩ := by
        unfold Addr.add
        by_cases hz : j = 0
        · simp [hz]
        · simp [hz]
      rw [hadd]
      rw [Nat.add_assoc, Nat.mul_comm, Nat.div_add_mod] at this
      exact this
    obtain ⟨v', w', h', hr, hsl, hsat⟩ := sat_append (P := P) (ty := 0) ht hi hz hsize hby hzs hsz hv s ⟨g, off, none⟩ R2.length c (R2.flatMap fl) (fm_len hfl R2) hnews (fun u hu => by
      obtain ⟨q, _, hq⟩ := List.mem_flatMap.1 hu
      exact h1 q u hq) hpos h63 hbytes
    refine ⟨v', w', h', fun ty => hr, ?_, hsat⟩
    rw [List.length_append, List.flatMap_append]
    exact hsl
end
end Go.Proofs.YtficgjklagnbjaaGreat
namespace Go.Proofs.YtficgjklagnbjaaGreat
open Go Go.MapKept Go.RowKit Go.Proofs Go.Sort

theorem SlAt.src {F : Heaplet} {a : Option Addr} {n cap : Nat} {L : List Sl} (h : SlAt F (.slice a n cap) L) {w : World} (s : Sat w F) : SrcAt slC 2 w a L := by
  obtain ⟨a', cap', e, hc⟩ := h
  cases e
  intro i q hq
  obtain ⟨g, off, e, hu⟩ := hc i q hq
  refine ⟨g, off, e, fun j u hu2 => ?_⟩
  obtain ⟨u0, u1⟩ := hu w s
  match j, hu2 with
  | 0, hu2 =>
    have : Value.bool q.1 = u := by simpa [slC] using hu2
    rw [← this]; exact u0
  | 1, hu2 =>
    have : kS q.2 = u := by simpa [slC] using hu2
    rw [← this]; exact u1
  | j + 2, hu2 => simp [slC] at hu2
set_option maxRecDepth 100000 in
theorem clone_sl {v : Value} {L : List Sl} {F : Heaplet} {w : World} (hv : SlAt F v L) (s : Sat w F) (hl : L.length ≤ 1000) :
    Calls Tryz.prog 29 #[v] w fun e w' => ∃ v' h, e = .returned v' ∧ SlOwn v' L h ∧ Sat w' (h ++ F) := by
  have hv0 := hv
  obtain ⟨a, cap, rfl, hc⟩ := hv
  cases a with
  | none =>
    have hL : L = [] := by
      cases L with
      | nil => rfl
      | cons x r =>
        obtain ⟨g, off, e, _⟩ := hc 0 x rfl
        cases e
    subst hL
    have HS := Lib.hid s
    have heq : ∀ w : World, (binOp .eql 50 (.slice none 0 cap) (.slice none 0 0)).run Tryz.prog w = .ok (.bool true) w := fun w => Lib.run_eql_slice_nil w _ _ none 0 cap 0 0 Tryz.underlying50
    clear hv0 hc s
    simp only [List.length_nil]
    go_enter Tryz.func29, Tryz.ntmps29
    go_wp2_with fail
    go_ret
    exact ⟨_, [], rfl, SliceIs.nil _ _, HS.out⟩
  | some ad =>
    have hs1 := s.new (.cells #[] 41)
    have hsrc := (hv0.mono (F' := .blk w.heap.size (.cells #[] 41) :: F) (fun w hw => hw.tail)).src hs1
    obtain ⟨i0, hi, hz, hsize, hby⟩ := info_parts infoSl
    obtain ⟨v', w', h', hap, hv', hs'⟩ := sl_app (P := Tryz.prog) (R := []) (R2 := L) (c := cap) slC_len Tryz.underlying50 hi hz hsize hby rfl (by decide) (sl_new 41 2 w.heap.size) (h := [.blk w.heap.size (.cells #[] 41)]) hs1 hsrc (fun q u hu => one_sl q u hu) (by unfold maxLen; simp; omega) (by simp; omega)
    have HAP := Lib.hid hap
    have heq : ∀ w : World, (binOp .eql 50 (.slice (some ad) L.length cap) (.slice none 0 0)).run Tryz.prog w = .ok (.bool false) w := fun w => Lib.run_eql_slice_nil w _ _ (some ad) L.length cap 0 0 Tryz.underlying50
    have FIN : Hid (SlOwn v' L h' ∧ Sat w' (h' ++ F)) := Lib.hid ⟨hv', hs'⟩
    clear hv0 hc s hs1 hsrc hap hv' hs'
    go_enter Tryz.func29, Tryz.ntmps29
    go_wp2_with (at_builtin; refine wpList_append_run rfl _ _ _ _ rfl _ _ _ _ rfl rfl HAP.out ?_)
    go_ret
    exact ⟨_, h', rfl, FIN.out.1, FIN.out.2⟩
set_option maxRecDepth 100000 in
theorem changes_any (x : En) (w : World) : Calls Tryz.prog 72 #[eV x] w (Pur (.bool (chgM x)) w) := by
  unfold Pur chgM
  obtain ⟨h0, _⟩ := enAt_new w x
  have G := Lib.hid (Grown.alloc w (eO x))
  by_cases k1 : x.kind = 1
  · have b1 : (x.kind == 1) = true := by simpa using k1
    clear k1
    go_enter Tryz.func72, Tryz.ntmps72
    go_wp2_with fail
    go_ret
    exact ⟨by rw [b1]; rfl, G.out⟩
  · have b1 : (x.kind == 1) = false := by simpa using k1
    clear k1
    go_enter Tryz.func72, Tryz.ntmps72
    go_wp2_with fail
    go_ret
    exact ⟨by rw [b1]; rfl, G.out⟩
end Go.Proofs.YtficgjklagnbjaaGreat
