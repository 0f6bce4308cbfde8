/- Texts put together: Pg5, Pa1, Pa2, Pa3. Conditions: none. -/
import Derived.Test.YtficgjklagnbjaaGreatProg
import Derived.ProofKit
import Derived.Lib.Hide
import Derived.StillTailTactics
import Derived.Deep.RegionHeld3
import Derived.Deep.RegionWith
import Derived.Deep.DeepCutAuto
import Derived.Deep.QuietTactic
import Derived.BigQuiet
import Derived.Test.YtficgjklagnbjaaGreatFo2
import Derived.Test.YtficgjklagnbjaaGreatFo3
namespace Go.Proofs.YtficgjklagnbjaaGreat
open Go Go.MapKept Go.RowKit Go.Proofs

theorem SlAt.left {h : Heaplet} {v : Value} {L : List Sl} (hv : SlAt h v L) (F : Heaplet) : SlAt (h ++ F) v L :=
  hv.mono (fun _ s => Sat.right (h' := F) (s.perm List.perm_append_comm))
/-- An image, an error; whatever else there was is there. -/
def PgRet (q : Pg) (c : Int) (F : Heaplet) (e : Ending) (w' : World) : Prop := ∃ sv h, e = .returned (.tuple #[pgV q.lsn sv, .int .i64 c]) ∧ Sat w' (h ++ F) ∧ SlAt h sv q.slots
def slN : Value → Nat | .slice _ n _ => n | _ => 0
theorem put_results (tm : Array Value) (W9 : World) (g : Nat) (n c : Int) (sv : Value) (h1 : (tm[6]?).getD undef = .pointer (some ⟨g, 0, none⟩)) (h2 : (tm[7]?).getD undef = .int .i64 c) (r0 : W9.cell? ⟨g, 0, none⟩ = some (kI n)) (r1 : W9.cell? ⟨g, 1, none⟩ = some sv) :
    (results Tryz.f73 tm).run Tryz.prog W9 = .ok (.tuple #[pgV n sv, .int .i64 c]) W9 := by
  simp [results, Tryz.results73, go_sem, h1, h2, r0, r1]
set_option maxRecDepth 100000 in
set_option maxHeartbeats 4000000 in
theorem put_any {v : Value} {p : Pg} {F : Heaplet} {w : World} (k : Int) (x : Sl) (hv : SlAt F v p.slots) (s : Sat w F) (hl : p.slots.length ≤ 1000) (hd : ∀ x ∈ p.slots, x.2.size ≤ 1000000) (hn : -9223372036854775808 ≤ p.lsn ∧ p.lsn ≤ 9223372036854775807) :
    Calls Tryz.prog 73 #[pgV p.lsn v, .int .i64 k, slV x] w (PgRet (putM p k x).1 (putM p k x).2 F) := by
  obtain ⟨xu, xd⟩ := x
  have hs1 := ((s.new (.cells #[kI p.lsn, v] 52)).new (.cells #[.bool xu, kS xd] 41)).new (.cells #[kI 0, .slice none 0 0] 52)
  rw [World.size_alloc, World.size_alloc] at hs1
  have hv1 : SlAt (.blk (w.heap.size + 1 + 1) (.cells #[kI 0, .slice none 0 0] 52) :: .blk (w.heap.size + 1) (.cells #[.bool xu, kS xd] 41) :: .blk w.heap.size (.cells #[kI p.lsn, v] 52) :: F) v p.slots := hv.mono (fun w hw => hw.tail.tail.tail)
  have HG := Lib.hid (pgood_any hv1 hs1 hl hd hn)
  have HS := Lib.hid hs1
  have HV1 := Lib.hid hv1
  have c0 : (((w.alloc (.cells #[kI p.lsn, v] 52)).alloc (.cells #[.bool xu, kS xd] 41)).alloc (.cells #[kI 0, .slice none 0 0] 52)).cell? ⟨w.heap.size, 0, none⟩ = some (kI p.lsn) := by rw [cell_of hs1.h2]; rfl
  have c1 : (((w.alloc (.cells #[kI p.lsn, v] 52)).alloc (.cells #[.bool xu, kS xd] 41)).alloc (.cells #[kI 0, .slice none 0 0] 52)).cell? ⟨w.heap.size, 1, none⟩ = some v := by rw [cell_of hs1.h2]; rfl
  obtain ⟨gp, hgp⟩ : ∃ gp, goodP p = gp := ⟨_, rfl⟩
  obtain ⟨q, c, hres⟩ : ∃ q c, putM p k (xu, xd) = (q, c) := ⟨_, _, rfl⟩
  rw [hgp] at HG
  rw [hres]
  have HR := Lib.hid (And.intro hgp hres)
  have HD := Lib.hid hd
  obtain ⟨a, cap, e, _⟩ := hv
  subst e
  clear s hs1 hv1 hgp hres hd
  have hb := ba_nil xd
  obtain ⟨z, hz⟩ : ∃ z, decide (xd.size = 0) = z := ⟨_, rfl⟩
  rw [hz] at hb
  have HZ := Lib.hid hz
  clear hz
  go_enter Tryz.func73, Tryz.ntmps73
  go_upto_region 1 with (fail)
  generalize ((w.alloc (.cells #[kI p.lsn, .slice a p.slots.length cap] 52)).alloc (.cells #[.bool xu, kS xd] 41)).alloc (.cells #[kI 0, .slice none 0 0] 52) = W1 at *
  generalize w.heap.size = g at *
  have hln : (p.slots.length : Int) ≤ 1000 := by omega
  obtain ⟨bad, hbad⟩ : ∃ bad, (!gp || decide (k < 0) || decide (32 ≤ k) || (!xu && !z)) = bad := ⟨_, rfl⟩
  have HBAD := Lib.hid hbad
  clear hbad
  go_cut [9] from 10 to 30 (fun v9 wx => v9 = .bool bad ∧ Grown W1 wx)
  case first =>
    have x0 : ∀ w1, Grown W1 w1 → w1.cell? ⟨g + 1, 0, none⟩ = some (.bool xu) := fun w1 h => by rw [cell_of (HS.out.grown h).h1]; rfl
    have x1 : ∀ w1, Grown W1 w1 → w1.cell? ⟨g + 1, 1, none⟩ = some (kS xd) := fun w1 h => by rw [cell_of (HS.out.grown h).h1]; rfl
    have X0 := Lib.hid x0
    have X1 := Lib.hid x1
    clear x0 x1 HS HV1
    go_wp2_with fail
    refine (HG.out).mono ?_
    rintro e w1 ⟨rfl, hg⟩
    have x0 := X0.out w1 hg
    have x1 := X1.out w1 hg
    have HGR := Lib.hid hg
    clear hg X0 X1 c0 c1 HG
    have hcs : (gp = false ∧ bad = true) ∨ (gp = true ∧ k < 0 ∧ bad = true) ∨ (gp = true ∧ 0 ≤ k ∧ 32 ≤ k ∧ bad = true) ∨ (gp = true ∧ 0 ≤ k ∧ k < 32 ∧ xu = true ∧ bad = false) ∨ (gp = true ∧ 0 ≤ k ∧ k < 32 ∧ xu = false ∧ bad = !z) := by
      have hb := HBAD.out
      cases gp with
      | false => exact .inl ⟨rfl, by rw [← hb]; rfl⟩
      | true =>
        right
        by_cases h1 : k < 0
        · exact .inl ⟨rfl, h1, by rw [← hb, decide_eq_true h1]; rfl⟩
        · right
          by_cases h2 : 32 ≤ k
          · exact .inl ⟨rfl, by omega, h2, by rw [← hb, decide_eq_true h2]; simp⟩
          · right
            have h3 : bad = (!xu && !z) := by rw [← hb, decide_eq_false h1, decide_eq_false h2]; rfl
            cases xu with
            | true => exact .inl ⟨rfl, by omega, by omega, rfl, h3⟩
            | false => exact .inr ⟨rfl, by omega, by omega, rfl, h3⟩
    clear HBAD
    rcases hcs with ⟨rfl, rfl⟩ | ⟨rfl, h1, rfl⟩ | ⟨rfl, h1, h2, rfl⟩ | ⟨rfl, h1, h2, rfl, rfl⟩ | ⟨rfl, h1, h2, rfl, rfl⟩
    case' inr.inr.inl => have k0 : (k < 0) = False := eq_false (by omega)
    case' inr.inr.inr.inl => have k0 : (k < 0) = False := eq_false (by omega); have k1 : (32 ≤ k) = False := eq_false (by omega)
    case' inr.inr.inr.inr => have k0 : (k < 0) = False := eq_false (by omega); have k1 : (32 ≤ k) = False := eq_false (by omega)
    all_goals
      go_wp2_with fail
      go_meet
      exact ⟨rfl, HGR.out⟩
  case rest =>
  obtain ⟨rfl, hg⟩ := hcut
  generalize wc = w1 at *
  have HS4 := Lib.hid (HS.out.grown hg)
  have d0 : w1.cell? ⟨g, 0, none⟩ = some (kI p.lsn) := by rw [cell_of HS4.out.h2]; rfl
  have d1 : w1.cell? ⟨g, 1, none⟩ = some (.slice a p.slots.length cap) := by rw [cell_of HS4.out.h2]; rfl
  have x0 : w1.cell? ⟨g + 1, 0, none⟩ = some (.bool xu) := by rw [cell_of HS4.out.h1]; rfl
  have x1 : w1.cell? ⟨g + 1, 1, none⟩ = some (kS xd) := by rw [cell_of HS4.out.h1]; rfl
  have e0 : w1.cell? ⟨g + 1 + 1, 0, none⟩ = some (kI 0) := by rw [cell_of HS4.out.h0]; rfl
  have e1 : w1.cell? ⟨g + 1 + 1, 1, none⟩ = some (.slice none 0 0) := by rw [cell_of HS4.out.h0]; rfl
  have f00 : w1.frozen? ⟨g + 1 + 1, 0, none⟩ = false := unfrozen_of HS4.out.h0 0
  have f01 : w1.frozen? ⟨g + 1 + 1, 1, none⟩ = false := unfrozen_of HS4.out.h0 1
  have HFIN : Hid (∀ c' : Int, q = emptyP → c = c' →
      (∀ tm : Array Value, (tm[6]?).getD undef = .pointer (some ⟨g + 1 + 1, 0, none⟩) → (tm[7]?).getD undef = .int .i64 c' → (results Tryz.f73 tm).run Tryz.prog ((w1.setCell ⟨g + 1 + 1, 0, none⟩ (kI 0)).setCell ⟨g + 1 + 1, 1, none⟩ (.slice none 0 0)) = .ok (.tuple #[pgV q.lsn (.slice none 0 0), .int .i64 c]) ((w1.setCell ⟨g + 1 + 1, 0, none⟩ (kI 0)).setCell ⟨g + 1 + 1, 1, none⟩ (.slice none 0 0))) ∧
      PgRet q c F (.returned (.tuple #[pgV q.lsn (.slice none 0 0), .int .i64 c])) ((w1.setCell ⟨g + 1 + 1, 0, none⟩ (kI 0)).setCell ⟨g + 1 + 1, 1, none⟩ (.slice none 0 0))) := Lib.hid (by
    intro c' hq hc
    subst hq; subst hc
    have hs5 := (HS4.out.setCell (i := 0) (kI 0)).setCell (i := 1) (.slice none 0 0)
    exact ⟨fun tm h6 h7 => put_results tm _ (g + 1 + 1) 0 c (.slice none 0 0) h6 h7 (by rw [cell_of hs5.h0]; rfl) (by rw [cell_of hs5.h0]; rfl), .slice none 0 0, [], rfl, hs5.tail.tail.tail, SlAt.nil _ _ _⟩)
  clear hg HG HS c0 c1
  cases bad with
  | true =>
    have hq : (q, c) = (emptyP, 1) := by
      rw [← HR.out.2]
      unfold putM
      rw [if_pos]
      have := HBAD.out
      rw [← HZ.out, ← HR.out.1] at this
      exact this
    have HQ := Lib.hid hq
    clear hq
    go_wp2_with fail
    obtain ⟨h1, h2⟩ := HFIN.out 1 (congrArg Prod.fst HQ.out) (congrArg Prod.snd HQ.out)
    exact bodyPost_ret (h1 _ rfl rfl) rfl h2
  | false =>
    have hb1 := HBAD.out
    simp only [Bool.or_eq_false_iff, decide_eq_false_iff_not] at hb1
    have k0 : 0 ≤ k := by omega
    have k1 : k < 32 := by omega
    by_cases hlong : 200 < xd.size
    · have hli : (200 : Int) < (xd.size : Int) := by omega
      have hq : (q, c) = (emptyP, 5) := by
        rw [← HR.out.2]
        unfold putM
        rw [if_neg, if_pos hlong]
        rw [HR.out.1]
        show ¬ (!gp || decide (k < 0) || decide (32 ≤ k) || !xu && !decide (xd.size = 0)) = true
        rw [HZ.out, HBAD.out]; decide
      have HQ := Lib.hid hq
      clear hq hb1
      go_wp2_with fail
      obtain ⟨h1, h2⟩ := HFIN.out 5 (congrArg Prod.fst HQ.out) (congrArg Prod.snd HQ.out)
      exact bodyPost_ret (h1 _ rfl rfl) rfl h2
    · have hli : ((200 : Int) < (xd.size : Int)) = False := eq_false (by omega)
      have hq : (q, c) = (if 240 < szL (trimU ((widen p.slots (k.toNat + 1)).set k.toNat (xu, xd))) then (emptyP, 22) else (⟨p.lsn, trimU ((widen p.slots (k.toNat + 1)).set k.toNat (xu, xd))⟩, 0)) := by
        rw [← HR.out.2]
        unfold putM
        rw [if_neg, if_neg hlong]
        rw [HR.out.1]
        show ¬ (!gp || decide (k < 0) || decide (32 ≤ k) || !xu && !decide (xd.size = 0)) = true
        rw [HZ.out, HBAD.out]; decide
      have HQ := Lib.hid hq
      clear hq hb1
      obtain ⟨N, hN, hN1, hN2, hN3⟩ : ∃ N : Nat, max (p.slots.length : Int) (k + 1) = (N : Int) ∧ p.slots.length ≤ N ∧ k.toNat < N ∧ N = p.slots.length + ((k.toNat + 1) - p.slots.length) := ⟨p.slots.length + ((k.toNat + 1) - p.slots.length), by omega, by omega, by omega, rfl⟩
      have hN9 : N ≤ 1000 := by omega
      obtain ⟨M, hM⟩ : ∃ M, (widen p.slots (k.toNat + 1)).set k.toNat (xu, xd) = M := ⟨_, rfl⟩
      have hwl : (widen p.slots (k.toNat + 1)).length = N := by unfold widen; rw [List.length_append, List.length_replicate]; omega
      have hMl : M.length = N := by rw [← hM, List.length_set, hwl]
      have hmk : ∀ w : World, (Instr.makeSlice 50 (.int .i64 (N : Int)) (.int .i64 (N : Int))).run Tryz.prog w = .ok (.slice (some ⟨w.heap.size, 0, none⟩) N N) (w.alloc (.cells ((List.replicate N noSl).flatMap slC).toArray 41)) := by
        intro w
        obtain ⟨i0, hi, hz, hsize, hby⟩ := info_parts infoSl
        have := run_make (P := Tryz.prog) w 50 41 i0 _ Tryz.underlying50 hi hz .i64 .i64 (N : Int) (N : Int) (by omega) (by omega) (by rw [hby]; omega) (by omega)
        rw [this, hsize, Int.toNat_natCast]
        rw [show (Value.agg #[.bool false, .string ⟨#[]⟩]).cells = #[.bool false, .string ⟨#[]⟩] from rfl, madeSl]
      have hs2 := HS4.out.new (.cells ((List.replicate N noSl).flatMap slC).toArray 41)
      have hcopy : ∃ W3, (∀ ty, (Builtin.copy_ #[50, 50] ty #[.slice (some ⟨w1.heap.size, 0, none⟩) N N, .slice a p.slots.length cap]).run Tryz.prog (w1.alloc (.cells ((List.replicate N noSl).flatMap slC).toArray 41)) = .ok (.int .i64 p.slots.length) W3) ∧
          Sat W3 (.blk w1.heap.size (.cells ((widen p.slots (k.toNat + 1)).flatMap slC).toArray 41) :: .blk (g + 1 + 1) (.cells #[kI 0, .slice none 0 0] 52) :: .blk (g + 1) (.cells #[.bool xu, kS xd] 41) :: .blk g (.cells #[kI p.lsn, .slice a p.slots.length cap] 52) :: F) := by
        have hinfo : (Tryz.prog.info? 41).map (·.size) = some 2 := by kernel_rfl
        by_cases h0 : p.slots.length = 0
        · refine ⟨w1.alloc (.cells ((List.replicate N noSl).flatMap slC).toArray 41), fun ty => ?_, ?_⟩
          · rw [run_copy_zero _ 50 50 ty 41 2 _ _ N N p.slots.length cap Tryz.underlying50 hinfo (by rw [h0]; simp), h0]
            rfl
          · have e : widen p.slots (k.toNat + 1) = List.replicate N noSl := by
              unfold widen
              rw [List.eq_nil_of_length_eq_zero h0, hN3, h0]
              simp [noSl]
            rw [e]
            exact hs2
        · obtain ⟨x9, hx9⟩ : ∃ x9, p.slots[0]? = some x9 := ⟨_, List.getElem?_eq_getElem (by omega)⟩
          obtain ⟨a', cap', e, hc⟩ := HV1.out
          cases e
          obtain ⟨gg, off, e, _⟩ := hc 0 x9 hx9
          subst e
          have hmn : p.slots.length.min N = p.slots.length := Nat.min_eq_left hN1
          have hcl : (p.slots.flatMap slC).length = p.slots.length * 2 := fm_len slC_len _
          have hrun := fun ty => run_copy_gen (P := Tryz.prog) (w1.alloc (.cells ((List.replicate N noSl).flatMap slC).toArray 41)) 50 50 ty 41 2 w1.heap.size 0 N N ⟨gg, off, none⟩ p.slots.length cap (p.slots.flatMap slC) Tryz.underlying50 hinfo (by rw [hcl, hmn]) (fun j v hj => by
              have hjl : j < p.slots.length * 2 := by rw [← hcl]; exact (List.getElem?_eq_some_iff.1 hj).1
              obtain ⟨y, hy⟩ : ∃ y, p.slots[j / 2]? = some y := ⟨_, List.getElem?_eq_getElem (by omega)⟩
              obtain ⟨gg', off', e, hu⟩ := hc (j / 2) y hy
              cases e
              obtain ⟨u0, u1⟩ := hu _ hs2.tail
              have hadd : (⟨gg, off, none⟩ : Addr).add j = ⟨gg, off + j, none⟩ := by unfold Addr.add; split <;> simp_all
              rw [hadd]
              have h2 : j % 2 = 0 ∨ j % 2 = 1 := by omega
              rcases h2 with h2 | h2
              · have := fm_get slC_len _ (j / 2) 0 _ _ hy (show (slC y)[0]? = some (.bool y.1) from rfl)
                rw [show j / 2 * 2 + 0 = j from by omega, hj] at this
                rw [this, ← u0]
                congr 2; omega
              · have := fm_get slC_len _ (j / 2) 1 _ _ hy (show (slC y)[1]? = some (kS y.2) from rfl)
                rw [show j / 2 * 2 + 1 = j from by omega, hj] at this
                rw [this, ← u1]
                congr 2; omega)
            (fun j hj => by rw [cell_of hs2.h0, List.getElem?_toArray, List.getElem?_eq_getElem (by rw [fm_len slC_len, List.length_replicate]; omega)]; rfl) (fun j _ => unfrozen_of hs2.h0 _) (fun v hv => by obtain ⟨y, _, hy⟩ := List.mem_flatMap.1 hv; exact one_sl y v hy)
          have hs3 := sat_cellsTo (p.slots.flatMap slC) 0 _ _ hs2 (by rw [hcl, fm_len slC_len, List.length_replicate]; omega)
          refine ⟨(w1.alloc (.cells ((List.replicate N noSl).flatMap slC).toArray 41)).setCells w1.heap.size 0 (p.slots.flatMap slC), fun ty => by rw [hrun ty, hmn]; rfl, ?_⟩
          have e : (widen p.slots (k.toNat + 1)).flatMap slC = ((List.replicate N noSl).flatMap slC).take 0 ++ (p.slots.flatMap slC ++ ((List.replicate N noSl).flatMap slC).drop (0 + (p.slots.flatMap slC).length)) := by
            unfold widen
            rw [List.take_zero, List.nil_append, List.flatMap_append, Nat.zero_add, hcl]
            congr 1
            have h1 : List.replicate N noSl = List.replicate p.slots.length noSl ++ List.replicate (k.toNat + 1 - p.slots.length) noSl := by rw [List.replicate_append_replicate, hN3]
            rw [h1, List.flatMap_append, List.drop_left' (by rw [fm_len slC_len, List.length_replicate])]
            rfl
          rw [e]
          exact hs3
      obtain ⟨W3, hcp, hs3⟩ := hcopy
      rw [hM] at HQ
      have HCP := Lib.hid hcp
      have HS3 := Lib.hid hs3
      have HM := Lib.hid (And.intro hM (And.intro hwl (And.intro hMl (And.intro hN1 (And.intro hN2 hN9)))))
      have d2 : (w1.alloc (.cells ((List.replicate N noSl).flatMap slC).toArray 41)).cell? ⟨g, 1, none⟩ = some (.slice a p.slots.length cap) := by rw [cell_of hs2.tail.h2]; rfl
      clear hcp hs3 hM hwl hMl hN1 hN2 hN3 hs2
      have b0 : W3.cell? ⟨g + 1, 0, none⟩ = some (.bool xu) := by rw [cell_of HS3.out.h2]; rfl
      have b1 : W3.cell? ⟨g + 1, 1, none⟩ = some (kS xd) := by rw [cell_of HS3.out.h2]; rfl
      obtain ⟨y, hy⟩ : ∃ y, (widen p.slots (k.toNat + 1))[k.toNat]? = some y := ⟨_, List.getElem?_eq_getElem (by rw [HM.out.2.1]; exact HM.out.2.2.2.2.1)⟩
      have m0 : W3.cell? ⟨w1.heap.size, k.toNat * 2, none⟩ = some (.bool y.1) := by
        rw [cell_of HS3.out.h0, List.getElem?_toArray]
        exact fm_get slC_len _ _ 0 _ _ hy rfl
      have m1 : W3.cell? ⟨w1.heap.size, k.toNat * 2 + 1, none⟩ = some (kS y.2) := by
        rw [cell_of HS3.out.h0, List.getElem?_toArray]
        exact fm_get slC_len _ _ 1 _ _ hy rfl
      have mf0 : W3.frozen? ⟨w1.heap.size, k.toNat * 2, none⟩ = false := unfrozen_of HS3.out.h0 _
      have mf1 : W3.frozen? ⟨w1.heap.size, k.toNat * 2 + 1, none⟩ = false := unfrozen_of HS3.out.h0 _
      have hs4 := (HS3.out.setCell (i := k.toNat * 2) (.bool xu)).setCell (i := k.toNat * 2 + 1) (kS xd)
      have hcells : (((widen p.slots (k.toNat + 1)).flatMap slC).toArray.setIfInBounds (k.toNat * 2) (.bool xu)).setIfInBounds (k.toNat * 2 + 1) (kS xd) = (M.flatMap slC).toArray := by
        have e1 := fm_set slC_len (widen p.slots (k.toNat + 1)) k.toNat 0 y (xu, y.2) (.bool xu) hy (by decide) rfl
        have hy2 : ((widen p.slots (k.toNat + 1)).set k.toNat (xu, y.2))[k.toNat]? = some (xu, y.2) := by rw [List.getElem?_set_self (by rw [HM.out.2.1]; exact HM.out.2.2.2.2.1)]
        have e2 := fm_set slC_len ((widen p.slots (k.toNat + 1)).set k.toNat (xu, y.2)) k.toNat 1 (xu, y.2) (xu, xd) (kS xd) hy2 (by decide) rfl
        rw [List.set_set, HM.out.1] at e2
        rw [← e2, ← e1]
        simp
      rw [hcells] at hs4
      have HS4' := Lib.hid hs4
      have j2 : 0 ≤ k ∧ k < (N : Int) := by have := HM.out.2.2.2.2.1; omega
      clear hs4 hcells hy e0 e1 f00 f01
      go_upto_block 1 with (refine wpList_copy_run rfl _ _ _ _ rfl _ _ _ _ rfl rfl HCP.out ?_)
      generalize (W3.setCell ⟨w1.heap.size, k.toNat * 2, none⟩ (.bool xu)).setCell ⟨w1.heap.size, k.toNat * 2 + 1, none⟩ (.string xd) = W4 at *
      generalize w1.heap.size = nb at *
      clear hmk HCP b0 b1 m0 m1 mf0 mf1 d0 d1 d2 x0 x1 hN HS3
      have hMl := HM.out.2.2.1
      go_cut [8] from 53 to 70 (fun v8 wx => ∃ T, v8 = .slice (some ⟨nb, 0, none⟩) T.length N ∧ trimU M = T ∧ T = M.take T.length ∧ wx = W4)
      case first =>
        go_wp2_with fail
        go_loopw [8] (fun v8 wr => ∃ m : Nat, m ≤ N ∧ v8 = .slice (some ⟨nb, 0, none⟩) m N ∧ trimU M = trimU (M.take m) ∧ wr = W4) (fun v8 _ => slN v8)
        case atStart => exact ⟨N, Nat.le_refl _, rfl, by rw [← hMl, List.take_length], rfl⟩
        case round =>
          obtain ⟨m, hm, rfl, htr, rfl⟩ := hrel
          have m9 : (m : Int) ≤ 2000 := by omega
          cases m with
          | zero =>
            have FIN : Hid (∃ T, Value.slice (some ⟨nb, 0, none⟩) 0 N = .slice (some ⟨nb, 0, none⟩) T.length N ∧ trimU M = T ∧ T = M.take T.length ∧ wr = wr) := Lib.hid ⟨[], rfl, by rw [htr]; rfl, rfl, rfl⟩
            clear htr
            go_wp2_with fail
            go_meet
            obtain ⟨T, h1, h2, h3, _⟩ := FIN.out
            exact ⟨T, h1, h2, h3, rfl⟩
          | succ i =>
            obtain ⟨y2, hy2⟩ : ∃ y2, M[i]? = some y2 := ⟨_, List.getElem?_eq_getElem (by omega)⟩
            have htk : M.take (i + 1) = M.take i ++ [y2] := by rw [List.take_add_one, hy2]; rfl
            have u0 : wr.cell? ⟨nb, i * 2, none⟩ = some (.bool y2.1) := by
              rw [cell_of HS4'.out.h0, List.getElem?_toArray]
              exact fm_get slC_len _ _ 0 _ _ hy2 rfl
            have i0 : (0 : Int) < ((i + 1 : Nat) : Int) := by omega
            have i1 : IntKind.i64.wrap (((i + 1 : Nat) : Int) - 1) = (i : Int) := by rw [IntWalk.i64_in _ (by omega)]; omega
            have i2 : wrap64 (((i + 1 : Nat) : Int) - 1) = (i : Int) := by rw [IntWalk.wrap64_in _ (by omega)]; omega
            have i3 : (i : Int) < ((i + 1 : Nat) : Int) := by omega
            have i4 : (i : Int) ≤ (N : Int) := by omega
            have i5 : i ≤ N := by omega
            obtain ⟨yu, yd⟩ := y2
            simp only at u0
            rw [htk] at htr
            cases yu with
            | true =>
              have FIN : Hid (∃ T, Value.slice (some ⟨nb, 0, none⟩) (i + 1) N = .slice (some ⟨nb, 0, none⟩) T.length N ∧ trimU M = T ∧ T = M.take T.length ∧ wr = wr) := Lib.hid ⟨M.take (i + 1), by rw [List.length_take, Nat.min_eq_left (by omega)], by rw [htr, trimU_keep _ rfl, htk], by rw [List.length_take, Nat.min_eq_left (by omega)], rfl⟩
              clear htr htk hy2
              go_wp2_with fail
              go_meet
              obtain ⟨T, h1, h2, h3, _⟩ := FIN.out
              exact ⟨T, h1, h2, h3, rfl⟩
            | false =>
              have HTR : Hid (trimU M = trimU (M.take i)) := Lib.hid (by rw [htr, trimU_drop _ rfl])
              clear htr htk hy2
              go_wp2_with fail
              exact ⟨⟨i, by omega, rfl, HTR.out, by first | rfl | trivial⟩, by simp [slN]⟩
      case rest =>
        obtain ⟨T, rfl, hT, hTk, rfl⟩ := hcut
        rw [hT] at HQ
        have hTl : T.length ≤ N := by rw [hTk, List.length_take]; omega
        have hown : SlOwn (.slice (some ⟨nb, 0, none⟩) T.length N) T [.blk nb (.cells (M.flatMap slC).toArray 41)] := by
          refine ⟨fm_len slC_len _, .inr ⟨nb, N, _, rfl, hTl, by unfold maxLen; omega, by rw [List.size_toArray, fm_len slC_len, hMl], ?_, rfl⟩⟩
          show (M.flatMap slC).take (T.length * 2) = T.flatMap slC
          have h1 : M = T ++ M.drop T.length := by
            conv => lhs; rw [← List.take_append_drop T.length M]
            rw [← hTk]
          conv => lhs; rw [h1]
          rw [List.flatMap_append, List.take_left' (fm_len slC_len _)]
        have hs9 : Sat wc ([.blk nb (.cells (M.flatMap slC).toArray 41)] ++ (.blk (g + 1 + 1) (.cells #[kI 0, .slice none 0 0] 52) :: .blk (g + 1) (.cells #[.bool xu, kS xd] 41) :: .blk g (.cells #[kI p.lsn, .slice a p.slots.length cap] 52) :: F)) := HS4'.out
        have hsz : ∀ x ∈ T, x.2.size ≤ 1000000 := by
          intro x hx
          rw [hTk] at hx
          have hx := List.mem_of_mem_take hx
          rw [← HM.out.1] at hx
          rcases List.mem_or_eq_of_mem_set hx with hx | rfl
          · unfold widen at hx
            rcases List.mem_append.1 hx with hx | hx
            · exact HD.out x hx
            · rw [List.eq_of_mem_replicate hx]; exact Nat.zero_le _
          · simp only; omega
        have HSZ := Lib.hid (size_any (slAt_own hown _) hs9 (by omega) hsz)
        have HOWN := Lib.hid hown
        have d0 : wc.cell? ⟨g, 0, none⟩ = some (kI p.lsn) := by rw [cell_of HS4'.out.h3]; rfl
        clear hT hTk hown hs9 hsz
        obtain ⟨sz, hsz⟩ : ∃ sz, szL T = sz := ⟨_, rfl⟩
        rw [hsz] at HSZ HQ
        clear hsz d0
        go_wp2_with fail
        refine (HSZ.out).mono ?_
        rintro e w9 ⟨rfl, hg⟩
        have HS9 := Lib.hid (HS4'.out.grown hg)
        have d0 : w9.cell? ⟨g, 0, none⟩ = some (kI p.lsn) := by rw [cell_of HS9.out.h3]; rfl
        have e0 : w9.cell? ⟨g + 1 + 1, 0, none⟩ = some (kI 0) := by rw [cell_of HS9.out.h1]; rfl
        have e1 : w9.cell? ⟨g + 1 + 1, 1, none⟩ = some (.slice none 0 0) := by rw [cell_of HS9.out.h1]; rfl
        have f00 : w9.frozen? ⟨g + 1 + 1, 0, none⟩ = false := unfrozen_of HS9.out.h1 0
        have f01 : w9.frozen? ⟨g + 1 + 1, 1, none⟩ = false := unfrozen_of HS9.out.h1 1
        clear hg HSZ HS4'
        by_cases hbig : 240 < sz
        · have hbi : (240 : Int) < (sz : Int) := by omega
          have hq := HQ.out
          rw [if_pos hbig] at hq
          have hs5 := ((HS9.out.swap).setCell (i := 0) (kI 0)).setCell (i := 1) (.slice none 0 0)
          have HFI : Hid ((∀ tm : Array Value, (tm[6]?).getD undef = .pointer (some ⟨g + 1 + 1, 0, none⟩) → (tm[7]?).getD undef = .int .i64 22 → (results Tryz.f73 tm).run Tryz.prog ((w9.setCell ⟨g + 1 + 1, 0, none⟩ (kI 0)).setCell ⟨g + 1 + 1, 1, none⟩ (.slice none 0 0)) = .ok (.tuple #[pgV q.lsn (.slice none 0 0), .int .i64 c]) ((w9.setCell ⟨g + 1 + 1, 0, none⟩ (kI 0)).setCell ⟨g + 1 + 1, 1, none⟩ (.slice none 0 0))) ∧
              PgRet q c F (.returned (.tuple #[pgV q.lsn (.slice none 0 0), .int .i64 c])) ((w9.setCell ⟨g + 1 + 1, 0, none⟩ (kI 0)).setCell ⟨g + 1 + 1, 1, none⟩ (.slice none 0 0))) := Lib.hid (by
            have h1 : q = emptyP := congrArg Prod.fst hq
            have h2 : c = 22 := congrArg Prod.snd hq
            subst h1; subst h2
            exact ⟨fun tm h6 h7 => put_results tm _ (g + 1 + 1) 0 22 (.slice none 0 0) h6 h7 (by rw [cell_of hs5.h0]; rfl) (by rw [cell_of hs5.h0]; rfl), .slice none 0 0, [], rfl, hs5.tail.tail.tail.tail, SlAt.nil _ _ _⟩)
          clear hq hs5 HQ
          go_wp2_with fail
          exact bodyPost_ret (HFI.out.1 _ rfl rfl) rfl HFI.out.2
        · have hbi : ((240 : Int) < (sz : Int)) = False := eq_false (by omega)
          have hq := HQ.out
          rw [if_neg hbig] at hq
          have hs5 := ((HS9.out.swap).setCell (i := 0) (kI p.lsn)).setCell (i := 1) (.slice (some ⟨nb, 0, none⟩) T.length N)
          have HFI : Hid ((∀ tm : Array Value, (tm[6]?).getD undef = .pointer (some ⟨g + 1 + 1, 0, none⟩) → (tm[7]?).getD undef = .int .i64 0 → (results Tryz.f73 tm).run Tryz.prog ((w9.setCell ⟨g + 1 + 1, 0, none⟩ (kI p.lsn)).setCell ⟨g + 1 + 1, 1, none⟩ (.slice (some ⟨nb, 0, none⟩) T.length N)) = .ok (.tuple #[pgV q.lsn (.slice (some ⟨nb, 0, none⟩) T.length N), .int .i64 c]) ((w9.setCell ⟨g + 1 + 1, 0, none⟩ (kI p.lsn)).setCell ⟨g + 1 + 1, 1, none⟩ (.slice (some ⟨nb, 0, none⟩) T.length N))) ∧
              PgRet q c F (.returned (.tuple #[pgV q.lsn (.slice (some ⟨nb, 0, none⟩) T.length N), .int .i64 c])) ((w9.setCell ⟨g + 1 + 1, 0, none⟩ (kI p.lsn)).setCell ⟨g + 1 + 1, 1, none⟩ (.slice (some ⟨nb, 0, none⟩) T.length N))) := Lib.hid (by
            have h1 : q = ⟨p.lsn, T⟩ := congrArg Prod.fst hq
            have h2 : c = 0 := congrArg Prod.snd hq
            subst h1; subst h2
            refine ⟨fun tm h6 h7 => put_results tm _ (g + 1 + 1) p.lsn 0 _ h6 h7 (by rw [cell_of hs5.h0]; rfl) (by rw [cell_of hs5.h0]; rfl), _, [.blk nb (.cells (M.flatMap slC).toArray 41)], rfl, ?_, slAt_own HOWN.out []⟩
            exact (hs5.tail.swap.tail.swap.tail))
          clear hq hs5 HQ
          go_wp2_with fail
          exact bodyPost_ret (HFI.out.1 _ rfl rfl) rfl HFI.out.2
end Go.Proofs.YtficgjklagnbjaaGreat
namespace Go.Proofs.YtficgjklagnbjaaGreat
open Go Go.MapKept Go.RowKit Go.Proofs Go.Sort

theorem within_any (n lo hi : Int) (w : World) : Calls Tryz.prog 69 #[.int .i64 n, .int .i64 lo, .int .i64 hi] w (Ret (.bool (withinM n lo hi)) (Same w)) := by
  unfold withinM
  by_cases h : lo ≤ n
  · by_cases h2 : n ≤ hi
    all_goals
      have d : decide (lo ≤ n) = true := by simpa using h
      go_enter Tryz.func69, Tryz.ntmps69
      go_wp2_with fail
      go_ret
      exact ⟨by simp [h, h2], rfl⟩
  · have d : (lo ≤ n) = False := by simpa using h
    go_enter Tryz.func69, Tryz.ntmps69
    go_wp2_with fail
    go_ret
    exact ⟨by simp, rfl⟩
theorem first_any (n : Int) (w : World) : Calls Tryz.prog 51 #[.int .i64 n] w (Ret (.bool (withinM n 1 1099511627776)) (Same w)) := by
  unfold withinM
  by_cases h : 1 ≤ n
  · by_cases h2 : n ≤ 1099511627776
    all_goals
      go_enter Tryz.func51, Tryz.ntmps51
      go_wp2_with fail
      go_ret
      exact ⟨by simp [h, h2], rfl⟩
  · have d : (1 ≤ n) = False := by simpa using h
    go_enter Tryz.func51, Tryz.ntmps51
    go_wp2_with fail
    go_ret
    exact ⟨by simp, rfl⟩
theorem isNaN_any (n : Int) (w : World) : Calls Tryz.prog 76 #[.int .i64 n] w (Ret (.bool false) (Same w)) := by
  go_enter Tryz.func76, Tryz.ntmps76
  go_wp2_with fail
  go_ret
  exact ⟨by simp, rfl⟩
theorem compare_int (a b : Int) (w : World) : Calls Tryz.prog 42 #[.int .i64 a, .int .i64 b] w (Ret (.int .i64 (cmpI a b)) (Same w)) := by
  unfold cmpI
  by_cases h : a < b
  · go_enter Tryz.func42, Tryz.ntmps42
    go_wp2_with (go_at_call 76; refine (isNaN_any _ _).mono ?_; rintro e w' ⟨rfl, rfl⟩)
    go_ret
    exact ⟨by simp, rfl⟩
  · by_cases h2 : b < a
    · go_enter Tryz.func42, Tryz.ntmps42
      go_wp2_with (go_at_call 76; refine (isNaN_any _ _).mono ?_; rintro e w' ⟨rfl, rfl⟩)
      go_ret
      exact ⟨by simp, rfl⟩
    · go_enter Tryz.func42, Tryz.ntmps42
      go_wp2_with (go_at_call 76; refine (isNaN_any _ _).mono ?_; rintro e w' ⟨rfl, rfl⟩)
      go_ret
      exact ⟨by simp, rfl⟩
set_option maxRecDepth 100000 in
theorem isEnd_any (x : En) (w : World) : Calls Tryz.prog 54 #[eV x] w (Pur (.bool (isEndM x)) w) := by
  unfold isEndM Pur
  cases h3 : (x.kind == 3) <;> cases h4 : (x.kind == 4)
  all_goals
    go_enter Tryz.func54, Tryz.ntmps54
    go_wp2_with fail
    go_ret
    exact ⟨by simp, Grown.alloc w _⟩
set_option maxRecDepth 100000 in
theorem known_any (t : Tx) (w : World) : Calls Tryz.prog 68 #[tV t] w (Pur (.bool (knownM t)) w) := by
  unfold knownM Pur
  have hw : ∀ n lo hi w, Calls Tryz.prog 69 #[.int .i64 n, .int .i64 lo, .int .i64 hi] w (Ret (.bool (withinM n lo hi)) (Same w)) := within_any
  have HW := Lib.hid hw
  clear hw
  generalize e1 : withinM t.c 1 8 = b1
  generalize e2 : withinM t.e 1 1073741824 = b2
  generalize e3 : withinM t.n 1 1073741824 = b3
  cases b1 <;> cases b2
  all_goals
    go_enter Tryz.func68, Tryz.ntmps68
    go_wp2_with (go_at_call 69; refine (HW.out _ _ _ _).mono ?_; rintro e w' ⟨rfl, rfl⟩; first | rw [e1] | rw [e2] | rw [e3])
    go_ret
    exact ⟨by simp, Grown.alloc w _⟩
end Go.Proofs.YtficgjklagnbjaaGreat
namespace Go.Proofs.YtficgjklagnbjaaGreat
open Go Go.MapKept Go.RowKit Go.Proofs Go.Sort

set_option maxRecDepth 100000 in
theorem isSlot_any (u : Bool) (d : ByteArray) (w : World) : Calls Tryz.prog 70 #[.agg #[.bool u, kS d]] w (Pur (.bool (slotM u d)) w) := by
  unfold slotM Pur
  by_cases h1 : (d.size : Int) ≤ 200
  · cases u <;> cases h2 : (d.toList == [])
    all_goals
      go_enter Tryz.func70, Tryz.ntmps70
      go_wp2_with fail
      go_ret
      exact ⟨by simp [h1], Grown.alloc w _⟩
  · have h1' : ((d.size : Int) ≤ 200) = False := by simpa using h1
    go_enter Tryz.func70, Tryz.ntmps70
    go_wp2_with fail
    go_ret
    exact ⟨by simp, Grown.alloc w _⟩
/-- The first that isn't zero. -/
def or3 (a b c : Int) : Int := if a ≠ 0 then a else if b ≠ 0 then b else c
set_option maxRecDepth 100000 in
theorem or3_any (g : Nat) (a b c : Int) (L cap : Nat) (hL : L = 3) (w : World) (h0 : w.cell? ⟨g, 0, none⟩ = some (kI a)) (h1 : w.cell? ⟨g, 1, none⟩ = some (kI b)) (h2 : w.cell? ⟨g, 2, none⟩ = some (kI c)) :
    Calls Tryz.prog 84 #[.slice (some ⟨g, 0, none⟩) L cap] w (Ret (.int .i64 (or3 a b c)) (Same w)) := by
  have HL := Lib.hid hL
  clear hL
  go_enter Tryz.func84, Tryz.ntmps84
  go_wp2_with fail
  go_loopw [8] (fun v wr => ∃ r : Nat, r ≤ 3 ∧ v = .int .i64 r ∧ wr = w ∧ (0 < r → a = 0) ∧ (1 < r → b = 0) ∧ (2 < r → c = 0)) (fun v _ => 10 - (RowKit.intOf v).toNat)
  case atStart => exact ⟨0, by omega, rfl, rfl, by omega, by omega, by omega⟩
  case round =>
    obtain ⟨r, hr, rfl, rfl, ha, hb, hc⟩ := hrel
    have hL := HL.out
    by_cases r3 : r = 3
    · subst r3
      have hlt : ¬ ((3 : Int) < (L : Int)) := by omega
      have hlt2 : (L : Int) = 3 := by omega
      clear hL
      obtain rfl := ha (by omega)
      obtain rfl := hb (by omega)
      obtain rfl := hc (by omega)
      clear ha hb hc
      go_wp2_with fail
      go_ret
      exact ⟨by simp [or3], rfl⟩
    · have hlt : r = 0 ∨ r = 1 ∨ r = 2 := by omega
      have k0 : (0 : Int) < (L : Int) := by omega
      have k1 : (1 : Int) < (L : Int) := by omega
      have k2 : (2 : Int) < (L : Int) := by omega
      have m0 : 0 < L := by omega
      have m1 : 1 < L := by omega
      have m2 : 2 < L := by omega
      clear hL r3
      rcases hlt with rfl | rfl | rfl
      · by_cases hz : a = 0
        · have hzb : (a != 0) = false := by simpa using hz
          clear ha hb hc
          go_wp2_with fail
          go_roundw
          case rel => exact ⟨1, by omega, rfl, (by first | rfl | trivial), fun _ => hz, by omega, by omega⟩
          case measure => simp [RowKit.intOf]
        · have hzb : (a != 0) = true := by simpa using hz
          clear ha hb hc
          go_wp2_with fail
          go_ret
          exact ⟨by simp [or3, hz], rfl⟩
      · have ha := ha (by omega)
        by_cases hz : b = 0
        · have hzb : (b != 0) = false := by simpa using hz
          clear hb hc
          go_wp2_with fail
          go_roundw
          case rel => exact ⟨2, by omega, rfl, (by first | rfl | trivial), fun _ => ha, fun _ => hz, by omega⟩
          case measure => simp [RowKit.intOf]
        · have hzb : (b != 0) = true := by simpa using hz
          clear hb hc
          go_wp2_with fail
          go_ret
          exact ⟨by simp [or3, hz, ha], rfl⟩
      · have ha := ha (by omega)
        have hb := hb (by omega)
        by_cases hz : c = 0
        · have hzb : (c != 0) = false := by simpa using hz
          clear hc
          go_wp2_with fail
          go_roundw
          case rel => exact ⟨3, by omega, rfl, (by first | rfl | trivial), fun _ => ha, fun _ => hb, fun _ => hz⟩
          case measure => simp [RowKit.intOf]
        · have hzb : (c != 0) = true := by simpa using hz
          clear hc
          go_wp2_with fail
          go_ret
          exact ⟨by simp [or3, ha, hb], rfl⟩
end Go.Proofs.YtficgjklagnbjaaGreat
namespace Go.Proofs.YtficgjklagnbjaaGreat
open Go Go.MapKept Go.RowKit Go.Proofs Go.Sort

theorem or3_new (a b c : Int) (W : World) (g : Nat) (hg : g = W.heap.size) :
    Calls Tryz.prog 84 #[.slice (some ⟨g, 0, none⟩) 3 3] (W.alloc (.cells #[kI a, kI b, kI c] 3)) (Ret (.int .i64 (or3 a b c)) (Same (W.alloc (.cells #[kI a, kI b, kI c] 3)))) := by
  subst hg
  have hs := (sat_all W).new (.cells #[kI a, kI b, kI c] 3)
  exact or3_any _ a b c 3 3 rfl _ (by rw [cell_of hs.h0]; rfl) (by rw [cell_of hs.h0]; rfl) (by rw [cell_of hs.h0]; rfl)
theorem or3_newD (a b c : Int) (W : World) (g : Nat) (hg : g = W.heap.size) :
    Calls Tryz.prog 84 #[.slice (some ⟨g, 0, none⟩) 3 3] (W.alloc (.cells #[kI a, kI b, kI c] 3)).drew (Ret (.int .i64 (or3 a b c)) (Same (W.alloc (.cells #[kI a, kI b, kI c] 3)).drew)) := by
  subst hg
  have hs := ((sat_all W).new (.cells #[kI a, kI b, kI c] 3)).drew
  exact or3_any _ a b c 3 3 rfl _ (by rw [cell_of hs.h0]; rfl) (by rw [cell_of hs.h0]; rfl) (by rw [cell_of hs.h0]; rfl)
set_option maxRecDepth 100000 in
set_option maxHeartbeats 1600000 in
theorem compare_any (a b : Tx) (w : World) : Calls Tryz.prog 57 #[tV a, tV b] w (Pur (.int .i64 (cmpT a b)) w) := by
  have e0 : cmpT a b = or3 (cmpI a.c b.c) (cmpI a.e b.e) (cmpI a.n b.n) := rfl
  rw [e0]
  clear e0
  unfold Pur
  have hs := ((sat_all w).new (.cells #[kI a.c, kI a.e, kI a.n] 56)).new (.cells #[kI b.c, kI b.e, kI b.n] 56)
  rw [World.size_alloc] at hs
  have HB : Hid (Grown w ((w.alloc (.cells #[kI a.c, kI a.e, kI a.n] 56)).alloc (.cells #[kI b.c, kI b.e, kI b.n] 56))) := Lib.hid ((Grown.alloc w _).trans (Grown.alloc _ _))
  have HS := Lib.hid hs
  go_enter Tryz.func57, Tryz.ntmps57
  go_upto_region 1 with (fail)
  have a0 : ((w.alloc (.cells #[kI a.c, kI a.e, kI a.n] 56)).alloc (.cells #[kI b.c, kI b.e, kI b.n] 56)).cell? ⟨w.heap.size, 0, none⟩ = some (kI a.c) := by rw [cell_of hs.h1]; rfl
  have a1 : ((w.alloc (.cells #[kI a.c, kI a.e, kI a.n] 56)).alloc (.cells #[kI b.c, kI b.e, kI b.n] 56)).cell? ⟨w.heap.size, 1, none⟩ = some (kI a.e) := by rw [cell_of hs.h1]; rfl
  have a2 : ((w.alloc (.cells #[kI a.c, kI a.e, kI a.n] 56)).alloc (.cells #[kI b.c, kI b.e, kI b.n] 56)).cell? ⟨w.heap.size, 2, none⟩ = some (kI a.n) := by rw [cell_of hs.h1]; rfl
  have b0 : ((w.alloc (.cells #[kI a.c, kI a.e, kI a.n] 56)).alloc (.cells #[kI b.c, kI b.e, kI b.n] 56)).cell? ⟨w.heap.size + 1, 0, none⟩ = some (kI b.c) := by rw [cell_of hs.h0]; rfl
  have b1 : ((w.alloc (.cells #[kI a.c, kI a.e, kI a.n] 56)).alloc (.cells #[kI b.c, kI b.e, kI b.n] 56)).cell? ⟨w.heap.size + 1, 1, none⟩ = some (kI b.e) := by rw [cell_of hs.h0]; rfl
  have b2 : ((w.alloc (.cells #[kI a.c, kI a.e, kI a.n] 56)).alloc (.cells #[kI b.c, kI b.e, kI b.n] 56)).cell? ⟨w.heap.size + 1, 2, none⟩ = some (kI b.n) := by rw [cell_of hs.h0]; rfl
  clear hs
  generalize (w.alloc (.cells #[kI a.c, kI a.e, kI a.n] 56)).alloc (.cells #[kI b.c, kI b.e, kI b.n] 56) = W2 at *
  generalize w.heap.size = g at *
  go_region_held3 (fun w' => w'.cell? ⟨g, 0, none⟩ = some (kI a.c) ∧ w'.cell? ⟨g, 1, none⟩ = some (kI a.e) ∧ w'.cell? ⟨g, 2, none⟩ = some (kI a.n) ∧ w'.cell? ⟨g + 1, 0, none⟩ = some (kI b.c) ∧ w'.cell? ⟨g + 1, 1, none⟩ = some (kI b.e) ∧ w'.cell? ⟨g + 1, 2, none⟩ = some (kI b.n))
    (first | exact ⟨a0, a1, a2, b0, b1, b2⟩ | (refine ⟨?_, ?_, ?_, ?_, ?_, ?_⟩ <;> (first | assumption | (simp [World.cell?_alloc_some, *]; done))))
    (first | (go_at_call 42; refine (compare_int _ _ _).mono ?_; rintro e w' ⟨rfl, rfl⟩) | (go_at_call 84; refine (or3_newD _ _ _ _ _ rfl).mono ?_; rintro e w' ⟨rfl, rfl⟩))
  go_wp2_with fail
  go_ret
  exact ⟨rfl, (HB.out.trans (Grown.alloc _ _)).trans (Grown.drew _)⟩
end Go.Proofs.YtficgjklagnbjaaGreat
