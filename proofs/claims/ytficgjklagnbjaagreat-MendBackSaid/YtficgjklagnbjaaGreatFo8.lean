/- Texts put together: Me5, Me6, Me7. Conditions: none. -/
import Derived.Test.YtficgjklagnbjaaGreatFo2
import Derived.Test.YtficgjklagnbjaaGreatFo6
import Derived.Test.YtficgjklagnbjaaGreatFo7
namespace Go.Proofs.YtficgjklagnbjaaGreat
open Go Go.MapKept Go.RowKit Go.Proofs Go.Sort

theorem all_results (tm : Array Value) (W9 : World) (g : Nat) (n c : Int) (sv : Value) (h1 : (tm[6]?).getD undef = .pointer (some ⟨g, 0, none⟩)) (h2 : (tm[7]?).getD undef = .int .i64 c) (r0 : W9.cell? ⟨g, 0, none⟩ = some (kI n)) (r1 : W9.cell? ⟨g, 1, none⟩ = some sv) :
    (results Tryz.f43 tm).run Tryz.prog W9 = .ok (.tuple #[pgV n sv, .int .i64 c]) W9 := by
  simp [results, Tryz.results43, go_sem, h1, h2, r0, r1]
/-- What ends a walk of All. -/
theorem all_end {W : World} {g : Nat} {q : Pg} {c : Int} {sv : Value} {h F G : Heaplet} {z0 z1 : Value} (s : Sat W (.blk g (.cells #[z0, z1] 52) :: (G ++ (h ++ F)))) (hv : SlAt h sv q.slots) :
    (∀ tm : Array Value, (tm[6]?).getD undef = .pointer (some ⟨g, 0, none⟩) → (tm[7]?).getD undef = .int .i64 c → (results Tryz.f43 tm).run Tryz.prog ((W.setCell ⟨g, 0, none⟩ (kI q.lsn)).setCell ⟨g, 1, none⟩ sv) = .ok (.tuple #[pgV q.lsn sv, .int .i64 c]) ((W.setCell ⟨g, 0, none⟩ (kI q.lsn)).setCell ⟨g, 1, none⟩ sv)) ∧
    PgRet q c F (.returned (.tuple #[pgV q.lsn sv, .int .i64 c])) ((W.setCell ⟨g, 0, none⟩ (kI q.lsn)).setCell ⟨g, 1, none⟩ sv) := by
  have h5 := (s.setCell (i := 0) (kI q.lsn)).setCell (i := 1) sv
  exact ⟨fun tm h6 h7 => all_results tm _ _ q.lsn c sv h6 h7 (by rw [cell_of h5.h0]; rfl) (by rw [cell_of h5.h0]; rfl), sv, h, rfl, h5.tail.right, hv⟩
theorem allM_skip {page : Int} {x : En} {l : List En} {p : Pg} (h : (!chgM x || !(x.page == page)) = true) : allM page (x :: l) p = allM page l p := by
  rw [allM, if_pos h]
theorem allM_bad {page : Int} {x : En} {l : List En} {p : Pg} (h : (!chgM x || !(x.page == page)) = false) (hc : (redoM p x).2.2 ≠ 0) : allM page (x :: l) p = (emptyP, (redoM p x).2.2) := by
  rw [allM, if_neg (by rw [h]; decide), if_pos hc]
theorem allM_next {page : Int} {x : En} {l : List En} {p : Pg} (h : (!chgM x || !(x.page == page)) = false) (hc : (redoM p x).2.2 = 0) : allM page (x :: l) p = allM page l (redoM p x).1 := by
  rw [allM, if_neg (by rw [h]; decide), if_neg (by rw [hc]; decide)]
set_option maxRecDepth 100000 in
set_option maxHeartbeats 4000000 in
theorem all_any {v lv : Value} {p : Pg} {l : List En} {F : Heaplet} {w : World} (page : Int) (hv : SlAt F v p.slots) (hE : EnsIn F lv l) (s : Sat w F) (hp : p.slots.length ≤ 1000) (hd : ∀ x ∈ p.slots, x.2.size ≤ 1000000) (hn : -9223372036854775808 ≤ p.lsn ∧ p.lsn ≤ 9223372036854775807)
    (hl : l.length ≤ 100000) (hf : FitL l) : Calls Tryz.prog 43 #[pgV p.lsn v, kI page, lv] w (PgRet (patchM p page l).1 (patchM p page l).2 F) := by
  obtain ⟨rq, rc, hr⟩ : ∃ rq rc, patchM p page l = (rq, rc) := ⟨_, _, rfl⟩
  rw [hr]
  have hs1 := ((s.new (.cells #[kI p.lsn, v] 52)).new (.cells #[kI 0, .slice none 0 0] 52))
  rw [World.size_alloc] at hs1
  have hv1 : SlAt (.blk (w.heap.size + 1) (.cells #[kI 0, .slice none 0 0] 52) :: .blk w.heap.size (.cells #[kI p.lsn, v] 52) :: F) v p.slots := hv.mono (fun w hw => hw.tail.tail)
  have HG := Lib.hid (pgood_any hv1 hs1 hp hd hn)
  have HS := Lib.hid hs1
  have HV1 := Lib.hid hv1
  have HD := Lib.hid (And.intro hd (And.intro hp (And.intro hn hf)))
  obtain ⟨a, cap, rfl, _⟩ := hv
  have HPB := Lib.hid hr
  have c0 : ((w.alloc (.cells #[kI p.lsn, .slice a p.slots.length cap] 52)).alloc (.cells #[kI 0, .slice none 0 0] 52)).cell? ⟨w.heap.size, 0, none⟩ = some (kI p.lsn) := by rw [cell_of hs1.h1]; rfl
  have c1 : ((w.alloc (.cells #[kI p.lsn, .slice a p.slots.length cap] 52)).alloc (.cells #[kI 0, .slice none 0 0] 52)).cell? ⟨w.heap.size, 1, none⟩ = some (.slice a p.slots.length cap) := by rw [cell_of hs1.h1]; rfl
  obtain ⟨la, lc, rfl, hle⟩ := hE
  have HLE := Lib.hid hle
  obtain ⟨gp, hgp⟩ : ∃ gp, goodP p = gp := ⟨_, rfl⟩
  rw [hgp] at HG
  have HGP := Lib.hid hgp
  clear s hs1 hv1 hgp hr hd hf hle
  go_enter Tryz.func43, Tryz.ntmps43
  go_upto_region 1 with (fail)
  generalize (w.alloc (.cells #[kI p.lsn, .slice a p.slots.length cap] 52)).alloc (.cells #[kI 0, .slice none 0 0] 52) = W1 at *
  generalize w.heap.size = g at *
  go_wp2_with fail
  refine (HG.out).mono ?_
  rintro e w1 ⟨rfl, hg⟩
  have HS4 := Lib.hid (HS.out.grown hg)
  have d0 : w1.cell? ⟨g, 0, none⟩ = some (kI p.lsn) := by rw [cell_of HS4.out.h1]; rfl
  have d1 : w1.cell? ⟨g, 1, none⟩ = some (.slice a p.slots.length cap) := by rw [cell_of HS4.out.h1]; rfl
  have e0 : w1.cell? ⟨g + 1, 0, none⟩ = some (kI 0) := by rw [cell_of HS4.out.h0]; rfl
  have e1 : w1.cell? ⟨g + 1, 1, none⟩ = some (.slice none 0 0) := by rw [cell_of HS4.out.h0]; rfl
  have f00 : w1.frozen? ⟨g + 1, 0, none⟩ = false := unfrozen_of HS4.out.h0 0
  have f01 : w1.frozen? ⟨g + 1, 1, none⟩ = false := unfrozen_of HS4.out.h0 1
  clear hg HG HS c0 c1
  cases gp with
  | false =>
    have hq : (rq, rc) = (emptyP, 1) := by
      rw [← HPB.out]; unfold patchM; rw [if_neg (by rw [HGP.out]; decide)]
    have h1 : rq = emptyP := congrArg Prod.fst hq
    have h2 : rc = 1 := congrArg Prod.snd hq
    subst h1; subst h2
    have HH := Lib.hid (all_end (q := emptyP) (c := 1) (sv := .slice none 0 0) (h := []) (F := F) (G := [_]) HS4.out (SlAt.nil _ _ _))
    clear hq HPB HGP HD HV1 HS4
    go_wp2_with fail
    exact bodyPost_ret (HH.out.1 _ rfl rfl) rfl HH.out.2
  | true =>
    have hq : allM page l p = (rq, rc) := by
      rw [← HPB.out]; unfold patchM; rw [if_pos HGP.out]
    have HQ := Lib.hid hq
    have HCL := Lib.hid (clone_sl HV1.out HS4.out HD.out.2.1)
    clear hq HPB HV1 e0 e1 f00 f01
    go_wp2_with fail
    refine (HCL.out).mono ?_
    rintro e w2 ⟨v', h, rfl, hv', hs2⟩
    have hs3 := hs2.perm (List.perm_append_comm_assoc h [_, _] F)
    have hs4 := ((hs3.swap).setCell (i := 1) v').swap
    have bf : w2.frozen? ⟨g, 1, none⟩ = false := unfrozen_of hs3.h1 1
    have b1 : w2.cell? ⟨g, 1, none⟩ = some (.slice a p.slots.length cap) := by rw [cell_of hs3.h1]; rfl
    have HIN : Hid (SlAt h v' p.slots ∧ Sat (w2.setCell ⟨g, 1, none⟩ v') (.blk (g + 1) (.cells #[kI 0, .slice none 0 0] 52) :: .blk g (.cells #[kI p.lsn, v'] 52) :: (h ++ F))) := Lib.hid ⟨by simpa using slAt_own hv' [], hs4⟩
    obtain ⟨av, cv, rfl⟩ := sl_form hv'
    clear HCL hv' hs2 hs3 hs4 HS4 d0 d1
    have hln : (l.length : Int) ≤ 100000 := by omega
    go_wp2_with fail
    generalize w2.setCell ⟨g, 1, none⟩ (.slice av p.slots.length cv) = W3 at *
    go_loopw [23] (fun v23 wr => ∃ (i : Nat) (q : Pg) (sv : Value) (h : Heaplet), i ≤ l.length ∧ v23 = .int .i64 i ∧ goodP q = true ∧ allM page (l.drop i) q = (rq, rc) ∧ SlAt h sv q.slots ∧ Sat wr (.blk (g + 1) (.cells #[kI 0, .slice none 0 0] 52) :: .blk g (.cells #[kI q.lsn, sv] 52) :: (h ++ F))) (fun v23 _ => 200000 - (RowKit.intOf v23).toNat)
    case atStart => exact ⟨0, p, _, h, by omega, rfl, HGP.out, HQ.out, HIN.out.1, HIN.out.2⟩
    case round =>
      clear HQ HIN HGP bf b1
      obtain ⟨i, q, sv, h, hi, rfl, hgq, hrest, hsv, hs⟩ := hrel
      have i0 : (0 : Int) ≤ (i : Int) := by omega
      have c0 : wr.cell? ⟨g, 0, none⟩ = some (kI q.lsn) := by rw [cell_of hs.h1]; rfl
      have c1 : wr.cell? ⟨g, 1, none⟩ = some sv := by rw [cell_of hs.h1]; rfl
      by_cases hil : i < l.length
      · have i1 : (i : Int) < (l.length : Int) := by omega
        obtain ⟨x, hx⟩ : ∃ x, l[i]? = some x := ⟨_, List.getElem?_eq_getElem hil⟩
        obtain ⟨eg, off, rfl, e0, e1, e2, e3, e4, e5, e6, e7, e8, e9, e10, e11, e12⟩ := HLE.out wr hs.tail.tail.right i x hx
        have hdr : l.drop i = x :: l.drop (i + 1) := by rw [List.drop_eq_getElem_cons hil]; congr 1; exact Option.some.inj ((List.getElem?_eq_getElem hil).symm.trans hx)
        rw [hdr] at hrest
        have hfx := HD.out.2.2.2 x (List.mem_of_getElem? hx)
        have HR := Lib.hid hrest
        have HFX := Lib.hid hfx
        have HGQ := Lib.hid hgq
        have HSV := Lib.hid hsv
        have hs1 := hs.new (eO x)
        have HS := Lib.hid hs1
        have HN := Lib.hid (enAt_new wr x)
        have HCH : Hid (∀ W, Calls Tryz.prog 72 #[eV x] W (Pur (.bool (chgM x)) W)) := Lib.hid (fun W => changes_any x W)
        clear hx hdr hrest hfx hgq hsv hs hs1 hi c0 c1
        go_upto_region 7 with (fail)
        generalize wr.alloc (eO x) = W4 at *
        generalize wr.heap.size = xb at *
        clear e0 e1 e2 e3 e4 e5 e6 e7 e8 e9 e10 e11 e12
        obtain ⟨cx, hcx⟩ : ∃ cx, chgM x = cx := ⟨_, rfl⟩
        have HCX := Lib.hid hcx
        rw [hcx] at HCH
        clear hcx
        obtain ⟨n0, n1, n2, n3, n4, n5, n6, n7, n8, n9, n10, n11, n12⟩ := HN.out
        go_wp2_with fail
        refine (HCH.out _).mono ?_
        rintro e w5 ⟨rfl, hg⟩
        have HS5 := Lib.hid (HS.out.grown hg)
        have HN5 := Lib.hid (HN.out.grown hg)
        clear hg HN HS HCH n0 n1 n2 n3 n4 n5 n6 n7 n8 n9 n10 n11 n12
        cases cx with
        | false =>
          have hr := HR.out
          rw [allM_skip (by rw [HCX.out]; rfl)] at hr
          have HH : Hid (goodP q = true ∧ allM page (l.drop (i + 1)) q = (rq, rc) ∧ SlAt h sv q.slots ∧ Sat w5 (.blk (g + 1) (.cells #[kI 0, .slice none 0 0] 52) :: .blk g (.cells #[kI q.lsn, sv] 52) :: (h ++ F))) := Lib.hid ⟨HGQ.out, hr, HSV.out, HS5.out.tail⟩
          clear hr HR HSV HS5 HN5 HGQ HFX
          go_wp2_with fail
          exact ⟨⟨i + 1, q, sv, h, by omega, by simp, HH.out.1, HH.out.2.1, HH.out.2.2.1, HH.out.2.2.2⟩, by simp only [RowKit.intOf]; omega⟩
        | true =>
          obtain ⟨pe, hpe⟩ : ∃ pe, (x.page == page) = pe := ⟨_, rfl⟩
          have hpe2 : (x.page != page) = !pe := by rw [bne, hpe]
          have HPE := Lib.hid hpe
          obtain ⟨m0, m1, m2, m3, m4, m5, m6, m7, m8, m9, m10, m11, m12⟩ := HN5.out
          cases pe with
          | false =>
            have hr := HR.out
            rw [allM_skip (by rw [HCX.out, HPE.out]; rfl)] at hr
            have HH : Hid (goodP q = true ∧ allM page (l.drop (i + 1)) q = (rq, rc) ∧ SlAt h sv q.slots ∧ Sat w5 (.blk (g + 1) (.cells #[kI 0, .slice none 0 0] 52) :: .blk g (.cells #[kI q.lsn, sv] 52) :: (h ++ F))) := Lib.hid ⟨HGQ.out, hr, HSV.out, HS5.out.tail⟩
            clear hr HR HSV HS5 HN5 HGQ HFX
            go_wp2_with fail
            exact ⟨⟨i + 1, q, sv, h, by omega, by simp, HH.out.1, HH.out.2.1, HH.out.2.2.1, HH.out.2.2.2⟩, by simp only [RowKit.intOf]; omega⟩
          | true =>
            have hskip : (!chgM x || !(x.page == page)) = false := by rw [HCX.out, HPE.out]; rfl
            have HSK := Lib.hid hskip
            have hbd := good_bd HGQ.out
            have hsv5 : SlAt (.blk xb (eO x) :: .blk (g + 1) (.cells #[kI 0, .slice none 0 0] 52) :: .blk g (.cells #[kI q.lsn, sv] 52) :: (h ++ F)) sv q.slots := (HSV.out.left F).mono (fun w hw => hw.tail.tail.tail)
            have HRD := Lib.hid (redo_any x hsv5 HS5.out hbd.1 hbd.2.1 hbd.2.2 HFX.out)
            obtain ⟨q', dq, cq, hrd⟩ : ∃ q' dq cq, redoM q x = (q', dq, cq) := ⟨_, _, _, rfl⟩
            have HRR := Lib.hid hrd
            rw [hrd] at HRD
            simp only at HRD
            have c0 : w5.cell? ⟨g, 0, none⟩ = some (kI q.lsn) := by rw [cell_of HS5.out.h2]; rfl
            have c1 : w5.cell? ⟨g, 1, none⟩ = some sv := by rw [cell_of HS5.out.h2]; rfl
            obtain ⟨sa, scp, rfl, _⟩ := HSV.out
            clear hskip hbd hsv5 hrd HN5 hpe
            go_wp2_with fail
            refine (HRD.out).mono ?_
            rintro e w6 ⟨sv', h', rfl, hs6, hsv'⟩
            have hs7 := hs6.perm (List.perm_append_comm_assoc h' [_, _, _] (h ++ F))
            have HSV2 := Lib.hid hsv'
            obtain ⟨sa', sc', rfl, _⟩ := hsv'
            have HS7 := Lib.hid hs7
            clear hs6 hs7 HRD
            by_cases hcq : cq = 0
            · have hnx := allM_next (l := l.drop (i + 1)) HSK.out (show (redoM q x).2.2 = 0 by rw [HRR.out]; exact hcq)
              have hgq' := (redoM_ok (show (redoM q x).2.2 = 0 by rw [HRR.out]; exact hcq)).2.2.2.1
              rw [HRR.out] at hgq' hnx
              simp only at hgq' hnx
              have hr := HR.out
              rw [hnx] at hr
              subst hcq
              have hs8 := HS7.out.new (.cells #[kI q'.lsn, .slice sa' q'.slots.length sc'] 52)
              have hs9 : Sat (((w6.alloc (.cells #[kI q'.lsn, .slice sa' q'.slots.length sc'] 52)).setCell ⟨g, 0, none⟩ (kI q'.lsn)).setCell ⟨g, 1, none⟩ (.slice sa' q'.slots.length sc')) (.blk g (.cells #[kI q'.lsn, .slice sa' q'.slots.length sc'] 52) :: .blk (g + 1) (.cells #[kI 0, .slice none 0 0] 52) :: (h' ++ F)) := (((show Sat (w6.alloc (.cells #[kI q'.lsn, .slice sa' q'.slots.length sc'] 52)) (.blk g (.cells #[kI q.lsn, .slice sa q.slots.length scp] 52) :: .blk (g + 1) (.cells #[kI 0, .slice none 0 0] 52) :: (h' ++ F)) by (refine Sat.part hs8 ?_; intro a; simp only [cnt_cons, cnt_append, List.cons_append, List.nil_append]; omega))).setCell (i := 0) (kI q'.lsn)).setCell (i := 1) (.slice sa' q'.slots.length sc')
              have g0 : (w6.alloc (.cells #[kI q'.lsn, .slice sa' q'.slots.length sc'] 52)).cell? ⟨g, 0, none⟩ = some (kI q.lsn) := by rw [cell_of hs8.h3]; rfl
              have g1 : (w6.alloc (.cells #[kI q'.lsn, .slice sa' q'.slots.length sc'] 52)).cell? ⟨g, 1, none⟩ = some (.slice sa q.slots.length scp) := by rw [cell_of hs8.h3]; rfl
              have gf0 := unfrozen_of hs8.h3 0
              have gf1 := unfrozen_of hs8.h3 1
              have HH : Hid (goodP q' = true ∧ allM page (l.drop (i + 1)) q' = (rq, rc) ∧ SlAt h' (.slice sa' q'.slots.length sc') q'.slots ∧ Sat (((w6.alloc (.cells #[kI q'.lsn, .slice sa' q'.slots.length sc'] 52)).setCell ⟨g, 0, none⟩ (kI q'.lsn)).setCell ⟨g, 1, none⟩ (.slice sa' q'.slots.length sc')) (.blk (g + 1) (.cells #[kI 0, .slice none 0 0] 52) :: .blk g (.cells #[kI q'.lsn, .slice sa' q'.slots.length sc'] 52) :: (h' ++ F))) := Lib.hid ⟨hgq', hr, HSV2.out, by
                (refine Sat.part hs9 ?_; intro a; simp only [cnt_cons, cnt_append]; omega)⟩
              clear hs8 hs9 hnx hgq' hr HR HSV HS5 HGQ HFX HS7
              go_wp2_with fail
              exact ⟨⟨i + 1, q', _, h', by omega, by simp, HH.out.1, HH.out.2.1, HH.out.2.2.1, HH.out.2.2.2⟩, by simp only [RowKit.intOf]; omega⟩
            · have hb1 : (cq == 0) = false := beq_eq_false_iff_ne.2 hcq
              have hb2 : (cq != 0) = true := by rw [bne, hb1]; rfl
              have hnx := allM_bad (l := l.drop (i + 1)) HSK.out (show (redoM q x).2.2 ≠ 0 by rw [HRR.out]; exact hcq)
              have hr := HR.out
              rw [hnx, HRR.out] at hr
              simp only at hr
              have h1 : emptyP = rq := congrArg Prod.fst hr
              have h2 : cq = rc := congrArg Prod.snd hr
              subst h1; subst h2
              have hs8 := HS7.out.new (.cells #[kI q'.lsn, .slice sa' q'.slots.length sc'] 52)
              have g0 : (w6.alloc (.cells #[kI q'.lsn, .slice sa' q'.slots.length sc'] 52)).cell? ⟨g + 1, 0, none⟩ = some (kI 0) := by rw [cell_of hs8.h2]; rfl
              have g1 : (w6.alloc (.cells #[kI q'.lsn, .slice sa' q'.slots.length sc'] 52)).cell? ⟨g + 1, 1, none⟩ = some (.slice none 0 0) := by rw [cell_of hs8.h2]; rfl
              have gf0 := unfrozen_of hs8.h2 0
              have gf1 := unfrozen_of hs8.h2 1
              have hs9 : Sat (w6.alloc (.cells #[kI q'.lsn, .slice sa' q'.slots.length sc'] 52)) (.blk (g + 1) (.cells #[kI 0, .slice none 0 0] 52) :: ([] ++ ([] ++ F))) := by (refine Sat.part hs8 ?_; intro a; simp only [cnt_cons, cnt_append, List.cons_append, List.nil_append]; omega)
              have HH := Lib.hid (all_end (q := emptyP) (c := cq) (sv := .slice none 0 0) hs9 (SlAt.nil _ _ _))
              clear hs8 hs9 hnx hr HR HSV HS5 HGQ HFX HS7
              go_wp2_with fail
              exact bodyPost_ret (HH.out.1 _ rfl rfl) rfl HH.out.2
      · obtain rfl : i = l.length := by omega
        rw [List.drop_length] at hrest
        have hq : (q, (0 : Int)) = (rq, rc) := by rw [← hrest]; rfl
        have h1 : q = rq := congrArg Prod.fst hq
        have h2 : 0 = rc := congrArg Prod.snd hq
        subst h1; subst h2
        have e0 : wr.cell? ⟨g + 1, 0, none⟩ = some (kI 0) := by rw [cell_of hs.h0]; rfl
        have e1 : wr.cell? ⟨g + 1, 1, none⟩ = some (.slice none 0 0) := by rw [cell_of hs.h0]; rfl
        have f00 : wr.frozen? ⟨g + 1, 0, none⟩ = false := unfrozen_of hs.h0 0
        have f01 : wr.frozen? ⟨g + 1, 1, none⟩ = false := unfrozen_of hs.h0 1
        have HH := Lib.hid (all_end (q := q) (c := 0) (sv := sv) (h := h) (F := F) (G := [_]) hs hsv)
        obtain ⟨sa, scp, rfl, _⟩ := hsv
        clear hs hq hrest hgq hi hil
        go_wp2_with fail
        exact bodyPost_ret (HH.out.1 _ rfl rfl) rfl HH.out.2
end Go.Proofs.YtficgjklagnbjaaGreat
namespace Go.Proofs.YtficgjklagnbjaaGreat
open Go Go.MapKept Go.RowKit Go.Proofs Go.Sort

theorem src_of {F : Heaplet} {a : Option Addr} {n cap : Nat} {l : List En} {w : World} (h : EnsIn F (.slice a n cap) l) (hs : Sat w F) : SrcAt eC 13 w a l := by
  intro i q hq
  obtain ⟨a', cap', e, hc⟩ := h
  cases e
  obtain ⟨g, off, rfl, h0, h1, h2, h3, h4, h5, h6, h7, h8, h9, h10, h11, h12⟩ := hc w hs i q hq
  refine ⟨g, off, rfl, fun j u hu => ?_⟩
  have hj : j < 13 := (List.getElem?_eq_some_iff.1 hu).1
  match j, hj with
  | 0, _ => cases hu; exact h0
  | 1, _ => cases hu; exact h1
  | 2, _ => cases hu; exact h2
  | 3, _ => cases hu; exact h3
  | 4, _ => cases hu; exact h4
  | 5, _ => cases hu; exact h5
  | 6, _ => cases hu; exact h6
  | 7, _ => cases hu; exact h7
  | 8, _ => cases hu; exact h8
  | 9, _ => cases hu; exact h9
  | 10, _ => cases hu; exact h10
  | 11, _ => cases hu; exact h11
  | 12, _ => cases hu; exact h12
theorem en_app {R R2 : List En} {v : Value} {h F : Heaplet} {w : World} {a : Option Addr} {c : Nat} (hv : EnSl v R h) (s : Sat w (h ++ F)) (hs : SrcAt eC 13 w a R2) (hlen : R.length + R2.length ≤ 200000) :
    ∃ a' c' w' h', (∀ ty, (Builtin.append_ #[29, 29] ty #[v, .slice a R2.length c]).run Tryz.prog w = .ok (.slice a' (R.length + R2.length) c') w') ∧ EnSl (.slice a' (R.length + R2.length) c') (R ++ R2) h' ∧ Sat w' (h' ++ F) := by
  obtain ⟨i0, hi, hz, hsize, hby⟩ := info_parts infoEn
  obtain ⟨v', w', h', k1, k2, k3⟩ := sl_app (P := Tryz.prog) eC_len Tryz.underlying29 hi hz hsize hby rfl (by decide) hv s hs one_e (by unfold maxLen; omega) (by omega)
  obtain ⟨a', c', rfl⟩ := sl_form k2
  have e : (R ++ R2).length = R.length + R2.length := List.length_append
  rw [e] at k1
  exact ⟨a', c', w', h', k1, by rw [← e]; exact k2, k3⟩
set_option maxRecDepth 100000 in
theorem clone_en {v : Value} {L : List En} {F : Heaplet} {w : World} (hv : EnsIn F v L) (s : Sat w F) (hl : L.length ≤ 100000) :
    Calls Tryz.prog 28 #[v] w fun e w' => ∃ v' h, e = .returned v' ∧ EnSl v' L h ∧ Sat w' (h ++ F) := by
  have hv0 := hv
  obtain ⟨a, cap, rfl, hc⟩ := hv
  cases a with
  | none =>
    have hL : L = [] := by
      cases L with
      | nil => rfl
      | cons x r =>
        obtain ⟨g, off, e, _⟩ := hc w s 0 x rfl
        cases e
    subst hL
    have HS := Lib.hid s
    have heq : ∀ w : World, (binOp .eql 29 (.slice none 0 cap) (.slice none 0 0)).run Tryz.prog w = .ok (.bool true) w := fun w => Lib.run_eql_slice_nil w _ _ none 0 cap 0 0 Tryz.underlying29
    clear hv0 hc s
    simp only [List.length_nil]
    go_enter Tryz.func28, Tryz.ntmps28
    go_wp2_with fail
    go_ret
    exact ⟨_, [], rfl, SliceIs.nil _ _, HS.out⟩
  | some ad =>
    have hs1 := s.new (.cells #[] 58)
    have hsrc := src_of (hv0.mono (F' := .blk w.heap.size (.cells #[] 58) :: F) (fun w hw => hw.tail)) hs1
    obtain ⟨i0, hi, hz, hsize, hby⟩ := info_parts infoEn
    obtain ⟨v', w', h', hap, hv', hs'⟩ := sl_app (P := Tryz.prog) (R := []) (R2 := L) (c := cap) eC_len Tryz.underlying29 hi hz hsize hby rfl (by decide) (sl_new 58 13 w.heap.size) (h := [.blk w.heap.size (.cells #[] 58)]) hs1 hsrc (fun q u hu => one_e q u hu) (by unfold maxLen; simp; omega) (by simp; omega)
    have HAP := Lib.hid hap
    have heq : ∀ w : World, (binOp .eql 29 (.slice (some ad) L.length cap) (.slice none 0 0)).run Tryz.prog w = .ok (.bool false) w := fun w => Lib.run_eql_slice_nil w _ _ (some ad) L.length cap 0 0 Tryz.underlying29
    have FIN : Hid (EnSl v' L h' ∧ Sat w' (h' ++ F)) := Lib.hid ⟨hv', hs'⟩
    clear hv0 hc s hs1 hsrc hap hv' hs'
    go_enter Tryz.func28, Tryz.ntmps28
    go_wp2_with (at_builtin; refine wpList_append_run rfl _ _ _ _ rfl _ _ _ _ rfl rfl HAP.out ?_)
    go_ret
    exact ⟨_, h', rfl, FIN.out.1, FIN.out.2⟩
/-- A leaf: a page's number, its image. -/
abbrev Lf := Int × Pg
abbrev lfV (n l : Int) (sv : Value) : Value := .agg #[kI n, kI l, sv]
/-- Where F holds, the leaves lie there. -/
def LvAt (F : Heaplet) (v : Value) (P : List Lf) : Prop := ∃ a cap, v = .slice a P.length cap ∧ ∀ (i : Nat) p, P[i]? = some p → ∃ g off sv, a = some ⟨g, off, none⟩ ∧ SlAt F sv p.2.slots ∧ ∀ w, Sat w F → w.cell? ⟨g, off + i * 3, none⟩ = some (kI p.1) ∧ w.cell? ⟨g, off + i * 3 + 1, none⟩ = some (kI p.2.lsn) ∧ w.cell? ⟨g, off + i * 3 + 2, none⟩ = some sv
theorem LvAt.mono {F F' : Heaplet} {v : Value} {P : List Lf} (h : LvAt F v P) (hF : ∀ w, Sat w F' → Sat w F) : LvAt F' v P := by
  obtain ⟨a, cap, e, hc⟩ := h
  refine ⟨a, cap, e, fun i p hp => ?_⟩
  obtain ⟨g, off, sv, e2, hs, hw⟩ := hc i p hp
  exact ⟨g, off, sv, e2, hs.mono hF, fun w s => hw w (hF w s)⟩
def atN (n : Int) (p : Lf) : Bool := p.1 == n
abbrev placeV (cb : Nat) : Value := .func (.func 79) #[] #[.pointer (some ⟨cb, 0, none⟩)]
set_option maxRecDepth 100000 in
theorem place1_any (p : Lf) (n : Int) (a : Option Addr) (len cap cb : Nat) (w : World) (hc : w.cell? ⟨cb, 0, none⟩ = some (kI n)) :
    Calls Tryz.prog 79 #[lfV p.1 p.2.lsn (.slice a len cap), .pointer (some ⟨cb, 0, none⟩)] w (Pur (.bool (atN n p)) w) := by
  unfold Pur atN
  have hs := (sat_all w).new (.cells #[kI p.1, kI p.2.lsn, .slice a len cap] 54)
  have c0 : (w.alloc (.cells #[kI p.1, kI p.2.lsn, .slice a len cap] 54)).cell? ⟨w.heap.size, 0, none⟩ = some (kI p.1) := by rw [cell_of hs.h0]; rfl
  have c1 : (w.alloc (.cells #[kI p.1, kI p.2.lsn, .slice a len cap] 54)).cell? ⟨cb, 0, none⟩ = some (kI n) := (Grown.alloc w _).cell hc
  have HG := Lib.hid (Grown.alloc w (.cells #[kI p.1, kI p.2.lsn, .slice a len cap] 54))
  clear hs hc
  go_enter Tryz.func79, Tryz.ntmps79
  go_wp2_with fail
  go_ret
  exact ⟨rfl, HG.out⟩
set_option maxRecDepth 100000 in
theorem idx_lf {v : Value} {P : List Lf} {F : Heaplet} {w : World} {cb : Nat} {n : Int} (hv : LvAt F v P) (s : Sat w (.blk cb (.cells #[kI n] 3) :: F)) (hl : P.length ≤ 1000) :
    Calls Tryz.prog 78 #[v, placeV cb] w (Pur (.int .i64 (idxF (atN n) P)) w) := by
  obtain ⟨a, cap, rfl, hc⟩ := hv
  unfold Pur
  have HC := Lib.hid hc
  have HS := Lib.hid s
  have hl9 : (P.length : Int) ≤ 1000 := by omega
  obtain ⟨res, hres⟩ : ∃ res, idxF (atN n) P = res := ⟨_, rfl⟩
  rw [hres]
  have HRES := Lib.hid hres
  clear hc s hres
  go_enter Tryz.func78, Tryz.ntmps78
  go_wp2_with fail
  go_loopw [8] (fun v8 wr => ∃ j : Nat, j ≤ P.length ∧ v8 = .int .i64 j ∧ (∀ i y, i < j → P[i]? = some y → atN n y = false) ∧ Grown w wr) (fun v8 _ => 2000 - (RowKit.intOf v8).toNat)
  case atStart => exact ⟨0, by omega, rfl, fun i r hi => absurd hi (by omega), Grown.refl w⟩
  case round =>
    obtain ⟨j, hj, rfl, hno, hg⟩ := hrel
    have j0 : (0 : Int) ≤ (j : Int) := by omega
    have j9 : (j : Int) ≤ 1000 := by omega
    by_cases hjl : j < P.length
    · have j1 : (j : Int) < (P.length : Int) := by omega
      obtain ⟨x, hx⟩ : ∃ x, P[j]? = some x := ⟨_, List.getElem?_eq_getElem hjl⟩
      obtain ⟨g, off, sv, e, hsv, hu⟩ := HC.out j x hx
      subst e
      obtain ⟨sa, sc, rfl, _⟩ := hsv
      obtain ⟨u0, u1, u2⟩ := hu wr (HS.out.grown hg).tail
      have hcb : wr.cell? ⟨cb, 0, none⟩ = some (kI n) := by rw [cell_of (HS.out.grown hg).h0]; rfl
      have HCALL := Lib.hid (place1_any x n sa x.2.slots.length sc cb wr hcb)
      have HX := Lib.hid (And.intro hx (And.intro hno hg))
      obtain ⟨o, ho⟩ : ∃ o, atN n x = o := ⟨_, rfl⟩
      rw [ho] at HCALL
      have HO := Lib.hid ho
      clear hx hu hno hg ho hcb
      go_wp2_with fail
      refine (HCALL.out).mono ?_
      rintro e w1 ⟨rfl, hg1⟩
      have G1 := Lib.hid (HX.out.2.2.trans hg1)
      clear hg1 u0 u1 u2 HCALL
      cases o with
      | true =>
        have h1 := idxF_found HX.out.1 HO.out HX.out.2.1
        rw [HRES.out] at h1
        clear HO HX
        go_wp2_with fail
        go_ret
        exact ⟨by rw [h1]; rfl, G1.out⟩
      | false =>
        have HNO : Hid (∀ i y, i < j + 1 → P[i]? = some y → atN n y = false) := Lib.hid (fun i y hi hy => by
          by_cases e : i = j
          · subst e
            rw [HX.out.1] at hy
            rw [← Option.some.inj hy]; exact HO.out
          · exact HX.out.2.1 i y (by omega) hy)
        clear HO HX
        go_wp2_with fail
        exact ⟨⟨j + 1, by omega, by simp, HNO.out, G1.out⟩, by simp only [RowKit.intOf]; omega⟩
    · obtain rfl : j = P.length := by omega
      have h1 := idxF_none hno
      rw [HRES.out] at h1
      have G1 := Lib.hid hg
      clear hno hg hj hjl
      go_wp2_with fail
      go_ret
      exact ⟨by rw [h1]; rfl, G1.out⟩
set_option maxRecDepth 100000 in
/-- Where a page stands. -/
theorem place_any {v : Value} {P : List Lf} {F : Heaplet} {w : World} (n : Int) (hv : LvAt F v P) (s : Sat w F) (hl : P.length ≤ 1000) :
    Calls Tryz.prog 47 #[v, kI n] w (Pur (.int .i64 (idxF (atN n) P)) w) := by
  unfold Pur
  have H := Lib.hid (idx_lf (n := n) hv (s.new (.cells #[kI n] 3)) hl)
  have G0 := Lib.hid (Grown.alloc w (.cells #[kI n] 3))
  obtain ⟨a, cap, rfl, _⟩ := hv
  generalize idxF (atN n) P = r at *
  clear s
  go_enter Tryz.func47, Tryz.ntmps47
  go_wp2_with fail
  refine (H.out).mono ?_
  rintro e w1 ⟨rfl, hg⟩
  have G1 := Lib.hid (G0.out.trans hg)
  clear hg H G0
  go_wp2_with fail
  go_ret
  exact ⟨rfl, G1.out⟩
end Go.Proofs.YtficgjklagnbjaaGreat
namespace Go.Proofs.YtficgjklagnbjaaGreat
open Go Go.MapKept Go.RowKit Go.Proofs Go.Sort

theorem und_mib : Tryz.prog.underlying 103 = some (.map 3 4) := by kernel_rfl
/-- A map that is true for these numbers alone. -/
def SeenAt (b : Nat) (S : List Int) (F : Heaplet) (w : World) : Prop := ∃ es clk D, MapOk (.int .i64) kI vB es clk D ∧ (∀ k, (getL k D).getD false = S.contains k) ∧ Sat w (.blk b (.map es clk) :: F)
section
variable {b : Nat} {S : List Int} {F : Heaplet} {w : World}
theorem SeenAt.frame (h : SeenAt b S F w) : Sat w F := by
  obtain ⟨es, clk, D, _, _, s⟩ := h
  exact s.tail
theorem SeenAt.grown {w' : World} (h : SeenAt b S F w) (k : Grown w w') : SeenAt b S F w' := by
  obtain ⟨es, clk, D, h1, h2, s⟩ := h
  exact ⟨es, clk, D, h1, h2, s.grown k⟩
theorem SeenAt.new (h : SeenAt b S F w) (o : Obj) : SeenAt b S (.blk w.heap.size o :: F) (w.alloc o) := by
  obtain ⟨es, clk, D, h1, h2, s⟩ := h
  exact ⟨es, clk, D, h1, h2, (s.new o).swap⟩
theorem SeenAt.part {F' : Heaplet} (h : SeenAt b S F w) (hF : ∀ a, cnt a F' ≤ cnt a F) : SeenAt b S F' w := by
  obtain ⟨es, clk, D, h1, h2, s⟩ := h
  exact ⟨es, clk, D, h1, h2, s.part (fun a => by have := hF a; simp only [cnt_cons]; omega)⟩
theorem SeenAt.look (h : SeenAt b S F w) (k : Int) : (Instr.lookup 103 (.map (some b)) (kI k) false).run Tryz.prog w = .ok (.bool (S.contains k)) w := by
  obtain ⟨es, clk, D, h1, h2, s⟩ := h
  rw [run_lookup_ok und_mib Tryz.underlying3 (z := .bool false) (by simp [go_sem]) s.h0 h1 k, ← h2 k]
  cases getL k D <;> rfl
theorem SeenAt.put (h : SeenAt b S F w) (k : Int) : ∃ w', (Instr.mapUpdate 103 (.map (some b)) (kI k) (.bool true)).run Tryz.prog w = .ok () w' ∧ SeenAt b (k :: S) F w' := by
  obtain ⟨es, clk, D, h1, h2, s⟩ := h
  obtain ⟨w', es', clk', hr, h1', s'⟩ := sat_update und_mib Tryz.underlying3 h1 s k true
  refine ⟨w', hr, es', clk', _, h1', fun j => ?_, s'⟩
  rw [getL_putL]
  by_cases e : j = k
  · subst e; rw [if_pos rfl, List.contains_cons, beq_self_eq_true]; rfl
  · rw [if_neg e, h2 j, List.contains_cons, beq_eq_false_iff_ne.2 e, Bool.false_or]
end
def arePM : List Int → List Lf → Bool
  | _, [] => true
  | S, p :: r => if (S.contains p.1 || decide (p.1 < 0) || decide (1024 ≤ p.1) || !goodP p.2) = true then false else arePM (p.1 :: S) r
/-- Pages whose numbers fit into a machine's word. -/
def FitP (P : List Lf) : Prop := ∀ p ∈ P, p.2.slots.length ≤ 1000 ∧ (∀ x ∈ p.2.slots, x.2.size ≤ 1000000) ∧ -9223372036854775808 ≤ p.2.lsn ∧ p.2.lsn ≤ 9223372036854775807
set_option maxRecDepth 100000 in
set_option maxHeartbeats 4000000 in
theorem are_any {v : Value} {P : List Lf} {F : Heaplet} {w : World} (hv : LvAt F v P) (s : Sat w F) (hl : P.length ≤ 1000) (hf : FitP P) :
    Calls Tryz.prog 48 #[v] w (Ret (.bool (arePM [] P)) (Below w.heap.size w)) := by
  obtain ⟨a, cap, rfl, hc⟩ := hv
  have HC := Lib.hid hc
  have HF := Lib.hid hf
  have hl9 : (P.length : Int) ≤ 1000 := by omega
  obtain ⟨res, hres⟩ : ∃ res, arePM [] P = res := ⟨_, rfl⟩
  rw [hres]
  have hmm := @run_makeMap Tryz.prog
  have HOLD : Hid (∀ w', Sat w' (allOf w) → Sat w' F) := Lib.hid (fun w' h => s.monoB (Sat.below h))
  have HFIN : Hid (∀ w', Sat w' (allOf w) → Below w.heap.size w w') := Lib.hid (fun w' h => Sat.below h)
  obtain ⟨AW, hAW⟩ : ∃ AW, allOf w = AW := ⟨_, rfl⟩
  have H0 : Hid (SeenAt w.heap.size [] AW (w.alloc (.map #[] 0))) := Lib.hid ⟨#[], 0, [], mapOk_new kI_key kI_inj, (fun k => rfl), by rw [← hAW]; exact (sat_all w).new (.map #[] 0)⟩
  rw [hAW] at HOLD HFIN
  obtain ⟨PB, hPB⟩ : ∃ PB : World → Prop, Below w.heap.size w = PB := ⟨_, rfl⟩
  have HFIN2 : Hid (∀ w', Sat w' AW → PB w') := Lib.hid (fun w' h => by rw [← hPB]; exact HFIN.out w' h)
  rw [hPB]
  have HRES := Lib.hid hres
  clear hAW hPB HFIN hc s hf hres
  go_enter Tryz.func48, Tryz.ntmps48
  go_wp2_with fail
  generalize w.alloc (.map #[] 0) = W0 at *
  generalize w.heap.size = m at *
  go_loopw [9] (fun v9 wr => ∃ (i : Nat) (S : List Int), i ≤ P.length ∧ v9 = .int .i64 i ∧ arePM S (P.drop i) = res ∧ SeenAt m S AW wr) (fun v9 _ => 2000 - (RowKit.intOf v9).toNat)
  case atStart => exact ⟨0, [], by omega, rfl, HRES.out, H0.out⟩
  case round =>
    clear H0 HRES
    obtain ⟨i, S, hi, rfl, hr, hse⟩ := hrel
    have i0 : (0 : Int) ≤ (i : Int) := by omega
    by_cases hil : i < P.length
    · have i1 : (i : Int) < (P.length : Int) := by omega
      obtain ⟨p, hp⟩ : ∃ p, P[i]? = some p := ⟨_, List.getElem?_eq_getElem hil⟩
      obtain ⟨g, off, sv, rfl, hsv, hu⟩ := HC.out i p hp
      obtain ⟨u0, u1, u2⟩ := hu wr (HOLD.out wr hse.frame)
      have hdr : P.drop i = p :: P.drop (i + 1) := by rw [List.drop_eq_getElem_cons hil]; congr 1; exact Option.some.inj ((List.getElem?_eq_getElem hil).symm.trans hp)
      rw [hdr] at hr
      have hfp := HF.out p (List.mem_of_getElem? hp)
      obtain ⟨n, q⟩ := p
      simp only at hsv u0 u1 u2 hfp
      have hsv2 := hsv
      obtain ⟨sa, sc, rfl, _⟩ := hsv2
      have hse1 := hse.new (.cells #[kI n, kI q.lsn, .slice sa q.slots.length sc] 54)
      have hsv1 : SlAt (.blk wr.heap.size (.cells #[kI n, kI q.lsn, .slice sa q.slots.length sc] 54) :: AW) (.slice sa q.slots.length sc) q.slots := hsv.mono (fun w' h => HOLD.out w' h.tail)
      have HG := Lib.hid (pgood_any hsv1 hse1.frame hfp.1 hfp.2.1 hfp.2.2)
      have HS := Lib.hid hse1
      have HR := Lib.hid hr
      have x0 : (wr.alloc (.cells #[kI n, kI q.lsn, .slice sa q.slots.length sc] 54)).cell? ⟨wr.heap.size, 0, none⟩ = some (kI n) := by rw [cell_of hse1.frame.h0]; rfl
      have x1 : (wr.alloc (.cells #[kI n, kI q.lsn, .slice sa q.slots.length sc] 54)).cell? ⟨wr.heap.size, 1, none⟩ = some (kI q.lsn) := by rw [cell_of hse1.frame.h0]; rfl
      have x2 : (wr.alloc (.cells #[kI n, kI q.lsn, .slice sa q.slots.length sc] 54)).cell? ⟨wr.heap.size, 2, none⟩ = some (.slice sa q.slots.length sc) := by rw [cell_of hse1.frame.h0]; rfl
      have hlk := hse1.look n
      clear hu hdr hr hfp hsv hsv1 hse hse1 hi hp
      go_upto_region 5 with (fail)
      clear u0 u1 u2
      generalize wr.alloc (.cells #[kI n, kI q.lsn, .slice sa q.slots.length sc] 54) = W1 at *
      generalize wr.heap.size = xb at *
      obtain ⟨c1, hc1⟩ : ∃ c1, S.contains n = c1 := ⟨_, rfl⟩
      have HC1 := Lib.hid hc1
      rw [hc1] at hlk
      clear hc1
      cases c1 with
      | true =>
        have hr := HR.out
        unfold arePM at hr
        rw [if_pos (by simp only [HC1.out]; rfl)] at hr
        subst hr
        have HB := Lib.hid (HFIN2.out _ HS.out.frame.tail)
        clear HC1 HR HS HG
        go_wp2_with fail
        go_ret
        exact ⟨rfl, HB.out⟩
      | false =>
        by_cases h2 : n < 0
        · have hr := HR.out
          unfold arePM at hr
          rw [if_pos (by simp only [HC1.out, decide_eq_true h2]; rfl)] at hr
          subst hr
          have HB := Lib.hid (HFIN2.out _ HS.out.frame.tail)
          clear HC1 HR HS HG
          go_wp2_with fail
          go_ret
          exact ⟨rfl, HB.out⟩
        · have h2' : (n < 0) = False := eq_false h2
          by_cases h3 : (1024 : Int) ≤ n
          · have hr := HR.out
            unfold arePM at hr
            rw [if_pos (by simp only [HC1.out, decide_eq_true h3]; simp)] at hr
            subst hr
            have HB := Lib.hid (HFIN2.out _ HS.out.frame.tail)
            clear HC1 HR HS HG
            go_wp2_with fail
            go_ret
            exact ⟨rfl, HB.out⟩
          · have h3' : ((1024 : Int) ≤ n) = False := eq_false h3
            obtain ⟨gq, hgq⟩ : ∃ gq, goodP q = gq := ⟨_, rfl⟩
            rw [hgq] at HG
            have HGQ := Lib.hid hgq
            have HN := Lib.hid (And.intro h2 h3)
            clear hgq h2 h3
            go_wp2_with fail
            refine (HG.out).mono ?_
            rintro e w2 ⟨rfl, hg⟩
            have HS2 := Lib.hid (HS.out.grown hg)
            clear hg HG HS x0 x1 x2 hlk
            cases gq with
            | false =>
              have hr := HR.out
              unfold arePM at hr
              rw [if_pos (by simp only [HGQ.out]; simp)] at hr
              subst hr
              have HB := Lib.hid (HFIN2.out _ HS2.out.frame.tail)
              clear HC1 HR HS2 HGQ HN
              go_wp2_with fail
              go_ret
              exact ⟨rfl, HB.out⟩
            | true =>
              have hr := HR.out
              unfold arePM at hr
              rw [if_neg (by have h8 := HN.out; simp only [HC1.out, HGQ.out]; simp; omega)] at hr
              have x0 : w2.cell? ⟨xb, 0, none⟩ = some (kI n) := by rw [cell_of HS2.out.frame.h0]; rfl
              obtain ⟨w3, hup, hs3⟩ := HS2.out.put n
              have FIN : Hid (arePM (n :: S) (P.drop (i + 1)) = res ∧ SeenAt m (n :: S) AW w3) := Lib.hid ⟨hr, hs3.part (fun a => by simp only [cnt_cons]; omega)⟩
              clear hr hs3 HC1 HR HS2 HGQ HN
              go_wp2_with fail
              exact ⟨⟨i + 1, n :: S, by omega, by simp, FIN.out.1, FIN.out.2⟩, by simp only [RowKit.intOf]; omega⟩
    · obtain rfl : i = P.length := by omega
      rw [List.drop_length] at hr
      have hr2 : true = res := hr
      subst hr2
      have HB := Lib.hid (HFIN2.out _ hse.frame)
      clear hr hse hi hil
      go_wp2_with fail
      go_ret
      exact ⟨rfl, HB.out⟩
end Go.Proofs.YtficgjklagnbjaaGreat
