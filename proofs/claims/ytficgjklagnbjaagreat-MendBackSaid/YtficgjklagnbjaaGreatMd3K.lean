/- The law's past: add, what lay there before being still there. Conditions: none. -/
import Derived.Test.YtficgjklagnbjaaGreatMp18
namespace Go.Proofs.YtficgjklagnbjaaGreat
open Go Go.MapKept Go.RowKit Go.Proofs Go.Sort

/-- A past lies at pb; what lay in H0, and the pages' rows vs0, lie there still. -/
def PsK (H0 : Heaplet) (vs0 : List Value) (pb : Nat) (S : PS) (F : Heaplet) (w : World) : Prop := ∃ lv nv av vs hl ha H, EnSl lv S.list hl ∧ SliceIs 30 1 av vs.length vs ha ∧ LvAt H nv S.now ∧ LvsAt H vs S.all ∧ Sat w (.blk pb (psO lv nv av S.ow S.tx S.la) :: (hl ++ (ha ++ (H ++ F)))) ∧ (∃ K, H = H0 ++ K) ∧ ∃ u, vs = vs0 ++ u
theorem PsK.is {H0 : Heaplet} {vs0 : List Value} {pb : Nat} {S : PS} {F : Heaplet} {w : World} (h : PsK H0 vs0 pb S F w) : PsIs pb S F w := by
  obtain ⟨lv, nv, av, vs, hl, ha, H, h1, h2, h3, h4, s, _⟩ := h
  exact ⟨lv, nv, av, vs, hl, ha, H, h1, h2, h3, h4, s⟩
theorem PsK.part {H0 : Heaplet} {vs0 : List Value} {pb : Nat} {S : PS} {F G : Heaplet} {w : World} (h : PsK H0 vs0 pb S F w) (hg : ∀ a, cnt a G ≤ cnt a F) : PsK H0 vs0 pb S G w := by
  obtain ⟨lv, nv, av, vs, hl, ha, H, h1, h2, h3, h4, s, h5⟩ := h
  refine ⟨lv, nv, av, vs, hl, ha, H, h1, h2, h3, h4, Sat.part s fun a => ?_, h5⟩
  have := hg a
  simp only [cnt_cons, cnt_append]
  omega
theorem PsK.frame {H0 : Heaplet} {vs0 : List Value} {pb : Nat} {S : PS} {F : Heaplet} {w : World} (h : PsK H0 vs0 pb S F w) : Sat w (H0 ++ F) := by
  obtain ⟨lv, nv, av, vs, hl, ha, H, _, _, _, _, s, ⟨K, rfl⟩, _⟩ := h
  (refine Sat.part s ?_; intro a; simp only [cnt_cons, cnt_append, cnt_nil, List.cons_append, List.nil_append, List.append_eq]; omega)
set_option maxRecDepth 100000 in
set_option maxHeartbeats 4000000 in
theorem add3_any {pb : Nat} {S : PS} {F : Heaplet} {w : World} {c : Nat} {H0 : Heaplet} {vs0 : List Value} (x : En) (h : PsK H0 vs0 pb S F w) (hs : Small S) (hl1 : S.list.length + 1 ≤ 10000 ∧ S.all.length + 1 ≤ 10000) (hc : c < 5) (hxc : x.t.c = c) (hxn : x.kind ≤ 2 → ∃ n : Nat, n < 4 ∧ x.page = n) (hxl : -9223372036854775808 ≤ x.lsn ∧ x.lsn ≤ 9223372036854775807) :
    Calls Tryz.prog 21 #[.pointer (some ⟨pb, 0, none⟩), eV x] w (Ret (.bool (addP S x).1) (PsK H0 vs0 pb (addP S x).2 F)) := by
  obtain ⟨rb, rS, hr⟩ : ∃ rb rS, addP S x = (rb, rS) := ⟨_, _, rfl⟩
  rw [hr]
  have HR := Lib.hid hr
  obtain ⟨lv, nv, av, vs, hl, ha, H, h1, h2, h3, h4, s, hK, hU⟩ := h
  have HKU := Lib.hid (And.intro hK hU)
  clear hK hU
  have HV := Lib.hid (And.intro h1 (And.intro h2 h4))
  have HN := Lib.hid h3
  obtain ⟨na, nc, rfl, _⟩ := h3
  obtain ⟨l0, lc, rfl⟩ := sl_form h1
  obtain ⟨a0, ac, rfl⟩ := sl_form h2
  have s1 := s.new (eO x)
  have HS1 := Lib.hid s1
  have HSM := Lib.hid (And.intro hs (And.intro hl1 (And.intro hxc (And.intro hxn (And.intro hxl hc)))))
  have t1 : (w.alloc (eO x)).cell? ⟨pb, 1, none⟩ = some (.slice na S.now.length nc) := by rw [cell_of s1.h1]; rfl
  clear hr h1 h2 h4 s s1 hs hl1 hxn hxc hxl
  go_enter Tryz.func21, Tryz.ntmps21
  go_upto_region 1 with (fail)
  generalize w.alloc (.cells #[kI x.kind, kI x.t.c, kI x.t.e, kI x.t.n, kI x.lsn, kI x.prev, kI x.page, kI x.slot, .bool x.wu, kS x.wd, .bool x.iu, kS x.idt, kI x.next] 58) = W1 at *
  generalize w.heap.size = xb at *
  obtain ⟨v5, w5, R, h5, hap, hv5, hi5, hs5⟩ := lf_copy HN.out (HS1.out.new (.cells #[] 54)) (fun w hw => hw.tail.tail.right.right.left') (by have := HSM.out.1.2.2.2.2.2.1; omega)
  have hr4 : R.length = 4 := hi5.1.trans HSM.out.1.2.2.2.2.2.1
  obtain ⟨nb, n5, rfl⟩ := sl_some hv5 (by omega)
  rw [hr4] at hap hv5
  have HAP := Lib.hid hap
  have HS5 := Lib.hid (And.intro hv5 (And.intro hi5 (And.intro hr4 hs5)))
  clear hap hv5 hi5 hr4 hs5
  clear t1
  have t1 : (W1.alloc (.cells #[] 54)).cell? ⟨pb, 1, none⟩ = some (.slice na S.now.length nc) := by rw [cell_of (HS1.out.new (.cells #[] 54)).h2]; rfl
  go_upto_region 2 with (at_builtin; refine wpList_append_run rfl _ _ _ _ rfl _ _ _ _ rfl rfl HAP.out ?_)
  clear t1 HAP HS1
  have hs5 := HS5.out.2.2.2
  obtain ⟨x0, x1, x2, x3, x4, x5, x6, x7, x8, x9, x10, x11, x12⟩ := enAt_of hs5.right.h0
  have HSS := Lib.hid hs5
  clear hs5
  go_upto_if 17 with (fail)
  go_cut [] (fun wx => rb = true ∧ ∃ (nw : List Lf) (R2 : List Lr) (h6 hn : Heaplet), rS = S.push x nw ∧ nw.length = 4 ∧ R2.length = 4 ∧ LrSl (.slice (some ⟨nb, 0, none⟩) 4 n5) R2 h6 ∧ LrIs (H ++ hn) R2 nw ∧ Sat wx (.blk xb (eO x) :: .blk pb (psO (.slice l0 S.list.length lc) (.slice na S.now.length nc) (.slice a0 vs.length ac) S.ow S.tx S.la) :: (hl ++ (ha ++ (H ++ (hn ++ (h6 ++ F)))))))
  case first =>
    by_cases hk : x.kind ≤ 2
    · obtain ⟨n, hn4, hxp⟩ := HSM.out.2.2.2.1 hk
      have hkk : decide (x.kind ≤ 2) = true := decide_eq_true hk
      rw [hkk]
      clear hkk
      have hnl : n < S.now.length := by have := HSM.out.1.2.2.2.2.2.1; omega
      obtain ⟨pp, hpp⟩ : ∃ pp, S.now[n]? = some pp := ⟨_, List.getElem?_eq_getElem hnl⟩
      obtain ⟨pn, p⟩ := pp
      have hpg : pgAt S.now n = p := by unfold pgAt; rw [hpp]
      have hgp := (HSM.out.1.2.2.2.2.1 _ (List.mem_of_getElem? hpp)).1
      obtain ⟨q, dn, rc, hrd⟩ : ∃ q dn rc, redoM p x = (q, dn, rc) := ⟨_, _, _, rfl⟩
      have HRX := Lib.hid (And.intro hk (And.intro hxp (And.intro hpg hrd)))
      obtain ⟨r, hr⟩ : ∃ r, R[n]? = some r := ⟨_, List.getElem?_eq_getElem (by rw [HS5.out.2.2.1]; exact hn4)⟩
      obtain ⟨r1, r2, psv⟩ := r
      obtain ⟨er1, er2, hps⟩ := HS5.out.2.1.2 n _ _ hr hpp
      simp only at er1 er2 hps hgp
      subst er1; subst er2
      obtain ⟨psa, psc, rfl, _⟩ := id hps
      have hpc : ∀ W, Sat W (h5 ++ (.blk xb (eO x) :: .blk pb (psO (.slice l0 S.list.length lc) (.slice na S.now.length nc) (.slice a0 vs.length ac) S.ow S.tx S.la) :: (hl ++ (ha ++ (H ++ F))))) → W.cell? ⟨nb, n * 3 + 1, none⟩ = some (kI p.lsn) ∧ W.cell? ⟨nb, n * 3 + 2, none⟩ = some (.slice psa p.slots.length psc) := by
        intro W hW
        obtain ⟨a', cap', e, hc⟩ := sl_cells lrC_len HS5.out.1 hW
        simp only [Value.slice.injEq] at e
        obtain ⟨rfl, _, rfl⟩ := e
        obtain ⟨g', ea, _, hu⟩ := hc n _ hr
        cases ea
        exact ⟨hu 1 _ rfl, hu 2 _ rfl⟩
      have HPC := Lib.hid hpc
      have n0 : (0 : Int) ≤ (n : Int) := by omega
      have n4 : (n : Int) < 4 := by omega
      have hR : Hid (R[n]? = some (r1, p.lsn, .slice psa p.slots.length psc)) := Lib.hid hr
      have HPP := Lib.hid hpp
      clear hk hxp hpg hrd hr hpc hpp hnl
      go_upto_region 3 with (fail)
      go_cut [6, 7, 8] (fun v6 v7 v8 wx => ∃ pb2 qv hn, v6 = .pointer (some ⟨pb2, 0, none⟩) ∧ v7 = .bool dn ∧ v8 = kI rc ∧ SlAt hn qv q.slots ∧ Sat wx (.blk pb2 (.cells #[kI q.lsn, qv] 52) :: .blk xb (eO x) :: .blk pb (psO (.slice l0 S.list.length lc) (.slice na S.now.length nc) (.slice a0 vs.length ac) S.ow S.tx S.la) :: (h5 ++ (hn ++ (hl ++ (ha ++ (H ++ F)))))))
      case first =>
        clear x0 x1 x2 x3 x4 x5 x6 x7 x8 x9 x10 x11 x12
        have hcell : ∀ W, Sat W (h5 ++ (.blk xb (eO x) :: .blk pb (psO (.slice l0 S.list.length lc) (.slice na S.now.length nc) (.slice a0 vs.length ac) S.ow S.tx S.la) :: (hl ++ (ha ++ (H ++ F))))) → W.cell? ⟨nb, n * 3 + 1, none⟩ = some (kI p.lsn) ∧ W.cell? ⟨nb, n * 3 + 2, none⟩ = some (.slice psa p.slots.length psc) ∧ W.cell? ⟨xb, 0, none⟩ = some (kI x.kind) ∧ W.cell? ⟨xb, 1, none⟩ = some (kI x.t.c) ∧ W.cell? ⟨xb, 2, none⟩ = some (kI x.t.e) ∧ W.cell? ⟨xb, 3, none⟩ = some (kI x.t.n) ∧ W.cell? ⟨xb, 4, none⟩ = some (kI x.lsn) ∧ W.cell? ⟨xb, 5, none⟩ = some (kI x.prev) ∧ W.cell? ⟨xb, 6, none⟩ = some (kI x.page) ∧ W.cell? ⟨xb, 7, none⟩ = some (kI x.slot) ∧ W.cell? ⟨xb, 8, none⟩ = some (.bool x.wu) ∧ W.cell? ⟨xb, 9, none⟩ = some (kS x.wd) ∧ W.cell? ⟨xb, 10, none⟩ = some (.bool x.iu) ∧ W.cell? ⟨xb, 11, none⟩ = some (kS x.idt) ∧ W.cell? ⟨xb, 12, none⟩ = some (kI x.next) := fun W hW => by
          obtain ⟨y0, y1, y2, y3, y4, y5, y6, y7, y8, y9, y10, y11, y12⟩ := enAt_of hW.right.h0
          obtain ⟨p1, p2⟩ := HPC.out W hW
          exact ⟨p1, p2, y0, y1, y2, y3, y4, y5, y6, y7, y8, y9, y10, y11, y12⟩
        have HC := Lib.hid hcell
        have K1 := Lib.hid (hcell _ HSS.out)
        have K2 := Lib.hid (hcell _ HSS.out.drew)
        have K3 := Lib.hid (hcell _ (HSS.out.new pgZ).drew.tail)
        have HS6 := Lib.hid (HSS.out.new pgZ).drew
        have HRD : Hid (∀ (W : World) (K : Heaplet), Sat W (K ++ (h5 ++ (.blk xb (eO x) :: .blk pb (psO (.slice l0 S.list.length lc) (.slice na S.now.length nc) (.slice a0 vs.length ac) S.ow S.tx S.la) :: (hl ++ (ha ++ (H ++ F)))))) → Calls Tryz.prog 38 #[pgV p.lsn (.slice psa p.slots.length psc), .agg #[kI x.kind, kI x.t.c, kI x.t.e, kI x.t.n, kI x.lsn, kI x.prev, kI (n : Int), kI x.slot, .bool x.wu, kS x.wd, .bool x.iu, kS x.idt, kI x.next]] W (RdRet q dn rc (K ++ (h5 ++ (.blk xb (eO x) :: .blk pb (psO (.slice l0 S.list.length lc) (.slice na S.now.length nc) (.slice a0 vs.length ac) S.ow S.tx S.la) :: (hl ++ (ha ++ (H ++ F)))))))) := Lib.hid (fun W K hW => by
          have := redo_any (p := p) x (hps.mono (fun w hw => (Sat.right (Sat.right hw)).tail.tail.right.right.left')) hW (good_bd hgp).1 (good_bd hgp).2.1 (good_bd hgp).2.2 HSM.out.2.2.2.2.1
          rw [HRX.out.2.2.2] at this
          unfold eV at this
          rw [HRX.out.2.1] at this
          exact this)
        have hxq : x.page = (n : Int) := HRX.out.2.1
        rw [hxq] at K1 K2 K3 HC
        clear hcell hxq
        go_region_held3 (fun w' => w'.cell? ⟨nb, n * 3 + 1, none⟩ = some (kI p.lsn) ∧ w'.cell? ⟨nb, n * 3 + 2, none⟩ = some (.slice psa p.slots.length psc) ∧ w'.cell? ⟨xb, 0, none⟩ = some (kI x.kind) ∧ w'.cell? ⟨xb, 1, none⟩ = some (kI x.t.c) ∧ w'.cell? ⟨xb, 2, none⟩ = some (kI x.t.e) ∧ w'.cell? ⟨xb, 3, none⟩ = some (kI x.t.n) ∧ w'.cell? ⟨xb, 4, none⟩ = some (kI x.lsn) ∧ w'.cell? ⟨xb, 5, none⟩ = some (kI x.prev) ∧ w'.cell? ⟨xb, 6, none⟩ = some (kI (n : Int)) ∧ w'.cell? ⟨xb, 7, none⟩ = some (kI x.slot) ∧ w'.cell? ⟨xb, 8, none⟩ = some (.bool x.wu) ∧ w'.cell? ⟨xb, 9, none⟩ = some (kS x.wd) ∧ w'.cell? ⟨xb, 10, none⟩ = some (.bool x.iu) ∧ w'.cell? ⟨xb, 11, none⟩ = some (kS x.idt) ∧ w'.cell? ⟨xb, 12, none⟩ = some (kI x.next))
          (with_reducible first | exact K1.out | exact K2.out | exact K3.out | exact K7.out | exact K8.out | exact K9.out | exact K9.out.1 | exact K9.out.2.1 | exact K9.out.2.2.1 | exact K9.out.2.2.2.1 | exact K9.out.2.2.2.2.1 | exact K9.out.2.2.2.2.2.1 | exact K9.out.2.2.2.2.2.2.1 | exact K9.out.2.2.2.2.2.2.2.1 | exact K9.out.2.2.2.2.2.2.2.2.1 | exact K9.out.2.2.2.2.2.2.2.2.2.1 | exact K9.out.2.2.2.2.2.2.2.2.2.2.1 | exact K9.out.2.2.2.2.2.2.2.2.2.2.2.1 | exact K9.out.2.2.2.2.2.2.2.2.2.2.2.2.1 | exact K9.out.2.2.2.2.2.2.2.2.2.2.2.2.2.1 | exact K9.out.2.2.2.2.2.2.2.2.2.2.2.2.2.2)
          (first
            | (go_at_call 38
               first
               | ((with_reducible refine (HRD.out _ [] HSS.out.drew).mono ?_)
                  rintro e w7 ⟨qv, hn, rfl, hs7, hqv⟩
                  have HQ := Lib.hid hqv
                  obtain ⟨qa, qc, rfl, _⟩ := hqv
                  have HS8 := Lib.hid (hs7.new (.cells #[kI q.lsn, .slice qa q.slots.length qc] 52))
                  have K7 := Lib.hid (HC.out _ hs7.right)
                  have K8 := Lib.hid (HC.out _ (hs7.new pgZ).tail.right)
                  have K9 := Lib.hid (HC.out _ HS8.out.tail.right))
               | ((with_reducible refine (HRD.out _ [.blk w5.heap.size pgZ] HS6.out).mono ?_)
                  rintro e w7 ⟨qv, hn, rfl, hs7, hqv⟩
                  have HQ := Lib.hid hqv
                  obtain ⟨qa, qc, rfl, _⟩ := hqv
                  have hs7' := hs7.perm (List.perm_middle (l₁ := hn))
                  have HS8 := Lib.hid (show Sat ((w7.setCell ⟨w5.heap.size, 0, none⟩ (kI q.lsn)).setCell ⟨w5.heap.size, 1, none⟩ (.slice qa q.slots.length qc)) (.blk w5.heap.size (.cells #[kI q.lsn, .slice qa q.slots.length qc] 52) :: (hn ++ (h5 ++ (.blk xb (eO x) :: .blk pb (psO (.slice l0 S.list.length lc) (.slice na S.now.length nc) (.slice a0 vs.length ac) S.ow S.tx S.la) :: (hl ++ (ha ++ (H ++ F))))))) from (hs7'.setCell (i := 0) (kI q.lsn)).setCell (i := 1) (.slice qa q.slots.length qc))
                  have K7 := Lib.hid (HC.out _ hs7.right.tail)
                  have z0 : w7.cell? ⟨w5.heap.size, 0, none⟩ = some (kI 0) := (by rw [cell_of hs7'.h0]; rfl)
                  have z1 : w7.cell? ⟨w5.heap.size, 1, none⟩ = some (.slice none 0 0) := (by rw [cell_of hs7'.h0]; rfl)
                  have ff := unfrozen_of hs7'.h0
                  have K9 := Lib.hid (HC.out _ HS8.out.tail.right))))
        · have FIN := Lib.hid (And.intro HQ.out HS8.out)
          clear K1 K2 K3 K7 K8 K9 HS8 hs7 HQ HRD HS6 HC
          go_wp2_with fail
          go_meet
          exact ⟨_, _, hn, rfl, rfl, rfl, FIN.out.1, by (refine Sat.part FIN.out.2 ?_; intro a; simp only [cnt_cons, cnt_append, cnt_nil, List.cons_append, List.nil_append, List.append_eq]; omega)⟩
        · have FIN := Lib.hid (And.intro HQ.out HS8.out)
          clear K1 K2 K3 K7 K9 HS8 hs7 hs7' HQ HRD HS6 HC z0 z1 ff
          go_wp2_with fail
          go_meet
          exact ⟨_, _, hn, rfl, rfl, rfl, FIN.out.1, by (refine Sat.part FIN.out.2 ?_; intro a; simp only [cnt_cons, cnt_append, cnt_nil, List.cons_append, List.nil_append, List.append_eq]; omega)⟩
      case rest =>
        obtain ⟨pb2, qv, hn, rfl, rfl, rfl, hqv, hs9⟩ := hcut
        have HQ := Lib.hid hqv
        obtain ⟨qa, qc, rfl, _⟩ := hqv
        clear hps
        by_cases hok : rc = 0 ∧ dn = true
        · obtain ⟨rfl, rfl⟩ := hok
          obtain ⟨e1, e2⟩ := addP_yes HRX.out.1 HRX.out.2.1 HRX.out.2.2.1 HRX.out.2.2.2 HR.out
          have hsA : ∀ wc, Sat wc (.blk pb2 (.cells #[kI q.lsn, .slice qa q.slots.length qc] 52) :: .blk xb (eO x) :: .blk pb (psO (.slice l0 S.list.length lc) (.slice na S.now.length nc) (.slice a0 vs.length ac) S.ow S.tx S.la) :: (h5 ++ (hn ++ (hl ++ (ha ++ (H ++ F)))))) → Sat wc (h5 ++ (hn ++ (.blk xb (eO x) :: .blk pb (psO (.slice l0 S.list.length lc) (.slice na S.now.length nc) (.slice a0 vs.length ac) S.ow S.tx S.la) :: (hl ++ (ha ++ (H ++ F)))))) := fun wc hw => by (refine Sat.part hw ?_; intro a; simp only [cnt_cons, cnt_append, cnt_nil, List.cons_append, List.nil_append, List.append_eq]; omega)
          have hsB := hsA _ hs9
          obtain ⟨h6, hl6, hS6⟩ := lr_set3 (((n : Int), q.lsn, (.slice qa q.slots.length qc)) : Lr) HS5.out.1 hsB hR.out
          have hi6 : LrIs (H ++ hn) (R.set n ((n : Int), q.lsn, (.slice qa q.slots.length qc))) (S.now.set n ((n : Int), q)) := (HS5.out.2.1.mono (fun w hw => hw.left')).set (by have := HSM.out.1.2.2.2.2.2.1; omega) (HQ.out.mono (fun w hw => hw.right))
          obtain ⟨ff, z0, z1, z2⟩ := lr_old HS5.out.1 hsB hR.out
          have c6 : wc.cell? ⟨xb, 6, none⟩ = some (kI (n : Int)) := by
            rw [cell_of hs9.h1]
            show some (kI x.page) = _
            rw [HRX.out.2.1]
          have c7 : wc.cell? ⟨pb2, 0, none⟩ = some (kI q.lsn) := by rw [cell_of hs9.h0]; rfl
          have c8 : wc.cell? ⟨pb2, 1, none⟩ = some (.slice qa q.slots.length qc) := by rw [cell_of hs9.h0]; rfl
          have FIN : Hid (rb = true ∧ ∃ (nw : List Lf) (R2 : List Lr) (h6 hn : Heaplet), rS = S.push x nw ∧ nw.length = 4 ∧ R2.length = 4 ∧ LrSl (.slice (some ⟨nb, 0, none⟩) 4 n5) R2 h6 ∧ LrIs (H ++ hn) R2 nw ∧ Sat (((wc.setCell ⟨nb, n * 3, none⟩ (kI (n : Int))).setCell ⟨nb, n * 3 + 1, none⟩ (kI q.lsn)).setCell ⟨nb, n * 3 + 2, none⟩ (.slice qa q.slots.length qc)) (.blk xb (eO x) :: .blk pb (psO (.slice l0 S.list.length lc) (.slice na S.now.length nc) (.slice a0 vs.length ac) S.ow S.tx S.la) :: (hl ++ (ha ++ (H ++ (hn ++ (h6 ++ F))))))) := Lib.hid ⟨e1, S.now.set n ((n : Int), q), _, h6, hn, by rw [e2, HRX.out.2.1], by simpa using HSM.out.1.2.2.2.2.2.1, by simpa using HS5.out.2.2.1, hl6, hi6, by
            have hS7 : Sat (((wc.setCell ⟨nb, n * 3, none⟩ (kI (n : Int))).setCell ⟨nb, n * 3 + 1, none⟩ (kI q.lsn)).setCell ⟨nb, n * 3 + 2, none⟩ (.slice qa q.slots.length qc)) (h6 ++ (hn ++ (.blk xb (eO x) :: .blk pb (psO (.slice l0 S.list.length lc) (.slice na S.now.length nc) (.slice a0 vs.length ac) S.ow S.tx S.la) :: (hl ++ (ha ++ (H ++ F)))))) := hS6
            (refine Sat.part hS7 ?_; intro a; simp only [cnt_cons, cnt_append, cnt_nil, List.cons_append, List.nil_append, List.append_eq]; omega)⟩
          clear hsA hsB hl6 hS6 hi6 e1 e2 hs9 HPC HR HRX x0 x1 x2 x3 x4 x5 x6 x7 x8 x9 x10 x11 x12
          go_wp2_with fail
          go_meet
          exact FIN.out
        · obtain ⟨e1, e2⟩ := addP_no HRX.out.1 HRX.out.2.1 HRX.out.2.2.1 HRX.out.2.2.2 HR.out hok
          have FIN : Hid (Ret (.bool rb) (PsK H0 vs0 pb rS F) (.returned (.bool false)) wc) := Lib.hid (by
            rw [e1, e2]
            exact ⟨rfl, _, _, _, vs, hl, ha, H, HV.out.1, HV.out.2.1, HN.out, HV.out.2.2, by (refine Sat.part hs9 ?_; intro a; simp only [cnt_cons, cnt_append, cnt_nil, List.cons_append, List.nil_append, List.append_eq]; omega), HKU.out.1, HKU.out.2⟩)
          clear e1 e2 hs9 HPC HR HRX x0 x1 x2 x3 x4 x5 x6 x7 x8 x9 x10 x11 x12
          by_cases hrc : rc = 0
          · subst hrc
            obtain rfl : dn = false := by
              cases dn with
              | false => rfl
              | true => exact absurd ⟨rfl, rfl⟩ hok
            clear hok
            go_wp2_with fail
            go_ret
            exact FIN.out
          · have hb1 : (rc == 0) = false := beq_eq_false_iff_ne.2 hrc
            have hb2 : (rc != 0) = true := by rw [bne, hb1]; rfl
            clear hok hrc
            go_wp2_with fail
            go_ret
            exact FIN.out
    · have hkk : decide (x.kind ≤ 2) = false := decide_eq_false hk
      rw [hkk]
      clear hkk
      obtain ⟨e1, e2⟩ := addP_end hk HR.out
      have FIN : Hid (rb = true ∧ ∃ (nw : List Lf) (R2 : List Lr) (h6 hn : Heaplet), rS = S.push x nw ∧ nw.length = 4 ∧ R2.length = 4 ∧ LrSl (.slice (some ⟨nb, 0, none⟩) 4 n5) R2 h6 ∧ LrIs (H ++ hn) R2 nw ∧ Sat w5 (.blk xb (eO x) :: .blk pb (psO (.slice l0 S.list.length lc) (.slice na S.now.length nc) (.slice a0 vs.length ac) S.ow S.tx S.la) :: (hl ++ (ha ++ (H ++ (hn ++ (h6 ++ F))))))) := Lib.hid ⟨e1, S.now, R, h5, [], e2, HSM.out.1.2.2.2.2.2.1, HS5.out.2.2.1, HS5.out.1, HS5.out.2.1.mono (fun w hw => by rw [List.append_nil] at hw; exact hw), by (refine Sat.part HSS.out ?_; intro a; simp only [cnt_cons, cnt_append, cnt_nil, List.cons_append, List.nil_append, List.append_eq]; omega)⟩
      clear hk e1 e2 HR
      go_wp2_with fail
      go_meet
      exact FIN.out
  case rest =>
    obtain ⟨e1, nw, R2, h6, hn, e2, hnw, hR2, hl6, hi6, hs6⟩ := hcut
    subst e1
    subst e2
    clear HS5 HSS x0 x1 x2 x3 x4 x5 x6 x7 x8 x9 x10 x11 x12 HR
    have HW := Lib.hid (And.intro hnw (And.intro hl6 hi6))
    have HS6 := Lib.hid hs6
    clear hnw hR2 hl6 hi6 hs6
    go_upto_region 7 with (fail)
    go_cut [] (fun wx => ∃ a3 c3 h3, EnSl (.slice a3 (S.list ++ [x]).length c3) (S.list ++ [x]) h3 ∧ Sat wx (.blk pb (psO (.slice a3 (S.list ++ [x]).length c3) (.slice na S.now.length nc) (.slice a0 vs.length ac) S.ow S.tx S.la) :: .blk xb (eO x) :: (h3 ++ (ha ++ (H ++ (hn ++ (h6 ++ F)))))))
    case first =>
      obtain ⟨x0, x1, x2, x3, x4, x5, x6, x7, x8, x9, x10, x11, x12⟩ := enAt_of HS6.out.h0
      have hND := (HS6.out.new (eO x)).drew
      obtain ⟨v3, w3, h3, hap, hv3, hs3⟩ := en_push (A := [.blk xb (eO x), .blk pb (psO (.slice l0 S.list.length lc) (.slice na S.now.length nc) (.slice a0 vs.length ac) S.ow S.tx S.la)]) x HV.out.1 hND (by have := HSM.out.2.1.1; omega)
      have hs4 : Sat w3 (.blk pb (psO (.slice l0 S.list.length lc) (.slice na S.now.length nc) (.slice a0 vs.length ac) S.ow S.tx S.la) :: .blk xb (eO x) :: (h3 ++ (ha ++ (H ++ (hn ++ (h6 ++ F)))))) := Sat.swap hs3
      have k0 : wc.cell? ⟨pb, 0, none⟩ = some (.slice l0 S.list.length lc) := by rw [cell_of HS6.out.h1]; rfl
      have k1 : w3.cell? ⟨pb, 0, none⟩ = some (.slice l0 S.list.length lc) := by rw [cell_of hs4.h0]; rfl
      have k2 : w3.frozen? ⟨pb, 0, none⟩ = false := unfrozen_of hs4.h0 0
      have k3 : (wc.alloc (eO x)).cell? ⟨pb, 0, none⟩ = some (.slice l0 S.list.length lc) := by rw [cell_of (HS6.out.new (eO x)).h2]; rfl
      have hs5 := hs4.setCell (i := 0) v3
      have hap : ∀ ty, (Builtin.append_ #[29, 29] ty #[(.slice l0 S.list.length lc), .slice (some ⟨wc.heap.size, 0, none⟩) 1 1]).run Tryz.prog (wc.alloc (eO x)).drew = .ok v3 w3 := hap
      have HAP := Lib.hid hap
      obtain ⟨a3, c3, rfl⟩ := sl_form hv3
      have FIN : Hid (EnSl (.slice a3 (S.list ++ [x]).length c3) (S.list ++ [x]) h3 ∧ Sat (w3.setCell ⟨pb, 0, none⟩ (.slice a3 (S.list ++ [x]).length c3)) (.blk pb (psO (.slice a3 (S.list ++ [x]).length c3) (.slice na S.now.length nc) (.slice a0 vs.length ac) S.ow S.tx S.la) :: .blk xb (eO x) :: (h3 ++ (ha ++ (H ++ (hn ++ (h6 ++ F))))))) := Lib.hid ⟨hv3, hs5⟩
      clear hap hv3 hs3 hs4 hs5 hND HS6
      generalize (S.list ++ [x]).length = ln at *
      go_region_law ((refine step_append_run (by rfl) _ _ _ _ (by rfl) _ _ _ w3 (by rfl) (by rfl) HAP.out ?_))
      all_goals
        go_wp2_with fail
        go_meet
        exact ⟨_, _, h3, FIN.out.1, FIN.out.2⟩
    case rest =>
      obtain ⟨a3, c3, h3, hv3, hs7⟩ := hcut
      obtain ⟨l3, hl3⟩ : ∃ l3, (S.list ++ [x]).length = l3 := ⟨_, rfl⟩
      rw [hl3] at hv3 hs7
      have HV3 := Lib.hid hv3
      have HL3 := Lib.hid hl3
      clear hl3
      have m1 : wc.cell? ⟨pb, 1, none⟩ = some (.slice na S.now.length nc) := by rw [cell_of hs7.h0]; rfl
      have ff := unfrozen_of hs7.h0
      have hs8 := hs7.setCell (i := 1) (.slice (some ⟨nb, 0, none⟩) 4 n5)
      have HS8 : Hid (Sat (wc.setCell ⟨pb, 1, none⟩ (.slice (some ⟨nb, 0, none⟩) 4 n5)) (.blk pb (psO (.slice a3 l3 c3) (.slice (some ⟨nb, 0, none⟩) 4 n5) (.slice a0 vs.length ac) S.ow S.tx S.la) :: .blk xb (eO x) :: (h3 ++ (ha ++ (H ++ (hn ++ (h6 ++ F))))))) := Lib.hid hs8
      clear hv3 hs7 hs8 HS6
      go_upto_region 9 with (fail)
      clear m1 ff
      generalize wc.setCell ⟨pb, 1, none⟩ (.slice (some ⟨nb, 0, none⟩) 4 n5) = W8 at *
      have m2 : W8.cell? ⟨pb, 2, none⟩ = some (.slice a0 vs.length ac) := by rw [cell_of HS8.out.h0]; rfl
      have hs9 : Sat (W8.alloc (.cells #[(.slice (some ⟨nb, 0, none⟩) 4 n5)] 30)) (.blk W8.heap.size (.cells #[(.slice (some ⟨nb, 0, none⟩) 4 n5)] 30) :: (ha ++ (.blk pb (psO (.slice a3 l3 c3) (.slice (some ⟨nb, 0, none⟩) 4 n5) (.slice a0 vs.length ac) S.ow S.tx S.la) :: .blk xb (eO x) :: (h3 ++ (H ++ (hn ++ (h6 ++ F))))))) := by
        have h0 := HS8.out.new (.cells #[(.slice (some ⟨nb, 0, none⟩) 4 n5)] 30)
        (refine Sat.part h0 ?_; intro a; simp only [cnt_cons, cnt_append, cnt_nil, List.cons_append, List.nil_append, List.append_eq]; omega)
      obtain ⟨v10, w10, h10, hap, hv10, hs10⟩ := ls_push HV.out.2.1 hs9 (by have := HV.out.2.2.1; have := HSM.out.2.1.2; omega)
      have hs11 : Sat w10 (.blk pb (psO (.slice a3 l3 c3) (.slice (some ⟨nb, 0, none⟩) 4 n5) (.slice a0 vs.length ac) S.ow S.tx S.la) :: .blk xb (eO x) :: (h3 ++ (h10 ++ (H ++ (hn ++ (h6 ++ F)))))) := by (refine Sat.part hs10 ?_; intro a; simp only [cnt_cons, cnt_append, cnt_nil, List.cons_append, List.nil_append, List.append_eq]; omega)
      have k1 : w10.cell? ⟨pb, 2, none⟩ = some (.slice a0 vs.length ac) := by rw [cell_of hs11.h0]; rfl
      have ff := unfrozen_of hs11.h0
      obtain ⟨a10, c10, rfl⟩ := sl_form hv10
      obtain ⟨l10, hl10⟩ : ∃ l10, (vs ++ [Value.slice (some ⟨nb, 0, none⟩) 4 n5]).length = l10 := ⟨_, rfl⟩
      rw [hl10] at hap hv10
      have hs12 : Sat (w10.setCell ⟨pb, 2, none⟩ (.slice a10 l10 c10)) (.blk pb (psO (.slice a3 l3 c3) (.slice (some ⟨nb, 0, none⟩) 4 n5) (.slice a10 l10 c10) S.ow S.tx S.la) :: .blk xb (eO x) :: (h3 ++ (h10 ++ (H ++ (hn ++ (h6 ++ F)))))) := hs11.setCell (i := 2) (.slice a10 l10 c10)
      have m3 : (W8.alloc (.cells #[(.slice (some ⟨nb, 0, none⟩) 4 n5)] 30)).cell? ⟨pb, 2, none⟩ = some (.slice a0 vs.length ac) := by rw [cell_of (HS8.out.new (.cells #[(.slice (some ⟨nb, 0, none⟩) 4 n5)] 30)).h1]; rfl
      have HAP := Lib.hid hap
      have HS12 := Lib.hid (And.intro hs12 (And.intro hv10 hl10))
      clear hs9 hs10 hs11 hs12 hap hv10 hl10 HS8
      go_upto_region 10 with (at_builtin; refine wpList_append_run rfl _ _ _ _ rfl _ _ _ _ rfl rfl HAP.out ?_)
      clear m2 m3 k1 ff HAP
      generalize w10.setCell ⟨pb, 2, none⟩ (.slice a10 l10 c10) = W12 at *
      have hs12 := HS12.out.1
      have hxc : x.t.c = (c : Int) := HSM.out.2.2.1
      have q1 : W12.cell? ⟨xb, 1, none⟩ = some (kI (c : Int)) := by
        rw [cell_of hs12.h1]
        show some (kI x.t.c) = _
        rw [hxc]
      have q2 : W12.cell? ⟨xb, 4, none⟩ = some (kI x.lsn) := by rw [cell_of hs12.h1]; rfl
      have q3 : W12.cell? ⟨pb, 12 + c, none⟩ = some (kI (S.la c)) := by rw [cell_of hs12.h0]; exact psC_la hc
      have ff := unfrozen_of hs12.h0
      have c0 : (0 : Int) ≤ (c : Int) := by omega
      have c5 : (c : Int) < 5 := by omega
      have hs13 := (hs12.setCell (i := 12 + c) (kI x.lsn)).drew
      rw [psC_set_la hc] at hs13
      have FIN : Hid (∀ W, Sat W (.blk pb (psO (.slice a3 l3 c3) (.slice (some ⟨nb, 0, none⟩) 4 n5) (.slice a10 l10 c10) S.ow S.tx (upd S.la c x.lsn)) :: .blk xb (eO x) :: (h3 ++ (h10 ++ (H ++ (hn ++ (h6 ++ F)))))) → PsK H0 vs0 pb (S.push x nw) F W) := Lib.hid (fun W hW => by
        have hup : (S.push x nw).la = upd S.la c x.lsn := by show upd S.la x.t.c.toNat x.lsn = _; rw [hxc, Int.toNat_natCast]
        refine ⟨(.slice a3 l3 c3), (.slice (some ⟨nb, 0, none⟩) 4 n5), .slice a10 l10 c10, vs ++ [Value.slice (some ⟨nb, 0, none⟩) 4 n5], h3, h10, H ++ (hn ++ h6), ?_, ?_, ?_, ?_, ?_, ?_, ?_⟩
        · show EnSl _ (S.list ++ [x]) h3
          exact HV3.out
        · have h9 := HS12.out.2.1
          rw [← HS12.out.2.2] at h9 ⊢
          exact h9
        · exact (lrs_at HW.out.2.1 HW.out.2.2).mono (fun w hw => by (refine Sat.part hw ?_; intro a; simp only [cnt_cons, cnt_append, cnt_nil, List.cons_append, List.nil_append, List.append_eq]; omega))
        · exact (HV.out.2.2.mono (fun w hw => hw.left')).push ((lrs_at HW.out.2.1 HW.out.2.2).mono (fun w hw => by (refine Sat.part hw ?_; intro a; simp only [cnt_cons, cnt_append, cnt_nil, List.cons_append, List.nil_append, List.append_eq]; omega)))
        · rw [hup]
          show Sat W (.blk pb (psO (.slice a3 l3 c3) (.slice (some ⟨nb, 0, none⟩) 4 n5) (.slice a10 l10 c10) S.ow S.tx (upd S.la c x.lsn)) :: (h3 ++ (h10 ++ ((H ++ (hn ++ h6)) ++ F))))
          (refine Sat.part hW ?_; intro a; simp only [cnt_cons, cnt_append, cnt_nil, List.cons_append, List.nil_append, List.append_eq]; omega)
        · obtain ⟨K, hK⟩ := HKU.out.1
          exact ⟨K ++ (hn ++ h6), by rw [hK, List.append_assoc]⟩
        · obtain ⟨u, hu⟩ := HKU.out.2
          exact ⟨u ++ [_], by rw [hu, List.append_assoc]⟩)
      have HS13 := Lib.hid hs13
      clear hs12 hs13 hxc HS12 HW HV HN HV3
      go_still_tail 9, (by kernel_rfl)
      go_wp2_with fail
      go_ret
      exact ⟨rfl, FIN.out _ HS13.out⟩
end Go.Proofs.YtficgjklagnbjaaGreat
