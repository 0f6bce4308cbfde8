/- PastJoins walked within its bounds. Conditions: none. -/
import Derived.Test.YtceegnfjdgjomaaPaJoA
namespace Go.Proofs.Ytceegnfjdgjomaa
open Go Go.MapKept Go.RowKit Go.Proofs Go.Sort Go.Shelf

set_option maxRecDepth 100000 in
set_option maxHeartbeats 16000000 in
theorem joins_main (a0 : Option Addr) (cap0 : Nat) (l : List En) (a1 : Option Addr) (cap1 : Nat) (m : List En) (W : World) (h : EnsAt W a0 l) (h2 : EnsAt W a1 m) (hk1 : l.length ≤ 40) (hk2 : m.length ≤ 40) (k3 : greatM l = false) (k4 : greatM m = false) :
    Calls Try.prog 6 #[.slice a0 l.length cap0, .slice a1 m.length cap1] W (Ret (.bool true) (RowKit.Below W.heap.size W)) := by
  have HE := Lib.hid (h.ens cap0)
  have HE2 := Lib.hid (h2.ens cap1)
  have HF := Lib.hid h.2.1
  have HF2 := Lib.hid h2.2.1
  have HAW := Lib.hid (awake_any (allOf W) W (sat_all W))
  have HG := Lib.hid (fun w hs => great_no k3 w _ hs _ HE.out)
  have HG2 := Lib.hid (fun w hs => great_no k4 w _ hs _ HE2.out)
  have kk1 : (l.length : Int) ≤ 40 := by omega
  have kk2 : (m.length : Int) ≤ 40 := by omega
  have HK1 := Lib.hid hk1
  have HK2 := Lib.hid hk2
  obtain ⟨LV, hLV⟩ : ∃ LV, losersM (l ++ m) = LV := ⟨_, rfl⟩
  obtain ⟨DV, hDV⟩ : ∃ DV, doneM (l ++ m) = DV := ⟨_, rfl⟩
  obtain ⟨PV, hPV⟩ : ∃ PV, pagesM (l ++ m) 1 = PV := ⟨_, rfl⟩
  obtain ⟨LX, hLX⟩ : ∃ LX, losersM l = LX := ⟨_, rfl⟩
  obtain ⟨DX, hDX⟩ : ∃ DX, doneM l = DX := ⟨_, rfl⟩
  obtain ⟨PX, hPX⟩ : ∃ PX, pagesM l 1 = PX := ⟨_, rfl⟩
  obtain ⟨LY, hLY⟩ : ∃ LY, losersM m = LY := ⟨_, rfl⟩
  obtain ⟨DY, hDY⟩ : ∃ DY, doneM m = DY := ⟨_, rfl⟩
  obtain ⟨PY, hPY⟩ : ∃ PY, pagesM m (1 + (l.length : Int)) = PY := ⟨_, rfl⟩
  have hdj := done_app l m
  have hlen1 := pages_len_left l m
  have hlen2 := pages_len_right l m
  have hpj := fun i x hx => pages_join (a := l) (b := m) (i := i) (x := x) hx
  rw [hDV, hDX, hDY] at hdj
  rw [hPV, hPX] at hlen1
  rw [hPV, hPY] at hlen2
  rw [hPV, hPX, hPY] at hpj
  have hdv : DV.length ≤ 80 := by rw [← hDV]; have := doneM_len (l ++ m); rw [List.length_append] at this; omega
  have hpv : PV.length ≤ 80 := by rw [← hPV]; have h := pages_le (l ++ m) 1; rw [List.length_append] at h; omega
  have hdx : DX.length ≤ 40 := by rw [← hDX]; have := doneM_len l; omega
  have hpx : PX.length ≤ 40 := by rw [← hPX]; have := pages_le l 1; omega
  have hdy : DY.length ≤ 40 := by rw [← hDY]; have := doneM_len m; omega
  have hpy : PY.length ≤ 40 := by rw [← hPY]; have := pages_le m (1 + (l.length : Int)); omega
  have HDJ := Lib.hid hdj
  have HLEN := Lib.hid (And.intro hlen1 hlen2)
  have HPJ := Lib.hid hpj
  have HDV := Lib.hid hdv
  have HPV := Lib.hid hpv
  have HDX := Lib.hid hdx
  have HPX := Lib.hid hpx
  have HDY := Lib.hid hdy
  have HPY := Lib.hid hpy
  have EV := Lib.hid (And.intro hLV (And.intro hDV hPV))
  have EX := Lib.hid (And.intro hLX (And.intro hDX hPX))
  have EY := Lib.hid (And.intro hLY (And.intro hDY hPY))
  clear hLV hDV hPV hLX hDX hPX hLY hDY hPY hdj hlen1 hlen2 hpj hdv hpv hdx hpx hdy hpy
  have mixed : Try.prog.follows .mixedOrders = true := by kernel_rfl
  clear h h2 k3 k4 hk1 hk2
  go_enter Try.func6, Try.ntmps6
  go_wp2_with fail
  refine HAW.out.mono ?_
  rintro e w1 ⟨rfl, hs1⟩
  have HS1 := Lib.hid hs1
  have HG1 := Lib.hid (HG.out _ hs1)
  have HG3 := Lib.hid (HG2.out _ hs1)
  clear hs1 HAW HG HG2
  go_wp2_with fail
  refine HG1.out.mono ?_
  rintro e w2 ⟨rfl, rfl⟩
  go_wp2_with fail
  refine HG3.out.mono ?_
  rintro e w2 ⟨rfl, rfl⟩
  -- the two lists in a row
  have hs2 := HS1.out.new (.cells #[] 43)
  obtain ⟨p3, q3, w3, h3, hap3, hv3, hs3⟩ := en_app (F := allOf W) (c := cap0) (R := []) (sl_new 43 13 w1.heap.size) hs2 (src_of (HE.out.cons _) hs2) (by have := HK1.out; simp; omega)
  simp only [List.nil_append, List.length_nil, Nat.zero_add] at hap3 hv3
  obtain ⟨p4, q4, w4, h4, hap4, hv4, hs4⟩ := en_app (F := allOf W) (c := cap1) hv3 hs3 (src_of HE2.out hs3.right) (by have := HK1.out; have := HK2.out; omega)
  have HAP3 := Lib.hid hap3
  have HAP4 := Lib.hid hap4
  have HRd := Lib.hid (read_at _ (l ++ m) 1 _ w4 hs4 (ens_in hv4 _) (by have := HK1.out; have := HK2.out; simp; omega) (by
    intro x hx
    rcases List.mem_append.1 hx with hx | hx
    · exact HF.out x hx
    · exact HF2.out x hx) (by decide) (by decide) EV.out.1 EV.out.2.1 EV.out.2.2)
  have HR4 : Hid (∀ w, Sat w (h4 ++ allOf W) → Sat w (allOf W)) := Lib.hid (fun w hw => hw.right)
  generalize h4 ++ allOf W = H4 at *
  clear hap3 hap4 hv3 hv4 hs3 hs4 hs2 HG1 HG3 HS1
  go_wp2_with (at_builtin; first | (refine wpList_append_run rfl _ _ _ _ rfl _ _ _ _ rfl rfl HAP3.out ?_) | (refine wpList_append_run rfl _ _ _ _ rfl _ _ _ _ rfl rfl HAP4.out ?_))
  refine HRd.out.mono ?_
  rintro e w5 ⟨b0, c0, b1, c1, b2, c2, h5, rfl, hV, hs5⟩
  have hV := hV w5.heap.size H4
  clear HRd
  have hs6 := hs5.new (vwO (.slice b0 LV.length c0) (.slice b1 DV.length c1) (.slice b2 PV.length c2))
  obtain ⟨H6, hH6⟩ : ∃ H6, HItem.blk w5.heap.size (vwO (.slice b0 LV.length c0) (.slice b1 DV.length c1) (.slice b2 PV.length c2)) :: (h5 ++ H4) = H6 := ⟨_, rfl⟩
  have hR6 : ∀ w, Sat w H6 → Sat w (allOf W) := fun w hw => by rw [← hH6] at hw; exact HR4.out _ hw.tail.right
  rw [hH6] at hs6 hV
  have HR6 := Lib.hid hR6
  have HS6 := Lib.hid hs6
  have HV := Lib.hid hV
  have HRd := Lib.hid (read_at _ l 1 _ _ hs6 (HE.out.mono hR6) (by have := HK1.out; omega) HF.out (by decide) (by decide) EX.out.1 EX.out.2.1 EX.out.2.2)
  clear hs6 hs5 hR6 hH6 hV HR4
  go_wp2_with fail
  generalize w5.alloc (.cells #[.slice b0 LV.length c0, .slice b1 DV.length c1, .slice b2 PV.length c2] 33) = W6 at *
  generalize w5.heap.size = vb at *
  refine HRd.out.mono ?_
  rintro e w7 ⟨d0, e0, d1, e1, d2, e2, h7, rfl, hX, hs7⟩
  have hX := hX w7.heap.size H6
  clear HRd
  have hs8 := hs7.new (vwO (.slice d0 LX.length e0) (.slice d1 DX.length e1) (.slice d2 PX.length e2))
  obtain ⟨H8, hH8⟩ : ∃ H8, HItem.blk w7.heap.size (vwO (.slice d0 LX.length e0) (.slice d1 DX.length e1) (.slice d2 PX.length e2)) :: (h7 ++ H6) = H8 := ⟨_, rfl⟩
  have hR8 : ∀ w, Sat w H8 → Sat w H6 := fun w hw => by rw [← hH8] at hw; exact hw.tail.right
  rw [hH8] at hs8 hX
  have HR8 := Lib.hid hR8
  have HS8 := Lib.hid hs8
  have HX := Lib.hid hX
  have HRd := Lib.hid (read_at _ m (1 + (l.length : Int)) _ _ hs8 (HE2.out.mono fun w hw => HR6.out w (hR8 w hw)) (by have := HK2.out; omega) HF2.out (by omega) (by omega) EY.out.1 EY.out.2.1 EY.out.2.2)
  clear hs8 hs7 hR8 hH8 hX HS6
  have l0 : (0 : Int) ≤ (l.length : Int) := by omega
  go_wp2_with fail
  generalize w7.alloc (.cells #[.slice d0 LX.length e0, .slice d1 DX.length e1, .slice d2 PX.length e2] 33) = W8 at *
  generalize w7.heap.size = xb at *
  refine HRd.out.mono ?_
  rintro e w9 ⟨f0, g0, f1, g1, f2, g2, h9, rfl, hY, hs9⟩
  have hY := hY w9.heap.size H8
  clear HRd
  have hs10 := hs9.new (vwO (.slice f0 LY.length g0) (.slice f1 DY.length g1) (.slice f2 PY.length g2))
  obtain ⟨H3, hH3⟩ : ∃ H3, HItem.blk w9.heap.size (vwO (.slice f0 LY.length g0) (.slice f1 DY.length g1) (.slice f2 PY.length g2)) :: (h9 ++ H8) = H3 := ⟨_, rfl⟩
  have hR10 : ∀ w, Sat w H3 → Sat w H8 := fun w hw => by rw [← hH3] at hw; exact hw.tail.right
  rw [hH3] at hs10 hY
  have HS10 := Lib.hid hs10
  have HY := Lib.hid hY
  have HV3 := Lib.hid (HV.out.mono fun w hw => HR8.out w (hR10 w hw))
  have HX3 := Lib.hid (HX.out.mono hR10)
  have HW3 : Hid (∀ w, Sat w H3 → Sat w (allOf W)) := Lib.hid (fun w hw => HR6.out w (HR8.out w (hR10 w hw)))
  -- who is done
  have hsd := hs10.new (.cells #[] 23)
  rw [World.size_alloc] at hsd
  obtain ⟨p11, q11, w11, h11, hap, hv11, hs11⟩ := tx_app (F := H3) (c := e1) (R := []) (sl_new 23 3 (w9.heap.size + 1)) hsd (VwAt.src (HX3.out.mono fun w hw => hw.tail) hsd) (by have := HDX.out; simp; omega)
  simp only [List.nil_append, List.length_nil, Nat.zero_add] at hap hv11
  have HAP := Lib.hid hap
  have HV11 := Lib.hid hv11
  have HS11 := Lib.hid hs11
  obtain ⟨⟨x0, x1, x2⟩, _⟩ := HX3.out _ hs10
  have x1' : ((w9.alloc (vwO (.slice f0 LY.length g0) (.slice f1 DY.length g1) (.slice f2 PY.length g2))).alloc (.cells #[] 23)).cell? ⟨xb, 1, none⟩ = some (.slice d1 DX.length e1) := (HX3.out _ hsd.tail).1.2.1
  clear hap hv11 hs11 hsd hs10 hs9 hH3 hY hR10 HV HX HR6 HR8 HS8
  go_wp2_with (at_builtin; refine wpList_append_run rfl _ _ _ _ rfl _ _ _ _ rfl rfl HAP.out ?_)
  clear x0 x1 x2 x1' HAP
  generalize w9.alloc (.cells #[.slice f0 LY.length g0, .slice f1 DY.length g1, .slice f2 PY.length g2] 33) = W10 at *
  generalize w9.heap.size = yb at *
  clear HS10
  go_loopw [8, 9] (fun v8 v9 wr => ∃ (k : Nat) (R : List Tx) (h8 : Heaplet), k ≤ DY.length ∧ v9 = .int .i64 k ∧ R = DX ++ (DY.take k).filter (fun t => !hasM DX t) ∧ TSl v8 R h8 ∧ Sat wr (h8 ++ H3)) (fun _ v9 _ => 200000 - (RowKit.intOf v9).toNat)
  case atStart => exact ⟨0, DX, h11, by omega, rfl, by simp, HV11.out, HS11.out⟩
  case round =>
    clear HV11 HS11
    obtain ⟨k, R, h8, hk, rfl, hR, hv8, hg⟩ := hrel
    obtain ⟨p8, q8, rfl⟩ := sl_form hv8
    have k0 : (0 : Int) ≤ (k : Int) := by omega
    have kl : (k : Int) ≤ 40 := by have := HDY.out; omega
    obtain ⟨⟨y0, y1, y2⟩, _, hcd, _⟩ := HY.out _ hg.right
    have HR := Lib.hid hR
    have HV8 := Lib.hid hv8
    have HGS := Lib.hid hg
    clear hR hv8 hg
    by_cases hkl : k < DY.length
    · as_aux_lemma =>
        have k1 : (k : Int) < (DY.length : Int) := by omega
        obtain ⟨y, hy⟩ : ∃ y, DY[k]? = some y := ⟨_, List.getElem?_eq_getElem hkl⟩
        have hst := filter_take_succ (fun t => !hasM DX t) DY k y hy
        have HST := Lib.hid hst
        have HYK : Hid (DY[k]? = some y) := Lib.hid hy
        clear hst hy hcd
        go_wp2_with fail
        clear y0 y1 y2
        go_loopw [10, 11] (fun v10 v11 wx => ∃ j : Nat, j ≤ DX.length ∧ v11 = .int .i64 j ∧ v10 = .bool (hasM (DX.take j) y) ∧ Sat wx (h8 ++ H3)) (fun _ v11 _ => 200000 - (RowKit.intOf v11).toNat)
        case atStart => exact ⟨0, by omega, rfl, rfl, HGS.out⟩
        case round =>
          clear HGS
          obtain ⟨j, hj, rfl, rfl, hg⟩ := hrel
          have j0 : (0 : Int) ≤ (j : Int) := by omega
          have jl : (j : Int) ≤ 40 := by have := HDX.out; omega
          obtain ⟨⟨x0, x1, x2⟩, _, hcx, _⟩ := HX3.out _ hg.right
          obtain ⟨⟨y0, y1, y2⟩, _, hcd, _⟩ := HY.out _ hg.right
          obtain ⟨gy, rfl, u0, u1, u2⟩ := hcd k y HYK.out
          have HG := Lib.hid hg
          clear hg hcd
          by_cases hjl : j < DX.length
          · have j1 : (j : Int) < (DX.length : Int) := by omega
            obtain ⟨p, hp⟩ : ∃ p, DX[j]? = some p := ⟨_, List.getElem?_eq_getElem hjl⟩
            obtain ⟨gx, rfl, t0, t1, t2⟩ := hcx j p hp
            have hst := has_step DX y j p hp
            obtain ⟨b, hb⟩ : ∃ b, hasM (DX.take j) y = b := ⟨_, rfl⟩
            obtain ⟨bt, hbt⟩ : ∃ bt, decide (p = y) = bt := ⟨_, rfl⟩
            have heq := fun w => eq_tx p y w
            rw [hbt] at heq hst
            rw [hb] at hst ⊢
            have HSJ := Lib.hid hst
            clear hst hp hb hbt hcx
            go_upto_region 16 with (fail)
            cases b with
            | true =>
              go_quiet (fail)
              have HG9 := Lib.hid (HG.out.grown (Grown.drewN _ nq))
              clear HG heq x0 x1 x2 y0 y1 y2 u0 u1 u2 t0 t1 t2
              go_wp2_with fail
              exact ⟨⟨j + 1, by omega, by simp, by rw [HSJ.out]; simp, HG9.out⟩, by simp only [RowKit.intOf]; omega⟩
            | false =>
              cases bt
              all_goals
                go_quiet (fail)
                have HG9 := Lib.hid (HG.out.grown (Grown.drewN _ nq))
                clear HG heq x0 x1 x2 y0 y1 y2 u0 u1 u2 t0 t1 t2
                go_wp2_with fail
                exact ⟨⟨j + 1, by omega, by simp, by rw [HSJ.out]; simp, HG9.out⟩, by simp only [RowKit.intOf]; omega⟩
          · obtain rfl : j = DX.length := by omega
            rw [List.take_length]
            obtain ⟨b, hb⟩ : ∃ b, hasM DX y = b := ⟨_, rfl⟩
            rw [hb]
            have HB := Lib.hid hb
            clear hb hcx hjl j0 jl hj
            cases b with
            | true =>
              go_wp2_with fail
              exact ⟨⟨k + 1, R, h8, by omega, by simp, by rw [HR.out, HST.out, HB.out]; simp, HV8.out, HG.out⟩, by simp only [RowKit.intOf]; omega⟩
            | false =>
              have hrl : R.length + 1 ≤ 200000 := by
                rw [HR.out, List.length_append]
                have h1 := List.length_filter_le (fun t => !hasM DX t) (DY.take k)
                rw [List.length_take] at h1
                have := HDX.out
                have := HDY.out
                omega
              obtain ⟨v12, w12, h12, hap, hv12, hs12⟩ := tx_push (A := []) y HV8.out (HG.out.new (.cells #[kI y.c, kI y.e, kI y.n] 23)) hrl
              have HAP := Lib.hid hap
              have FIN := Lib.hid (And.intro hv12 hs12)
              clear hap hv12 hs12 hrl
              go_wp2_with (at_builtin; refine wpList_append_run rfl _ _ _ _ rfl _ _ _ _ rfl rfl HAP.out ?_)
              exact ⟨⟨k + 1, R ++ [y], h12, by omega, by simp, by rw [HR.out, HST.out, HB.out]; simp, FIN.out.1, FIN.out.2⟩, by simp only [RowKit.intOf]; omega⟩
    · as_aux_lemma =>
        obtain rfl : k = DY.length := by omega
        have hR2 := HR.out
        rw [List.take_length, ← HDJ.out] at hR2
        subst hR2
        have hg := HGS.out
        obtain ⟨⟨z0, z1, z2⟩, _⟩ := HV3.out _ hg.right
        clear hg hcd hkl k0 kl hk HR
        have zz : ((R.length : Int) != (R.length : Int)) = false := by simp
        go_wp2_with fail
        clear y0 y1 y2 z0 z1 z2 zz
        go_loopw [12] (fun v12 wr => ∃ k : Nat, k ≤ R.length ∧ v12 = .int .i64 k ∧ Sat wr (h8 ++ H3)) (fun v12 _ => 200000 - (RowKit.intOf v12).toNat)
        case atStart => exact ⟨0, by omega, rfl, HGS.out⟩
        case round =>
          clear HGS
          obtain ⟨k, hk, rfl, hg⟩ := hrel
          have k0 : (0 : Int) ≤ (k : Int) := by omega
          have kl : (k : Int) ≤ 80 := by have := HDV.out; omega
          obtain ⟨⟨z0, z1, z2⟩, _, hcz, _⟩ := HV3.out _ hg.right
          have HG := Lib.hid hg
          by_cases hkl : k < R.length
          · have k1 : (k : Int) < (R.length : Int) := by omega
            obtain ⟨t, ht⟩ : ∃ t, R[k]? = some t := ⟨_, List.getElem?_eq_getElem hkl⟩
            obtain ⟨gz, rfl, t0, t1, t2⟩ := hcz k t ht
            obtain ⟨g8, rfl, u0, u1, u2⟩ := tsl_at HV8.out rfl hg ht
            have hne := fun w => neq_tx t w
            clear ht hcz hg
            go_upto_region 24 with (fail)
            go_quiet (fail)
            have HG9 := Lib.hid (HG.out.grown (Grown.drewN _ nq))
            clear HG hne t0 t1 t2 u0 u1 u2 z0 z1 z2
            go_wp2_with fail
            exact ⟨⟨k + 1, by omega, by simp, HG9.out⟩, by simp only [RowKit.intOf]; omega⟩
          · obtain rfl : k = R.length := by omega
            clear hcz hg hkl k0 kl hk
            go_wp2_with fail
            clear z0 z1 z2
            go_loopw [13] (fun v13 wr => ∃ k : Nat, k ≤ PV.length ∧ v13 = .int .i64 k ∧ Sat wr H3) (fun v13 _ => 200000 - (RowKit.intOf v13).toNat)
            case atStart => exact ⟨0, by omega, rfl, HG.out.right⟩
            case round =>
              clear HG
              obtain ⟨k, hk, rfl, hg⟩ := hrel
              have k0 : (0 : Int) ≤ (k : Int) := by omega
              have kl : (k : Int) ≤ 80 := by have := HPV.out; omega
              obtain ⟨⟨z0, z1, z2⟩, _, _, hcz⟩ := HV3.out _ hg
              have HG := Lib.hid hg
              by_cases hkl : k < PV.length
              · as_aux_lemma =>
                  have k1 : (k : Int) < (PV.length : Int) := by omega
                  obtain ⟨p, hp⟩ : ∃ p, PV[k]? = some p := ⟨_, List.getElem?_eq_getElem hkl⟩
                  have HJ := Lib.hid (HPJ.out k p hp)
                  have HP := Lib.hid hp
                  clear hp hcz hg
                  go_wp2_with fail
                  clear z0 z1 z2
                  go_loopw [14, 15] (fun v14 v15 wx => ∃ j : Nat, j ≤ PY.length ∧ v15 = .int .i64 j ∧ v14 = .int .i64 (pickM p.1 (PY.take j) 0) ∧ Sat wx H3) (fun _ v15 _ => 200000 - (RowKit.intOf v15).toNat)
                  case atStart => exact ⟨0, by omega, rfl, rfl, HG.out⟩
                  case round =>
                    clear HG
                    obtain ⟨j, hj, rfl, rfl, hg⟩ := hrel
                    have j0 : (0 : Int) ≤ (j : Int) := by omega
                    have jl : (j : Int) ≤ 40 := by have := HPY.out; omega
                    obtain ⟨⟨z0, z1, z2⟩, _, _, hcz⟩ := HV3.out _ hg
                    obtain ⟨gz, rfl, t0, t1⟩ := hcz k p HP.out
                    obtain ⟨⟨y0, y1, y2⟩, _, _, hcy⟩ := HY.out _ hg
                    have HG := Lib.hid hg
                    clear hg hcz
                    by_cases hjl : j < PY.length
                    · have j1 : (j : Int) < (PY.length : Int) := by omega
                      obtain ⟨q, hq⟩ : ∃ q, PY[j]? = some q := ⟨_, List.getElem?_eq_getElem hjl⟩
                      obtain ⟨gy, rfl, u0, u1⟩ := hcy j q hq
                      have hst := pick_take p.1 PY 0 j q hq
                      obtain ⟨n, hn⟩ : ∃ n, pickM p.1 (PY.take j) 0 = n := ⟨_, rfl⟩
                      rw [hn] at hst ⊢
                      have HSJ := Lib.hid hst
                      obtain ⟨b, hb⟩ : ∃ b, (q.1 == p.1) = b := ⟨_, rfl⟩
                      have HB := Lib.hid hb
                      clear hst hq hn hcy
                      go_upto_region 33 with (fail)
                      go_quiet (fail)
                      have HG9 := Lib.hid (HG.out.grown (Grown.drewN _ nq))
                      cases b with
                      | false =>
                        clear HG z0 z1 z2 y0 y1 y2 t0 t1 u0 u1
                        go_wp2_with fail
                        exact ⟨⟨j + 1, by omega, by simp, by rw [HSJ.out, if_neg (by simpa using HB.out)], HG9.out⟩, by simp only [RowKit.intOf]; omega⟩
                      | true =>
                        go_wp2_with fail
                        exact ⟨⟨j + 1, by omega, by simp, by rw [HSJ.out, if_pos (by simpa using HB.out)], HG9.out⟩, by simp only [RowKit.intOf]; omega⟩
                    · obtain rfl : j = PY.length := by omega
                      rw [List.take_length]
                      obtain ⟨n0, hn0⟩ : ∃ n, pickM p.1 PY 0 = n := ⟨_, rfl⟩
                      rw [hn0] at HJ ⊢
                      clear hn0 hcy hjl j0 jl hj
                      go_wp2_with fail
                      clear z0 z1 z2 y0 y1 y2 t0 t1
                      go_loopw [14, 16] (fun v14 v16 wx => ∃ j : Nat, j ≤ PX.length ∧ v16 = .int .i64 j ∧ v14 = .int .i64 (pickM p.1 (PX.take j) n0) ∧ Sat wx H3) (fun _ v16 _ => 200000 - (RowKit.intOf v16).toNat)
                      case atStart => exact ⟨0, by omega, rfl, rfl, HG.out⟩
                      case round =>
                        clear HG
                        obtain ⟨j, hj, rfl, rfl, hg⟩ := hrel
                        have j0 : (0 : Int) ≤ (j : Int) := by omega
                        have jl : (j : Int) ≤ 40 := by have := HPX.out; omega
                        obtain ⟨⟨z0, z1, z2⟩, _, _, hcz⟩ := HV3.out _ hg
                        obtain ⟨gz', e9, t0, t1⟩ := hcz k p HP.out
                        cases e9
                        obtain ⟨⟨y0, y1, y2⟩, _, _, hcy⟩ := HX3.out _ hg
                        have HG := Lib.hid hg
                        clear hg hcz
                        by_cases hjl : j < PX.length
                        · have j1 : (j : Int) < (PX.length : Int) := by omega
                          obtain ⟨q, hq⟩ : ∃ q, PX[j]? = some q := ⟨_, List.getElem?_eq_getElem hjl⟩
                          obtain ⟨gy, rfl, u0, u1⟩ := hcy j q hq
                          have hst := pick_take p.1 PX n0 j q hq
                          obtain ⟨n, hn⟩ : ∃ n, pickM p.1 (PX.take j) n0 = n := ⟨_, rfl⟩
                          rw [hn] at hst ⊢
                          have HSJ := Lib.hid hst
                          obtain ⟨b, hb⟩ : ∃ b, (q.1 == p.1) = b := ⟨_, rfl⟩
                          have HB := Lib.hid hb
                          clear hst hq hn hcy
                          go_upto_region 38 with (fail)
                          go_quiet (fail)
                          have HG9 := Lib.hid (HG.out.grown (Grown.drewN _ nq))
                          cases b with
                          | false =>
                            clear HG z0 z1 z2 y0 y1 y2 t0 t1 u0 u1
                            go_wp2_with fail
                            exact ⟨⟨j + 1, by omega, by simp, by rw [HSJ.out, if_neg (by simpa using HB.out)], HG9.out⟩, by simp only [RowKit.intOf]; omega⟩
                          | true =>
                            go_wp2_with fail
                            exact ⟨⟨j + 1, by omega, by simp, by rw [HSJ.out, if_pos (by simpa using HB.out)], HG9.out⟩, by simp only [RowKit.intOf]; omega⟩
                        · obtain rfl : j = PX.length := by omega
                          rw [List.take_length, HJ.out]
                          have zz : (p.2 != p.2) = false := by simp
                          clear hcy hjl j0 jl hj
                          go_wp2_with fail
                          exact ⟨⟨k + 1, by omega, by simp, HG.out⟩, by simp only [RowKit.intOf]; omega⟩
              · obtain rfl : k = PV.length := by omega
                obtain ⟨⟨x0, x1, x2⟩, _⟩ := HX3.out _ hg
                obtain ⟨⟨y0, y1, y2⟩, _⟩ := HY.out _ hg
                have n1 : PX.length ≤ PV.length := HLEN.out.1
                have n2 : PY.length ≤ PV.length := HLEN.out.2
                have m1 : (PX.length : Int) ≤ (PV.length : Int) := by omega
                have m2 : (PY.length : Int) ≤ (PV.length : Int) := by omega
                clear hcz hg hkl k0 kl hk
                go_wp2_with fail
                go_ret
                exact ⟨rfl, (HW3.out _ HG.out).below⟩
end Go.Proofs.Ytceegnfjdgjomaa
