/- MendClient walked: of one client's losers alone the pages change. Conditions: none. -/
import Derived.Test.YtficgjklagnbjaaGreatMp17
namespace Go.Proofs.YtficgjklagnbjaaGreat
open Go Go.MapKept Go.RowKit Go.Proofs Go.Shelf Go.Sort

attribute [local go_sem] Oper.semAt_some

/-- Four pages as they lie. -/
theorem LvAt.four {F : Heaplet} {a : Option Addr} {cap len : Nat} {P : List Lf} (h : LvAt F (.slice a len cap) P) (hp : Pgs P) : ∃ g off, a = some ⟨g, off, none⟩ ∧ ∀ n, n < 4 → ∃ sa sc, SlAt F (.slice sa (pgAt P n).slots.length sc) (pgAt P n).slots ∧ goodP (pgAt P n) = true ∧
    ∀ w, Sat w F → w.cell? ⟨g, off + n * 3 + 1, none⟩ = some (kI (pgAt P n).lsn) ∧ w.cell? ⟨g, off + n * 3 + 2, none⟩ = some (.slice sa (pgAt P n).slots.length sc) := by
  obtain ⟨a', c', e, hc⟩ := h
  simp only [Value.slice.injEq] at e
  obtain ⟨rfl, _, rfl⟩ := e
  obtain ⟨p, h0, _⟩ := hp.2 0 (by omega)
  obtain ⟨g, off, _, rfl, _⟩ := hc 0 _ h0
  refine ⟨g, off, rfl, fun n hn => ?_⟩
  obtain ⟨q, h1, h2⟩ := hp.2 n hn
  obtain ⟨g', off', sv, e, hsv, hu⟩ := hc n _ h1
  cases e
  have hq : pgAt P n = q := by unfold pgAt; rw [h1]
  obtain ⟨sa, sc, rfl, _⟩ := id hsv
  rw [hq]
  exact ⟨sa, sc, hsv, h2, fun w hw => (hu w hw).2⟩
theorem psC_ow2 {lv nv av : Value} {o t l : Nat → Int} {n : Nat} (h : n < 4) : (psC lv nv av o t l)[3 + n]? = some (kI (o n)) := psC_ow h
set_option maxRecDepth 100000 in
set_option maxHeartbeats 8000000 in
theorem client_walk (a : Option Addr) (cap : Nat) (l : List Ac) (cl : Int) (Wi : World) (hv : AcIn (allOf Wi) (.slice a l.length cap) l) :
    Calls Tryz.prog 5 #[.slice a l.length cap, kI cl] Wi (Ret (.bool true) (RowKit.Below Wi.heap.size Wi)) := by
  have HS := Lib.hid (sat_all Wi)
  obtain ⟨F0, hF0⟩ : ∃ F0, allOf Wi = F0 := ⟨_, rfl⟩
  rw [hF0] at HS hv
  have HV := Lib.hid hv
  have HB : Hid (∀ W, Sat W F0 → RowKit.Below Wi.heap.size Wi W) := Lib.hid (fun W hW => by rw [← hF0] at hW; exact hW.below)
  have HJ := Lib.hid (lived_js l)
  clear hF0 hv
  obtain ⟨S, ok, hL⟩ : ∃ S ok, livedP l = (S, ok) := ⟨_, _, rfl⟩
  rw [hL] at HJ
  have HLV : Hid (∀ W, Sat W F0 → Calls Tryz.prog 10 #[.slice a l.length cap] W fun e w' => ∃ pb, e = .returned (.tuple #[.pointer (some ⟨pb, 0, none⟩), .bool ok]) ∧ PsIs pb S F0 w') := Lib.hid (fun W hW => by
    have := lived_call HV.out hW
    rw [hL] at this
    exact this)
  clear hL HV
  generalize l.length = n at *
  go_enter Tryz.func5, Tryz.ntmps5
  go_upto_region 3 with (go_at_call 9; refine (awake_any F0 _ HS.out).mono ?_; rintro e w1 ⟨rfl, hs1⟩; have HS1 := Lib.hid hs1; clear hs1 HS)
  go_upto_region 4 with (go_at_call 10; refine (HLV.out _ HS1.out).mono ?_; rintro e w2 ⟨pb, rfl, hps⟩; have HPS := Lib.hid hps; clear hps HS1 HLV)
  cases ok with
  | false =>
    have HE := Lib.hid (HB.out _ HPS.out.frame)
    clear HPS HJ
    go_wp2_with fail
    go_ret
    exact ⟨rfl, HE.out⟩
  | true =>
    obtain ⟨j, hj, hjs⟩ := HJ.out
    obtain ⟨B, hB, hsB⟩ := psB_of HPS.out
    clear HPS HJ
    have hll := (hjs.len (c := 1)).1
    have h4 : S.now.length = 4 := hjs.li.len
    obtain ⟨c, hc1, hc5, hc2⟩ : ∃ c : Nat, 1 ≤ c ∧ c < 5 ∧ 1 + umod cl 4 = (c : Int) := by
      have := umod_bd cl 4 (by omega) (by omega)
      exact ⟨1 + (umod cl 4).toNat, by omega, by omega, by omega⟩
    have hu1 : wrap64 ((IntKind.u64.wrap cl).tmod 4) = umod cl 4 := rfl
    have hu2 : IntKind.i64.wrap ((IntKind.u64.wrap cl).tmod 4) = umod cl 4 := IntWalk.i64_left _
    have hu3 : wrap64 (1 + umod cl 4) = (c : Int) := by rw [hc2, IntWalk.wrap64_in _ (by omega)]
    have hu4 : IntKind.i64.wrap (1 + umod cl 4) = (c : Int) := by rw [hc2, IntWalk.i64_in _ (by omega)]
    obtain ⟨la, lc, na, nc, hlc, hEB, hNB, hCB⟩ : ∃ la lc na nc, S.list.length ≤ lc ∧ EnsIn B (.slice la S.list.length lc) S.list ∧ LvAt B (.slice na 4 nc) S.now ∧ ∀ W F, Sat W (B ++ F) → W.cell? ⟨pb, 0, none⟩ = some (.slice la S.list.length lc) ∧ W.cell? ⟨pb, 1, none⟩ = some (.slice na 4 nc) ∧ ∀ n, n < 4 → W.cell? ⟨pb, 3 + n, none⟩ = some (kI (S.ow n)) := by
      obtain ⟨lv, nv, av, vs, hl, ha, H, h1, h2, h3, h5, e⟩ := hB
      obtain ⟨la, lc, rfl⟩ := sl_form h1
      obtain ⟨na, nc, rfl, _⟩ := id h3
      rw [h4] at h3 e
      refine ⟨la, lc, na, nc, sl_cap h1, (ens_in h1 ([] : Heaplet)).mono (fun w hw => ?_), h3.mono (fun w hw => ?_), fun W F hW => ?_⟩
      · rw [e] at hw
        (refine Sat.part hw ?_; intro a; simp only [cnt_cons, cnt_append, cnt_nil]; omega)
      · rw [e] at hw
        exact hw.tail.right.right
      · rw [e] at hW
        exact ⟨by rw [cell_of hW.h0]; rfl, by rw [cell_of hW.h0]; rfl, fun n hn => by rw [cell_of hW.h0]; exact psC_ow2 hn⟩
    obtain ⟨n', hn'⟩ : ∃ n', S.list.length = n' := ⟨_, rfl⟩
    obtain ⟨add, Vs, hall, hadc, hpf, hadl, hown⟩ := hjs.client (by omega) hc1 hc5
    obtain ⟨PF, hPF⟩ : ∃ PF, finP S.now Vs = PF := ⟨_, rfl⟩
    rw [hPF] at hall hpf hown
    have HUN : Hid (∀ W, Sat W (B ++ F0) → Calls Tryz.prog 15 #[.slice la n' lc, .slice na 4 nc, .int .i64 (c : Int)] W (UnRet add PF 0 (B ++ F0))) := Lib.hid (fun W hW => by
      have := undoU_any (cl := (c : Int)) (rc := 0) (hEB.mono (fun w hw => hw.left')) (hNB.mono (fun w hw => hw.left')) hW (by omega) (tot_bd (by omega)) (hjs.li.pgs.fit hjs.li.ok) (by omega) (by omega) hall
      rw [if_pos rfl, if_pos rfl, List.drop_left, hn'] at this
      exact this)
    have hpn := hjs.li.pgs
    obtain ⟨ng, no, rfl, hnow⟩ := hNB.four hpn
    simp only [hn'] at hCB
    rw [hn'] at hEB
    have hcell : ∀ W G, Sat W (B ++ G) → W.cell? ⟨pb, 0, none⟩ = some (.slice la n' lc) ∧ W.cell? ⟨pb, 1, none⟩ = some (.slice (some ⟨ng, no, none⟩) 4 nc) := fun W G hW => ⟨(hCB W G hW).1, (hCB W G hW).2.1⟩
    have K1 := Lib.hid (hcell _ _ hsB)
    have K2 := Lib.hid (hcell _ _ hsB.drew)
    have HSD := Lib.hid hsB.drew
    have HKC := Lib.hid hcell
    clear hcell
    have HFO : Hid (∀ W G, Sat W (B ++ G) → Calls Tryz.prog 14 #[.slice la n' lc] W (Ret (grV (foldP S.list)) (Below W.heap.size W))) := Lib.hid (fun W G hW => fold_any (hEB.mono (fun w hw => hw.left')) hW (by omega) hjs.li.onG)
    have HOW := Lib.hid hown
    have HNOW := Lib.hid hnow
    have HAD := Lib.hid (And.intro hadc (And.intro hadl (And.intro hpf (And.intro hc1 hc5))))
    have HCB := Lib.hid hCB
    obtain ⟨G, hG⟩ : ∃ G, foldP S.list = G := ⟨_, rfl⟩
    rw [hG] at HFO HOW
    obtain ⟨PN, hPN⟩ : ∃ PN, S.now = PN := ⟨_, rfl⟩
    rw [hPN] at HOW HNOW
    obtain ⟨ow, how⟩ : ∃ ow, S.ow = ow := ⟨_, rfl⟩
    rw [how] at HOW HCB
    have hcb : (c : Int) ≤ 4 := by omega
    clear hEB hNB hCB hsB hB hjs hj hll h4 hc2 hn' hall hadc hpf hadl hown hPF hpn hnow hG hPN how hlc
    go_upto_region 7 with (fail)
    clear hu1 hu2 hu3 hu4
    go_cut [8, 9, 10] (fun v8 v9 v10 wx => ∃ aa ac2 pa pc h7 h8, v8 = .slice aa add.length ac2 ∧ v9 = .slice pa PF.length pc ∧ v10 = .int .i64 0 ∧ EnSl (.slice aa add.length ac2) add h7 ∧ LvOwn (.slice pa PF.length pc) PF h8 ∧ Sat wx (h7 ++ (h8 ++ (B ++ F0))))
    case first =>
      go_region_held3 (fun w' => w'.cell? ⟨pb, 0, none⟩ = some (.slice la n' lc) ∧ w'.cell? ⟨pb, 1, none⟩ = some (.slice (some ⟨ng, no, none⟩) 4 nc))
        (with_reducible first | exact K1.out | exact K2.out | exact K3.out)
        (first
          | (go_at_call 15
             refine (HUN.out _ HSD.out).mono ?_
             rintro e w7 ⟨av, pv, h7, h8, rfl, hav, hpv, hs7⟩
             obtain ⟨aa, ac2, rfl⟩ := sl_form hav
             obtain ⟨pa, pc, rfl⟩ := LvOwn.form hpv
             have FIN := Lib.hid (And.intro hav (And.intro hpv hs7))
             have K3 := Lib.hid (HKC.out w7 (h7 ++ (h8 ++ F0)) (by (refine Sat.part hs7 ?_; intro a; simp only [cnt_append]; omega)))))
      all_goals
        clear K1 K2 K3 hav hpv hs7 HUN HSD
        go_wp2_with fail
        go_meet
        exact ⟨_, _, _, _, h7, h8, rfl, rfl, rfl, FIN.out⟩
    case rest =>
    obtain ⟨aa, ac2, pa, pc, h7, h8, rfl, rfl, rfl, hav, hpv, hs7⟩ := hcut
    have HS7 := Lib.hid (And.intro hav (And.intro hpv hs7))
    clear hav hpv hs7 K1 K2
    generalize wc = w7 at *
    obtain ⟨na2, hna2⟩ : ∃ na2, add.length = na2 := ⟨_, rfl⟩
    have hp4 : PF.length = 4 := HAD.out.2.2.1.1
    rw [hp4] at HS7 ⊢
    rw [hna2] at HS7 ⊢
    obtain ⟨fg, fo, rfl, hfin⟩ := ((HS7.out.2.1.at ([] : Heaplet)).four HAD.out.2.2.1)
    obtain ⟨BS, hBS⟩ : ∃ BS, h7 ++ (h8 ++ (B ++ F0)) = BS := ⟨_, rfl⟩
    have hs7 : Sat w7 BS := by rw [← hBS]; exact HS7.out.2.2
    have HBS : Hid (∀ W, Sat W BS → RowKit.Below Wi.heap.size Wi W) := Lib.hid (fun W hW => by rw [← hBS] at hW; exact HB.out W hW.right.right.right)
    have HBB2 : Hid (∀ W G, Sat W (G ++ BS) → Sat W (B ++ (G ++ (h7 ++ (h8 ++ F0))))) := Lib.hid (fun W G hW => by rw [← hBS] at hW; (refine Sat.part hW ?_; intro a; simp only [cnt_append]; omega))
    have HB8 : Hid (∀ W, Sat W BS → Sat W (h8 ++ [])) := Lib.hid (fun W hW => by rw [← hBS] at hW; (refine Sat.part hW ?_; intro a; simp only [cnt_append, cnt_nil]; omega))
    have HEA : Hid (∀ W, Sat W BS → ∀ i q, add[i]? = some q → ∃ g off, aa = some ⟨g, off, none⟩ ∧ EnO W g (off + i * 13) q) := Lib.hid (fun W hW i q hq => by
      obtain ⟨a', c', e, hc⟩ := ens_in HS7.out.1 ([] : Heaplet)
      simp only [Value.slice.injEq] at e
      obtain ⟨rfl, _, rfl⟩ := e
      rw [← hBS] at hW
      exact hc W (by (refine Sat.part hW ?_; intro a; simp only [cnt_append, cnt_nil]; omega)) i q hq)
    have HFI := Lib.hid hfin
    have c0 : w7.cell? ⟨pb, 0, none⟩ = some (.slice la n' lc) := (HCB.out _ _ (HBB2.out _ [] hs7)).1
    have HF2 := Lib.hid (HFO.out _ _ (HBB2.out _ [] hs7))
    have HS8 := Lib.hid hs7
    have hn9 : (na2 : Int) ≤ 200 := by have := HAD.out.2.1; omega
    have HNA := Lib.hid hna2
    clear hs7 hBS hfin HS7 HFO HUN HSD HKC hp4 hna2
    go_upto_region 10 with (fail)
    go_upto_region 11 with (first
      | (go_at_call 14; refine (HF2.out).mono ?_; rintro e w8 ⟨rfl, hb8⟩; have HS9 := Lib.hid (HS8.out.monoB hb8); have HST := Lib.hid (run_storeAll (P := Tryz.prog) (T := 43) (us := grC G) (gr_size _) ((HS8.out.monoB hb8).new (grO G0)) rfl (grC_one G)); have HSR := Lib.hid (sat_setRow ((HS8.out.monoB hb8).new (grO G0)) (grC G)); clear hb8)
      | (refine wpList_store_run (T := 43) rfl _ _ rfl rfl _ _ _ rfl rfl HST.out ?_))
    clear c0 HST HS8 HF2 HS9
    generalize hW9 : (w8.alloc (grO G0)).setRow w8.heap.size (grC G) = W9 at *
    clear hW9
    generalize w8.heap.size = g at *
    go_wp2_with fail
    go_loopw [12] (fun v12 wr => ∃ n : Nat, n ≤ 4 ∧ v12 = .int .i64 n ∧ Sat wr (.blk g (grO G) :: BS)) (fun v12 _ => 100 - (RowKit.intOf v12).toNat)
    case atStart => exact ⟨0, by omega, rfl, HSR.out⟩
    case round =>
      clear HSR
      obtain ⟨n, hn4, rfl, hs⟩ := hrel
      have n0 : (0 : Int) ≤ (n : Int) := by omega
      by_cases hnl : n < 4
      · have n1 : (n : Int) < 4 := by omega
        obtain ⟨sa, sc, hsv, hgp, hu⟩ := HNOW.out n hnl
        obtain ⟨fa, fc, hfv, hfp, hfu⟩ := HFI.out n hnl
        have hown := HOW.out n hnl
        generalize pgAt PN n = p at *
        generalize pgAt PF n = q at *
        have HN := Lib.hid (And.intro hsv (And.intro hgp hu))
        have HF := Lib.hid (And.intro hfv (And.intro hfp hfu))
        have HOWN := Lib.hid hown
        have HSS := Lib.hid hs
        clear hsv hgp hu hfv hfp hfu hown hs
        go_wp2_with fail
        go_loopw [13] (fun v13 wr => ∃ k : Nat, k ≤ 5 ∧ v13 = .int .i64 k ∧ Sat wr (.blk g (grO G) :: BS)) (fun v13 _ => 100 - (RowKit.intOf v13).toNat)
        case atStart => exact ⟨0, by omega, rfl, HSS.out⟩
        case round =>
          clear HSS
          obtain ⟨k, hk5, rfl, hs⟩ := hrel
          have k0 : (0 : Int) ≤ (k : Int) := by omega
          by_cases hkl : k < 5
          · have k1 : (k : Int) < 5 := by omega
            have hsB2 := HBB2.out _ [.blk g (grO G)] hs
            obtain ⟨_, c1, _⟩ := HCB.out _ _ hsB2
            obtain ⟨u1, u2⟩ := HN.out.2.2 _ hsB2.left'
            obtain ⟨sA, hsA⟩ : ∃ sA, atM p (k : Int) = sA := ⟨_, rfl⟩
            obtain ⟨sF, hsF⟩ : ∃ sF, atM q (k : Int) = sF := ⟨_, rfl⟩
            have HAT := Lib.hid (at_any (k : Int) (HN.out.1.mono (fun w hw => Sat.left' hw)) hsB2 (good_bd HN.out.2.1).1 (good_bd HN.out.2.1).2.1 (good_bd HN.out.2.1).2.2)
            rw [hsA] at HAT
            have hne1 : ow n ≠ (c : Int) → sF = sA := fun h => by rw [← hsA, ← hsF, HOWN.out.1 h]
            have hne2 : ow n = (c : Int) → sF = G n k := fun h => by rw [← hsF]; exact HOWN.out.2 h k hkl
            have HSF := Lib.hid (And.intro hne1 (And.intro hne2 hsF))
            have HSS := Lib.hid hs
            clear hs hsB2 hsA hsF hne1 hne2
            go_upto_region 18 with (go_at_call 16; refine (HAT.out).mono ?_; rintro e w4 ⟨rfl, hb⟩; have HS4 := Lib.hid (HSS.out.monoB hb); clear hb HAT HSS)
            have HS5 := Lib.hid (HS4.out.new (.cells #[.bool sA.1, kS sA.2] 41))
            have hco := (HCB.out _ _ (HBB2.out _ [.blk w4.heap.size (.cells #[.bool sA.1, kS sA.2] 41), .blk g (grO G)] HS5.out)).2.2 n hnl
            generalize w4.alloc (.cells #[.bool sA.1, .string sA.2] 41) = W5 at *
            generalize w4.heap.size = xb at *
            clear HS4 c1 u1 u2
            go_upto_if 81 with (fail)
            go_cut [] (fun wx => Sat wx (.blk xb (.cells #[.bool sF.1, kS sF.2] 41) :: .blk g (grO G) :: BS))
            case first =>
              by_cases ho : ow n = (c : Int)
              · have k5 : (ow n == (c : Int)) = true := by rw [beq_iff_eq]; exact ho
                rw [k5]
                clear k5
                have hw : sF = G n k := HSF.out.2.1 ho
                have g1 : W5.cell? ⟨g, n * 10 + k * 2, none⟩ = some (.bool (G n k).1) := by rw [cell_of HS5.out.h1]; exact (grC_get G hnl hkl).1
                have g2 : W5.cell? ⟨g, n * 10 + k * 2 + 1, none⟩ = some (kS (G n k).2) := by rw [cell_of HS5.out.h1]; exact (grC_get G hnl hkl).2
                have z0 : W5.cell? ⟨xb, 0, none⟩ = some (.bool sA.1) := by rw [cell_of HS5.out.h0]; rfl
                have z1 : W5.cell? ⟨xb, 1, none⟩ = some (kS sA.2) := by rw [cell_of HS5.out.h0]; rfl
                have ff := unfrozen_of HS5.out.h0
                have FIN : Hid (Sat ((W5.setCell ⟨xb, 0, none⟩ (.bool (G n k).1)).setCell ⟨xb, 1, none⟩ (kS (G n k).2)) (.blk xb (.cells #[.bool sF.1, kS sF.2] 41) :: .blk g (grO G) :: BS)) := Lib.hid (by rw [hw]; exact (HS5.out.setCell (i := 0) (.bool (G n k).1)).setCell (i := 1) (kS (G n k).2))
                clear hw ho HS5 hco HSF
                go_wp2_with fail
                go_meet
                exact FIN.out
              · have k5 : (ow n == (c : Int)) = false := by rw [beq_eq_false_iff_ne]; exact ho
                rw [k5]
                have FIN : Hid (Sat W5 (.blk xb (.cells #[.bool sF.1, kS sF.2] 41) :: .blk g (grO G) :: BS)) := Lib.hid (by rw [HSF.out.1 ho]; exact HS5.out)
                clear k5 ho HS5 hco HSF
                go_wp2_with fail
                go_meet
                exact FIN.out
            case rest =>
              have hcell : ∀ W, Sat W (.blk xb (.cells #[.bool sF.1, kS sF.2] 41) :: .blk g (grO G) :: BS) → W.cell? ⟨fg, fo + n * 3 + 1, none⟩ = some (kI q.lsn) ∧ W.cell? ⟨fg, fo + n * 3 + 2, none⟩ = some (.slice fa q.slots.length fc) ∧ W.cell? ⟨xb, 0, none⟩ = some (.bool sF.1) ∧ W.cell? ⟨xb, 1, none⟩ = some (kS sF.2) := fun W hW => by
                obtain ⟨u1, u2⟩ := HF.out.2.2 W (HB8.out W hW.tail.tail)
                exact ⟨u1, u2, by rw [cell_of hW.h0]; rfl, by rw [cell_of hW.h0]; rfl⟩
              have HC2 := Lib.hid hcell
              have K1 := Lib.hid (hcell _ hcut)
              have K2 := Lib.hid (hcell _ hcut.drew)
              have HAT := Lib.hid (at_any (k : Int) (HF.out.1.mono (fun w hw => HB8.out w (Sat.tail (Sat.tail hw)))) hcut.drew (good_bd HF.out.2.1).1 (good_bd HF.out.2.1).2.1 (good_bd HF.out.2.1).2.2)
              have HCU := Lib.hid hcut.drew
              rw [HSF.out.2.2] at HAT
              have hne := ne_sl sF sF
              have hgu := fun (x y : Operand) (W : World) => guard_sl sF sF W x y
              clear hcell hcut HS5 hco
              go_upto_region 20 with (fail)
              go_region_held3 (fun w' => w'.cell? ⟨fg, fo + n * 3 + 1, none⟩ = some (kI q.lsn) ∧ w'.cell? ⟨fg, fo + n * 3 + 2, none⟩ = some (.slice fa q.slots.length fc) ∧ w'.cell? ⟨xb, 0, none⟩ = some (.bool sF.1) ∧ w'.cell? ⟨xb, 1, none⟩ = some (kS sF.2))
                (with_reducible first | exact K1.out | exact K2.out | exact K3.out)
                (first
                  | (go_at_call 16
                     refine (HAT.out).mono ?_
                     rintro e w4 ⟨rfl, hb⟩
                     have HS4 := Lib.hid (HCU.out.monoB hb)
                     have K3 := Lib.hid (HC2.out _ HS4.out)))
              all_goals
                have hd : decide (sF ≠ sF) = false := by simp
                have FIN := Lib.hid (HS4.out.tail)
                clear K1 K2 K3 HAT HCU HC2 hne hgu HS4 hb
                go_wp2_with fail
                exact ⟨⟨k + 1, by omega, by simp, FIN.out⟩, by simp only [RowKit.intOf]; omega⟩
          · have e5 : k = 5 := by omega
            have k1 : ((k : Int) < 5) = False := eq_false (by omega)
            have hsB2 := HBB2.out _ [.blk g (grO G)] hs
            obtain ⟨_, c1, hco⟩ := HCB.out _ _ hsB2
            have hco := hco n hnl
            obtain ⟨u1, u2⟩ := HN.out.2.2 _ hsB2.left'
            obtain ⟨f1, f2⟩ := HF.out.2.2 _ (HB8.out _ hs.tail)
            have FIN : Hid (∀ m, Sat (wr.drewN m) (.blk g (grO G) :: BS)) := Lib.hid (fun m => hs.grown (Grown.drewN wr m))
            clear hs hsB2 hk5 hkl e5
            go_upto_region 22 with (fail)
            by_cases ho : ow n = (c : Int)
            · have k5 : (ow n == (c : Int)) = true := by rw [beq_iff_eq]; exact ho
              have k6 : (ow n != (c : Int)) = false := by rw [bne, k5]; rfl
              go_quiet (fail)
              clear c1 hco u1 u2 f1 f2
              go_wp2_with fail
              exact ⟨⟨n + 1, by omega, by simp, FIN.out _⟩, by simp only [RowKit.intOf]; omega⟩
            · have k5 : (ow n == (c : Int)) = false := by rw [beq_eq_false_iff_ne]; exact ho
              have k6 : (ow n != (c : Int)) = true := by rw [bne, k5]; rfl
              rw [HOWN.out.1 ho] at f1
              go_quiet (fail)
              clear c1 hco u1 u2 f1 f2
              go_wp2_with fail
              exact ⟨⟨n + 1, by omega, by simp, FIN.out _⟩, by simp only [RowKit.intOf]; omega⟩
      · have e4 : n = 4 := by omega
        have n1 : ((n : Int) < 4) = False := eq_false (by omega)
        have HSS := Lib.hid hs.tail
        clear hs e4
        go_wp2_with fail
        go_loopw [15] (fun v15 wr => ∃ i : Nat, i ≤ na2 ∧ v15 = .int .i64 i ∧ Sat wr BS) (fun v15 _ => 1000 - (RowKit.intOf v15).toNat)
        case atStart => exact ⟨0, by omega, rfl, HSS.out⟩
        case round =>
          clear HSS
          obtain ⟨i, hi, rfl, hs⟩ := hrel
          have i0 : (0 : Int) ≤ (i : Int) := by omega
          by_cases hil : i < na2
          · have i1 : (i : Int) < (na2 : Int) := by omega
            obtain ⟨y, hy⟩ : ∃ y, add[i]? = some y := ⟨_, List.getElem?_eq_getElem (by have := HNA.out; omega)⟩
            obtain ⟨yg, yoff, rfl, f0, f1, _⟩ := HEA.out _ hs i y hy
            rw [HAD.out.1 y (List.mem_of_getElem? hy)] at f1
            have FIN := Lib.hid hs
            clear hs hy
            go_wp2_with fail
            exact ⟨⟨i + 1, by omega, by simp, FIN.out⟩, by simp only [RowKit.intOf]; omega⟩
          · obtain rfl : i = na2 := by omega
            have i1 : ((i : Int) < (i : Int)) = False := eq_false (by omega)
            have FIN := Lib.hid (HBS.out _ hs)
            clear hs
            go_wp2_with fail
            go_ret
            exact ⟨rfl, FIN.out⟩
end Go.Proofs.YtficgjklagnbjaaGreat
