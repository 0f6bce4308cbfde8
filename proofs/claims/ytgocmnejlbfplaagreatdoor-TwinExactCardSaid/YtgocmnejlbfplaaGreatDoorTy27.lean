/- Texts put together: Tx17. Conditions: none. -/
import Derived.Deep.RegionHeld3
import Derived.Deep.DeepCutAuto
import Derived.Test.YtgocmnejlbfplaaGreatDoorTy26
namespace Go.Proofs.YtgocmnejlbfplaaGreatDoor
open Go Go.MapKept Go.RowKit Go.Proofs

attribute [local go_sem] Oper.semAt_some
variable {E : Heaplet}

def RWrRet (E : Heaplet) (r : Int × TS × PM) (tb pb : Nat) (G : Heaplet) (e : Ending) (w' : World) : Prop := e = .returned (.int .i64 r.1) ∧ RSt E tb pb r.2.1 r.2.2 G w'
set_option maxRecDepth 100000 in
set_option maxHeartbeats 8000000 in
theorem rwrite_any {tb pb : Nat} {S : TS} {M : PM} {G : Heaplet} {w : World} {v : Value} {L : List Lf} (h : RSt E tb pb S M G w) (hv : LvAt E v L) {bd : Nat} (hk : PlOk bd M) (hb : bd + 1000 ≤ 100000) (hl : L.length ≤ 100) (hf : FitP L) (hfr : 0 ≤ S.frm ∧ S.frm ≤ 1000000) (htw : 0 ≤ S.twins ∧ S.twins ≤ 64) (hpg : S.pages.length ≤ 1024) :
    Calls Tryz.prog 11 #[.pointer (some ⟨tb, 0, none⟩), v] w (RWrRet E (writeT S M L) tb pb G) := by
  obtain ⟨a, cap, rfl, hc⟩ := hv
  obtain ⟨WT, hWT⟩ : ∃ WT, writeT S M L = WT := ⟨_, rfl⟩
  rw [hWT]
  have HWT := Lib.hid hWT
  have HC := Lib.hid hc
  have HS := Lib.hid h
  have HP := Lib.hid (And.intro hk (And.intro hb (And.intro hl (And.intro hf (And.intro hfr (And.intro htw hpg))))))
  have hl9 : (L.length : Int) ≤ 100 := by omega
  obtain ⟨rd, hrd⟩ : ∃ rd, rdyT S M = rd := ⟨_, rfl⟩
  have HRD := Lib.hid (rrdy_any h)
  rw [hrd] at HRD
  have HR := Lib.hid hrd
  obtain ⟨tw, htw'⟩ : ∃ tw, S.twins = tw := ⟨_, rfl⟩
  have HTW := Lib.hid htw'
  obtain ⟨len, hlen⟩ : ∃ len, S.pages.length = len := ⟨_, rfl⟩
  have HLEN := Lib.hid hlen
  have hcell : ∀ W M', RSt E tb pb S M' G W → W.cell? ⟨tb, 0, none⟩ = some (.pointer (some ⟨pb, 0, none⟩)) ∧ W.cell? ⟨tb, 1, none⟩ = some (kI S.frm) ∧ W.cell? ⟨tb, 2, none⟩ = some (kI tw) ∧ ∃ pa pc, W.cell? ⟨tb, 3, none⟩ = some (.slice pa len pc) := fun W M' hW => by
    obtain ⟨pv, pa, pc, rfl, e0, e1, e2, e3, _⟩ := hW.cells
    rw [htw'] at e2
    rw [hlen] at e3
    exact ⟨e0, e1, e2, pa, pc, e3⟩
  have HCL := Lib.hid hcell
  have hp9 : (len : Int) ≤ 1024 := by omega
  rw [htw'] at htw
  clear h hc hk hb hl hf hfr hpg hrd hWT htw' hlen hcell
  by_cases hz : rd = 0
  · subst hz
    go_enter Tryz.func11, Tryz.ntmps11
    go_upto_region 4 with (go_at_call 47; refine (HRD.out).mono ?_; rintro e w2 ⟨rfl, nd, hw2⟩; have hs2 := HS.out.below (Grown.drewN _ nd).below; rw [← hw2] at hs2; have HS2 := Lib.hid hs2; clear hs2 hw2)
    clear HS HRD
    obtain ⟨_, _, t2, _⟩ := HCL.out _ _ HS2.out
    by_cases hlt : tw < (L.length : Int)
    · obtain rfl : WT = (1, S, M) := by
        rw [← HWT.out]
        refine writeT_fit HR.out ?_
        unfold fitsT
        rw [HTW.out, decide_eq_false (by omega), Bool.and_false]
      go_wp2_with fail
      go_ret
      exact ⟨rfl, HS2.out⟩
    · have hlt2 : (tw < (L.length : Int)) = False := eq_false hlt
      go_upto_block 0 with (fail)
      clear t2
      go_cut [] (fun wx => fitPM len [] L = true ∧ RSt E tb pb S M G wx)
      case first =>
        obtain ⟨res, hres⟩ : ∃ res, fitPM len [] L = res := ⟨_, rfl⟩
        have HRES := Lib.hid hres
        have HR0 := Lib.hid hres
        have HNO : Hid (res = false → WT = (1, S, M)) := Lib.hid (fun h => by
          rw [← HWT.out]
          refine writeT_fit HR.out ?_
          unfold fitsT
          rw [HLEN.out, hres, h, Bool.false_and])
        clear hres
        go_wp2_with fail
        go_loopw [6] (fun v6 wr => ∃ i : Nat, i ≤ L.length ∧ v6 = .int .i64 (i : Int) ∧ fitPM len (seenL L i) (L.drop i) = res ∧ RSt E tb pb S M G wr) (fun v6 _ => 2000 - (RowKit.intOf v6).toNat)
        case atStart => exact ⟨0, by omega, rfl, HRES.out, HS2.out⟩
        case round =>
          clear HRES HS2
          obtain ⟨i, hi, rfl, hr, hs⟩ := hrel
          have i0 : (0 : Int) ≤ (i : Int) := by omega
          by_cases hil : i < L.length
          · have i1 : (i : Int) < (L.length : Int) := by omega
            obtain ⟨p, hp⟩ : ∃ p, L[i]? = some p := ⟨_, List.getElem?_eq_getElem hil⟩
            obtain ⟨g, off, sv, rfl, hsv, hu⟩ := HC.out i p hp
            have hdr : L.drop i = p :: L.drop (i + 1) := by rw [List.drop_eq_getElem_cons hil]; congr 1; exact Option.some.inj ((List.getElem?_eq_getElem hil).symm.trans hp)
            rw [hdr] at hr
            unfold fitPM at hr
            rw [← seenL_succ hp] at hr
            have hfp := HP.out.2.2.2.1 p (List.mem_of_getElem? hp)
            have HIL := Lib.hid (And.intro hil hp)
            obtain ⟨n, q⟩ := p
            simp only at hsv hu hr hfp
            obtain ⟨sa, sc, rfl, _⟩ := id hsv
            obtain ⟨Z, pa, pc, hz, hmk, hcl, _⟩ := hs.view
            have hmk2 : ∀ W, Sat W Z → RSt E tb pb S M G W := fun W hW => hmk W [] hW
            have hgl : ∀ W, Sat W Z → Calls Tryz.prog 48 #[pgV q.lsn (.slice sa q.slots.length sc)] W (fun e w' => e = .returned (.bool (goodP q)) ∧ Sat w' Z) := fun W hW => by
              refine (rgood_any hsv (hmk2 W hW).env hfp.1 hfp.2.1 hfp.2.2).mono ?_
              rintro e w' ⟨rfl, hg⟩
              exact ⟨rfl, hW.grown hg⟩
            have hcc : ∀ W, Sat W Z → W.cell? ⟨tb, 3, none⟩ = some (.slice pa len pc) ∧ W.cell? ⟨g, off + i * 3, none⟩ = some (kI n) ∧ W.cell? ⟨g, off + i * 3 + 1, none⟩ = some (kI q.lsn) ∧ W.cell? ⟨g, off + i * 3 + 2, none⟩ = some (.slice sa q.slots.length sc) := fun W hW => by
              have h3 := (hcl W hW).2.2.2.1
              rw [HLEN.out] at h3
              exact ⟨h3, hu W (hmk2 W hW).env⟩
            obtain ⟨gq, hgq⟩ : ∃ gq, goodP q = gq := ⟨_, rfl⟩
            rw [hgq] at hgl hr
            have HGL := Lib.hid hgl
            have HCC := Lib.hid hcc
            have HR2 := Lib.hid hr
            have HMK := Lib.hid hmk2
            have HS3 := Lib.hid hs
            have HZ := Lib.hid hz
            obtain ⟨t3, u0, u1, u2⟩ := hcc _ hz
            clear hp hu hdr hr hfp hgl hcc hs hi hil hsv hgq hz hmk hcl hmk2
            by_cases h2 : n < 0
            · have hres : res = false := by rw [← HR2.out, if_pos (by simp only [decide_eq_true h2]; rfl)]
              obtain rfl := HNO.out hres
              subst hres
              have HB : Hid (∀ k, RSt E tb pb S M G (wr.drewN k)) := Lib.hid (fun k => HS3.out.below (Grown.drewN _ k).below)
              clear HR2 HNO
              go_upto_region 9 with (fail)
              go_quiet (fail)
              go_wp2_with fail
              go_ret
              exact ⟨rfl, HB.out _⟩
            · have h2' : (n < 0) = False := eq_false h2
              by_cases h3 : (len : Int) ≤ n
              · have hres : res = false := by rw [← HR2.out, if_pos (by simp only [decide_eq_true h3]; simp)]
                obtain rfl := HNO.out hres
                subst hres
                have HB : Hid (∀ k, RSt E tb pb S M G (wr.drewN k)) := Lib.hid (fun k => HS3.out.below (Grown.drewN _ k).below)
                clear HR2 HNO
                go_upto_region 9 with (fail)
                go_quiet (fail)
                go_wp2_with fail
                go_ret
                exact ⟨rfl, HB.out _⟩
              · have h3' : ((len : Int) ≤ n) = False := eq_false h3
                have HN := Lib.hid (And.intro h2 h3)
                go_upto_region 9 with (fail)
                have HD1 := Lib.hid HZ.out.drew
                have K1 := Lib.hid (HCC.out _ HZ.out)
                have K2 := Lib.hid (HCC.out _ HZ.out.drew)
                clear t3 u0 u1 u2 h2 h3
                go_cut [59] (fun v59 wx => v59 = .bool (!gq) ∧ Sat wx Z)
                case first =>
                  clear HR0 HNO HR2 HMK HS3 HN
                  go_region_held3 (fun w' => w'.cell? ⟨tb, 3, none⟩ = some (.slice pa len pc) ∧ w'.cell? ⟨g, off + i * 3, none⟩ = some (kI n) ∧ w'.cell? ⟨g, off + i * 3 + 1, none⟩ = some (kI q.lsn) ∧ w'.cell? ⟨g, off + i * 3 + 2, none⟩ = some (.slice sa q.slots.length sc))
                    (with_reducible first | exact K1.out | exact K2.out | exact K3.out)
                    (first
                      | (go_at_call 48
                         with_reducible refine (HGL.out _ HD1.out).mono ?_
                         rintro e w3 ⟨rfl, hs3⟩
                         have HS4 := Lib.hid hs3
                         have K3 := Lib.hid (HCC.out _ hs3)
                         clear hs3))
                  all_goals
                    clear K1 K2 K3 HCC HGL
                    go_wp2_with fail
                    go_meet
                    exact ⟨rfl, HS4.out⟩
                case rest =>
                  obtain ⟨rfl, hz2⟩ := hcut
                  have HZ2 := Lib.hid hz2
                  clear K1 K2 HGL HD1 HZ hz2
                  cases gq with
                  | false =>
                    have hres : res = false := by rw [← HR2.out, if_pos (by simp)]
                    obtain rfl := HNO.out hres
                    subst hres
                    have HB := Lib.hid (HMK.out _ HZ2.out)
                    clear HR2 HNO
                    go_wp2_with fail
                    go_ret
                    exact ⟨rfl, HB.out⟩
                  | true =>
                    go_upto_block 2 with (fail)
                    go_wp2_with fail
                    go_loopw [7] (fun v7 wr2 => ∃ k : Nat, k ≤ i ∧ v7 = .int .i64 (k : Int) ∧ (∀ (j : Nat) p, j < k → L[j]? = some p → p.1 ≠ n) ∧ Sat wr2 Z) (fun v7 _ => 2000 - (RowKit.intOf v7).toNat)
                    case atStart => exact ⟨0, by omega, rfl, (fun j p hj => absurd hj (by omega)), HZ2.out⟩
                    case round =>
                      clear HZ2
                      obtain ⟨k, hk, rfl, hno, hz3⟩ := hrel
                      have k0 : (0 : Int) ≤ (k : Int) := by omega
                      by_cases hki : k < i
                      · have k1 : (k : Int) < (i : Int) := by omega
                        have k2 : (k : Int) < (L.length : Int) := by omega
                        obtain ⟨p2, hp2⟩ : ∃ p2, L[k]? = some p2 := ⟨_, List.getElem?_eq_getElem (by omega)⟩
                        obtain ⟨g2, off2, sv2, eg, _, hu2⟩ := HC.out k p2 hp2
                        cases eg
                        have hcc2 : ∀ W, Sat W Z → W.cell? ⟨g, off + k * 3, none⟩ = some (kI p2.1) := fun W hW => (hu2 W (HMK.out W hW).env).1
                        obtain ⟨_, v0, _, _⟩ := HCC.out _ hz3
                        have v1 := hcc2 _ hz3
                        have HX := Lib.hid (And.intro hp2 (And.intro hno hki))
                        have HD2 : Hid (∀ m, Sat (wr.drewN m) Z) := Lib.hid (fun m => hz3.grown (Grown.drewN _ m))
                        obtain ⟨n2, q2⟩ := p2
                        simp only at v1
                        by_cases he : n2 = n
                        · subst he
                          have hres : res = false := by
                            rw [← HR2.out, if_pos (by rw [seenL_yes HX.out.2.2 HX.out.1]; simp)]
                          obtain rfl := HNO.out hres
                          subst hres
                          have HB : Hid (∀ m, RSt E tb pb S M G (wr.drewN m)) := Lib.hid (fun m => HMK.out _ (HD2.out m))
                          clear HR2 HNO hno hz3 hp2 hu2 hcc2 hk hki HX
                          go_upto_region 14 with (fail)
                          go_quiet (fail)
                          go_wp2_with fail
                          go_ret
                          exact ⟨rfl, HB.out _⟩
                        · have he2 : (n2 == n) = false := by rw [beq_eq_false_iff_ne]; exact he
                          have he3 : (n2 = n) = False := eq_false he
                          have HNX : Hid (∀ (j : Nat) p, j < k + 1 → L[j]? = some p → p.1 ≠ n) := Lib.hid (fun j p hj hp => by
                            by_cases e : j = k
                            · subst e
                              rw [hp2] at hp
                              cases hp
                              exact he
                            · exact hno j p (by omega) hp)
                          clear hno hz3 hp2 hu2 hcc2 hk he
                          go_upto_region 14 with (fail)
                          go_quiet (fail)
                          go_wp2_with fail
                          exact ⟨⟨k + 1, by omega, by simp, HNX.out, HD2.out _⟩, by simp only [RowKit.intOf]; omega⟩
                      · obtain rfl : k = i := by omega
                        have k1 : ((k : Int) < (k : Int)) = False := eq_false (by omega)
                        have hcn := seenL_no hno
                        have hnx : fitPM len (seenL L (k + 1)) (L.drop (k + 1)) = res := by
                          have h := HR2.out
                          have h8 := HN.out
                          rw [hcn, if_neg (by simp; omega)] at h
                          exact h
                        have HNX := Lib.hid hnx
                        have HB := Lib.hid (HMK.out _ hz3)
                        clear hno hz3 hk hki hcn hnx HR2
                        go_wp2_with fail
                        exact ⟨⟨k + 1, HIL.out.1, by simp, HNX.out, HB.out⟩, by simp only [RowKit.intOf]; omega⟩
          · obtain rfl : i = L.length := by omega
            rw [List.drop_length] at hr
            have hr2 : true = res := hr
            subst hr2
            have i1 : ((L.length : Int) < (L.length : Int)) = False := eq_false (by omega)
            have HS3 := Lib.hid hs
            clear hr hs hi hil
            go_wp2_with fail
            go_meet
            exact ⟨HR0.out, HS3.out⟩
      case rest =>
        obtain ⟨hfm, hs⟩ := hcut
        have hft : fitsT S L = true := by unfold fitsT; rw [HLEN.out, hfm, HTW.out, decide_eq_true (by omega)]; rfl
        have HFT := Lib.hid hft
        have hin : ∀ p ∈ L, 0 ≤ p.1 ∧ p.1 < (len : Int) ∧ goodP p.2 = true := fun p hp => fitPM_true hfm p hp
        have HIN := Lib.hid hin
        have HS3 := Lib.hid hs
        clear hfm hs hft hin HS2 hlt hlt2
        by_cases hle : L.length = 0
        · obtain rfl : WT = (0, S, M) := by rw [← HWT.out]; exact writeT_nil HR.out HFT.out hle
          have hl0 : ((L.length : Int) == 0) = true := by rw [beq_iff_eq]; omega
          have hl1 : ((L.length : Int) = 0) = True := eq_true (by omega)
          go_wp2_with fail
          go_ret
          exact ⟨rfl, HS3.out⟩
        · have hl0 : ((L.length : Int) == 0) = false := by rw [beq_eq_false_iff_ne]; omega
          have hl1 : ((L.length : Int) = 0) = False := eq_false (by omega)
          have hl2 : (L.length = 0) = False := eq_false hle
          have hgo : goW S L 2 0 M = WT := by rw [← HWT.out]; exact (goW_all HR.out HFT.out hle).symm
          have HGO := Lib.hid hgo
          clear hgo hle
          go_upto_block 4 with (fail)
          clear hl0 hl1 hl2
          go_cut [] (fun wx => ∃ M2, WT = (0, putT S L, M2) ∧ RSt E tb pb S M2 G wx)
          case first =>
            go_wp2_with fail
            go_loopw [8] (fun v8 wr => ∃ (k f : Nat) (Mk : PM), k + f = 2 ∧ v8 = .int .i64 (k : Int) ∧ goW S L f k Mk = WT ∧ PlOk (bd + 150 * k) Mk ∧ RSt E tb pb S Mk G wr) (fun v8 _ => 10 - (RowKit.intOf v8).toNat)
            case atStart => exact ⟨0, 2, M, rfl, rfl, HGO.out, HP.out.1, HS3.out⟩
            case round =>
              clear HS3 HGO
              obtain ⟨k, f, Mk, hkf, rfl, hgo, hk, hs⟩ := hrel
              have k0 : (0 : Int) ≤ (k : Int) := by omega
              cases f with
              | zero =>
                obtain rfl : k = 2 := by omega
                have HGO : Hid (WT = (0, putT S L, Mk)) := Lib.hid hgo.symm
                have HS4 := Lib.hid hs
                clear hgo hk hs hkf
                go_wp2_with fail
                go_meet
                exact ⟨Mk, HGO.out, HS4.out⟩
              | succ f =>
                have k1 : (k : Int) < 2 := by omega
                have HKF := Lib.hid hkf
                have hgo2 : (if (layQ Mk (wsOf (plK S L k) L)).1 ≠ 0 then ((layQ Mk (wsOf (plK S L k) L)).1, S.die true, (layQ Mk (wsOf (plK S L k) L)).2) else goW S L f (k + 1) (layQ Mk (wsOf (plK S L k) L)).2) = WT := hgo
                obtain ⟨r1, M1, h1⟩ : ∃ r1 M1, layQ Mk (wsOf (plK S L k) L) = (r1, M1) := ⟨_, _, rfl⟩
                rw [h1] at hgo2
                simp only at hgo2
                have HGO := Lib.hid hgo2
                have HLQ : Hid (layQ Mk ((wsOf (plK S L k) L).drop 0) = (r1, M1)) := Lib.hid h1
                have HK := Lib.hid hk
                have HS4 := Lib.hid hs
                have hkk : k = 0 ∨ k = 1 := by omega
                have HKK := Lib.hid hkk
                clear hgo hgo2 hk hs hkf h1 hkk
                go_upto_block 6 with (fail)
                go_cut [] (fun wx => ∃ M2, syncM M2 = (r1, M1) ∧ PlOk (bd + 150 * k + 120) M2 ∧ RSt E tb pb S M2 G wx)
                case first =>
                  go_wp2_with fail
                  go_loopw [9] (fun v9 wr2 => ∃ (i : Nat) (M2 : PM), i ≤ L.length ∧ v9 = .int .i64 (i : Int) ∧ layQ M2 ((wsOf (plK S L k) L).drop i) = (r1, M1) ∧ PlOk (bd + 150 * k + i) M2 ∧ RSt E tb pb S M2 G wr2) (fun v9 _ => 2000 - (RowKit.intOf v9).toNat)
                  case atStart => exact ⟨0, Mk, by omega, rfl, HLQ.out, HK.out, HS4.out⟩
                  case round =>
                    clear HLQ HK HS4
                    obtain ⟨i, M2, hi, rfl, hr, hk, hs⟩ := hrel
                    have i0 : (0 : Int) ≤ (i : Int) := by omega
                    by_cases hil : i < L.length
                    · have i1 : (i : Int) < (L.length : Int) := by omega
                      have i9 : (i : Int) ≤ 100 := by omega
                      obtain ⟨p, hp⟩ : ∃ p, L[i]? = some p := ⟨_, List.getElem?_eq_getElem hil⟩
                      obtain ⟨g, off, sv, rfl, hsv, hu⟩ := HC.out i p hp
                      have hin := HIN.out p (List.mem_of_getElem? hp)
                      have hl1024 := HP.out.2.2.2.2.2.2
                      rw [HLEN.out] at hl1024
                      rw [wsOf_drop hp] at hr
                      have hpl1 : plK S L 1 i = S.frm + S.twins + p.1 := by
                        unfold plK plH
                        rw [if_neg (by decide), hp]
                        rfl
                      obtain ⟨n, q⟩ := p
                      simp only at hsv hu hin hr hpl1
                      obtain ⟨nn, rfl⟩ : ∃ nn : Nat, n = (nn : Int) := ⟨n.toNat, by omega⟩
                      rw [Int.toNat_natCast] at hr
                      obtain ⟨sa, sc, rfl, _⟩ := id hsv
                      obtain ⟨we, M3, hwr⟩ : ∃ we M3, writeM M2 (plK S L k i) (secM nn q) = (we, M3) := ⟨_, _, rfl⟩
                      have hr2 : (if we ≠ 0 then (we, M3) else layQ M3 ((wsOf (plK S L k) L).drop (i + 1))) = (r1, M1) := by
                        rw [← hr]
                        show _ = (if (writeM M2 (plK S L k i) (secM nn q)).1 ≠ 0 then writeM M2 (plK S L k i) (secM nn q) else layQ (writeM M2 (plK S L k i) (secM nn q)).2 ((wsOf (plK S L k) L).drop (i + 1)))
                        rw [hwr]
                      have hk3 : PlOk (bd + 150 * k + (i + 1)) M3 := by
                        have h2 := HP.out.2.1
                        have h3 := HKF.out
                        have := hk.write (by omega) (plK S L k i) (secM nn q) (secM_size hin.2.2)
                        rw [hwr] at this
                        exact this
                      have HSE : Hid (∀ W, RSt E tb pb S M2 G W → Calls Tryz.prog 38 #[.int .i64 (nn : Int), pgV q.lsn (.slice sa q.slots.length sc)] W (fun e w' => e = .returned (.string (secM nn q)) ∧ RSt E tb pb S M2 G w')) := Lib.hid (fun W hW => by
                        refine (rsector_any nn (by omega) hin.2.2 hsv hW.env).mono ?_
                        rintro e w' ⟨rfl, hb⟩
                        exact ⟨rfl, hW.below hb⟩)
                      have HWR : Hid (∀ W, RSt E tb pb S M2 G W → Calls Tryz.prog 20 #[.pointer (some ⟨pb, 0, none⟩), .int .i64 (plK S L k i), .string (secM nn q)] W (Ret (.int .i64 we) (RSt E tb pb S M3 G))) := Lib.hid (fun W hW => by
                        have := hW.write hk (plK S L k i) (secM nn q) (by rw [secM_size hin.2.2]; omega)
                        rw [hwr] at this
                        exact this)
                      have hcell : ∀ W M', RSt E tb pb S M' G W → W.cell? ⟨tb, 0, none⟩ = some (.pointer (some ⟨pb, 0, none⟩)) ∧ W.cell? ⟨g, off + i * 3, none⟩ = some (kI (nn : Int)) ∧ W.cell? ⟨g, off + i * 3 + 1, none⟩ = some (kI q.lsn) ∧ W.cell? ⟨g, off + i * 3 + 2, none⟩ = some (.slice sa q.slots.length sc) := fun W M' hW => ⟨(HCL.out W M' hW).1, hu W hW.env⟩
                      have HCC := Lib.hid hcell
                      have HR2 := Lib.hid (And.intro hr2 hk3)
                      have HS5 := Lib.hid hs
                      have HI := Lib.hid hil
                      have HPL1 := Lib.hid hpl1
                      obtain ⟨_, v0, _⟩ := hcell _ _ hs
                      obtain ⟨_, t1, t2, _⟩ := HCL.out _ _ hs
                      have hfr := HP.out.2.2.2.2.1
                      obtain ⟨frm, hfrm⟩ : ∃ frm, S.frm = frm := ⟨_, rfl⟩
                      have HFRM := Lib.hid hfrm
                      rw [hfrm] at t1 hfr
                      obtain ⟨fr0, fr1⟩ := hfr
                      have n9 : (nn : Int) < 1024 := by omega
                      have n0 : (0 : Int) ≤ (nn : Int) := by omega
                      have w1 : IntKind.i64.wrap (frm + tw) = frm + tw := IntWalk.i64_in _ (by omega)
                      have w2 : IntKind.i64.wrap (frm + tw + (nn : Int)) = frm + tw + (nn : Int) := IntWalk.i64_in _ (by omega)
                      clear hr hk hs hp hu hsv hin hr2 hk3 hwr hcell hi hil hpl1 hl1024 hfrm
                      generalize secM nn q = sq at *
                      go_upto_if 96 with (fail)
                      go_cut [10] (fun v10 wx => v10 = .int .i64 (plK S L k i) ∧ RSt E tb pb S M2 G wx)
                      case first =>
                        rcases HKK.out with rfl | rfl
                        · have e : plK S L 0 i = frm + (i : Int) := by unfold plK; rw [if_pos rfl, HFRM.out]
                          have HE := Lib.hid e
                          clear e HSE HWR HR2
                          go_wp2_with fail
                          go_meet
                          exact ⟨by rw [HE.out], HS5.out⟩
                        · have HE : Hid (plK S L 1 i = frm + tw + (nn : Int)) := Lib.hid (by rw [HPL1.out, HFRM.out, HTW.out])
                          have HB : Hid (∀ m, RSt E tb pb S M2 G (wr.drewN m)) := Lib.hid (fun m => HS5.out.below (Grown.drewN _ m).below)
                          clear HSE HWR HR2
                          go_upto_region 26 with (fail)
                          go_quiet (fail)
                          go_wp2_with fail
                          go_meet
                          exact ⟨by rw [HE.out], HB.out _⟩
                      case rest =>
                        obtain ⟨rfl, hs⟩ := hcut
                        clear w1 w2 t1 t2 v0 HS5
                        have K1 := Lib.hid (HCC.out _ _ hs)
                        have hd1 : RSt E tb pb S M2 G wc.drew := hs.below (Grown.drewN wc 1).below
                        have K2 := Lib.hid (HCC.out _ _ hd1)
                        have HD1 := Lib.hid hd1
                        clear hs hd1
                        go_upto_region 27 with (fail)
                        go_cut [11] (fun v11 wx => v11 = .int .i64 we ∧ RSt E tb pb S M3 G wx)
                        case first =>
                          clear HR2
                          generalize plK S L k i = pli at *
                          go_region_held3 (fun w' => w'.cell? ⟨tb, 0, none⟩ = some (.pointer (some ⟨pb, 0, none⟩)) ∧ w'.cell? ⟨g, off + i * 3, none⟩ = some (kI (nn : Int)) ∧ w'.cell? ⟨g, off + i * 3 + 1, none⟩ = some (kI q.lsn) ∧ w'.cell? ⟨g, off + i * 3 + 2, none⟩ = some (.slice sa q.slots.length sc))
                            (with_reducible first | exact K1.out | exact K2.out | exact K5.out | exact K7.out)
                            (first
                              | (go_at_call 38
                                 with_reducible refine (HSE.out _ HD1.out).mono ?_
                                 rintro e w7 ⟨rfl, hs7⟩
                                 have HS8 := Lib.hid hs7
                                 have K5 := Lib.hid (HCC.out _ _ hs7)
                                 clear hs7)
                              | (go_at_call 20
                                 with_reducible refine (HWR.out _ HS8.out).mono ?_
                                 rintro e w9 ⟨rfl, hs9⟩
                                 have HS9 := Lib.hid hs9
                                 have K7 := Lib.hid (HCC.out _ _ hs9)
                                 clear hs9))
                          all_goals
                            clear K1 K2 K7 HCC HSE HWR HS8
                            go_wp2_with fail
                            go_meet
                            exact ⟨rfl, HS9.out⟩
                        case rest =>
                          obtain ⟨rfl, hs⟩ := hcut
                          clear K1 K2 HCC HSE HWR HD1
                          by_cases hz : we = 0
                          · subst hz
                            have FIN : Hid (layQ M3 ((wsOf (plK S L k) L).drop (i + 1)) = (r1, M1) ∧ PlOk (bd + 150 * k + (i + 1)) M3 ∧ RSt E tb pb S M3 G wc) := Lib.hid ⟨by have := HR2.out.1; rw [if_neg (fun h => h rfl)] at this; exact this, HR2.out.2, hs⟩
                            clear hs HR2
                            go_wp2_with fail
                            exact ⟨⟨i + 1, M3, by have := HI.out; omega, by simp, FIN.out⟩, by have := HI.out; simp only [RowKit.intOf]; omega⟩
                          · have hz1 : (we == 0) = false := by rw [beq_eq_false_iff_ne]; exact hz
                            have hrr := HR2.out.1
                            rw [if_pos hz] at hrr
                            simp only [Prod.mk.injEq] at hrr
                            obtain ⟨rfl, rfl⟩ := hrr
                            have hgo := HGO.out
                            rw [if_pos hz] at hgo
                            subst hgo
                            have HDN := Lib.hid (rdone_any hs we)
                            rw [if_neg hz] at HDN
                            clear hs HR2 HGO hz
                            go_wp2_with (go_at_call 49; refine (HDN.out).mono ?_; rintro e w6 ⟨rfl, hs6⟩; have HS6 := Lib.hid hs6; clear hs6)
                            go_ret
                            exact ⟨rfl, HS6.out⟩
                    · obtain rfl : i = L.length := by omega
                      have i1 : ((L.length : Int) < (L.length : Int)) = False := eq_false (by omega)
                      rw [List.drop_of_length_le (by rw [wsOf_len]; omega)] at hr
                      have HR2 : Hid (syncM M2 = (r1, M1)) := Lib.hid hr
                      have HK2 := Lib.hid (hk.mono (b' := bd + 150 * k + 120) (by have := HP.out.2.2.1; omega) (by have := HP.out.2.1; have := HKF.out; omega))
                      have HS5 := Lib.hid hs
                      clear hr hk hs hi hil
                      go_wp2_with fail
                      go_meet
                      exact ⟨M2, HR2.out, HK2.out, HS5.out⟩
                case rest =>
                  obtain ⟨M2, hsy, hk2, hs⟩ := hcut
                  have HSY := Lib.hid (hs.sync hk2)
                  have hk3 := hk2.sync (by have := HP.out.2.1; omega)
                  rw [hsy] at HSY hk3
                  have HK3 := Lib.hid hk3
                  obtain ⟨t0, _⟩ := HCL.out _ _ hs
                  clear hsy hk2 hs hk3
                  by_cases hr1 : r1 = 0
                  · subst hr1
                    have hgo := HGO.out
                    rw [if_neg (by simp)] at hgo
                    have HGO2 := Lib.hid hgo
                    clear hgo HGO
                    go_wp2_with (go_at_call 39; refine (HSY.out).mono ?_; rintro e w5 ⟨rfl, hs5⟩; have HS5 := Lib.hid hs5; clear hs5)
                    exact ⟨⟨k + 1, f, M1, by have := HKF.out; omega, by simp, HGO2.out, HK3.out.mono (by omega) (by have := HP.out.2.1; have := HKF.out; omega), HS5.out⟩, by simp only [RowKit.intOf]; omega⟩
                  · have hz1 : (r1 == 0) = false := by rw [beq_eq_false_iff_ne]; exact hr1
                    have hgo := HGO.out
                    rw [if_pos hr1] at hgo
                    subst hgo
                    have HDN : Hid (∀ W, RSt E tb pb S M1 G W → Calls Tryz.prog 49 #[.pointer (some ⟨tb, 0, none⟩), .int .i64 r1] W (Ret (.int .i64 r1) (RSt E tb pb (S.die true) M1 G))) := Lib.hid (fun W hW => by
                      have := rdone_any hW r1
                      rw [if_neg hr1] at this
                      exact this)
                    clear HGO hr1
                    go_wp2_with (first
                      | (go_at_call 39; refine (HSY.out).mono ?_; rintro e w5 ⟨rfl, hs5⟩; have HS5 := Lib.hid (HDN.out _ hs5); clear hs5)
                      | (go_at_call 49; refine (HS5.out).mono ?_; rintro e w6 ⟨rfl, hs6⟩; have HS6 := Lib.hid hs6; clear hs6))
                    go_ret
                    exact ⟨rfl, HS6.out⟩
          case rest =>
            obtain ⟨M2, rfl, hs⟩ := hcut
            have H5 : Hid (RSt E tb pb (putT S (L.take 0)) M2 G wc) := Lib.hid hs
            clear hs HS3 HGO
            go_wp2_with fail
            go_loopw [13] (fun v13 wr => ∃ i : Nat, i ≤ L.length ∧ v13 = .int .i64 (i : Int) ∧ RSt E tb pb (putT S (L.take i)) M2 G wr) (fun v13 _ => 2000 - (RowKit.intOf v13).toNat)
            case atStart => exact ⟨0, by omega, rfl, H5.out⟩
            case round =>
              clear H5
              obtain ⟨i, hi, rfl, hs⟩ := hrel
              have i0 : (0 : Int) ≤ (i : Int) := by omega
              by_cases hil : i < L.length
              · have i1 : (i : Int) < (L.length : Int) := by omega
                obtain ⟨p, hp⟩ : ∃ p, L[i]? = some p := ⟨_, List.getElem?_eq_getElem hil⟩
                obtain ⟨g, off, sv, rfl, hsv, hu⟩ := HC.out i p hp
                have hin := HIN.out p (List.mem_of_getElem? hp)
                obtain ⟨sa, sc, rfl, _⟩ := id hsv
                obtain ⟨S3, hS3⟩ : ∃ S3, putT S (L.take i) = S3 := ⟨_, rfl⟩
                rw [hS3] at hs
                have htk : L.take (i + 1) = L.take i ++ [p] := by rw [List.take_add_one, hp]; rfl
                have hnx : putT S (L.take (i + 1)) = S3.set p.1.toNat p.2 := by rw [htk, putT_snoc, hS3]
                have hpl : S3.pages.length = len := by rw [← hS3, ← HLEN.out]; exact (putT_keep _ _).2.2.1
                obtain ⟨n, q⟩ := p
                simp only at hsv hu hin hnx
                obtain ⟨nn, rfl⟩ : ∃ nn : Nat, n = (nn : Int) := ⟨n.toNat, by omega⟩
                rw [Int.toNat_natCast] at hnx
                obtain ⟨p0, hp0⟩ : ∃ p0, S3.pages[nn]? = some p0 := ⟨_, List.getElem?_eq_getElem (by omega)⟩
                obtain ⟨u0, u1, u2⟩ := hu wr hs.env
                obtain ⟨gp, pc, q3, fz, ⟨x0, hx0⟩, ⟨x1, hx1⟩, z3, hfin⟩ := hs.setPage hp0 hsv
                rw [hpl] at q3 z3
                have FIN : Hid (RSt E tb pb (putT S (L.take (i + 1))) M2 G ((wr.setCell ⟨gp, nn * 2, none⟩ (kI q.lsn)).setCell ⟨gp, nn * 2 + 1, none⟩ (.slice sa q.slots.length sc)).drew) := Lib.hid (by
                  rw [hnx]
                  exact hfin.below (Grown.drewN _ 1).below)
                have n0 : (0 : Int) ≤ (nn : Int) := by omega
                have n1 : (nn : Int) < (len : Int) := by omega
                have K1 : Hid (wr.cell? ⟨tb, 3, none⟩ = some (.slice (some ⟨gp, 0, none⟩) len pc) ∧ wr.cell? ⟨g, off + i * 3, none⟩ = some (kI (nn : Int)) ∧ wr.cell? ⟨g, off + i * 3 + 1, none⟩ = some (kI q.lsn) ∧ wr.cell? ⟨g, off + i * 3 + 2, none⟩ = some (.slice sa q.slots.length sc)) := Lib.hid ⟨q3, u0, u1, u2⟩
                have K2 : Hid (wr.drew.cell? ⟨tb, 3, none⟩ = some (.slice (some ⟨gp, 0, none⟩) len pc) ∧ wr.drew.cell? ⟨g, off + i * 3, none⟩ = some (kI (nn : Int)) ∧ wr.drew.cell? ⟨g, off + i * 3 + 1, none⟩ = some (kI q.lsn) ∧ wr.drew.cell? ⟨g, off + i * 3 + 2, none⟩ = some (.slice sa q.slots.length sc)) := Lib.hid ⟨q3, u0, u1, u2⟩
                obtain ⟨z0, z1, z2⟩ := hu _ hfin.env
                have K3 : Hid (((wr.setCell ⟨gp, nn * 2, none⟩ (kI q.lsn)).setCell ⟨gp, nn * 2 + 1, none⟩ (.slice sa q.slots.length sc)).drew.cell? ⟨tb, 3, none⟩ = some (.slice (some ⟨gp, 0, none⟩) len pc) ∧ ((wr.setCell ⟨gp, nn * 2, none⟩ (kI q.lsn)).setCell ⟨gp, nn * 2 + 1, none⟩ (.slice sa q.slots.length sc)).drew.cell? ⟨g, off + i * 3, none⟩ = some (kI (nn : Int)) ∧ ((wr.setCell ⟨gp, nn * 2, none⟩ (kI q.lsn)).setCell ⟨gp, nn * 2 + 1, none⟩ (.slice sa q.slots.length sc)).drew.cell? ⟨g, off + i * 3 + 1, none⟩ = some (kI q.lsn) ∧ ((wr.setCell ⟨gp, nn * 2, none⟩ (kI q.lsn)).setCell ⟨gp, nn * 2 + 1, none⟩ (.slice sa q.slots.length sc)).drew.cell? ⟨g, off + i * 3 + 2, none⟩ = some (.slice sa q.slots.length sc)) := Lib.hid ⟨z3, z0, z1, z2⟩
                have HI := Lib.hid hil
                clear z0 z1 z2 z3 hs hu hsv hin hS3 htk hnx hpl hp0 hfin hp hi hil q3 u0 u1 u2
                go_upto_region 36 with (fail)
                go_region_held3 (fun W => W.cell? ⟨tb, 3, none⟩ = some (.slice (some ⟨gp, 0, none⟩) len pc) ∧ W.cell? ⟨g, off + i * 3, none⟩ = some (kI (nn : Int)) ∧ W.cell? ⟨g, off + i * 3 + 1, none⟩ = some (kI q.lsn) ∧ W.cell? ⟨g, off + i * 3 + 2, none⟩ = some (.slice sa q.slots.length sc))
                  (with_reducible first | exact K1.out | exact K2.out | exact K3.out)
                  (fail)
                all_goals
                  clear K1 K2 K3 hx0 hx1 fz
                  go_wp2_with fail
                  exact ⟨⟨i + 1, HI.out, by simp, FIN.out⟩, by have := HI.out; simp only [RowKit.intOf]; omega⟩
              · obtain rfl : i = L.length := by omega
                have i1 : ((L.length : Int) < (L.length : Int)) = False := eq_false (by omega)
                rw [List.take_length] at hs
                have FIN := Lib.hid hs
                clear hs hi hil
                go_wp2_with fail
                go_ret
                exact ⟨rfl, FIN.out⟩
  · have hz1 : (rd == 0) = false := by rw [beq_eq_false_iff_ne]; exact hz
    have hz2 : (rd != 0) = true := by rw [bne, hz1]; rfl
    obtain rfl : WT = (rd, S, M) := by
      rw [← HWT.out, ← HR.out]
      exact writeT_rdy (by rw [HR.out]; exact hz)
    go_enter Tryz.func11, Tryz.ntmps11
    go_wp2_with (go_at_call 47; refine (HRD.out).mono ?_; rintro e w2 ⟨rfl, nd, hw2⟩; have hs2 := HS.out.below (Grown.drewN _ nd).below; rw [← hw2] at hs2; have HS2 := Lib.hid hs2; clear hs2 hw2)
    go_ret
    exact ⟨rfl, HS2.out⟩
end Go.Proofs.YtgocmnejlbfplaaGreatDoor
