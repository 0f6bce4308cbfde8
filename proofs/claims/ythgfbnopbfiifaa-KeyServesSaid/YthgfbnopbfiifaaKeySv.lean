/- KeyServes walked: who waits is served. Conditions: none. -/
import Derived.Test.YthgfbnopbfiifaaKey16
import Derived.Test.YthgfbnopbfiifaaKeyV2
import Derived.Test.YthgfbnopbfiifaaKeyAr
import Derived.Test.YthgfbnopbfiifaaKeySh
import Derived.Deep.CutBlock
import Derived.StillTailTactics
namespace Go.Proofs.Ythgfbnopbfiifaa
open Go Go.MapKept Go.RowKit Go.Proofs Go.Sort

theorem wts_len (ws : List Wd) : ws.length ≤ wts ws := by
  induction ws with
  | nil => simp [wts]
  | cons x r ih => rw [wts_cons]; have := wgt_pos x; simp only [List.length_cons]; omega
theorem Sv.wlen {K : KtM} {R : List Wd} {A G : Int → Nat} {N : Nat} (h : Sv K R A G N) : K.ws.length ≤ N := by
  have h1 := h.pot
  have h2 := wts_len K.ws
  rw [wts_app] at h1
  omega
theorem Sv.le {K : KtM} {R : List Wd} {A G : Int → Nat} {N : Nat} (h : Sv K R A G N) (p : Int) : G p ≤ A p := by have := h.cnt p; omega
theorem bump_eq (A : Int → Nat) (p : Int) : (fun k => if k = p then A k + 1 else A k) = bump A p := rfl
theorem KtIs.newB {b : Nat} {K : KtM} {F : Heaplet} {w : World} (h : KtIs b K F w) (o : Obj) : KtIs b K (.blk w.heap.size o :: F) (w.alloc o) := by
  obtain ⟨A, s, back⟩ := h.split
  exact back ((s.new o).perm List.perm_middle.symm)
/-- Between two requests. -/
def SvI (b ab gb : Nat) (i : Nat) (W wr : World) : Prop := ∃ (K : KtM) (A G : Int → Nat) (ah gh : Heaplet), Sv K [] A G (4 * i) ∧ (∀ p, A p ≤ i) ∧ ArI 40 ab A ah ∧ ArI 40 gb G gh ∧ KtIs b K (ah ++ (gh ++ allOf W)) wr
/-- While words are taken. -/
def RdI (b ab gb : Nat) (A : Int → Nat) (ah : Heaplet) (i : Nat) (r : Nat) (W wr : World) : Prop := ∃ (K : KtM) (G : Int → Nat) (gh : Heaplet) (N : Nat), r + N ≤ 2000 ∧ N ≤ 4 * (i + 1) ∧ Sv K [] A G N ∧ ArI 40 gb G gh ∧ KtIs b K (ah ++ (gh ++ allOf W)) wr
/-- While the words of a round are gone over. -/
def WoI (b ab gb : Nat) (A : Int → Nat) (ah hh : Heaplet) (ws : List Wd) (N j : Nat) (W wr : World) : Prop := ∃ (K : KtM) (G : Int → Nat) (gh : Heaplet), Sv K (ws.drop j) A G (N - j) ∧ ArI 40 gb G gh ∧ KtIs b K (hh ++ (ah ++ (gh ++ allOf W))) wr
/-- All are served. -/
def DnI (b ab gb : Nat) (A : Int → Nat) (ah : Heaplet) (i : Nat) (W wr : World) : Prop := ∃ (K : KtM) (G : Int → Nat) (gh : Heaplet), Sv K [] A G (4 * (i + 1)) ∧ (∀ p l, getL p K.tab = some l → l.queue = []) ∧ (∀ p, A p = G p) ∧ ArI 40 gb G gh ∧ KtIs b K (ah ++ (gh ++ allOf W)) wr
/-- Behind a request. -/
def AfI (b ab gb : Nat) (K1 : KtM) (i : Nat) (W wr : World) : Prop := ∃ (A G : Int → Nat) (ah gh : Heaplet), Sv K1 [] A G (4 * i + 4) ∧ (∀ p, A p ≤ i + 1) ∧ ArI 40 ab A ah ∧ ArI 40 gb G gh ∧ KtIs b K1 (ah ++ (gh ++ allOf W)) wr
theorem RdI.done {b ab gb : Nat} {A : Int → Nat} {ah : Heaplet} {i : Nat} {W wr : World} (h : RdI b ab gb A ah i 2000 W wr) : DnI b ab gb A ah i W wr := by
  obtain ⟨K, G, gh, N, h1, h2, h3, h4, h5⟩ := h
  have hN : N = 0 := by omega
  subst hN
  obtain ⟨a, c⟩ := sv_done h3 (sv_zero h3)
  exact ⟨K, G, gh, h3.mono (by omega), a, c, h4, h5⟩
theorem KtIs.in3 {b : Nat} {K : KtM} {h1 h2 h3 F : Heaplet} {w : World} (h : KtIs b K (h1 ++ (h2 ++ (h3 ++ F))) w) : ∃ A0, Sat w (h3 ++ (A0 ++ F)) ∧ (∀ w', Sat w' (A0 ++ F) → Sat w' (h1 ++ F)) ∧ ∀ h3' w', Sat w' (h3' ++ (A0 ++ F)) → KtIs b K (h1 ++ (h2 ++ (h3' ++ F))) w' := by
  obtain ⟨A, s, back⟩ := h.split
  refine ⟨A ++ (h1 ++ h2), sat_ap (h1 := A ++ (h1 ++ h2)) (by simpa using s), fun w' s' => ?_, fun h3' w' s' => back ?_⟩
  · have s1 : Sat w' (A ++ (h1 ++ (h2 ++ F))) := by simpa using s'
    exact (sat_ap (h1 := h1) (h2 := h2) s1.right).right
  · have := sat_ap (h2 := A ++ (h1 ++ h2)) s'
    simpa using this
theorem KtIs.in1 {b : Nat} {K : KtM} {h1 F : Heaplet} {w : World} (h : KtIs b K (h1 ++ F) w) : ∃ A0, Sat w (h1 ++ (A0 ++ F)) ∧ ∀ {h1' w'}, Sat w' (h1' ++ (A0 ++ F)) → KtIs b K (h1' ++ F) w' := by
  obtain ⟨A, s, back⟩ := h.split
  exact ⟨A, sat_ap s, fun {h1' w'} s' => back (sat_ap s')⟩
set_option maxRecDepth 100000 in
set_option maxHeartbeats 16000000 in
theorem serves_walk (p : Option Addr) (len cap : Nat) (V0 V1 V2 : Nat → Int) (V3 : Nat → Bool) (W : World) (ha : Acts14 W p len V0 V1 V2 V3) :
    Calls Try.prog 4 #[.slice p len cap] W fun e W' => e = .returned (.bool true) ∧ Below W.heap.size W W' := by
  have Ha := Lib.hid ha
  have hlen := ha.1
  clear ha
  go_enter Try.func4, Try.ntmps4
  go_wp2_with fail
  refine (awake14 (allOf W) W (sat_all W)).mono ?_
  rintro e w0 ⟨rfl, hs⟩
  have HS0 := Lib.hid hs
  clear hs
  go_wp2_with fail
  refine (key_new (allOf W) w0 HS0.out).mono ?_
  rintro e w1 ⟨b, rfl, hL⟩
  have h1 := (KtIs.newB hL (.cells #[.slice none 0 0, .slice none 0 0, .slice none 0 0, .slice none 0 0] 40)).newB (.cells #[.slice none 0 0, .slice none 0 0, .slice none 0 0, .slice none 0 0] 40)
  rw [World.size_alloc] at h1
  have h2 : SvI b w1.heap.size (w1.heap.size + 1) 0 W ((w1.alloc (.cells #[.slice none 0 0, .slice none 0 0, .slice none 0 0, .slice none 0 0] 40)).alloc (.cells #[.slice none 0 0, .slice none 0 0, .slice none 0 0, .slice none 0 0] 40)) :=
    ⟨_, _, _, _, _, sv_start, fun p => Nat.zero_le _, ar_start _ _, ar_start _ _, h1.permF (List.Perm.swap _ _ _)⟩
  have H0 := Lib.hid h2
  clear hL HS0 h1 h2
  go_wp2_with fail
  generalize w1.heap.size + 1 = gb at *
  generalize w1.heap.size = ab at *
  go_loopw [6] (fun v6 wr => ∃ i : Nat, i ≤ len ∧ i ≤ 60 ∧ v6 = .int .i64 i ∧ SvI b ab gb i W wr ∧ ((i = len ∨ i = 60) → ∃ (K : KtM) (A : Int → Nat) (ah gh : Heaplet), ArI 40 ab A ah ∧ ArI 40 gb A gh ∧ KtIs b K (ah ++ (gh ++ allOf W)) wr)) (fun v6 _ => 200 - (RowKit.intOf v6).toNat)
  case atStart =>
    obtain ⟨K, A, G, ah, gh, k1, k2, k3, k4, k5⟩ := H0.out
    refine ⟨0, by omega, by omega, rfl, H0.out, fun _ => ?_⟩
    have hAG : A = G := by
      funext p
      have h1 := k2 p
      have h2 := k1.le p
      omega
    exact ⟨K, A, ah, gh, k3, by rw [hAG]; exact k4, k5⟩
  case round =>
    obtain ⟨i, hi1, hi2, rfl, hSv, hend⟩ := hrel
    clear H0
    have j0 : (0 : Int) ≤ (i : Int) := by omega
    by_cases hlt : i < len ∧ i < 60
    · obtain ⟨hlt1, hlt2⟩ := hlt
      obtain ⟨K, A, G, ah, gh, hsv, hA1, har, hgr, hK⟩ := hSv
      obtain ⟨ba, off, rfl, hba, ⟨hA, hA0, hAA⟩, ⟨hB, hB0, hB1⟩, ⟨hC, hC0, hC1⟩, hD⟩ := (Ha.out).2 i hlt1
      have hfr := hK.frame.right.right
      have c1 : wr.cell? ⟨ba, off + i * 4 + 1, none⟩ = some (kI (V1 i)) := (hfr.cellOld (a := ⟨ba, off + i * 4 + 1, none⟩) hba).trans hB
      have c2 : wr.cell? ⟨ba, off + i * 4 + 2, none⟩ = some (kI (V2 i)) := (hfr.cellOld (a := ⟨ba, off + i * 4 + 2, none⟩) hba).trans hC
      have c3 : wr.cell? ⟨ba, off + i * 4 + 3, none⟩ = some (.bool (V3 i)) := (hfr.cellOld (a := ⟨ba, off + i * 4 + 3, none⟩) hba).trans hD
      generalize V1 i = v1 at *
      generalize V2 i = v2 at *
      generalize V3 i = x at *
      obtain ⟨cl, hcl, l0, l1⟩ : ∃ cl, wrap64 (1 + wrap64 ((IntKind.u64.wrap v1).tmod 8)) = cl ∧ 1 ≤ cl ∧ cl ≤ 8 := ⟨_, rfl, (uone_bd v1).1, (uone_bd v1).2⟩
      obtain ⟨q, hq, q0, q1⟩ : ∃ q, wrap64 ((IntKind.u64.wrap v2).tmod 4) = q ∧ 0 ≤ q ∧ q < 4 := ⟨_, rfl, umod_bd v2 4 (by omega) (by omega)⟩
      have HQ := Lib.hid (And.intro hcl hq)
      have hask := ask_any hK cl q x (fun l hl => hsv.fit q l hl) (by have := hsv.wlen; omega)
      have hst := sv_ask hsv x (c := cl) (p := q) ⟨l0, l1⟩ ⟨q0, q1⟩
      generalize askM K cl q x = res at *
      obtain ⟨er, K1⟩ := res
      simp only at hask hst
      have HASK := Lib.hid hask
      have HST := Lib.hid hst
      have HAR := Lib.hid (And.intro har (And.intro hgr hA1))
      clear hsv hA1 har hgr hK hA hB hC hD hfr hcl hq hask hst hend
      go_upto_region 11 with (fail)
      rw [HQ.out.1, HQ.out.2]
      clear HQ
      go_wp2_with fail
      refine (HASK.out).mono ?_
      rintro e w2 ⟨rfl, h2⟩
      have H2 := Lib.hid h2
      clear h2 HASK c1 c2 c3
      have hec : er = 0 ∨ er = 31 := by
        rcases HST.out with ⟨h, _⟩ | ⟨h, _⟩
        · exact .inl h
        · exact .inr h
      have HEC := Lib.hid hec
      clear hec
      go_upto_if 56 with (fail)
      go_cut [] (fun wx => AfI b ab gb K1 i W wx)
      case first =>
        rcases HST.out with ⟨rfl, hsv⟩ | ⟨rfl, hsv⟩
        · obtain ⟨har, hgr, hA1⟩ := HAR.out
          obtain ⟨A0, s0, back⟩ := H2.out.in1
          obtain ⟨a, cp, hcell, hpush⟩ := ar_push (F := A0 ++ (gh ++ allOf W)) har q0 q1 (by have := hA1 q; omega) cl
          have c0 := hcell _ _ s0
          have k0 := hcell _ _ ((s0.new (.cells #[kI cl] 3)).tail)
          obtain ⟨a', c', w3, hap, k1, f1, _, ah', har', s3⟩ := hpush _ _ (s0.new (.cells #[kI cl] 3))
          have FIN : Hid (AfI b ab gb K1 i W (w3.setCell ⟨ab, q.toNat, none⟩ (.slice a' (A q + 1) c'))) := Lib.hid ⟨bump A q, G, ah', gh, hsv, fun p => by unfold bump; have := hA1 p; split <;> omega, har', hgr, back s3⟩
          have HAP := Lib.hid hap
          have q4 : q.toNat < 4 := by omega
          clear hsv har hgr hA1 hcell hpush s0 back hap har' s3 HAR HST H2 HEC
          go_wp2_with (at_builtin; refine wpList_append_run rfl _ _ _ _ rfl _ _ _ _ rfl rfl HAP.out ?_)
          go_meet
          exact FIN.out
        · have FIN : Hid (AfI b ab gb K1 i W w2) := Lib.hid ⟨A, G, ah, gh, hsv, fun p => by have := HAR.out.2.2 p; omega, HAR.out.1, HAR.out.2.1, H2.out⟩
          clear hsv HAR HST H2 HEC
          go_wp2_with fail
          go_meet
          exact FIN.out
      case rest =>
        clear HAR HST H2
        have HAF := Lib.hid hcut
        clear hcut
        go_upto_region 14 with (fail)
        go_cut [70] (fun v70 wx => v70 = .bool false ∧ wx = wc)
        case first =>
          rcases HEC.out with rfl | rfl
          all_goals
            clear HEC
            go_wp2_with fail
            go_meet
            exact ⟨rfl, rfl⟩
        case rest =>
          obtain ⟨rfl, rfl⟩ := hcut
          clear HEC
          obtain ⟨cb, hcb⟩ : ∃ cb, cb = (!decide ((i : Int) % 3 = 0) && decide (i + 1 < len) && decide (i < 59)) := ⟨_, rfl⟩
          have HCB := Lib.hid hcb
          clear hcb
          go_upto_region 16 with (fail)
          go_cut [84] (fun v84 wx => v84 = .bool cb ∧ wx = wc)
          case first =>
            have hcb := HCB.out
            clear HCB HAF
            by_cases h3 : (i : Int) % 3 = 0
            · have e : cb = false := by rw [hcb]; simp [h3]
              subst e
              clear hcb
              go_wp2_with fail
              go_meet
              exact ⟨rfl, rfl⟩
            · have e3 : ((i : Int) % 3 = 0) = False := eq_false h3
              by_cases h4 : i + 1 < len
              · have e4 : (i : Int) < (len : Int) - 1 := by omega
                by_cases h5 : i < 59
                · have e5 : (i : Int) < 59 := by omega
                  have e : cb = true := by rw [hcb]; simp [h3, h4, h5]
                  subst e
                  clear hcb h3
                  go_wp2_with fail
                  go_meet
                  exact ⟨by first | rfl | simp [e3], rfl⟩
                · have e5 : ((i : Int) < 59) = False := eq_false (by omega)
                  have e : cb = false := by rw [hcb]; simp [h5]
                  subst e
                  clear hcb h3
                  go_wp2_with fail
                  go_meet
                  exact ⟨rfl, rfl⟩
              · have e4 : ((i : Int) < (len : Int) - 1) = False := eq_false (by omega)
                have e : cb = false := by rw [hcb]; simp [h4]
                subst e
                clear hcb h3
                go_wp2_with fail
                go_meet
                exact ⟨rfl, rfl⟩
          case rest =>
            obtain ⟨rfl, rfl⟩ := hcut
            cases cb with
            | true =>
              have hc := HCB.out.symm
              simp only [Bool.and_eq_true, decide_eq_true_eq] at hc
              have hc1 := hc.1.2
              have hc2 := hc.2
              clear HCB hc
              have HSV : Hid (SvI b ab gb (i + 1) W wc) := Lib.hid (by
                obtain ⟨A', G', ah', gh', a1, a2, a3, a4, a5⟩ := HAF.out
                exact ⟨K1, A', G', ah', gh', a1, a2, a3, a4, a5⟩)
              clear HAF
              go_wp2_with fail
              exact ⟨⟨i + 1, by omega, by omega, by simp, HSV.out, fun u => by omega⟩, by simp only [RowKit.intOf]; omega⟩
            | false =>
              clear HCB
              obtain ⟨A, G, ah, gh, hsv, hA1, har, hgr, hK⟩ := HAF.out
              have hrd : RdI b ab gb A ah i 0 W wc := ⟨K1, G, gh, 4 * i + 4, by omega, by omega, hsv, hgr, hK⟩
              have HRD := Lib.hid hrd
              have HA := Lib.hid (And.intro hA1 har)
              clear hsv hA1 har hgr hK hrd HAF
              go_upto_block 2 with (fail)
              go_cut [10, 11, 12] (fun _ _ _ wx => DnI b ab gb A ah i W wx)
              case first =>
                go_wp2_with fail
                go_loopw [10, 11, 12] (fun v10 _ _ wr => ∃ r : Nat, r ≤ 2000 ∧ v10 = .int .i64 r ∧ RdI b ab gb A ah i r W wr) (fun v10 _ _ _ => 3000 - (RowKit.intOf v10).toNat)
                case atStart => exact ⟨0, by omega, rfl, HRD.out⟩
                case round =>
                  clear HRD
                  obtain ⟨r, hr, rfl, hrd⟩ := hrel
                  have r0 : (0 : Int) ≤ (r : Int) := by omega
                  by_cases hr2 : r < 2000
                  · have r2 : (r : Int) < 2000 := by omega
                    obtain ⟨K2, G2, gh2, N, hN1, hN2, hsv, hgr, hK⟩ := hrd
                    have HT := Lib.hid (take_any hK)
                    have HSV := Lib.hid (And.intro hsv hgr)
                    clear hsv hgr hK
                    go_wp2_with fail
                    refine (HT.out).mono ?_
                    rintro e w3 ⟨v, hh, rfl, hv, h3⟩
                    obtain ⟨av, cv, rfl⟩ := sl_form hv
                    have HV := Lib.hid hv
                    have H3 := Lib.hid h3
                    clear hv h3 HT
                    obtain ⟨ws, hws⟩ : ∃ ws, K2.ws = ws := ⟨_, rfl⟩
                    rw [hws] at HV ⊢
                    cases ws with
                    | nil =>
                      have hdn := sv_done HSV.out.1 hws
                      have htk := sv_take HSV.out.1
                      rw [hws] at htk
                      have FIN : Hid (DnI b ab gb A ah i W w3) := Lib.hid ⟨⟨K2.tab, []⟩, G2, gh2, htk.mono (by omega), hdn.1, hdn.2, HSV.out.2, H3.out.weaken⟩
                      clear HSV H3 HV hdn htk hws
                      simp only [List.length_nil]
                      go_wp2_with fail
                      go_meet
                      exact FIN.out
                    | cons y0 ws =>
                      have htk := sv_take HSV.out.1
                      rw [hws] at htk
                      have hNp : 1 ≤ N := by
                        have h1 := htk.pot
                        simp only [List.append_nil, wts_cons] at h1
                        have := wgt_pos y0
                        omega
                      have hwo : WoI b ab gb A ah hh (y0 :: ws) N 0 W w3 := ⟨⟨K2.tab, []⟩, G2, gh2, htk, HSV.out.2, H3.out⟩
                      have HWO := Lib.hid hwo
                      have hwl := htk.pot
                      have hwl2 : (y0 :: ws).length ≤ N := by
                        have := wts_len (y0 :: ws)
                        simp only [List.append_nil] at hwl
                        omega
                      have hl0 : (1 : Int) ≤ ((y0 :: ws).length : Int) := by simp only [List.length_cons]; omega
                      have hl1 : ((y0 :: ws).length : Int) ≤ 100000 := by omega
                      clear htk hwo HSV H3 hws hwl
                      generalize y0 :: ws = wz at *
                      go_wp2_with fail
                      have hz0 : ((wz.length : Int) == 0) = false := by simp only [beq_eq_false_iff_ne]; omega
                      rw [hz0]
                      clear hz0
                      go_loopw [12] (fun v12 wr => ∃ j : Nat, j ≤ wz.length ∧ v12 = .int .i64 j ∧ WoI b ab gb A ah hh wz N j W wr) (fun v12 _ => 200000 - (RowKit.intOf v12).toNat)
                      case atStart => exact ⟨0, by omega, rfl, HWO.out⟩
                      case round =>
                        clear HWO
                        obtain ⟨j, hj, rfl, hwo⟩ := hrel
                        have jj0 : (0 : Int) ≤ (j : Int) := by omega
                        by_cases hjl : j < wz.length
                        · have j1 : (j : Int) < (wz.length : Int) := by omega
                          obtain ⟨K3, G3, gh3, hsv, hgr, hK⟩ := hwo
                          obtain ⟨y, hy⟩ : ∃ y, wz[j]? = some y := ⟨_, List.getElem?_eq_getElem hjl⟩
                          have hdr : wz.drop j = y :: wz.drop (j + 1) := by
                            rw [List.drop_eq_getElem_cons hjl]
                            have := List.getElem?_eq_getElem hjl
                            rw [hy] at this
                            rw [← Option.some.inj this]
                          rw [hdr] at hsv
                          obtain ⟨g, e7, u0, u1, u2, u3⟩ := wd_at HV.out hK.frame hy rfl
                          subst e7
                          have hyp := hsv.wp y (by simp)
                          obtain ⟨yk, yc, yp, yx⟩ := y
                          simp only at u0 u1 u2 u3 hyp
                          obtain ⟨p0, p1⟩ := hyp
                          have hsub : N - j - 1 = N - (j + 1) := by omega
                          have HY := Lib.hid hy
                          clear hy hdr
                          go_upto_block 5 with (fail)
                          go_cut [] from 100 to 143 (fun wx => WoI b ab gb A ah hh wz N (j + 1) W wx)
                          case first =>
                            cases yk with
                            | false =>
                              have hsv2 := sv_grant hsv rfl
                              rw [hsub] at hsv2
                              have hGb : G3 yp ≤ 100000 := by have h1 := hsv.le yp; have h2 := HA.out.1 yp; omega
                              obtain ⟨A0, s0, sub, back⟩ := hK.in3
                              obtain ⟨a, cp, hcell, hpush⟩ := ar_push (F := A0 ++ allOf W) hgr p0 p1 hGb yc
                              have cl := hcell _ _ s0
                              obtain ⟨a', c', w5, hap, cl5, fl5, hF5, gh', hgr', hs6⟩ := hpush _ _ (s0.new (.cells #[kI yc] 3)).drew
                              obtain ⟨g2, e2, _, v1, v2, _⟩ := wd_at HV.out (sub w5 hF5) (HY.out) rfl
                              cases e2
                              have hfin : WoI b ab gb A ah hh wz N (j + 1) W (w5.setCell ⟨gb, yp.toNat, none⟩ (.slice a' (G3 yp + 1) c')) := ⟨K3, bump G3 yp, gh', hsv2, hgr', back _ _ hs6⟩
                              have cla : (wr.alloc (.cells #[kI yc] 3)).cell? ⟨gb, yp.toNat, none⟩ = some (.slice a (G3 yp) cp) := hcell _ _ (s0.new (.cells #[kI yc] 3)).tail
                              obtain ⟨g3, e3, _, n1, n2, _⟩ := wd_at HV.out (sub _ (s0.new (.cells #[kI yc] 3)).tail.right) HY.out rfl
                              cases e3
                              have hS5 : w5.cell? ⟨gb, yp.toNat, none⟩ = some (.slice a (G3 yp) cp) ∧ w5.cell? ⟨g, j * 4 + 2, none⟩ = some (kI yp) ∧ w5.cell? ⟨g, j * 4 + 1, none⟩ = some (kI yc) := ⟨cl5, v2, v1⟩
                              have HAP := Lib.hid hap
                              have FIN := Lib.hid hfin
                              clear hsv hsv2 hgr hK s0 back hcell hpush hGb hap cl5 hF5 hgr' hs6 v1 v2 hfin sub HY
                              go_upto_region 26 with (fail)
                              go_region_law ((refine step_append_run (by rfl) _ _ _ _ (by rfl) _ _ _ w5 (by rfl) (by rfl) HAP.out ?_))
                              all_goals
                                go_wp2_with fail
                                go_meet
                                exact FIN.out
                            | true =>
                              have hfr := free_any (hK.grown (Grown.drew wr)) yc yp (!yx) (fun l hl => hsv.fit yp l hl) (by have := hsv.wlen; omega)
                              have hsv2 := sv_free hsv rfl
                              rw [hsub] at hsv2
                              simp only at hsv2
                              have HFR := Lib.hid hfr
                              have FIN : Hid (∀ w', KtIs b (freeM K3 yc yp (!yx)).2 (hh ++ (ah ++ (gh3 ++ allOf W))) w' → WoI b ab gb A ah hh wz N (j + 1) W w') := Lib.hid (fun w' hk => ⟨_, G3, gh3, hsv2, hgr, hk⟩)
                              clear hsv hsv2 hgr hK hfr
                              go_upto_region 27 with (fail)
                              go_still_tail 17, (by kernel_rfl)
                              change wpList _ _ _ _ _ (World.drew _)
                              generalize World.drew wr = wd at *
                              go_wp2_with fail
                              refine (HFR.out).mono ?_
                              rintro e w4 ⟨rfl, h4⟩
                              have FIN2 := Lib.hid (FIN.out w4 h4)
                              clear h4 HFR u0 u1 u2 u3 FIN
                              go_wp2_with fail
                              go_meet
                              exact FIN2.out
                          case rest =>
                            have FIN2 := Lib.hid hcut
                            clear hcut u0 u1 u2 u3 hsv hgr hK
                            go_wp2_with fail
                            exact ⟨⟨j + 1, by omega, by simp, FIN2.out⟩, by simp only [RowKit.intOf]; omega⟩
                        · obtain rfl : j = wz.length := by omega
                          obtain ⟨K3, G3, gh3, hsv, hgr, hK⟩ := hwo
                          rw [List.drop_length] at hsv
                          have FIN : Hid (RdI b ab gb A ah i (r + 1) W wr) := Lib.hid ⟨K3, G3, gh3, N - wz.length, by omega, by omega, hsv, hgr, hK.weaken⟩
                          clear hsv hgr hK hj hjl
                          go_wp2_with fail
                          exact ⟨⟨r + 1, by omega, by simp, FIN.out⟩, by simp only [RowKit.intOf]; omega⟩
                  · obtain rfl : r = 2000 := by omega
                    have FIN := Lib.hid hrd.done
                    clear hrd hr2
                    go_wp2_with fail
                    go_meet
                    exact FIN.out
              case rest =>
                clear HRD
                obtain ⟨K2, G2, gh2, hsv, hqs, hAG, hgr, hK⟩ := hcut
                have HW := Lib.hid (waits_none hK hqs)
                have FIN : Hid (∀ w', KtIs b K2 (ah ++ (gh2 ++ allOf W)) w' → SvI b ab gb (i + 1) W w' ∧ ∃ (K : KtM) (A : Int → Nat) (ah gh : Heaplet), ArI 40 ab A ah ∧ ArI 40 gb A gh ∧ KtIs b K (ah ++ (gh ++ allOf W)) w') := Lib.hid (fun w' hk => by
                  have e : A = G2 := funext hAG
                  exact ⟨⟨K2, A, G2, ah, gh2, hsv, HA.out.1, HA.out.2, hgr, hk⟩, ⟨K2, A, ah, gh2, HA.out.2, by rw [e]; exact hgr, hk⟩⟩)
                clear hsv hqs hAG hgr hK HA
                go_wp2_with fail
                refine (HW.out).mono ?_
                rintro e w3 ⟨rfl, h3⟩
                have FIN2 := Lib.hid (FIN.out w3 h3)
                clear h3 HW FIN
                go_wp2_with fail
                exact ⟨⟨i + 1, by omega, by omega, by simp, FIN2.out.1, fun _ => FIN2.out.2⟩, by simp only [RowKit.intOf]; omega⟩
    · obtain ⟨K, A, ah, gh, har, hgr, hK⟩ := hend (by omega)
      have HAR := Lib.hid (And.intro har hgr)
      have HS := Lib.hid (show Sat wr (ah ++ (gh ++ allOf W)) from hK.frame)
      clear hSv hend har hgr hK
      have hil : i = 60 ∧ 60 < len ∨ i = len := by omega
      rcases hil with ⟨rfl, h1⟩ | rfl
      all_goals
        clear hlt
        go_wp2_with fail
        go_loopw [13] (fun v13 wx => ∃ p : Int, 0 ≤ p ∧ p ≤ 4 ∧ v13 = .int .i64 p ∧ Sat wx (ah ++ (gh ++ allOf W))) (fun v13 _ => 10 - (RowKit.intOf v13).toNat)
        case atStart => exact ⟨0, by omega, by omega, rfl, HS.out⟩
        case round =>
          clear HS
          obtain ⟨p, p0, p1, rfl, hs⟩ := hrel
          by_cases p4 : p < 4
          · obtain ⟨a1, cp1, x1⟩ := ar_cell HAR.out.1 hs p0 p4
            obtain ⟨a2, cp2, x2⟩ := ar_cell HAR.out.2 hs.right p0 p4
            have FIN : Hid (∀ n, Sat (wr.drewN n) (ah ++ (gh ++ allOf W))) := Lib.hid fun n => hs.of_heap rfl ⟨rfl, rfl, rfl⟩
            clear hs
            go_upto_region 33 with (fail)
            go_quiet (fail)
            go_wp2_with fail
            exact ⟨⟨p + 1, by omega, by omega, by simp, FIN.out _⟩, by simp only [RowKit.intOf]; omega⟩
          · obtain rfl : p = 4 := by omega
            have FIN := Lib.hid hs.right.right.below
            clear hs p4
            go_wp2_with fail
            go_ret
            exact ⟨rfl, FIN.out⟩
end Go.Proofs.Ythgfbnopbfiifaa
