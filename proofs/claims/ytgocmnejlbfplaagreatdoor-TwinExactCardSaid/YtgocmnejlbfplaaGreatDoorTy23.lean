/- Texts put together: Tx15. Conditions: none. -/
import Derived.Test.YtgocmnejlbfplaaGreatDoorTy21
import Derived.Test.YtgocmnejlbfplaaGreatDoorTy22
namespace Go.Proofs.YtgocmnejlbfplaaGreatDoor
open Go Go.MapKept Go.RowKit Go.Proofs

attribute [local go_sem] Oper.semAt_some
variable {E : Heaplet}

def ROpRet (E : Heaplet) (r : Option TS × Int × PM) (pb : Nat) (F : Heaplet) (e : Ending) (w' : World) : Prop := match r.1 with
  | some S => ∃ tb, e = .returned (.tuple #[.pointer (some ⟨tb, 0, none⟩), .int .i64 r.2.1]) ∧ RSt E tb pb S r.2.2 F w'
  | none => e = .returned (.tuple #[.pointer none, .int .i64 r.2.1]) ∧ RQ pb r.2.2 (E ++ F) w'
theorem zero_eq {s : ByteArray} (h : s.size = 256) : zeroB s = decide (s = zeros256) := by
  have hl : s.data.toList.length = 256 := by rw [Array.length_toList]; exact h
  by_cases e : s = zeros256
  · rw [decide_eq_true e, e]
    decide +kernel
  · rw [decide_eq_false e]
    cases hz : zeroB s with
    | false => rfl
    | true =>
      exfalso
      apply e
      apply ba_ext
      unfold zeroB at hz
      rw [List.all_eq_true] at hz
      show s.data.toList = List.replicate 256 0
      rw [List.eq_replicate_iff]
      exact ⟨hl, fun b hb => by have := hz b hb; simpa using this⟩
theorem die_die (S : TS) : S.die S.dead = S := rfl
set_option maxRecDepth 100000 in
set_option maxHeartbeats 4000000 in
theorem ropen_any {pb : Nat} {M : PM} {F : Heaplet} {w : World} (h : RQ pb M (E ++ F) w) {bd : Nat} (hk : PlOk bd M) (hb : bd + 2000 ≤ 100000) (hc : M.count ≤ 16384) (frm twins pages : Int) :
    Calls Tryz.prog 9 #[.pointer (some ⟨pb, 0, none⟩), .int .i64 frm, .int .i64 twins, .int .i64 pages] w (ROpRet E (openP M frm twins pages) pb F) := by
  obtain ⟨r, hr⟩ : ∃ r, openP M frm twins pages = r := ⟨_, rfl⟩
  rw [hr]
  have HR := Lib.hid hr
  have HP := Lib.hid h
  have hc1 : 1 ≤ M.count := hk.2.2.2.2.1
  have HDN : Hid (Calls Tryz.prog 33 #[.pointer (some ⟨pb, 0, none⟩)] w (Ret (.bool M.down) (Same w))) := Lib.hid (rp_down h.1)
  have HLF : Hid (Calls Tryz.prog 34 #[.pointer (some ⟨pb, 0, none⟩)] w (Ret (.int .i64 M.life) (Same w))) := Lib.hid (rp_life h.1)
  have HK := Lib.hid (And.intro hk hb)
  obtain ⟨_, _, _, _, k0, _, _, _, _, _, _, _⟩ := h.1.cells
  clear hr h hk hb
  obtain ⟨cnt, hcnt⟩ : ∃ cnt, M.count = cnt := ⟨_, rfl⟩
  rw [hcnt] at hc hc1 k0
  have HCN := Lib.hid hcnt
  clear hcnt
  by_cases a1 : frm < 0
  · obtain rfl : r = (none, 1, M) := by rw [← HR.out]; unfold openP; rw [if_pos (.inl a1)]
    go_enter Tryz.func9, Tryz.ntmps9
    go_wp2_with fail
    go_ret2
    exact ⟨rfl, HP.out⟩
  have b1 : (frm < 0) = False := eq_false a1
  by_cases a2 : twins < 1
  · obtain rfl : r = (none, 1, M) := by rw [← HR.out]; unfold openP; rw [if_pos (.inr (.inl a2))]
    go_enter Tryz.func9, Tryz.ntmps9
    go_wp2_with fail
    go_ret2
    exact ⟨rfl, HP.out⟩
  have b2 : (twins < 1) = False := eq_false a2
  by_cases a3 : 64 < twins
  · obtain rfl : r = (none, 1, M) := by rw [← HR.out]; unfold openP; rw [if_pos (.inr (.inr (.inl a3)))]
    go_enter Tryz.func9, Tryz.ntmps9
    go_wp2_with fail
    go_ret2
    exact ⟨rfl, HP.out⟩
  have b3 : (64 < twins) = False := eq_false a3
  by_cases a4 : pages < 1
  · obtain rfl : r = (none, 1, M) := by rw [← HR.out]; unfold openP; rw [if_pos (.inr (.inr (.inr (.inl a4))))]
    go_enter Tryz.func9, Tryz.ntmps9
    go_wp2_with fail
    go_ret2
    exact ⟨rfl, HP.out⟩
  have b4 : (pages < 1) = False := eq_false a4
  by_cases a5 : 1024 < pages
  · obtain rfl : r = (none, 1, M) := by rw [← HR.out]; unfold openP; rw [if_pos (.inr (.inr (.inr (.inr (.inl a5)))))]
    go_enter Tryz.func9, Tryz.ntmps9
    go_wp2_with fail
    go_ret2
    exact ⟨rfl, HP.out⟩
  have b5 : (1024 < pages) = False := eq_false a5
  have c1 : 1 ≤ twins := by omega
  have c2 : twins ≤ 64 := by omega
  have c3 : 1 ≤ pages := by omega
  have c4 : pages ≤ 1024 := by omega
  have c5 : 0 ≤ frm := by omega
  have w1 : IntKind.i64.wrap (cnt - twins) = cnt - twins := IntWalk.i64_in _ (by omega)
  have w2 : IntKind.i64.wrap (cnt - twins - pages) = cnt - twins - pages := IntWalk.i64_in _ (by omega)
  by_cases a6 : cnt - twins - pages < frm
  · obtain rfl : r = (none, 1, M) := by rw [← HR.out]; unfold openP; rw [if_pos (.inr (.inr (.inr (.inr (.inr (by rw [HCN.out]; exact a6))))))]
    go_enter Tryz.func9, Tryz.ntmps9
    go_wp2_with fail
    go_ret2
    exact ⟨rfl, HP.out⟩
  have b6 : (cnt - twins - pages < frm) = False := eq_false a6
  have hnb : ¬ (frm < 0 ∨ twins < 1 ∨ 64 < twins ∨ pages < 1 ∨ 1024 < pages ∨ M.count - twins - pages < frm) := by rw [HCN.out]; omega
  have c6 : frm ≤ 16384 := by omega
  have HNB := Lib.hid hnb
  clear hnb a1 a2 a3 a4 a5 a6
  obtain ⟨dn, hdn⟩ : ∃ dn, M.down = dn := ⟨_, rfl⟩
  rw [hdn] at HDN
  have HDD := Lib.hid hdn
  clear hdn
  cases dn with
  | true =>
    obtain rfl : r = (none, 10, M) := by rw [← HR.out]; unfold openP; rw [if_neg HNB.out, if_pos HDD.out]
    go_enter Tryz.func9, Tryz.ntmps9
    go_wp2_with (go_at_call 33; refine (HDN.out).mono ?_; rintro e w1 ⟨rfl, rfl⟩)
    go_ret2
    exact ⟨rfl, HP.out⟩
  | false =>
    obtain ⟨pn, hpn⟩ : ∃ pn : Nat, pages = (pn : Int) := ⟨pages.toNat, by omega⟩
    subst hpn
    obtain ⟨S0, hS0⟩ : ∃ S0 : TS, (⟨frm, twins, [], M.life, false⟩ : TS) = S0 := ⟨_, rfl⟩
    have hrr : r = if (loads S0 M pn).1 ≠ 0 then (none, (loads S0 M pn).1, (loads S0 M pn).2.2.2)
      else if (loads S0 M pn).2.2.1.dead = true ∧ (syncM (loads S0 M pn).2.2.2).1 ≠ 0 then (none, (syncM (loads S0 M pn).2.2.2).1, (syncM (loads S0 M pn).2.2.2).2)
      else (if (loads S0 M pn).2.1 = true then some ((loads S0 M pn).2.2.1.die false) else none, (if (loads S0 M pn).2.1 = true then 0 else 4), if (loads S0 M pn).2.2.1.dead = true then (syncM (loads S0 M pn).2.2.2).2 else (loads S0 M pn).2.2.2) := by
      rw [← HR.out]
      unfold openP
      rw [if_neg HNB.out, if_neg (by rw [HDD.out]; simp), hS0, Int.toNat_natCast]
    have HRR := Lib.hid hrr
    have hst0 : RSt E w.heap.size pb (S0.die false) M F (w.alloc (.cells #[.pointer (some ⟨pb, 0, none⟩), kI frm, kI twins, .slice none 0 0, kI M.life, .bool false] 75)) := by
      rw [← hS0]
      refine ⟨.slice none 0 0, [], [], [], SliceIs.nil _ _, ⟨rfl, fun i r p hr => by simp at hr⟩, ?_⟩
      exact ⟨HP.out.1.new (rsO ⟨frm, twins, [], M.life, false⟩ pb (.slice none 0 0)), HP.out.2⟩
    obtain ⟨tb, htb⟩ : ∃ tb, w.heap.size = tb := ⟨_, rfl⟩
    rw [htb] at hst0
    have HST := Lib.hid hst0
    have hs1 : S0.frm = frm ∧ S0.twins = twins ∧ S0.pages.length = 0 ∧ S0.dead = false := by rw [← hS0]; exact ⟨rfl, rfl, rfl, rfl⟩
    have HS1 := Lib.hid hs1
    clear hrr hst0 hs1 hS0 HR HNB
    go_enter Tryz.func9, Tryz.ntmps9
    go_upto_block 0 with (first
      | (go_at_call 33; refine (HDN.out).mono ?_; rintro e w1 ⟨rfl, rfl⟩)
      | (go_at_call 34; refine (HLF.out).mono ?_; rintro e w1 ⟨rfl, rfl⟩))
    generalize w.alloc (.cells #[.pointer (some ⟨pb, 0, none⟩), .int .i64 frm, .int .i64 twins, .slice none 0 0, .int .i64 M.life, .bool false] 75) = W1 at *
    clear HDN HLF htb HP k0
    have hld : ∀ k, k ≤ pn → PlOk (bd + k) (loads S0 M k).2.2.2 := fun k hk => loads_ok HK.out.1 k (by have := HK.out.2; omega)
    have hkp : ∀ k, (loads S0 M k).2.2.1.frm = frm ∧ (loads S0 M k).2.2.1.twins = twins ∧ (loads S0 M k).2.2.1.pages.length ≤ k := fun k => by
      obtain ⟨h1, h2, _, h4, _⟩ := loads_keep S0 M k
      obtain ⟨g1, g2, g3, _⟩ := HS1.out
      exact ⟨by rw [h1, g1], by rw [h2, g2], by rw [g3] at h4; omega⟩
    have HLD := Lib.hid hld
    have HKP := Lib.hid hkp
    clear hld hkp b1 b2 b3 b4 b5 b6 w1 w2
    go_wp2_with fail
    go_loopw [11, 12, 13] (fun v11 v12 v13 wr => ∃ (k : Nat) (ok : Bool) (S : TS) (M2 : PM), k ≤ pn ∧ v13 = .int .i64 k ∧ v12 = .bool (!ok) ∧ v11 = .bool S.dead ∧ loads S0 M k = (0, ok, S, M2) ∧ RSt E tb pb (S.die false) M2 F wr) (fun _ _ v13 _ => 2000 - (intOf v13).toNat)
    case atStart => exact ⟨0, true, S0, M, by omega, rfl, rfl, by rw [HS1.out.2.2.2], rfl, HST.out⟩
    case round =>
      clear HST
      obtain ⟨k, ok, S, M2, hkn, rfl, rfl, rfl, hlk, hs⟩ := hrel
      have k0 : (0 : Int) ≤ (k : Int) := by omega
      have hk2 := HLD.out k hkn
      have hkp := HKP.out k
      rw [hlk] at hk2 hkp
      simp only at hk2 hkp
      by_cases hlt : k < pn
      · have k1 : (k : Int) < (pn : Int) := by omega
        obtain ⟨hm, hhm⟩ : ∃ hm, frm + twins + (k : Int) = hm := ⟨_, rfl⟩
        have w1 : wrap64 (frm + twins) = frm + twins := IntWalk.wrap64_in _ (by omega)
        have w2 : IntKind.i64.wrap (frm + twins) = frm + twins := IntWalk.i64_in _ (by omega)
        have w3 : IntKind.i64.wrap (frm + twins + (k : Int)) = hm := by rw [IntWalk.i64_in _ (by omega)]; exact hhm
        obtain ⟨rs, re, hrd⟩ : ∃ rs re, readM M2 hm = (rs, re) := ⟨_, _, rfl⟩
        have HRD := Lib.hid (hs.read hk2 hm)
        rw [hrd] at HRD
        have HS0 := Lib.hid hs
        clear hs
        go_upto_if 78 with (go_at_call 35; refine (HRD.out).mono ?_; rintro e w3 ⟨rfl, hs3⟩; have HS3 := Lib.hid (hs3.new (.cells #[kI 0, .slice none 0 0] 48)); clear hs3)
        generalize w3.alloc (.cells #[kI 0, .slice none 0 0] 48) = W4 at *
        generalize w3.heap.size = x at *
        obtain ⟨z, hz⟩ : ∃ z, (re == 0) = z := ⟨_, rfl⟩
        have hz' : decide (re = 0) = z := by rw [← hz]; by_cases h : re = 0 <;> simp [h]
        first | rw [hz'] | rw [hz]
        have HZ := Lib.hid hz'
        have HKK := Lib.hid (And.intro hk2 (And.intro hkp (And.intro hlk (And.intro hkn hlt))))
        have HM := Lib.hid hhm
        have HRDM := Lib.hid hrd
        have kb : k < 1024 := by omega
        clear hz hz' hk2 hkp hlk hkn hlt hhm hrd HRD HS0
        go_cut [11, 17] (fun v11 v17 wx => ∃ (q2 wt : Bool) (p : Pg) (a : Option Addr) (cap : Nat) (hb : Heaplet) (M3 : PM), v11 = .bool wt ∧ v17 = .bool q2 ∧ loadP S M2 k = (0, q2, (S.die wt).push p, M3) ∧ SlAt hb (.slice a p.slots.length cap) p.slots ∧ RSt E tb pb (S.die false) M3 (.blk x (.cells #[kI p.lsn, .slice a p.slots.length cap] 48) :: (hb ++ F)) wx)
        case first =>
          have hlp : loadP S M2 k = if re = 0 then match pageM k rs with
              | some p => (0, true, S.push p, M2)
              | none => (0, zeroB rs, S.push emptyP, M2)
            else match copiedN M2 frm k S.twins.toNat with
              | none => (0, false, S.push emptyP, M2)
              | some p => if (writeM M2 hm (secM k p)).1 ≠ 0 then ((writeM M2 hm (secM k p)).1, false, S, (writeM M2 hm (secM k p)).2)
                else (0, true, (S.die true).push p, (writeM M2 hm (secM k p)).2) := by
            unfold loadP
            rw [HKK.out.2.1.1, HKK.out.2.1.2.1, HM.out, HRDM.out]
            rfl
          cases z with
          | true =>
            have hre : re = 0 := of_decide_eq_true HZ.out
            subst hre
            rw [if_pos rfl] at hlp
            have hsz : rs.size = 256 := by
              have := HKK.out.1.read (n := hm) (by rw [HRDM.out])
              rw [HRDM.out] at this
              exact this
            obtain ⟨Z, _, _, hz, hmk, _⟩ := HS3.out.view
            have HPG := Lib.hid (rpage_any k (by omega) rs hsz Z W4 hz)
            have HMK := Lib.hid hmk
            clear hz hmk
            cases hpm : pageM k rs with
            | some p =>
              rw [hpm] at HPG hlp
              have HLP : Hid (loadP S M2 k = (0, true, (S.die S.dead).push p, M2)) := Lib.hid hlp
              clear hpm hlp HS3
              go_upto_region 18 with (go_at_call 36; refine (HPG.out).mono ?_; rintro e w5 ⟨sv5, h5, hs5, rfl, hsl5⟩; obtain ⟨sa, sc, rfl, _⟩ := id hsl5; have HSL := Lib.hid hsl5; have hs6 := HMK.out w5 h5 hs5; have hs7 : RSt E tb pb (S.die false) M2 (.blk x (.cells #[kI 0, .slice none 0 0] 48) :: (h5 ++ F)) w5 := hs6.part (fun a => by simp only [cnt_cons, cnt_append]; omega); obtain ⟨x0, x1, xf⟩ := two_at hs7.frame; have hs8 := (hs7.setF (i := 0) (kI p.lsn)).setF (i := 1) (.slice sa p.slots.length sc); have HS8 := Lib.hid hs8; clear hs5 hs6 hs7 hs8 hsl5)
              go_wp2_with fail
              go_meet
              exact ⟨true, S.dead, p, sa, sc, h5, M2, rfl, rfl, HLP.out, HSL.out, HS8.out⟩
            | none =>
              rw [hpm] at HPG hlp
              have HLP : Hid (loadP S M2 k = (0, zeroB rs, (S.die S.dead).push emptyP, M2)) := Lib.hid hlp
              have hzq := zero_eq hsz
              clear hpm hlp HS3
              go_upto_region 18 with (go_at_call 36; refine (HPG.out).mono ?_; rintro e w5 ⟨sv5, h5, hs5, rfl⟩; have hs7 := HMK.out w5 [] hs5.right; obtain ⟨x0, x1, xf⟩ := two_at hs7.frame; have hs8 := (hs7.setF (i := 0) (kI 0)).setF (i := 1) (.slice none 0 0); have HS8 := Lib.hid hs8; clear hs5 hs7 hs8)
              have HS9 : Hid (RSt E tb pb (S.die false) M2 (.blk x (.cells #[kI 0, .slice none 0 0] 48) :: F) ((w5.setCell ⟨x, 0, none⟩ (kI 0)).setCell ⟨x, 1, none⟩ (.slice none 0 0))) := Lib.hid HS8.out
              clear HS8 x0 x1 xf HMK HPG
              generalize (w5.setCell ⟨x, 0, none⟩ (.int .i64 0)).setCell ⟨x, 1, none⟩ (.slice none 0 0) = W6 at *
              have hn := HS9.out.new Z256
              have hmk := run_makeZ W6
              have hcv := run_strZ hn.frame
              have FIN := Lib.hid (hn.part (G' := .blk x (.cells #[kI 0, .slice none 0 0] 48) :: ([] ++ F)) (fun a => by simp only [cnt_cons, cnt_append, cnt_nil]; omega))
              obtain ⟨zb, hzb⟩ : ∃ zb, zeroB rs = zb := ⟨_, rfl⟩
              rw [hzb] at hzq HLP
              clear hn HS9 hzb
              cases zb with
              | true =>
                have he : rs = zeros256 := of_decide_eq_true hzq.symm
                have hq : (rs.toList == zeros256.toList) = true := by rw [ba_cmp]; exact decide_eq_true he
                clear hzq he
                go_wp2_with fail
                go_meet
                exact ⟨true, S.dead, emptyP, none, 0, [], M2, rfl, rfl, HLP.out, SlAt.nil _ _ _, FIN.out⟩
              | false =>
                have he : ¬ rs = zeros256 := of_decide_eq_false hzq.symm
                have hq : (rs.toList == zeros256.toList) = false := by rw [ba_cmp]; exact decide_eq_false he
                have hq2 : (rs = zeros256) = False := eq_false he
                clear hzq he
                go_wp2_with fail
                go_meet
                exact ⟨false, S.dead, emptyP, none, 0, [], M2, rfl, rfl, HLP.out, SlAt.nil _ _ _, FIN.out⟩
          | false =>
            have hre : ¬ re = 0 := of_decide_eq_false HZ.out
            rw [if_neg hre] at hlp
            have hcp := rcopy_any HS3.out HKK.out.1 k (by omega) (by show 0 ≤ S.frm ∧ S.frm ≤ 1000000; rw [HKK.out.2.1.1]; omega) (by show 0 ≤ S.twins ∧ S.twins ≤ 64; rw [HKK.out.2.1.2.1]; omega)
            rw [show (S.die false).frm = frm from HKK.out.2.1.1, show (S.die false).twins = S.twins from rfl] at hcp
            clear hre HS3
            cases hcq : copiedN M2 frm k S.twins.toNat with
            | none =>
              rw [hcq] at hcp hlp
              have HCP : Hid (Calls Tryz.prog 37 #[.pointer (some ⟨tb, 0, none⟩), .int .i64 (k : Int)] W4 (fun e w' => ∃ sa sc h, e = .returned (.tuple #[pgV 0 (.slice sa 0 sc), .bool false]) ∧ RSt E tb pb (S.die false) M2 (h ++ (.blk x (.cells #[kI 0, .slice none 0 0] 48) :: F)) w' ∧ SlAt h (.slice sa 0 sc) [])) := Lib.hid (hcp.mono (by
                rintro e w' ⟨sv, h, rfl, h1, h2⟩
                obtain ⟨sa, sc, e2, _⟩ := id h2
                obtain rfl : sv = .slice sa 0 sc := e2
                exact ⟨sa, sc, h, rfl, h1, h2⟩))
              have HLP : Hid (loadP S M2 k = (0, false, (S.die S.dead).push emptyP, M2)) := Lib.hid hlp
              clear hcp hlp hcq
              go_upto_region 20 with (go_at_call 37; refine (HCP.out).mono ?_; rintro e w5 ⟨sa, sc, h5, rfl, hs5, hsl5⟩; have HSL := Lib.hid hsl5; have hs7 : RSt E tb pb (S.die false) M2 (.blk x (.cells #[kI 0, .slice none 0 0] 48) :: (h5 ++ F)) w5 := hs5.part (fun a => by simp only [cnt_cons, cnt_append]; omega); obtain ⟨x0, x1, xf⟩ := two_at hs7.frame; have hs8 := (hs7.setF (i := 0) (kI 0)).setF (i := 1) (.slice sa 0 sc); have HS8 := Lib.hid hs8; clear hs5 hs7 hs8 hsl5)
              go_wp2_with fail
              go_meet
              exact ⟨false, S.dead, emptyP, sa, sc, h5, M2, rfl, rfl, HLP.out, HSL.out, HS8.out⟩
            | some p =>
              rw [hcq] at hcp hlp
              have hg : goodP p = true := copiedN_good hcq
              have HCP : Hid (Calls Tryz.prog 37 #[.pointer (some ⟨tb, 0, none⟩), .int .i64 (k : Int)] W4 (fun e w' => ∃ sa sc h, e = .returned (.tuple #[pgV p.lsn (.slice sa p.slots.length sc), .bool true]) ∧ RSt E tb pb (S.die false) M2 (h ++ (.blk x (.cells #[kI 0, .slice none 0 0] 48) :: F)) w' ∧ SlAt h (.slice sa p.slots.length sc) p.slots)) := Lib.hid (hcp.mono (by
                rintro e w' ⟨sv, h, rfl, h1, h2⟩
                obtain ⟨sa, sc, e2, _⟩ := id h2
                obtain rfl : sv = .slice sa p.slots.length sc := e2
                exact ⟨sa, sc, h, rfl, h1, h2⟩))
              obtain ⟨wc, M3, hwr⟩ : ∃ wc M3, writeM M2 hm (secM k p) = (wc, M3) := ⟨_, _, rfl⟩
              simp only at hlp
              rw [hwr] at hlp
              have HLP : Hid (loadP S M2 k = if wc ≠ 0 then (wc, false, S, M3) else (0, true, (S.die true).push p, M3)) := Lib.hid hlp
              have HWR := Lib.hid hwr
              have HG := Lib.hid hg
              clear hcp hlp hcq hwr hg
              go_upto_region 20 with (go_at_call 37; refine (HCP.out).mono ?_; rintro e w5 ⟨sa, sc, h5, rfl, hs5, hsl5⟩; have HSL := Lib.hid hsl5; have hs7 : RSt E tb pb (S.die false) M2 (.blk x (.cells #[kI 0, .slice none 0 0] 48) :: (h5 ++ F)) w5 := hs5.part (fun a => by simp only [cnt_cons, cnt_append]; omega); obtain ⟨x0, x1, xf⟩ := two_at hs7.frame; have hs8 := (hs7.setF (i := 0) (kI p.lsn)).setF (i := 1) (.slice sa p.slots.length sc); have HS8 := Lib.hid hs8; clear hs5 hs7 hs8 hsl5)
              have HS9 : Hid (RSt E tb pb (S.die false) M2 (.blk x (.cells #[kI p.lsn, .slice sa p.slots.length sc] 48) :: (h5 ++ F)) ((w5.setCell ⟨x, 0, none⟩ (kI p.lsn)).setCell ⟨x, 1, none⟩ (.slice sa p.slots.length sc))) := Lib.hid HS8.out
              clear HS8 x0 x1 xf HCP
              generalize (w5.setCell ⟨x, 0, none⟩ (kI p.lsn)).setCell ⟨x, 1, none⟩ (.slice sa p.slots.length sc) = W6 at *
              obtain ⟨x0, x1, xf⟩ := two_at HS9.out.frame
              have hsl6 : SlAt (.blk x (.cells #[kI p.lsn, .slice sa p.slots.length sc] 48) :: (h5 ++ F)) (.slice sa p.slots.length sc) p.slots := HSL.out.mono (fun w hw => Sat.lft (F := F) hw.tail)
              have HSEC := Lib.hid (rsector_any k (by omega) HG.out hsl6 HS9.out.frame)
              have HWC : Hid (∀ W, RSt E tb pb (S.die false) M2 (.blk x (.cells #[kI p.lsn, .slice sa p.slots.length sc] 48) :: (h5 ++ F)) W → Calls Tryz.prog 20 #[.pointer (some ⟨pb, 0, none⟩), .int .i64 hm, .string (secM k p)] W (Ret (.int .i64 wc) (RSt E tb pb (S.die false) M3 (.blk x (.cells #[kI p.lsn, .slice sa p.slots.length sc] 48) :: (h5 ++ F))))) := Lib.hid (fun W hW => by
                have := hW.write HKK.out.1 hm (secM k p) (by rw [secM_size HG.out]; omega)
                rw [HWR.out] at this
                exact this)
              obtain ⟨sec, hsec⟩ : ∃ sec, secM k p = sec := ⟨_, rfl⟩
              rw [hsec] at HSEC HWC
              clear hsl6 hsec
              by_cases hwz : wc = 0
              · subst hwz
                have HLP2 : Hid (loadP S M2 k = (0, true, (S.die true).push p, M3)) := Lib.hid (by rw [HLP.out, if_neg (by simp)])
                clear HLP
                go_wp2_with (first
                  | (go_at_call 38; refine (HSEC.out).mono ?_; rintro e w7 ⟨rfl, hb7⟩; have HS7 := Lib.hid (HWC.out w7 (HS9.out.below hb7)); clear hb7)
                  | (go_at_call 20; refine (HS7.out).mono ?_; rintro e w8 ⟨rfl, hs8⟩; have FIN := Lib.hid hs8; clear hs8))
                go_meet
                exact ⟨true, true, p, sa, sc, h5, M3, rfl, rfl, HLP2.out, HSL.out, FIN.out⟩
              · have hz1 : (wc == 0) = false := by rw [beq_eq_false_iff_ne]; exact hwz
                obtain rfl : r = (none, wc, M3) := by
                  have h2 : loads S0 M (k + 1) = (wc, ok && false, S, M3) := by
                    show (if (loads S0 M k).1 ≠ 0 then _ else _) = _
                    rw [HKK.out.2.2.1, if_neg (by simp)]
                    simp only [HLP.out, if_pos hwz]
                  have h1 : loads S0 M pn = (wc, ok && false, S, M3) := by
                    rw [← h2]
                    exact loads_err (by rw [h2]; exact hwz) pn (by have := HKK.out.2.2.2.2; omega)
                  rw [HRR.out, h1, if_pos hwz]
                clear HRR HLP hwz
                go_wp2_with (first
                  | (go_at_call 38; refine (HSEC.out).mono ?_; rintro e w7 ⟨rfl, hb7⟩; have HS7 := Lib.hid (HWC.out w7 (HS9.out.below hb7)); clear hb7)
                  | (go_at_call 20; refine (HS7.out).mono ?_; rintro e w8 ⟨rfl, hs8⟩; have FIN := Lib.hid (hs8.part (G' := F) (fun a => by simp only [cnt_cons, cnt_append]; omega)).toPlate; clear hs8))
                go_ret2
                exact ⟨rfl, FIN.out⟩
        case rest =>
          obtain ⟨q2, wt, p, sa, sc, hb, M3, rfl, rfl, hlp, hsl, hs⟩ := hcut
          have HL2 : Hid (loads S0 M (k + 1) = (0, ok && q2, (S.die wt).push p, M3)) := Lib.hid (by
            show (if (loads S0 M k).1 ≠ 0 then _ else _) = _
            rw [HKK.out.2.2.1, if_neg (by simp)]
            simp only [hlp])
          have hs2 := hs.new (.cells #[kI p.lsn, .slice sa p.slots.length sc] 48)
          have hs3 : RSt E tb pb (S.die false) M3 (.blk wc.heap.size (.cells #[kI p.lsn, .slice sa p.slots.length sc] 48) :: (hb ++ (.blk x (.cells #[kI p.lsn, .slice sa p.slots.length sc] 48) :: F))) (wc.alloc (.cells #[kI p.lsn, .slice sa p.slots.length sc] 48)).drew := (hs2.part (fun a => by simp only [cnt_cons, cnt_append]; omega)).below (Grown.drewN _ 1).below
          obtain ⟨pv, v', w', c3, hap, ⟨d3, hsg⟩, df, hfin, a', c', ev⟩ := hs3.push hsl (by show S.pages.length + 1 ≤ 200000; have := HKK.out.2.1.2.2; omega)
          have HAP := Lib.hid hap
          have e3 : wc.cell? ⟨tb, 3, none⟩ = some pv := by
            have h1 : (wc.alloc (.cells #[kI p.lsn, .slice sa p.slots.length sc] 48)).drew.cell? ⟨tb, 3, none⟩ = (wc.alloc (.cells #[kI p.lsn, .slice sa p.slots.length sc] 48)).cell? ⟨tb, 3, none⟩ := rfl
            obtain ⟨Z, _, _, hz, _, hcl, _⟩ := hs.view
            have y1 := (hcl _ hz).2.2.2.1
            have y2 := (hcl _ ((hz.new (.cells #[kI p.lsn, .slice sa p.slots.length sc] 48)).tail)).2.2.2.1
            rw [h1] at c3
            rw [y1, ← y2, c3]
          obtain ⟨f0, f1, _⟩ := two_at hs.frame
          obtain ⟨i0, i1, _⟩ := two_at (show Sat (wc.alloc (.cells #[kI p.lsn, .slice sa p.slots.length sc] 48)).drew (.blk x (.cells #[kI p.lsn, .slice sa p.slots.length sc] 48) :: F) from hs3.frame.tail.right)
          have FIN := Lib.hid (hfin.part (G' := F) (fun a => by simp only [cnt_cons]; omega))
          have j3 : (wc.alloc (.cells #[kI p.lsn, .slice sa p.slots.length sc] 48)).cell? ⟨tb, 3, none⟩ = some pv := c3
          have j0 : (wc.alloc (.cells #[kI p.lsn, .slice sa p.slots.length sc] 48)).cell? ⟨x, 0, none⟩ = some (kI p.lsn) := i0
          have j1 : (wc.alloc (.cells #[kI p.lsn, .slice sa p.slots.length sc] 48)).cell? ⟨x, 1, none⟩ = some (.slice sa p.slots.length sc) := i1
          subst ev
          have HI := Lib.hid HKK.out.2.2.2.2
          clear hs hs2 hs3 hap hsg hfin i0 i1 c3 hsl hlp
          cases ok with
          | true =>
            go_upto_region 26 with (fail)
            go_region_law ((refine step_append_run (by rfl) _ _ _ _ (by rfl) _ _ _ _ (by rfl) (by rfl) HAP.out ?_))
            all_goals
              go_wp2_with fail
              exact ⟨⟨k + 1, true && q2, (S.die wt).push p, M3, HI.out, by simp, by simp, rfl, HL2.out, FIN.out⟩, by simp only [intOf]; omega⟩
          | false =>
            go_upto_region 26 with (fail)
            go_region_law ((refine step_append_run (by rfl) _ _ _ _ (by rfl) _ _ _ _ (by rfl) (by rfl) HAP.out ?_))
            all_goals
              go_wp2_with fail
              exact ⟨⟨k + 1, false && q2, (S.die wt).push p, M3, HI.out, by simp, by simp, rfl, HL2.out, FIN.out⟩, by simp only [intOf]; omega⟩
      · obtain rfl : k = pn := by omega
        have k1 : ((k : Int) < (k : Int)) = False := eq_false (by omega)
        have hrr := HRR.out
        rw [hlk] at hrr
        simp only at hrr
        rw [if_neg (by simp)] at hrr
        have HS := Lib.hid hs
        obtain ⟨se, M4, hse⟩ : ∃ se M4, syncM M2 = (se, M4) := ⟨_, _, rfl⟩
        have HSY := Lib.hid (hs.sync hk2)
        rw [hse] at HSY hrr
        simp only at hrr HSY
        obtain ⟨dd, hdd⟩ : ∃ dd, S.dead = dd := ⟨_, rfl⟩
        rw [hdd] at hrr ⊢
        clear hlk hs hk2 HRR hkp hlt hkn hse hdd
        cases dd with
        | true =>
          by_cases hz : se = 0
          · subst hz
            rw [if_neg (by simp), if_pos rfl] at hrr
            cases ok with
            | true =>
              subst hrr
              go_wp2_with (go_at_call 39; refine (HSY.out).mono ?_; rintro e w3 ⟨rfl, hs3⟩; have HS3 := Lib.hid hs3; clear hs3)
              go_ret2
              exact ⟨tb, rfl, HS3.out⟩
            | false =>
              subst hrr
              go_wp2_with (go_at_call 39; refine (HSY.out).mono ?_; rintro e w3 ⟨rfl, hs3⟩; have HS3 := Lib.hid hs3.toPlate; clear hs3)
              go_ret2
              exact ⟨rfl, HS3.out⟩
          · have hz1 : (se == 0) = false := by rw [beq_eq_false_iff_ne]; exact hz
            have hz2 : (se != 0) = true := by rw [bne, hz1]; rfl
            rw [if_pos ⟨rfl, hz⟩] at hrr
            subst hrr
            go_wp2_with (go_at_call 39; refine (HSY.out).mono ?_; rintro e w3 ⟨rfl, hs3⟩; have HS3 := Lib.hid hs3.toPlate; clear hs3)
            go_ret2
            exact ⟨rfl, HS3.out⟩
        | false =>
          rw [if_neg (by simp)] at hrr
          cases ok with
          | true =>
            subst hrr
            go_wp2_with fail
            go_ret2
            exact ⟨tb, rfl, HS.out⟩
          | false =>
            subst hrr
            have HS4 := Lib.hid HS.out.toPlate
            go_wp2_with fail
            go_ret2
            exact ⟨rfl, HS4.out⟩
end Go.Proofs.YtgocmnejlbfplaaGreatDoor
