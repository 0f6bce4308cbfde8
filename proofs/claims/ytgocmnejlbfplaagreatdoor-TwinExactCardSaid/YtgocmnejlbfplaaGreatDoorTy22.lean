/- Texts put together: Tw12. Conditions: none. -/
import Derived.Test.YtgocmnejlbfplaaGreatDoorTy19
namespace Go.Proofs.YtgocmnejlbfplaaGreatDoor
open Go Go.MapKept Go.RowKit Go.Proofs

attribute [local go_sem] Oper.semAt_some

set_option maxRecDepth 100000 in
set_option maxHeartbeats 4000000 in
theorem open_any {pb : Nat} {M : PM} {F : Heaplet} {w : World} (h : PlateIs pb M F w) {bd : Nat} (hk : PlOk bd M) (hb : bd + 2000 ≤ 100000) (hc : M.count ≤ 16384) (frm twins pages : Int) :
    Calls Tryz.prog 8 #[.pointer (some ⟨pb, 0, none⟩), .int .i64 frm, .int .i64 twins, .int .i64 pages] w (OpRet (openP M frm twins pages) pb F) := by
  obtain ⟨r, hr⟩ : ∃ r, openP M frm twins pages = r := ⟨_, rfl⟩
  rw [hr]
  have HR := Lib.hid hr
  have HP := Lib.hid h
  have hc1 : 1 ≤ M.count := hk.2.2.2.2.1
  have HSE : Hid (Calls Tryz.prog 28 #[.pointer (some ⟨pb, 0, none⟩)] w (Ret (.int .i64 M.count) (Same w))) := Lib.hid (sectors_any pb M F w h)
  have HDN : Hid (Calls Tryz.prog 29 #[.pointer (some ⟨pb, 0, none⟩)] w (Ret (.bool M.down) (Same w))) := Lib.hid (down_any pb M F w h)
  have HLF : Hid (Calls Tryz.prog 30 #[.pointer (some ⟨pb, 0, none⟩)] w (Ret (.int .i64 M.life) (Same w))) := Lib.hid (life_any pb M F w h)
  have HK := Lib.hid (And.intro hk hb)
  clear hr h hk hb
  obtain ⟨cnt, hcnt⟩ : ∃ cnt, M.count = cnt := ⟨_, rfl⟩
  rw [hcnt] at HSE hc hc1
  have HCN := Lib.hid hcnt
  clear hcnt
  by_cases a1 : frm < 0
  · obtain rfl : r = (none, 1, M) := by rw [← HR.out]; unfold openP; rw [if_pos (.inl a1)]
    go_enter Tryz.func8, Tryz.ntmps8
    go_wp2_with fail
    go_ret2
    exact ⟨rfl, HP.out⟩
  by_cases a2 : twins < 1
  · obtain rfl : r = (none, 1, M) := by rw [← HR.out]; unfold openP; rw [if_pos (.inr (.inl a2))]
    have b1 : (frm < 0) = False := eq_false a1
    go_enter Tryz.func8, Tryz.ntmps8
    go_wp2_with fail
    go_ret2
    exact ⟨rfl, HP.out⟩
  by_cases a3 : 64 < twins
  · obtain rfl : r = (none, 1, M) := by rw [← HR.out]; unfold openP; rw [if_pos (.inr (.inr (.inl a3)))]
    have b1 : (frm < 0) = False := eq_false a1
    have b2 : (twins < 1) = False := eq_false a2
    go_enter Tryz.func8, Tryz.ntmps8
    go_wp2_with fail
    go_ret2
    exact ⟨rfl, HP.out⟩
  by_cases a4 : pages < 1
  · obtain rfl : r = (none, 1, M) := by rw [← HR.out]; unfold openP; rw [if_pos (.inr (.inr (.inr (.inl a4))))]
    have b1 : (frm < 0) = False := eq_false a1
    have b2 : (twins < 1) = False := eq_false a2
    have b3 : (64 < twins) = False := eq_false a3
    go_enter Tryz.func8, Tryz.ntmps8
    go_wp2_with fail
    go_ret2
    exact ⟨rfl, HP.out⟩
  by_cases a5 : 1024 < pages
  · obtain rfl : r = (none, 1, M) := by rw [← HR.out]; unfold openP; rw [if_pos (.inr (.inr (.inr (.inr (.inl a5)))))]
    have b1 : (frm < 0) = False := eq_false a1
    have b2 : (twins < 1) = False := eq_false a2
    have b3 : (64 < twins) = False := eq_false a3
    have b4 : (pages < 1) = False := eq_false a4
    go_enter Tryz.func8, Tryz.ntmps8
    go_wp2_with fail
    go_ret2
    exact ⟨rfl, HP.out⟩
  have b1 : (frm < 0) = False := eq_false a1
  have b2 : (twins < 1) = False := eq_false a2
  have b3 : (64 < twins) = False := eq_false a3
  have b4 : (pages < 1) = False := eq_false a4
  have b5 : (1024 < pages) = False := eq_false a5
  have c1 : 1 ≤ twins := by omega
  have c2 : twins ≤ 64 := by omega
  have c3 : 1 ≤ pages := by omega
  have c4 : pages ≤ 1024 := by omega
  have c5 : 0 ≤ frm := by omega
  by_cases a6 : cnt - twins - pages < frm
  · obtain rfl : r = (none, 1, M) := by rw [← HR.out]; unfold openP; rw [if_pos (.inr (.inr (.inr (.inr (.inr (by rw [HCN.out]; exact a6))))))]
    go_enter Tryz.func8, Tryz.ntmps8
    go_wp2_with (go_at_call 28; refine (HSE.out).mono ?_; rintro e w1 ⟨rfl, rfl⟩)
    go_ret2
    exact ⟨rfl, HP.out⟩
  have b6 : (cnt - twins - pages < frm) = False := eq_false a6
  have hnb : ¬ (frm < 0 ∨ twins < 1 ∨ 64 < twins ∨ pages < 1 ∨ 1024 < pages ∨ M.count - twins - pages < frm) := by rw [HCN.out]; omega
  have c6 : frm ≤ 16384 := by omega
  have HNB := Lib.hid hnb
  clear hnb a1 a2 a3 a4 a5 a6
  obtain ⟨dn, hdn⟩ : ∃ dn, M.down = dn := ⟨_, rfl⟩
  rw [hdn] at HDN
  have HDD := Lib.hid hdn
  clear hdn
  cases dn with
  | true =>
    obtain rfl : r = (none, 10, M) := by rw [← HR.out]; unfold openP; rw [if_neg HNB.out, if_pos HDD.out]
    go_enter Tryz.func8, Tryz.ntmps8
    go_wp2_with (first
      | (go_at_call 28; refine (HSE.out).mono ?_; rintro e w1 ⟨rfl, rfl⟩)
      | (go_at_call 29; refine (HDN.out).mono ?_; rintro e w1 ⟨rfl, rfl⟩))
    go_ret2
    exact ⟨rfl, HP.out⟩
  | false =>
    obtain ⟨pn, hpn⟩ : ∃ pn : Nat, pages = (pn : Int) := ⟨pages.toNat, by omega⟩
    subst hpn
    obtain ⟨S0, hS0⟩ : ∃ S0 : TS, (⟨frm, twins, [], M.life, false⟩ : TS) = S0 := ⟨_, rfl⟩
    have hrr : r = if (loads S0 M pn).1 ≠ 0 then (none, (loads S0 M pn).1, (loads S0 M pn).2.2.2)
      else if (loads S0 M pn).2.2.1.dead = true ∧ (syncM (loads S0 M pn).2.2.2).1 ≠ 0 then (none, (syncM (loads S0 M pn).2.2.2).1, (syncM (loads S0 M pn).2.2.2).2)
      else (if (loads S0 M pn).2.1 = true then some ((loads S0 M pn).2.2.1.die false) else none, (if (loads S0 M pn).2.1 = true then 0 else 4), if (loads S0 M pn).2.2.1.dead = true then (syncM (loads S0 M pn).2.2.2).2 else (loads S0 M pn).2.2.2) := by
      rw [← HR.out]
      unfold openP
      rw [if_neg HNB.out, if_neg (by rw [HDD.out]; simp), hS0, Int.toNat_natCast]
    have HRR := Lib.hid hrr
    have hst0 : StIs w.heap.size pb S0 M F (w.alloc (.cells #[.pointer (some ⟨pb, 0, none⟩), kI frm, kI twins, .slice none 0 0, kI M.life, .bool false] 70)) := by
      rw [← hS0]
      refine ⟨.slice none 0 0, [], [], [], SliceIs.nil _ _, ⟨rfl, fun i r p hr => by simp at hr⟩, ?_⟩
      exact HP.out.new (stO ⟨frm, twins, [], M.life, false⟩ pb (.slice none 0 0))
    obtain ⟨tb, htb⟩ : ∃ tb, w.heap.size = tb := ⟨_, rfl⟩
    rw [htb] at hst0
    have HST := Lib.hid hst0
    have hs1 : S0.frm = frm ∧ S0.twins = twins ∧ S0.pages.length = 0 := by rw [← hS0]; exact ⟨rfl, rfl, rfl⟩
    have HS1 := Lib.hid hs1
    clear hrr hst0 hs1 hS0 HR HNB
    go_enter Tryz.func8, Tryz.ntmps8
    go_upto_region 8 with (first
      | (go_at_call 28; refine (HSE.out).mono ?_; rintro e w1 ⟨rfl, rfl⟩)
      | (go_at_call 29; refine (HDN.out).mono ?_; rintro e w1 ⟨rfl, rfl⟩)
      | (go_at_call 30; refine (HLF.out).mono ?_; rintro e w1 ⟨rfl, rfl⟩))
    generalize w.alloc (.cells #[.pointer (some ⟨pb, 0, none⟩), .int .i64 frm, .int .i64 twins, .slice none 0 0, .int .i64 M.life, .bool false] 70) = W1 at *
    clear HSE HDN HLF htb HP
    have hld : ∀ k, k ≤ pn → PlOk (bd + k) (loads S0 M k).2.2.2 := fun k hk => loads_ok HK.out.1 k (by have := HK.out.2; omega)
    have hkp : ∀ k, (loads S0 M k).2.2.1.frm = frm ∧ (loads S0 M k).2.2.1.twins = twins ∧ (loads S0 M k).2.2.1.pages.length ≤ k := fun k => by
      obtain ⟨h1, h2, _, h4, _⟩ := loads_keep S0 M k
      obtain ⟨g1, g2, g3⟩ := HS1.out
      exact ⟨by rw [h1, g1], by rw [h2, g2], by rw [g3] at h4; omega⟩
    have HLD := Lib.hid hld
    have HKP := Lib.hid hkp
    clear hld hkp b1 b2 b3 b4 b5 b6
    go_wp2_with fail
    go_loopw [11, 59] (fun v11 v59 wr => ∃ (k : Nat) (ok : Bool) (S : TS) (M2 : PM), k ≤ pn ∧ v59 = .int .i64 k ∧ v11 = .bool ok ∧ loads S0 M k = (0, ok, S, M2) ∧ StIs tb pb S M2 F wr) (fun _ v59 _ => 2000 - (intOf v59).toNat)
    case atStart => exact ⟨0, true, S0, M, by omega, rfl, rfl, rfl, HST.out⟩
    case round =>
      clear HST
      obtain ⟨k, ok, S, M2, hkn, rfl, rfl, hlk, hs⟩ := hrel
      have k0 : (0 : Int) ≤ (k : Int) := by omega
      have hk2 := HLD.out k hkn
      have hkp := HKP.out k
      rw [hlk] at hk2 hkp
      simp only at hk2 hkp
      by_cases hlt : k < pn
      · have k1 : (k : Int) < (pn : Int) := by omega
        obtain ⟨q1, q2, S3, M3, hq⟩ : ∃ q1 q2 S3 M3, loadP S M2 k = (q1, q2, S3, M3) := ⟨_, _, _, _, rfl⟩
        have HLO := Lib.hid (load_any hs hk2 k (by omega) (by rw [hkp.1]; omega) (by rw [hkp.2.1]; omega) (by omega))
        rw [hq] at HLO
        have hl2 : loads S0 M (k + 1) = (q1, ok && q2, S3, M3) := by
          show (if (loads S0 M k).1 ≠ 0 then _ else _) = _
          rw [hlk, if_neg (by simp)]
          simp only [hq]
        have HL2 := Lib.hid hl2
        clear hs hk2 hkp hq hlk hl2
        by_cases hz : q1 = 0
        · subst hz
          cases ok with
          | true =>
            go_wp2_with (go_at_call 31; refine (HLO.out).mono ?_; rintro e w3 ⟨rfl, hs3⟩; have HS3 := Lib.hid hs3; clear hs3)
            exact ⟨⟨k + 1, q2, S3, M3, by omega, by simp, rfl, HL2.out, HS3.out⟩, by simp only [intOf]; omega⟩
          | false =>
            go_wp2_with (go_at_call 31; refine (HLO.out).mono ?_; rintro e w3 ⟨rfl, hs3⟩; have HS3 := Lib.hid hs3; clear hs3)
            exact ⟨⟨k + 1, false, S3, M3, by omega, by simp, rfl, HL2.out, HS3.out⟩, by simp only [intOf]; omega⟩
        · have hz1 : (q1 == 0) = false := by rw [beq_eq_false_iff_ne]; exact hz
          have hz2 : (q1 != 0) = true := by rw [bne, hz1]; rfl
          obtain rfl : r = (none, q1, M3) := by
            have h1 : loads S0 M pn = (q1, ok && q2, S3, M3) := by
              rw [← HL2.out]
              exact loads_err (by rw [HL2.out]; exact hz) pn (by omega)
            rw [HRR.out, h1, if_pos hz]
          clear HRR
          go_wp2_with (go_at_call 31; refine (HLO.out).mono ?_; rintro e w3 ⟨rfl, hs3⟩; have HS3 := Lib.hid hs3.toPlate; clear hs3)
          go_ret2
          exact ⟨rfl, HS3.out⟩
      · obtain rfl : k = pn := by omega
        have k1 : ((k : Int) < (k : Int)) = False := eq_false (by omega)
        have hrr := HRR.out
        rw [hlk] at hrr
        simp only at hrr
        rw [if_neg (by simp)] at hrr
        have HS := Lib.hid hs
        have HK2 := Lib.hid hk2
        obtain ⟨se, M4, hse⟩ : ∃ se M4, syncM M2 = (se, M4) := ⟨_, _, rfl⟩
        have HSY := Lib.hid (hs.sync hk2)
        rw [hse] at HSY hrr
        simp only at hrr HSY
        obtain ⟨_, _, _, _, _, _, _, _, _, d5, df⟩ := hs.cells
        obtain ⟨dd, hdd⟩ : ∃ dd, S.dead = dd := ⟨_, rfl⟩
        rw [hdd] at d5 hrr
        clear hlk hs hk2 HRR hkp hlt hkn hse hdd HK2
        cases dd with
        | true =>
          by_cases hz : se = 0
          · subst hz
            rw [if_neg (by simp), if_pos rfl] at hrr
            go_upto_region 21 with (go_at_call 32; refine (HSY.out).mono ?_; rintro e w3 ⟨rfl, hs3⟩; obtain ⟨_, _, _, _, _, _, _, _, _, e5, ef⟩ := hs3.cells; have HS3 := Lib.hid (hs3.setDead false); clear hs3)
            cases ok with
            | true =>
              subst hrr
              go_wp2_with fail
              go_ret2
              exact ⟨tb, rfl, HS3.out⟩
            | false =>
              subst hrr
              have HS4 := Lib.hid HS3.out.toPlate
              go_wp2_with fail
              go_ret2
              exact ⟨rfl, HS4.out⟩
          · have hz1 : (se == 0) = false := by rw [beq_eq_false_iff_ne]; exact hz
            have hz2 : (se != 0) = true := by rw [bne, hz1]; rfl
            rw [if_pos ⟨rfl, hz⟩] at hrr
            subst hrr
            go_wp2_with (go_at_call 32; refine (HSY.out).mono ?_; rintro e w3 ⟨rfl, hs3⟩; have HS3 := Lib.hid hs3.toPlate; clear hs3)
            go_ret2
            exact ⟨rfl, HS3.out⟩
        | false =>
          rw [if_neg (by simp)] at hrr
          have HS3 := Lib.hid (HS.out.setDead false)
          cases ok with
          | true =>
            subst hrr
            go_wp2_with fail
            go_ret2
            exact ⟨tb, rfl, HS3.out⟩
          | false =>
            subst hrr
            have HS4 := Lib.hid HS3.out.toPlate
            go_wp2_with fail
            go_ret2
            exact ⟨rfl, HS4.out⟩
end Go.Proofs.YtgocmnejlbfplaaGreatDoor
