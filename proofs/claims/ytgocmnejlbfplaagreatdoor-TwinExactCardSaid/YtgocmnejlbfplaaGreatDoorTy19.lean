/- Texts put together: Tw10, Tw11. Conditions: none. -/
import Derived.Test.YtgocmnejlbfplaaGreatDoorTy18
namespace Go.Proofs.YtgocmnejlbfplaaGreatDoor
open Go Go.MapKept Go.RowKit Go.Proofs

attribute [local go_sem] Oper.semAt_some

def LdRet (r : Int × Bool × TS × PM) (tb pb : Nat) (G : Heaplet) (e : Ending) (w' : World) : Prop := e = .returned (.tuple #[.bool r.2.1, .int .i64 r.1]) ∧ StIs tb pb r.2.2.1 r.2.2.2 G w'
set_option maxRecDepth 100000 in
set_option maxHeartbeats 4000000 in
theorem load_any {tb pb : Nat} {S : TS} {M : PM} {G : Heaplet} {w : World} (h : StIs tb pb S M G w) {bd : Nat} (hk : PlOk bd M) (n : Nat) (hn : n < 1024) (hf : 0 ≤ S.frm ∧ S.frm ≤ 1000000) (ht : 0 ≤ S.twins ∧ S.twins ≤ 64) (hl : S.pages.length ≤ 10000) :
    Calls Tryz.prog 31 #[.pointer (some ⟨tb, 0, none⟩), .int .i64 (n : Int)] w (LdRet (loadP S M n) tb pb G) := by
  obtain ⟨hm, hhm⟩ : ∃ hm, S.frm + S.twins + (n : Int) = hm := ⟨_, rfl⟩
  obtain ⟨rs, re, hrd⟩ : ∃ rs re, readM M hm = (rs, re) := ⟨_, _, rfl⟩
  obtain ⟨LP, hLP⟩ : ∃ LP, loadP S M n = LP := ⟨_, rfl⟩
  have HLP : Hid (LP = if re = 0 then match pageM n rs with
      | some p => (0, true, S.push p, M)
      | none => (0, zeroB rs, S.push emptyP, M)
    else match copiedN M S.frm n S.twins.toNat with
      | none => (0, false, S.push emptyP, M)
      | some p => if (writeM M hm (secM n p)).1 ≠ 0 then ((writeM M hm (secM n p)).1, false, S, (writeM M hm (secM n p)).2) else (0, true, (S.die true).push p, (writeM M hm (secM n p)).2)) := Lib.hid (by
    rw [← hLP]
    unfold loadP
    rw [hhm, hrd]
    rfl)
  rw [hLP]
  have hsz : re = 0 → rs.size = 256 := fun e => by
    have := hk.read (n := hm) (by rw [hrd]; exact e)
    rw [hrd] at this
    exact this
  have hbd : 0 ≤ S.frm ∧ S.frm ≤ 1000000 ∧ 0 ≤ S.twins ∧ S.twins ≤ 1000000 ∧ 0 ≤ (n : Int) ∧ (n : Int) ≤ 1000000 := by omega
  have hd1 : StIs tb pb S M G w.drew := h.below (Grown.drewN w 1).below
  have HHM : Hid (Calls Tryz.prog 45 #[.pointer (some ⟨tb, 0, none⟩), .int .i64 (n : Int)] w.drew (Qt (.int .i64 hm) w.drew)) := Lib.hid (by rw [← hhm]; exact home_any hd1 n hbd)
  have hcell : ∀ W, StIs tb pb S M G W → W.cell? ⟨tb, 0, none⟩ = some (.pointer (some ⟨pb, 0, none⟩)) := fun W hW => by
    obtain ⟨_, _, _, _, e0, _⟩ := hW.cells
    exact e0
  have HC := Lib.hid hcell
  have K1 := Lib.hid (hcell _ h)
  have K2 := Lib.hid (hcell _ hd1)
  have HD1 := Lib.hid hd1
  have HK := Lib.hid hk
  have HRE : Hid (∀ W, StIs tb pb S M G W → Calls Tryz.prog 27 #[.pointer (some ⟨pb, 0, none⟩), .int .i64 hm] W (Ret (.tuple #[.string rs, .int .i64 re]) (StIs tb pb S M G))) := Lib.hid (fun W hW => by
    have := hW.read hk hm
    rw [hrd] at this
    exact this)
  have HSZ := Lib.hid hsz
  have HB := Lib.hid (And.intro hbd (And.intro hf (And.intro ht (And.intro hl (And.intro hn hhm)))))
  clear hcell h hd1 hk hrd hLP hsz hbd hf ht hl hn hhm
  go_enter Tryz.func31, Tryz.ntmps31
  go_upto_region 1 with (fail)
  go_cut [6, 7] (fun v6 v7 wx => v6 = .string rs ∧ v7 = .int .i64 re ∧ StIs tb pb S M G wx)
  case first =>
    go_region_held3 (fun w' => w'.cell? ⟨tb, 0, none⟩ = some (.pointer (some ⟨pb, 0, none⟩)))
      (with_reducible first | exact K1.out | exact K2.out | exact K3.out | exact K4.out)
      (first
        | (go_at_call 45
           with_reducible refine (HHM.out).mono ?_
           rintro e w2 ⟨rfl, m2, hw2⟩
           have hs2 := HD1.out.below (Grown.drewN w.drew m2).below
           rw [← hw2] at hs2
           have HS2 := Lib.hid hs2
           have HR2 := Lib.hid (HRE.out _ hs2)
           have K3 := Lib.hid (HC.out _ hs2)
           clear hs2 hw2)
        | (go_at_call 27
           with_reducible refine (HR2.out).mono ?_
           rintro e w3 ⟨rfl, hs3⟩
           have HS3 := Lib.hid hs3
           have K4 := Lib.hid (HC.out _ hs3)
           clear hs3))
    all_goals
      clear K1 K2 K3 K4 HC HHM HRE HR2 HS2
      go_wp2_with fail
      go_meet
      exact ⟨rfl, rfl, HS3.out⟩
  case rest =>
    obtain ⟨rfl, rfl, hs⟩ := hcut
    clear K1 K2 HHM HRE HD1 HC
    have hs1 := hs.new (.cells #[kI 0, .slice none 0 0] 48)
    obtain ⟨b8, hb8⟩ : ∃ b8, wc.heap.size = b8 := ⟨_, rfl⟩
    rw [hb8] at hs1
    have HS1 := Lib.hid hs1
    clear hs hs1
    go_upto_if 23 with (fail)
    generalize wc.alloc (.cells #[.int .i64 0, .slice none 0 0] 48) = W1 at *
    clear hb8
    go_cut [9] (fun v9 wx => ∃ (ok : Bool) (S2 : TS) (M2 : PM) (p : Pg) (sa : Option Addr) (sc : Nat) (hb : Heaplet), v9 = .bool ok ∧ LP = (0, ok, S2.push p, M2) ∧ S2.pages = S.pages ∧ SlAt hb (.slice sa p.slots.length sc) p.slots ∧ StIs tb pb S2 M2 (.blk b8 (.cells #[kI p.lsn, .slice sa p.slots.length sc] 48) :: (hb ++ G)) wx)
    case first =>
      by_cases hre : re = 0
      · subst hre
        obtain ⟨Z, _, _, hz, hmk, _⟩ := HS1.out.view
        have HPG := Lib.hid (page_any n (by have := HB.out; omega) rs (HSZ.out rfl) Z W1 hz)
        have HMK := Lib.hid hmk
        have hlp := HLP.out
        rw [if_pos rfl] at hlp
        clear hz hmk HLP
        cases hpm : pageM n rs with
        | none =>
          rw [hpm] at HPG hlp
          obtain ⟨zz, hzz⟩ : ∃ zz, zeroB rs = zz := ⟨_, rfl⟩
          rw [hzz] at hlp
          obtain ⟨tz, htz⟩ : ∃ tz : ByteArray, (⟨(Lib.trimB rs.data.toList 0).toArray⟩ : ByteArray) = tz := ⟨_, rfl⟩
          have hq : (tz.toList == []) = zz := by rw [← htz, trim_zero, hzz]
          have HTR : Hid (∀ W, Calls Tryz.prog 59 #[.string rs, .string ⟨#[0]⟩] W (fun e w' => e = .returned (.string tz) ∧ ∃ k, w' = W.drewN k)) := Lib.hid (fun W => by
            refine (Any.strings_Trim_one Tryz.lays160 rs 0 (by decide) W (by have := HSZ.out rfl; omega)).mono ?_
            rintro e w' ⟨rfl, hw⟩
            rw [htz]
            refine ⟨rfl, ?_⟩
            rcases hw with rfl | rfl
            · exact ⟨0, rfl⟩
            · exact ⟨1, rfl⟩)
          have HLQ := Lib.hid hlp
          have HQ := Lib.hid hq
          clear hlp hpm htz hzz
          go_upto_region 6 with (go_at_call 58; refine (HPG.out).mono ?_; rintro e w3 ⟨sv3, h3, hs3, rfl⟩; have hs4 := HMK.out w3 [] hs3.right; have HS4 := Lib.hid hs4; obtain ⟨e0, e1, ef⟩ := two_at hs4.frame; clear hs3 hs4)
          have hst : StIs tb pb S M (.blk b8 (.cells #[kI 0, .slice none 0 0] 48) :: ([] ++ G)) ((w3.setCell ⟨b8, 0, none⟩ (kI 0)).setCell ⟨b8, 1, none⟩ (.slice none 0 0)) := (HS4.out.setF (i := 0) (kI 0)).setF (i := 1) (.slice none 0 0)
          have HST := Lib.hid hst
          clear hst e0 e1 ef HS4
          generalize (w3.setCell ⟨b8, 0, none⟩ (kI 0)).setCell ⟨b8, 1, none⟩ (.slice none 0 0) = W5 at *
          go_wp2_with (go_at_call 59; refine (HTR.out _).mono ?_; rintro e w6 ⟨rfl, k6, hw6⟩; have hs6 := HST.out.below (Grown.drewN _ k6).below; rw [← hw6] at hs6; have HS6 := Lib.hid hs6; clear hs6 hw6)
          go_meet
          exact ⟨zz, S, M, emptyP, none, 0, [], rfl, HLQ.out, rfl, SlAt.nil _ _ _, HS6.out⟩
        | some p =>
          rw [hpm] at HPG hlp
          have HLQ := Lib.hid hlp
          clear hlp hpm
          go_upto_region 6 with (go_at_call 58; refine (HPG.out).mono ?_; rintro e w3 ⟨sv3, h3, hs3, rfl, hsl3⟩; obtain ⟨sa3, sc3, rfl, _⟩ := id hsl3; have HSL3 := Lib.hid hsl3; have hs4 := StIs.part (G' := .blk b8 (.cells #[kI 0, .slice none 0 0] 48) :: (h3 ++ G)) (HMK.out w3 h3 hs3) (fun a => by simp only [cnt_cons, cnt_append]; omega); have HS4 := Lib.hid hs4; obtain ⟨e0, e1, ef⟩ := two_at hs4.frame; clear hs3 hs4 hsl3)
          have hst : StIs tb pb S M (.blk b8 (.cells #[kI p.lsn, .slice sa3 p.slots.length sc3] 48) :: (h3 ++ G)) ((w3.setCell ⟨b8, 0, none⟩ (kI p.lsn)).setCell ⟨b8, 1, none⟩ (.slice sa3 p.slots.length sc3)) := (HS4.out.setF (i := 0) (kI p.lsn)).setF (i := 1) (.slice sa3 p.slots.length sc3)
          have HST := Lib.hid hst
          clear hst e0 e1 ef HS4
          generalize (w3.setCell ⟨b8, 0, none⟩ (kI p.lsn)).setCell ⟨b8, 1, none⟩ (.slice sa3 p.slots.length sc3) = W5 at *
          go_wp2_with fail
          go_meet
          exact ⟨true, S, M, p, sa3, sc3, h3, rfl, HLQ.out, rfl, HSL3.out, HST.out⟩
      · have hlp := HLP.out
        rw [if_neg hre] at hlp
        have hr1 : (re == 0) = false := by rw [beq_eq_false_iff_ne]; exact hre
        have HCP := Lib.hid (copied_any HS1.out HK.out n (by have := HB.out; omega) HB.out.2.1 HB.out.2.2.1)
        obtain ⟨cp, hcp⟩ : ∃ cp, copiedN M S.frm n S.twins.toNat = cp := ⟨_, rfl⟩
        rw [hcp] at hlp HCP
        have HCG : Hid (∀ p, cp = some p → goodP p = true) := Lib.hid (fun p e => copiedN_good (hcp.trans e))
        clear HLP hcp hre
        obtain ⟨q, hq⟩ : ∃ q, bestP cp = q := ⟨_, rfl⟩
        have HCP2 : Hid (Calls Tryz.prog 60 #[.pointer (some ⟨tb, 0, none⟩), .int .i64 (n : Int)] W1 (fun e w' => ∃ sa sc h, e = .returned (.tuple #[pgV q.lsn (.slice sa q.slots.length sc), .bool cp.isSome]) ∧ StIs tb pb S M (.blk b8 (.cells #[kI 0, .slice none 0 0] 48) :: (h ++ G)) w' ∧ SlAt h (.slice sa q.slots.length sc) q.slots)) := Lib.hid (HCP.out.mono (by
          rintro e w3 ⟨sv3, h3, rfl, hs3, hsl3⟩
          obtain ⟨sa3, sc3, rfl, _⟩ := id hsl3
          rw [hq] at hsl3 ⊢
          exact ⟨sa3, sc3, h3, rfl, StIs.part hs3 (fun a => by simp only [cnt_cons, cnt_append]; omega), hsl3⟩))
        have HQ := Lib.hid hq
        obtain ⟨ci, hci⟩ : ∃ ci, cp.isSome = ci := ⟨_, rfl⟩
        rw [hci] at HCP2
        have HLQ := Lib.hid hlp
        clear hlp hq HCP
        go_upto_region 8 with (go_at_call 60; refine (HCP2.out).mono ?_; rintro e w3 ⟨sa3, sc3, h3, rfl, hs4, hsl3⟩; have HSL3 := Lib.hid hsl3; have HS4 := Lib.hid hs4; obtain ⟨e0, e1, ef⟩ := two_at hs4.frame; clear hs4 hsl3)
        have hst : StIs tb pb S M (.blk b8 (.cells #[kI q.lsn, .slice sa3 q.slots.length sc3] 48) :: (h3 ++ G)) ((w3.setCell ⟨b8, 0, none⟩ (kI q.lsn)).setCell ⟨b8, 1, none⟩ (.slice sa3 q.slots.length sc3)) := (HS4.out.setF (i := 0) (kI q.lsn)).setF (i := 1) (.slice sa3 q.slots.length sc3)
        have HST := Lib.hid hst
        clear hst e0 e1 ef HS4 HCP2
        generalize (w3.setCell ⟨b8, 0, none⟩ (kI q.lsn)).setCell ⟨b8, 1, none⟩ (.slice sa3 q.slots.length sc3) = W5 at *
        cases cp with
        | none =>
          obtain rfl : ci = false := hci.symm
          obtain rfl : q = emptyP := HQ.out.symm
          clear hci
          go_wp2_with fail
          go_meet
          exact ⟨false, S, M, emptyP, sa3, sc3, h3, rfl, HLQ.out, rfl, HSL3.out, HST.out⟩
        | some p =>
          obtain rfl : ci = true := hci.symm
          obtain rfl : q = p := HQ.out.symm
          clear hci
          have hgd := HCG.out q rfl
          obtain ⟨we, M2, hwr⟩ : ∃ we M2, writeM M hm (secM n q) = (we, M2) := ⟨_, _, rfl⟩
          have hlq := HLQ.out
          simp only [hwr] at hlq
          have HLR := Lib.hid hlq
          have hcell : ∀ W, StIs tb pb S M (.blk b8 (.cells #[kI q.lsn, .slice sa3 q.slots.length sc3] 48) :: (h3 ++ G)) W → W.cell? ⟨tb, 0, none⟩ = some (.pointer (some ⟨pb, 0, none⟩)) ∧ W.cell? ⟨b8, 0, none⟩ = some (kI q.lsn) ∧ W.cell? ⟨b8, 1, none⟩ = some (.slice sa3 q.slots.length sc3) := fun W hW => by
            obtain ⟨_, _, _, _, e0, _⟩ := hW.cells
            obtain ⟨e1, e2, _⟩ := two_at hW.frame
            exact ⟨e0, e1, e2⟩
          have HC := Lib.hid hcell
          have hd1 : StIs tb pb S M (.blk b8 (.cells #[kI q.lsn, .slice sa3 q.slots.length sc3] 48) :: (h3 ++ G)) W5.drew := HST.out.below (Grown.drewN W5 1).below
          have HD1 := Lib.hid hd1
          have K1 := Lib.hid (hcell _ HST.out)
          have K2 := Lib.hid (hcell _ hd1)
          have HHM : Hid (∀ W, StIs tb pb S M (.blk b8 (.cells #[kI q.lsn, .slice sa3 q.slots.length sc3] 48) :: (h3 ++ G)) W → Calls Tryz.prog 45 #[.pointer (some ⟨tb, 0, none⟩), .int .i64 (n : Int)] W (fun e w' => e = .returned (.int .i64 hm) ∧ StIs tb pb S M (.blk b8 (.cells #[kI q.lsn, .slice sa3 q.slots.length sc3] 48) :: (h3 ++ G)) w')) := Lib.hid (fun W hW => by
            rw [← HB.out.2.2.2.2.2]
            refine (home_any hW n HB.out.1).mono ?_
            rintro e w' ⟨rfl, m, rfl⟩
            exact ⟨rfl, hW.below (Grown.drewN W m).below⟩)
          have HSE : Hid (∀ W, StIs tb pb S M (.blk b8 (.cells #[kI q.lsn, .slice sa3 q.slots.length sc3] 48) :: (h3 ++ G)) W → Calls Tryz.prog 61 #[.int .i64 (n : Int), pgV q.lsn (.slice sa3 q.slots.length sc3)] W (fun e w' => e = .returned (.string (secM n q)) ∧ StIs tb pb S M (.blk b8 (.cells #[kI q.lsn, .slice sa3 q.slots.length sc3] 48) :: (h3 ++ G)) w')) := Lib.hid (fun W hW => by
            refine (sector_any n (by have := HB.out; omega) hgd (HSL3.out.mono (F' := .blk b8 (.cells #[kI q.lsn, .slice sa3 q.slots.length sc3] 48) :: (h3 ++ G)) (fun w hw => Sat.lft hw.tail)) hW.frame).mono ?_
            rintro e w' ⟨rfl, hb⟩
            exact ⟨rfl, hW.below hb⟩)
          have HWR : Hid (∀ W, StIs tb pb S M (.blk b8 (.cells #[kI q.lsn, .slice sa3 q.slots.length sc3] 48) :: (h3 ++ G)) W → Calls Tryz.prog 18 #[.pointer (some ⟨pb, 0, none⟩), .int .i64 hm, .string (secM n q)] W (Ret (.int .i64 we) (StIs tb pb S M2 (.blk b8 (.cells #[kI q.lsn, .slice sa3 q.slots.length sc3] 48) :: (h3 ++ G))))) := Lib.hid (fun W hW => by
            have := hW.write HK.out hm (secM n q)
            rw [hwr] at this
            exact this)
          generalize secM n q = sq at *
          clear hlq hcell hd1 hgd hwr HLQ HCG HQ
          go_upto_region 9 with (fail)
          go_cut [10] (fun v10 wx => v10 = .int .i64 we ∧ StIs tb pb S M2 (.blk b8 (.cells #[kI q.lsn, .slice sa3 q.slots.length sc3] 48) :: (h3 ++ G)) wx)
          case first =>
            go_region_held3 (fun w' => w'.cell? ⟨tb, 0, none⟩ = some (.pointer (some ⟨pb, 0, none⟩)) ∧ w'.cell? ⟨b8, 0, none⟩ = some (kI q.lsn) ∧ w'.cell? ⟨b8, 1, none⟩ = some (.slice sa3 q.slots.length sc3))
              (with_reducible first | exact K1.out | exact K2.out | exact K3.out | exact K4.out | exact K5.out | exact K6.out | exact K7.out)
              (first
                | (go_at_call 45
                   first
                   | ((with_reducible refine (HHM.out _ HD1.out).mono ?_)
                      rintro e w6 ⟨rfl, hs6⟩
                      have HS6 := Lib.hid hs6
                      have K3 := Lib.hid (HC.out _ hs6)
                      clear hs6)
                   | ((with_reducible refine (HHM.out _ HS7.out).mono ?_)
                      rintro e w6 ⟨rfl, hs6⟩
                      have HS8 := Lib.hid hs6
                      have K4 := Lib.hid (HC.out _ hs6)
                      clear hs6))
                | (go_at_call 61
                   first
                   | ((with_reducible refine (HSE.out _ HD1.out).mono ?_)
                      rintro e w7 ⟨rfl, hs7⟩
                      have HS7 := Lib.hid hs7
                      have K5 := Lib.hid (HC.out _ hs7)
                      clear hs7)
                   | ((with_reducible refine (HSE.out _ HS6.out).mono ?_)
                      rintro e w7 ⟨rfl, hs7⟩
                      have HS8 := Lib.hid hs7
                      have K6 := Lib.hid (HC.out _ hs7)
                      clear hs7))
                | (go_at_call 18
                   with_reducible refine (HWR.out _ HS8.out).mono ?_
                   rintro e w9 ⟨rfl, hs9⟩
                   have HS9 := Lib.hid hs9
                   obtain ⟨_, _, _, _, e0, _⟩ := hs9.cells
                   obtain ⟨e1, e2, _⟩ := two_at hs9.frame
                   have K7 := Lib.hid (And.intro e0 (And.intro e1 e2))
                   clear hs9 e0 e1 e2))
            all_goals
              clear K1 K2 K7 HC HHM HSE HWR HS8
              go_wp2_with fail
              go_meet
              exact ⟨rfl, HS9.out⟩
          case rest =>
            obtain ⟨rfl, hs⟩ := hcut
            clear K1 K2 HC HHM HSE HWR HST HD1
            by_cases hwe : we = 0
            · subst hwe
              have hlp := HLR.out
              rw [if_neg (by simp)] at hlp
              obtain ⟨_, _, _, _, _, _, _, _, _, d5, df⟩ := hs.cells
              have HSD := Lib.hid (hs.setDead true)
              have HLP2 := Lib.hid hlp
              clear hs hlp HLR
              go_wp2_with fail
              go_meet
              exact ⟨true, S.die true, M2, q, sa3, sc3, h3, rfl, HLP2.out, rfl, HSL3.out, HSD.out⟩
            · have hw1 : (we == 0) = false := by rw [beq_eq_false_iff_ne]; exact hwe
              have hw2 : (we != 0) = true := by rw [bne, hw1]; rfl
              have hlp := HLR.out
              rw [if_pos hwe] at hlp
              have FIN := Lib.hid (hs.part (G' := G) (fun a => by simp only [cnt_cons, cnt_append]; omega))
              clear hs HLR
              subst hlp
              go_wp2_with fail
              go_ret2
              exact ⟨rfl, FIN.out⟩
    case rest =>
      obtain ⟨ok, S2, M2, p, sa, sc, hb, rfl, hlp, hpg, hsl, hs⟩ := hcut
      have hs2 := hs.new (.cells #[kI p.lsn, .slice sa p.slots.length sc] 48)
      have hs3 : StIs tb pb S2 M2 (.blk wc.heap.size (.cells #[kI p.lsn, .slice sa p.slots.length sc] 48) :: (hb ++ (.blk b8 (.cells #[kI p.lsn, .slice sa p.slots.length sc] 48) :: G))) (wc.alloc (.cells #[kI p.lsn, .slice sa p.slots.length sc] 48)).drew := (hs2.part (fun a => by simp only [cnt_cons, cnt_append]; omega)).below (Grown.drewN _ 1).below
      obtain ⟨pv, v', w', c3, hap, ⟨d3, hsg⟩, df, hfin, a', c', ev⟩ := hs3.push hsl (by rw [hpg]; have := HB.out; omega)
      have hpv : ∀ W, StIs tb pb S2 M2 (.blk b8 (.cells #[kI p.lsn, .slice sa p.slots.length sc] 48) :: (hb ++ G)) W → True := fun _ _ => trivial
      have HAP := Lib.hid hap
      have HLP2 := Lib.hid hlp
      have e3 : wc.cell? ⟨tb, 3, none⟩ = some pv := by
        have h1 : (wc.alloc (.cells #[kI p.lsn, .slice sa p.slots.length sc] 48)).drew.cell? ⟨tb, 3, none⟩ = (wc.alloc (.cells #[kI p.lsn, .slice sa p.slots.length sc] 48)).cell? ⟨tb, 3, none⟩ := rfl
        obtain ⟨pv1, _, _, _, _, _, _, x3, _⟩ := hs.cells
        obtain ⟨Z, _, _, hz, _, hcl, _⟩ := hs.view
        have y1 := (hcl _ hz).2.2.2.1
        have y2 := (hcl _ ((hz.new (.cells #[kI p.lsn, .slice sa p.slots.length sc] 48)).tail)).2.2.2.1
        rw [h1] at c3
        rw [y1, ← y2, c3]
      obtain ⟨f0, f1, _⟩ := two_at hs.frame
      obtain ⟨g0, g1, _⟩ := two_at hsg
      have h3c := c3
      obtain ⟨i0, i1, _⟩ := two_at (show Sat (wc.alloc (.cells #[kI p.lsn, .slice sa p.slots.length sc] 48)).drew (.blk b8 (.cells #[kI p.lsn, .slice sa p.slots.length sc] 48) :: G) from hs3.frame.tail.right)
      have FIN := Lib.hid (hfin.part (G' := G) (fun a => by simp only [cnt_cons]; omega))
      have j3 : (wc.alloc (.cells #[kI p.lsn, .slice sa p.slots.length sc] 48)).cell? ⟨tb, 3, none⟩ = some pv := c3
      have j0 : (wc.alloc (.cells #[kI p.lsn, .slice sa p.slots.length sc] 48)).cell? ⟨b8, 0, none⟩ = some (kI p.lsn) := i0
      have j1 : (wc.alloc (.cells #[kI p.lsn, .slice sa p.slots.length sc] 48)).cell? ⟨b8, 1, none⟩ = some (.slice sa p.slots.length sc) := i1
      subst ev
      subst hlp
      clear hs hs2 hs3 hap hsg hfin hpv g0 g1 i0 i1 c3 h3c hsl HLP HLP2 hpg
      go_upto_region 13 with (fail)
      go_region_law ((refine step_append_run (by rfl) _ _ _ _ (by rfl) _ _ _ _ (by rfl) (by rfl) HAP.out ?_))
      all_goals
        go_wp2_with fail
        go_ret2
        exact ⟨rfl, FIN.out⟩
end Go.Proofs.YtgocmnejlbfplaaGreatDoor
namespace Go.Proofs.YtgocmnejlbfplaaGreatDoor
open Go Go.MapKept Go.RowKit Go.Proofs

attribute [local go_sem] Oper.semAt_some

/-- So many pages are read: the error, whether all are whole, the store, the plate. -/
def loads (S : TS) (M : PM) : Nat → Int × Bool × TS × PM
  | 0 => (0, true, S, M)
  | n + 1 => if (loads S M n).1 ≠ 0 then loads S M n else ((loadP (loads S M n).2.2.1 (loads S M n).2.2.2 n).1, (loads S M n).2.1 && (loadP (loads S M n).2.2.1 (loads S M n).2.2.2 n).2.1, (loadP (loads S M n).2.2.1 (loads S M n).2.2.2 n).2.2)
theorem loads_err {S : TS} {M : PM} {k : Nat} (h : (loads S M k).1 ≠ 0) : ∀ m, k ≤ m → loads S M m = loads S M k := by
  intro m
  induction m with
  | zero => intro hm; rw [show k = 0 from by omega]
  | succ m ih =>
    intro hm
    by_cases e : k = m + 1
    · rw [e]
    · have := ih (by omega)
      show (if (loads S M m).1 ≠ 0 then loads S M m else _) = _
      rw [this, if_pos h]
theorem loadP_keep (S : TS) (M : PM) (n : Nat) : (loadP S M n).2.2.1.frm = S.frm ∧ (loadP S M n).2.2.1.twins = S.twins ∧ (loadP S M n).2.2.1.life = S.life ∧ (loadP S M n).2.2.1.pages.length ≤ S.pages.length + 1 ∧ ((loadP S M n).1 = 0 → (loadP S M n).2.2.1.pages.length = S.pages.length + 1) := by
  unfold loadP
  split
  · split <;> simp [TS.push]
  · split
    · simp [TS.push]
    · split
      · rename_i h
        exact ⟨rfl, rfl, rfl, by simp, fun e => absurd e h⟩
      · simp [TS.push, TS.die]
theorem loadP_ok {b : Nat} {S : TS} {M : PM} {n : Nat} (h : PlOk b M) (hb : b + 1 ≤ 100000) : PlOk (b + 1) (loadP S M n).2.2.2 := by
  unfold loadP
  split
  · split <;> exact h.mono (by omega) hb
  · split
    · exact h.mono (by omega) hb
    · rename_i p hp
      have := h.write hb (S.frm + S.twins + (n : Int)) (secM n p) (secM_size (copiedN_good hp))
      split <;> exact this
theorem loads_keep (S : TS) (M : PM) : ∀ n, (loads S M n).2.2.1.frm = S.frm ∧ (loads S M n).2.2.1.twins = S.twins ∧ (loads S M n).2.2.1.life = S.life ∧ (loads S M n).2.2.1.pages.length ≤ S.pages.length + n ∧ ((loads S M n).1 = 0 → (loads S M n).2.2.1.pages.length = S.pages.length + n) := by
  intro n
  induction n with
  | zero => simp [loads]
  | succ n ih =>
    obtain ⟨h1, h2, h3, h4, h5⟩ := ih
    by_cases h : (loads S M n).1 ≠ 0
    · have e : loads S M (n + 1) = loads S M n := by show (if _ then _ else _) = _; rw [if_pos h]
      rw [e]
      exact ⟨h1, h2, h3, by omega, fun e => absurd e h⟩
    · have e : loads S M (n + 1) = ((loadP (loads S M n).2.2.1 (loads S M n).2.2.2 n).1, (loads S M n).2.1 && (loadP (loads S M n).2.2.1 (loads S M n).2.2.2 n).2.1, (loadP (loads S M n).2.2.1 (loads S M n).2.2.2 n).2.2) := by show (if _ then _ else _) = _; rw [if_neg h]
      rw [e]
      obtain ⟨g1, g2, g3, g4, g5⟩ := loadP_keep (loads S M n).2.2.1 (loads S M n).2.2.2 n
      have h5' := h5 (by simpa using h)
      exact ⟨g1.trans h1, g2.trans h2, g3.trans h3, by simp only; omega, fun e => by have := g5 e; simp only; omega⟩
theorem loads_ok {b : Nat} {S : TS} {M : PM} (h : PlOk b M) : ∀ n, b + n ≤ 100000 → PlOk (b + n) (loads S M n).2.2.2 := by
  intro n
  induction n with
  | zero => intro _; exact h
  | succ n ih =>
    intro hb
    have h1 := ih (by omega)
    show PlOk (b + (n + 1)) (if _ then _ else _ : Int × Bool × TS × PM).2.2.2
    split
    · exact h1.mono (by omega) hb
    · exact loadP_ok h1 (by omega)
/-- What Open comes to: the store, the error, the plate. -/
def openP (M : PM) (frm twins pages : Int) : Option TS × Int × PM :=
  if frm < 0 ∨ twins < 1 ∨ 64 < twins ∨ pages < 1 ∨ 1024 < pages ∨ M.count - twins - pages < frm then (none, 1, M)
  else if M.down = true then (none, 10, M)
  else if (loads ⟨frm, twins, [], M.life, false⟩ M pages.toNat).1 ≠ 0 then (none, (loads ⟨frm, twins, [], M.life, false⟩ M pages.toNat).1, (loads ⟨frm, twins, [], M.life, false⟩ M pages.toNat).2.2.2)
  else if (loads ⟨frm, twins, [], M.life, false⟩ M pages.toNat).2.2.1.dead = true ∧ (syncM (loads ⟨frm, twins, [], M.life, false⟩ M pages.toNat).2.2.2).1 ≠ 0 then (none, (syncM (loads ⟨frm, twins, [], M.life, false⟩ M pages.toNat).2.2.2).1, (syncM (loads ⟨frm, twins, [], M.life, false⟩ M pages.toNat).2.2.2).2)
  else (if (loads ⟨frm, twins, [], M.life, false⟩ M pages.toNat).2.1 = true then some ((loads ⟨frm, twins, [], M.life, false⟩ M pages.toNat).2.2.1.die false) else none, (if (loads ⟨frm, twins, [], M.life, false⟩ M pages.toNat).2.1 = true then 0 else 4),
    if (loads ⟨frm, twins, [], M.life, false⟩ M pages.toNat).2.2.1.dead = true then (syncM (loads ⟨frm, twins, [], M.life, false⟩ M pages.toNat).2.2.2).2 else (loads ⟨frm, twins, [], M.life, false⟩ M pages.toNat).2.2.2)
def OpRet (r : Option TS × Int × PM) (pb : Nat) (F : Heaplet) (e : Ending) (w' : World) : Prop := match r.1 with
  | some S => ∃ tb, e = .returned (.tuple #[.pointer (some ⟨tb, 0, none⟩), .int .i64 r.2.1]) ∧ StIs tb pb S r.2.2 F w'
  | none => e = .returned (.tuple #[.pointer none, .int .i64 r.2.1]) ∧ PlateIs pb r.2.2 F w'
theorem PlateIs.sub {b : Nat} {M : PM} {F F' : Heaplet} {w : World} (h : PlateIs b M F w) (hc : ∀ a, cnt a F' ≤ cnt a F) : PlateIs b M F' w := by
  obtain ⟨m, es, clk, qv, qh, h1, h2, hs⟩ := h
  refine ⟨m, es, clk, qv, qh, h1, h2, hs.part (fun a => ?_)⟩
  have := hc a
  simp only [cnt_cons, cnt_append]
  omega
theorem StIs.toPlate {tb pb : Nat} {S : TS} {M : PM} {G : Heaplet} {w : World} (h : StIs tb pb S M G w) : PlateIs pb M G w := by
  obtain ⟨pv, R, h', K, h1, h2, hp⟩ := h
  exact hp.sub (fun a => by simp only [cnt_cons, cnt_append]; omega)
theorem StIs.sync {tb pb : Nat} {S : TS} {M : PM} {G : Heaplet} {w : World} (h : StIs tb pb S M G w) {bd : Nat} (hk : PlOk bd M) : Calls Tryz.prog 32 #[.pointer (some ⟨pb, 0, none⟩)] w (Ret (.int .i64 (syncM M).1) (StIs tb pb S (syncM M).2 G)) := by
  obtain ⟨pv, R, h', K, h1, h2, hp⟩ := h
  obtain ⟨_, _, k1⟩ := hk
  refine (sync_any pb M _ w hp (by omega) (by omega) (by omega) (by omega) (by omega)).mono ?_
  rintro e w' ⟨rfl, hp'⟩
  exact ⟨rfl, pv, R, h', K, h1, h2, hp'⟩
theorem open_nil (frm twins pages : Int) (w : World) : Calls Tryz.prog 8 #[.pointer none, .int .i64 frm, .int .i64 twins, .int .i64 pages] w (Ret (.tuple #[.pointer none, .int .i64 2]) (Same w)) := by
  go_enter Tryz.func8, Tryz.ntmps8
  go_wp2
  go_ret2
  exact ⟨rfl, rfl⟩
end Go.Proofs.YtgocmnejlbfplaaGreatDoor
