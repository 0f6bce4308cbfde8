/- Texts put together: Tw14, Tw15. Conditions: none. -/
import Derived.Test.YtgocmnejlbfplaaGreatDoorTy24
namespace Go.Proofs.YtgocmnejlbfplaaGreatDoor
open Go Go.MapKept Go.RowKit Go.Proofs

attribute [local go_sem] Oper.semAt_some

/-- Sectors written in a row, and made safe. -/
def layQ (M : PM) : List (Int × ByteArray) → Int × PM
  | [] => syncM M
  | x :: t => if (writeM M x.1 x.2).1 ≠ 0 then writeM M x.1 x.2 else layQ (writeM M x.1 x.2).2 t
/-- What is written: each page's sector at its place. -/
def wsOf (pl : Nat → Int) (L : List Lf) : List (Int × ByteArray) := L.zipIdx.map fun x => (pl x.2, secM x.1.1.toNat x.1.2)
theorem wsOf_len (pl : Nat → Int) (L : List Lf) : (wsOf pl L).length = L.length := by simp [wsOf]
theorem wsOf_drop {pl : Nat → Int} {L : List Lf} {i : Nat} {p : Lf} (h : L[i]? = some p) : (wsOf pl L).drop i = (pl i, secM p.1.toNat p.2) :: (wsOf pl L).drop (i + 1) := by
  have hi : i < (wsOf pl L).length := by rw [wsOf_len]; exact (List.getElem?_eq_some_iff.1 h).1
  rw [List.drop_eq_getElem_cons hi]
  congr 1
  have : (wsOf pl L)[i]? = some (pl i, secM p.1.toNat p.2) := by
    unfold wsOf
    rw [List.getElem?_map, List.getElem?_zipIdx, h]
    simp
  exact Option.some.inj ((List.getElem?_eq_getElem hi).symm.trans this)
/-- Pages that can be written. -/
def LfOk (L : List Lf) : Prop := ∀ p ∈ L, goodP p.2 = true ∧ 0 ≤ p.1 ∧ p.1 < 1024
def LyRet (r : Int × PM) (tb pb : Nat) (S : TS) (G : Heaplet) (e : Ending) (w' : World) : Prop := e = .returned (.int .i64 r.1) ∧ StIs tb pb (S.die (decide (r.1 ≠ 0))) r.2 G w'
set_option maxRecDepth 100000 in
set_option maxHeartbeats 4000000 in
theorem lay1_any {tb pb cb : Nat} {S : TS} {M : PM} {G : Heaplet} {w : World} {v : Value} {L : List Lf} {pl : Nat → Int} (h : StIs tb pb S M G w) (hv : LvAt G v L) {bd : Nat} (hk : PlOk bd M) (hb : bd + 200 ≤ 100000) (hl : L.length ≤ 100) (hok : LfOk L)
    (hpl : ∀ (i : Nat) p M' W, L[i]? = some p → StIs tb pb S M' G W → Calls Tryz.prog 43 #[.int .i64 (i : Int), .pointer (some ⟨cb, 0, none⟩)] W (Qt (.int .i64 (pl i)) W)) :
    Calls Tryz.prog 42 #[.pointer (some ⟨tb, 0, none⟩), v, .func (.func 43) #[] #[.pointer (some ⟨cb, 0, none⟩)]] w (LyRet (layQ M (wsOf pl L)) tb pb S G) := by
  obtain ⟨a, cap, rfl, hc⟩ := hv
  have HC := Lib.hid hc
  have HPL := Lib.hid hpl
  have HOK := Lib.hid hok
  obtain ⟨RR, hRR⟩ : ∃ RR, layQ M (wsOf pl L) = RR := ⟨_, rfl⟩
  rw [hRR]
  have HRR := Lib.hid hRR
  have HS := Lib.hid h
  have HK := Lib.hid hk
  have hl9 : (L.length : Int) ≤ 100 := by omega
  clear hc hpl hok hRR h hk
  go_enter Tryz.func42, Tryz.ntmps42
  go_wp2_with fail
  go_loopw [13] (fun v13 wr => ∃ (i : Nat) (M2 : PM), i ≤ L.length ∧ v13 = .int .i64 i ∧ layQ M2 ((wsOf pl L).drop i) = RR ∧ PlOk (bd + i) M2 ∧ StIs tb pb S M2 G wr) (fun v13 _ => 2000 - (RowKit.intOf v13).toNat)
  case atStart => exact ⟨0, M, by omega, rfl, HRR.out, HK.out, HS.out⟩
  case round =>
    clear HS HK HRR
    obtain ⟨i, M2, hi, rfl, hr, hk, hs⟩ := hrel
    have i0 : (0 : Int) ≤ (i : Int) := by omega
    by_cases hil : i < L.length
    · have i1 : (i : Int) < (L.length : Int) := by omega
      obtain ⟨p, hp⟩ : ∃ p, L[i]? = some p := ⟨_, List.getElem?_eq_getElem hil⟩
      obtain ⟨g, off, sv, rfl, hsv, hu⟩ := HC.out i p hp
      obtain ⟨u0, u1, u2⟩ := hu wr hs.frame
      obtain ⟨o1, o2, o3⟩ := HOK.out p (List.mem_of_getElem? hp)
      rw [wsOf_drop hp] at hr
      have HP := Lib.hid hp
      obtain ⟨n, q⟩ := p
      simp only at hsv u0 u1 u2 o1 o2 o3 hr
      obtain ⟨nn, rfl⟩ : ∃ nn : Nat, n = (nn : Int) := ⟨n.toNat, by omega⟩
      rw [Int.toNat_natCast] at hr
      obtain ⟨sa, sc, rfl, _⟩ := id hsv
      obtain ⟨we, M3, hwr⟩ : ∃ we M3, writeM M2 (pl i) (secM nn q) = (we, M3) := ⟨_, _, rfl⟩
      have hr2 : (if we ≠ 0 then (we, M3) else layQ M3 ((wsOf pl L).drop (i + 1))) = RR := by
        rw [← hr]
        show _ = (if (writeM M2 (pl i) (secM nn q)).1 ≠ 0 then writeM M2 (pl i) (secM nn q) else layQ (writeM M2 (pl i) (secM nn q)).2 ((wsOf pl L).drop (i + 1)))
        rw [hwr]
      have hk3 : PlOk (bd + (i + 1)) M3 := by
        have := hk.write (by omega) (pl i) (secM nn q) (secM_size o1)
        rw [hwr] at this
        exact this
      have hs1 := hs.new (.cells #[kI (nn : Int), kI q.lsn, .slice sa q.slots.length sc] 55)
      obtain ⟨xb, hxb⟩ : ∃ xb, wr.heap.size = xb := ⟨_, rfl⟩
      rw [hxb] at hs1
      have HPC : Hid (∀ W, StIs tb pb S M2 (.blk xb (.cells #[kI (nn : Int), kI q.lsn, .slice sa q.slots.length sc] 55) :: G) W → Calls Tryz.prog 43 #[.int .i64 (i : Int), .pointer (some ⟨cb, 0, none⟩)] W (fun e w' => e = .returned (.int .i64 (pl i)) ∧ StIs tb pb S M2 (.blk xb (.cells #[kI (nn : Int), kI q.lsn, .slice sa q.slots.length sc] 55) :: G) w')) := Lib.hid (fun W hW => by
        refine (HPL.out i _ M2 W HP.out (hW.part (fun a => by simp only [cnt_cons]; omega))).mono ?_
        rintro e w' ⟨rfl, m, rfl⟩
        exact ⟨rfl, hW.below (Grown.drewN W m).below⟩)
      have HSE : Hid (∀ W, StIs tb pb S M2 (.blk xb (.cells #[kI (nn : Int), kI q.lsn, .slice sa q.slots.length sc] 55) :: G) W → Calls Tryz.prog 61 #[.int .i64 (nn : Int), pgV q.lsn (.slice sa q.slots.length sc)] W (fun e w' => e = .returned (.string (secM nn q)) ∧ StIs tb pb S M2 (.blk xb (.cells #[kI (nn : Int), kI q.lsn, .slice sa q.slots.length sc] 55) :: G) w')) := Lib.hid (fun W hW => by
        refine (sector_any nn (by omega) o1 (hsv.mono (F' := (.blk xb (.cells #[kI (nn : Int), kI q.lsn, .slice sa q.slots.length sc] 55) :: G)) (fun w hw => hw.tail)) hW.frame).mono ?_
        rintro e w' ⟨rfl, hb⟩
        exact ⟨rfl, hW.below hb⟩)
      have HWR : Hid (∀ W, StIs tb pb S M2 (.blk xb (.cells #[kI (nn : Int), kI q.lsn, .slice sa q.slots.length sc] 55) :: G) W → Calls Tryz.prog 18 #[.pointer (some ⟨pb, 0, none⟩), .int .i64 (pl i), .string (secM nn q)] W (Ret (.int .i64 we) (StIs tb pb S M3 (.blk xb (.cells #[kI (nn : Int), kI q.lsn, .slice sa q.slots.length sc] 55) :: G)))) := Lib.hid (fun W hW => by
        have := hW.write hk (pl i) (secM nn q)
        rw [hwr] at this
        exact this)
      have hcell : ∀ W M', StIs tb pb S M' (.blk xb (.cells #[kI (nn : Int), kI q.lsn, .slice sa q.slots.length sc] 55) :: G) W → W.cell? ⟨tb, 0, none⟩ = some (.pointer (some ⟨pb, 0, none⟩)) ∧ W.cell? ⟨xb, 0, none⟩ = some (kI (nn : Int)) ∧ W.cell? ⟨xb, 1, none⟩ = some (kI q.lsn) ∧ W.cell? ⟨xb, 2, none⟩ = some (.slice sa q.slots.length sc) := fun W M' hW => by
        obtain ⟨_, _, _, _, e0, _⟩ := hW.cells
        have hb := hW.frame.h0
        exact ⟨e0, by rw [cell_of hb]; rfl, by rw [cell_of hb]; rfl, by rw [cell_of hb]; rfl⟩
      have HCC := Lib.hid hcell
      have HR2 := Lib.hid (And.intro hr2 hk3)
      have HS1 := Lib.hid hs1
      have HI := Lib.hid hil
      clear hr hk hs hp hu hsv o1 o2 o3 hr2 hk3 hs1 hwr hcell hi hil
      generalize secM nn q = sq at *
      go_upto_region 4 with (fail)
      clear u0 u1 u2
      generalize wr.alloc (.cells #[.int .i64 (nn : Int), .int .i64 q.lsn, .slice sa q.slots.length sc] 55) = W1 at *
      clear hxb
      have hd1 : StIs tb pb S M2 (.blk xb (.cells #[kI (nn : Int), kI q.lsn, .slice sa q.slots.length sc] 55) :: G) W1.drew := HS1.out.below (Grown.drewN W1 1).below
      have HD1 := Lib.hid hd1
      have K1 := Lib.hid (HCC.out _ _ HS1.out)
      have K2 := Lib.hid (HCC.out _ _ hd1)
      clear hd1
      go_cut [9] (fun v9 wx => v9 = .int .i64 we ∧ StIs tb pb S M3 (.blk xb (.cells #[kI (nn : Int), kI q.lsn, .slice sa q.slots.length sc] 55) :: G) wx)
      case first =>
        go_region_held3 (fun w' => w'.cell? ⟨tb, 0, none⟩ = some (.pointer (some ⟨pb, 0, none⟩)) ∧ w'.cell? ⟨xb, 0, none⟩ = some (kI (nn : Int)) ∧ w'.cell? ⟨xb, 1, none⟩ = some (kI q.lsn) ∧ w'.cell? ⟨xb, 2, none⟩ = some (.slice sa q.slots.length sc))
          (with_reducible first | exact K1.out | exact K2.out | exact K3.out | exact K4.out | exact K5.out | exact K6.out | exact K7.out)
          (first
            | (go_at_call 43
               first
               | ((with_reducible refine (HPC.out _ HD1.out).mono ?_)
                  rintro e w6 ⟨rfl, hs6⟩
                  have HS6 := Lib.hid hs6
                  have K3 := Lib.hid (HCC.out _ _ hs6)
                  clear hs6)
               | ((with_reducible refine (HPC.out _ HS7.out).mono ?_)
                  rintro e w6 ⟨rfl, hs6⟩
                  have HS8 := Lib.hid hs6
                  have K4 := Lib.hid (HCC.out _ _ hs6)
                  clear hs6))
            | (go_at_call 61
               first
               | ((with_reducible refine (HSE.out _ HD1.out).mono ?_)
                  rintro e w7 ⟨rfl, hs7⟩
                  have HS7 := Lib.hid hs7
                  have K5 := Lib.hid (HCC.out _ _ hs7)
                  clear hs7)
               | ((with_reducible refine (HSE.out _ HS6.out).mono ?_)
                  rintro e w7 ⟨rfl, hs7⟩
                  have HS8 := Lib.hid hs7
                  have K6 := Lib.hid (HCC.out _ _ hs7)
                  clear hs7))
            | (go_at_call 18
               with_reducible refine (HWR.out _ HS8.out).mono ?_
               rintro e w9 ⟨rfl, hs9⟩
               have HS9 := Lib.hid hs9
               have K7 := Lib.hid (HCC.out _ _ hs9)
               clear hs9))
        all_goals
          clear K1 K2 K7 HCC HPC HSE HWR HS8
          go_wp2_with fail
          go_meet
          exact ⟨rfl, HS9.out⟩
      case rest =>
        obtain ⟨rfl, hs⟩ := hcut
        clear K1 K2 HCC HPC HSE HWR HD1 HS1
        have hs2 : StIs tb pb S M3 G wc := hs.part (fun a => by simp only [cnt_cons]; omega)
        by_cases hz : we = 0
        · subst hz
          have FIN : Hid (layQ M3 ((wsOf pl L).drop (i + 1)) = RR ∧ PlOk (bd + (i + 1)) M3 ∧ StIs tb pb S M3 G wc) := Lib.hid ⟨by have := HR2.out.1; rw [if_neg (fun h => h rfl)] at this; exact this, HR2.out.2, hs2⟩
          clear hs hs2 HR2
          go_wp2_with fail
          exact ⟨⟨i + 1, M3, by have := HI.out; omega, rfl, FIN.out⟩, by have := HI.out; simp only [RowKit.intOf]; omega⟩
        · have hz1 : (we == 0) = false := by rw [beq_eq_false_iff_ne]; exact hz
          have hz2 : (we != 0) = true := by rw [bne, hz1]; rfl
          have hrr := HR2.out.1
          rw [if_pos hz] at hrr
          subst hrr
          obtain ⟨_, _, _, _, _, _, _, _, _, d5, df⟩ := hs2.cells
          have FIN : Hid (StIs tb pb (S.die (decide (we ≠ 0))) M3 G (wc.setCell ⟨tb, 5, none⟩ (.bool true))) := Lib.hid (by
            have e : decide (we ≠ 0) = true := decide_eq_true hz
            rw [e]; exact hs2.setDead true)
          clear hs hs2 HR2
          go_wp2_with fail
          go_ret
          exact ⟨rfl, FIN.out⟩
    · obtain rfl : i = L.length := by omega
      have i1 : ((L.length : Int) < (L.length : Int)) = False := eq_false (by omega)
      rw [List.drop_of_length_le (by rw [wsOf_len]; omega)] at hr
      have hr' : syncM M2 = RR := hr
      obtain ⟨se, M3⟩ := RR
      have HSY := Lib.hid (hs.sync hk)
      rw [hr'] at HSY
      obtain ⟨_, _, _, _, c0, _⟩ := hs.cells
      obtain ⟨sb, hsb⟩ : ∃ sb, (se != 0) = sb := ⟨_, rfl⟩
      have hsd : decide (se ≠ 0) = sb := by rw [← hsb]; by_cases h : se = 0 <;> simp [h]
      have HSD := Lib.hid hsd
      clear hr hr' hs hk hi hil hsd
      go_wp2_with (go_at_call 32; refine (HSY.out).mono ?_; rintro e w3 ⟨rfl, hs3⟩; obtain ⟨_, _, _, _, _, _, _, _, _, d5, df⟩ := hs3.cells; have HS3 := Lib.hid (hs3.setDead sb); clear hs3)
      go_ret
      exact ⟨rfl, by rw [HSD.out]; exact HS3.out⟩
set_option maxRecDepth 100000 in
set_option maxHeartbeats 4000000 in
theorem lay2_any {tb pb cb cl : Nat} {S : TS} {M : PM} {G : Heaplet} {w : World} {v : Value} {L : List Lf} {pl : Nat → Int} (h : StIs tb pb S M G w) (hv : LvAt G v L) {bd : Nat} (hk : PlOk bd M) (hb : bd + 200 ≤ 100000) (hl : L.length ≤ 100) (hok : LfOk L)
    (hpl : ∀ (i : Nat) p M' W, L[i]? = some p → StIs tb pb S M' G W → Calls Tryz.prog 44 #[.int .i64 (i : Int), .pointer (some ⟨cb, 0, none⟩), .pointer (some ⟨cl, 0, none⟩)] W (Qt (.int .i64 (pl i)) W)) :
    Calls Tryz.prog 42 #[.pointer (some ⟨tb, 0, none⟩), v, .func (.func 44) #[] #[.pointer (some ⟨cb, 0, none⟩), .pointer (some ⟨cl, 0, none⟩)]] w (LyRet (layQ M (wsOf pl L)) tb pb S G) := by
  obtain ⟨a, cap, rfl, hc⟩ := hv
  have HC := Lib.hid hc
  have HPL := Lib.hid hpl
  have HOK := Lib.hid hok
  obtain ⟨RR, hRR⟩ : ∃ RR, layQ M (wsOf pl L) = RR := ⟨_, rfl⟩
  rw [hRR]
  have HRR := Lib.hid hRR
  have HS := Lib.hid h
  have HK := Lib.hid hk
  have hl9 : (L.length : Int) ≤ 100 := by omega
  clear hc hpl hok hRR h hk
  go_enter Tryz.func42, Tryz.ntmps42
  go_wp2_with fail
  go_loopw [13] (fun v13 wr => ∃ (i : Nat) (M2 : PM), i ≤ L.length ∧ v13 = .int .i64 i ∧ layQ M2 ((wsOf pl L).drop i) = RR ∧ PlOk (bd + i) M2 ∧ StIs tb pb S M2 G wr) (fun v13 _ => 2000 - (RowKit.intOf v13).toNat)
  case atStart => exact ⟨0, M, by omega, rfl, HRR.out, HK.out, HS.out⟩
  case round =>
    clear HS HK HRR
    obtain ⟨i, M2, hi, rfl, hr, hk, hs⟩ := hrel
    have i0 : (0 : Int) ≤ (i : Int) := by omega
    by_cases hil : i < L.length
    · have i1 : (i : Int) < (L.length : Int) := by omega
      obtain ⟨p, hp⟩ : ∃ p, L[i]? = some p := ⟨_, List.getElem?_eq_getElem hil⟩
      obtain ⟨g, off, sv, rfl, hsv, hu⟩ := HC.out i p hp
      obtain ⟨u0, u1, u2⟩ := hu wr hs.frame
      obtain ⟨o1, o2, o3⟩ := HOK.out p (List.mem_of_getElem? hp)
      rw [wsOf_drop hp] at hr
      have HP := Lib.hid hp
      obtain ⟨n, q⟩ := p
      simp only at hsv u0 u1 u2 o1 o2 o3 hr
      obtain ⟨nn, rfl⟩ : ∃ nn : Nat, n = (nn : Int) := ⟨n.toNat, by omega⟩
      rw [Int.toNat_natCast] at hr
      obtain ⟨sa, sc, rfl, _⟩ := id hsv
      obtain ⟨we, M3, hwr⟩ : ∃ we M3, writeM M2 (pl i) (secM nn q) = (we, M3) := ⟨_, _, rfl⟩
      have hr2 : (if we ≠ 0 then (we, M3) else layQ M3 ((wsOf pl L).drop (i + 1))) = RR := by
        rw [← hr]
        show _ = (if (writeM M2 (pl i) (secM nn q)).1 ≠ 0 then writeM M2 (pl i) (secM nn q) else layQ (writeM M2 (pl i) (secM nn q)).2 ((wsOf pl L).drop (i + 1)))
        rw [hwr]
      have hk3 : PlOk (bd + (i + 1)) M3 := by
        have := hk.write (by omega) (pl i) (secM nn q) (secM_size o1)
        rw [hwr] at this
        exact this
      have hs1 := hs.new (.cells #[kI (nn : Int), kI q.lsn, .slice sa q.slots.length sc] 55)
      obtain ⟨xb, hxb⟩ : ∃ xb, wr.heap.size = xb := ⟨_, rfl⟩
      rw [hxb] at hs1
      have HPC : Hid (∀ W, StIs tb pb S M2 (.blk xb (.cells #[kI (nn : Int), kI q.lsn, .slice sa q.slots.length sc] 55) :: G) W → Calls Tryz.prog 44 #[.int .i64 (i : Int), .pointer (some ⟨cb, 0, none⟩), .pointer (some ⟨cl, 0, none⟩)] W (fun e w' => e = .returned (.int .i64 (pl i)) ∧ StIs tb pb S M2 (.blk xb (.cells #[kI (nn : Int), kI q.lsn, .slice sa q.slots.length sc] 55) :: G) w')) := Lib.hid (fun W hW => by
        refine (HPL.out i _ M2 W HP.out (hW.part (fun a => by simp only [cnt_cons]; omega))).mono ?_
        rintro e w' ⟨rfl, m, rfl⟩
        exact ⟨rfl, hW.below (Grown.drewN W m).below⟩)
      have HSE : Hid (∀ W, StIs tb pb S M2 (.blk xb (.cells #[kI (nn : Int), kI q.lsn, .slice sa q.slots.length sc] 55) :: G) W → Calls Tryz.prog 61 #[.int .i64 (nn : Int), pgV q.lsn (.slice sa q.slots.length sc)] W (fun e w' => e = .returned (.string (secM nn q)) ∧ StIs tb pb S M2 (.blk xb (.cells #[kI (nn : Int), kI q.lsn, .slice sa q.slots.length sc] 55) :: G) w')) := Lib.hid (fun W hW => by
        refine (sector_any nn (by omega) o1 (hsv.mono (F' := (.blk xb (.cells #[kI (nn : Int), kI q.lsn, .slice sa q.slots.length sc] 55) :: G)) (fun w hw => hw.tail)) hW.frame).mono ?_
        rintro e w' ⟨rfl, hb⟩
        exact ⟨rfl, hW.below hb⟩)
      have HWR : Hid (∀ W, StIs tb pb S M2 (.blk xb (.cells #[kI (nn : Int), kI q.lsn, .slice sa q.slots.length sc] 55) :: G) W → Calls Tryz.prog 18 #[.pointer (some ⟨pb, 0, none⟩), .int .i64 (pl i), .string (secM nn q)] W (Ret (.int .i64 we) (StIs tb pb S M3 (.blk xb (.cells #[kI (nn : Int), kI q.lsn, .slice sa q.slots.length sc] 55) :: G)))) := Lib.hid (fun W hW => by
        have := hW.write hk (pl i) (secM nn q)
        rw [hwr] at this
        exact this)
      have hcell : ∀ W M', StIs tb pb S M' (.blk xb (.cells #[kI (nn : Int), kI q.lsn, .slice sa q.slots.length sc] 55) :: G) W → W.cell? ⟨tb, 0, none⟩ = some (.pointer (some ⟨pb, 0, none⟩)) ∧ W.cell? ⟨xb, 0, none⟩ = some (kI (nn : Int)) ∧ W.cell? ⟨xb, 1, none⟩ = some (kI q.lsn) ∧ W.cell? ⟨xb, 2, none⟩ = some (.slice sa q.slots.length sc) := fun W M' hW => by
        obtain ⟨_, _, _, _, e0, _⟩ := hW.cells
        have hb := hW.frame.h0
        exact ⟨e0, by rw [cell_of hb]; rfl, by rw [cell_of hb]; rfl, by rw [cell_of hb]; rfl⟩
      have HCC := Lib.hid hcell
      have HR2 := Lib.hid (And.intro hr2 hk3)
      have HS1 := Lib.hid hs1
      have HI := Lib.hid hil
      clear hr hk hs hp hu hsv o1 o2 o3 hr2 hk3 hs1 hwr hcell hi hil
      generalize secM nn q = sq at *
      go_upto_region 4 with (fail)
      clear u0 u1 u2
      generalize wr.alloc (.cells #[.int .i64 (nn : Int), .int .i64 q.lsn, .slice sa q.slots.length sc] 55) = W1 at *
      clear hxb
      have hd1 : StIs tb pb S M2 (.blk xb (.cells #[kI (nn : Int), kI q.lsn, .slice sa q.slots.length sc] 55) :: G) W1.drew := HS1.out.below (Grown.drewN W1 1).below
      have HD1 := Lib.hid hd1
      have K1 := Lib.hid (HCC.out _ _ HS1.out)
      have K2 := Lib.hid (HCC.out _ _ hd1)
      clear hd1
      go_cut [9] (fun v9 wx => v9 = .int .i64 we ∧ StIs tb pb S M3 (.blk xb (.cells #[kI (nn : Int), kI q.lsn, .slice sa q.slots.length sc] 55) :: G) wx)
      case first =>
        go_region_held3 (fun w' => w'.cell? ⟨tb, 0, none⟩ = some (.pointer (some ⟨pb, 0, none⟩)) ∧ w'.cell? ⟨xb, 0, none⟩ = some (kI (nn : Int)) ∧ w'.cell? ⟨xb, 1, none⟩ = some (kI q.lsn) ∧ w'.cell? ⟨xb, 2, none⟩ = some (.slice sa q.slots.length sc))
          (with_reducible first | exact K1.out | exact K2.out | exact K3.out | exact K4.out | exact K5.out | exact K6.out | exact K7.out)
          (first
            | (go_at_call 44
               first
               | ((with_reducible refine (HPC.out _ HD1.out).mono ?_)
                  rintro e w6 ⟨rfl, hs6⟩
                  have HS6 := Lib.hid hs6
                  have K3 := Lib.hid (HCC.out _ _ hs6)
                  clear hs6)
               | ((with_reducible refine (HPC.out _ HS7.out).mono ?_)
                  rintro e w6 ⟨rfl, hs6⟩
                  have HS8 := Lib.hid hs6
                  have K4 := Lib.hid (HCC.out _ _ hs6)
                  clear hs6))
            | (go_at_call 61
               first
               | ((with_reducible refine (HSE.out _ HD1.out).mono ?_)
                  rintro e w7 ⟨rfl, hs7⟩
                  have HS7 := Lib.hid hs7
                  have K5 := Lib.hid (HCC.out _ _ hs7)
                  clear hs7)
               | ((with_reducible refine (HSE.out _ HS6.out).mono ?_)
                  rintro e w7 ⟨rfl, hs7⟩
                  have HS8 := Lib.hid hs7
                  have K6 := Lib.hid (HCC.out _ _ hs7)
                  clear hs7))
            | (go_at_call 18
               with_reducible refine (HWR.out _ HS8.out).mono ?_
               rintro e w9 ⟨rfl, hs9⟩
               have HS9 := Lib.hid hs9
               have K7 := Lib.hid (HCC.out _ _ hs9)
               clear hs9))
        all_goals
          clear K1 K2 K7 HCC HPC HSE HWR HS8
          go_wp2_with fail
          go_meet
          exact ⟨rfl, HS9.out⟩
      case rest =>
        obtain ⟨rfl, hs⟩ := hcut
        clear K1 K2 HCC HPC HSE HWR HD1 HS1
        have hs2 : StIs tb pb S M3 G wc := hs.part (fun a => by simp only [cnt_cons]; omega)
        by_cases hz : we = 0
        · subst hz
          have FIN : Hid (layQ M3 ((wsOf pl L).drop (i + 1)) = RR ∧ PlOk (bd + (i + 1)) M3 ∧ StIs tb pb S M3 G wc) := Lib.hid ⟨by have := HR2.out.1; rw [if_neg (fun h => h rfl)] at this; exact this, HR2.out.2, hs2⟩
          clear hs hs2 HR2
          go_wp2_with fail
          exact ⟨⟨i + 1, M3, by have := HI.out; omega, rfl, FIN.out⟩, by have := HI.out; simp only [RowKit.intOf]; omega⟩
        · have hz1 : (we == 0) = false := by rw [beq_eq_false_iff_ne]; exact hz
          have hz2 : (we != 0) = true := by rw [bne, hz1]; rfl
          have hrr := HR2.out.1
          rw [if_pos hz] at hrr
          subst hrr
          obtain ⟨_, _, _, _, _, _, _, _, _, d5, df⟩ := hs2.cells
          have FIN : Hid (StIs tb pb (S.die (decide (we ≠ 0))) M3 G (wc.setCell ⟨tb, 5, none⟩ (.bool true))) := Lib.hid (by
            have e : decide (we ≠ 0) = true := decide_eq_true hz
            rw [e]; exact hs2.setDead true)
          clear hs hs2 HR2
          go_wp2_with fail
          go_ret
          exact ⟨rfl, FIN.out⟩
    · obtain rfl : i = L.length := by omega
      have i1 : ((L.length : Int) < (L.length : Int)) = False := eq_false (by omega)
      rw [List.drop_of_length_le (by rw [wsOf_len]; omega)] at hr
      have hr' : syncM M2 = RR := hr
      obtain ⟨se, M3⟩ := RR
      have HSY := Lib.hid (hs.sync hk)
      rw [hr'] at HSY
      obtain ⟨_, _, _, _, c0, _⟩ := hs.cells
      obtain ⟨sb, hsb⟩ : ∃ sb, (se != 0) = sb := ⟨_, rfl⟩
      have hsd : decide (se ≠ 0) = sb := by rw [← hsb]; by_cases h : se = 0 <;> simp [h]
      have HSD := Lib.hid hsd
      clear hr hr' hs hk hi hil hsd
      go_wp2_with (go_at_call 32; refine (HSY.out).mono ?_; rintro e w3 ⟨rfl, hs3⟩; obtain ⟨_, _, _, _, _, _, _, _, _, d5, df⟩ := hs3.cells; have HS3 := Lib.hid (hs3.setDead sb); clear hs3)
      go_ret
      exact ⟨rfl, by rw [HSD.out]; exact HS3.out⟩
end Go.Proofs.YtgocmnejlbfplaaGreatDoor
namespace Go.Proofs.YtgocmnejlbfplaaGreatDoor
open Go Go.MapKept Go.RowKit Go.Proofs

attribute [local go_sem] Oper.semAt_some

def TS.set (S : TS) (k : Nat) (q : Pg) : TS := { S with pages := S.pages.set k q }
theorem pr_set2 {R : List Pr} {h F : Heaplet} {w : World} {g len cap k : Nat} {r : Pr} (r' : Pr) (_ho : r'.2.oneCell' = true) (hv : PrSl (.slice (some ⟨g, 0, none⟩) len cap) R h) (s : Sat w (h ++ F)) (hk : R[k]? = some r) :
    ∃ h', PrSl (.slice (some ⟨g, 0, none⟩) len cap) (R.set k r') h' ∧ Sat ((w.setCell ⟨g, k * 2, none⟩ (kI r'.1)).setCell ⟨g, k * 2 + 1, none⟩ r'.2) (h' ++ F) := by
  have hkl := (List.getElem?_eq_some_iff.1 hk).1
  obtain ⟨_, _, el⟩ := sl_form hv
  cases el
  have sg : ∀ (Z' : List Pr), Z'.length = R.length → ∀ k, PrSl (.slice (some ⟨g, 0, none⟩) R.length cap) Z' k → PrSl (.slice (some ⟨g, 0, none⟩) Z'.length cap) Z' k := fun Z' e k hk => by rw [e]; exact hk
  obtain ⟨k1, a1, s1⟩ := sl_set (f := 0) (q' := ((r'.1, r.2) : Pr)) prC_len hv s hk (by decide) (u := kI r'.1) rfl
  have g1 := sg _ List.length_set _ a1
  obtain ⟨k2, a2, s2⟩ := sl_set (f := 1) (q' := r') prC_len g1 s1 (List.getElem?_set_self hkl) (by decide) (u := r'.2) rfl
  rw [List.set_set] at a2
  exact ⟨k2, by rw [List.length_set] at a2; exact a2, s2⟩
/-- A page is turned. -/
theorem StIs.setPage {tb pb k : Nat} {S : TS} {M : PM} {G hb : Heaplet} {w : World} {p q : Pg} {a : Option Addr} {cap : Nat} (h : StIs tb pb S M (hb ++ G) w) (hk : S.pages[k]? = some p) (hsl : SlAt hb (.slice a q.slots.length cap) q.slots) :
    ∃ g c, w.cell? ⟨tb, 3, none⟩ = some (.slice (some ⟨g, 0, none⟩) S.pages.length c) ∧ (∀ i, w.frozen? ⟨g, i, none⟩ = false) ∧ (∃ u, w.cell? ⟨g, k * 2, none⟩ = some u) ∧ (∃ u, w.cell? ⟨g, k * 2 + 1, none⟩ = some u) ∧ ((w.setCell ⟨g, k * 2, none⟩ (kI q.lsn)).setCell ⟨g, k * 2 + 1, none⟩ (.slice a q.slots.length cap)).cell? ⟨tb, 3, none⟩ = some (.slice (some ⟨g, 0, none⟩) S.pages.length c) ∧ StIs tb pb (S.set k q) M G ((w.setCell ⟨g, k * 2, none⟩ (kI q.lsn)).setCell ⟨g, k * 2 + 1, none⟩ (.slice a q.slots.length cap)) := by
  obtain ⟨pv, R, h', K, h1, h2, m, es, clk, qv, qh, g1, g2, hs⟩ := h
  have hkl := (List.getElem?_eq_some_iff.1 hk).1
  obtain ⟨r, hr⟩ : ∃ r, R[k]? = some r := ⟨_, List.getElem?_eq_getElem (by rw [h2.1]; exact hkl)⟩
  obtain ⟨g, cap', e⟩ := sl_some h1 (by rw [h2.1]; omega)
  subst e
  have s2 : Sat w (h' ++ (.blk tb (stO S pb (.slice (some ⟨g, 0, none⟩) R.length cap')) :: .blk pb (plateObj M m qv) :: .blk m (.map es clk) :: (qh ++ ((hb ++ K) ++ G)))) := by
    refine Sat.part hs ?_
    intro a
    simp only [cnt_cons, cnt_append]
    omega
  obtain ⟨hn, hv', hs'⟩ := pr_set2 ((q.lsn, .slice a q.slots.length cap) : Pr) rfl h1 s2 hr
  obtain ⟨a', cp, e, hc⟩ := sl_cells prC_len h1 s2
  cases e
  obtain ⟨g', ea, _, hu⟩ := hc k r hr
  cases ea
  have hfz : ∀ i, w.frozen? ⟨g, i, none⟩ = false := by
    rcases h1.2 with ⟨e, _⟩ | ⟨g', cap'', cur, e, _, _, _, _, rfl⟩
    · cases e
    · simp only [Value.slice.injEq, Option.some.injEq, Addr.mk.injEq] at e
      obtain ⟨⟨rfl, _, _⟩, _, rfl⟩ := e
      exact unfrozen_of (Sat.h0 s2)
  have ht : Sat w (.blk tb (stO S pb (.slice (some ⟨g, 0, none⟩) R.length cap')) :: (h' ++ (K ++ (hb ++ G)))) := hs.tail.tail.right
  refine ⟨g, cap', by rw [← h2.1, cell_of ht.h0]; rfl, hfz, ⟨_, hu 0 _ rfl⟩, ⟨_, hu 1 _ rfl⟩, by rw [← h2.1, cell_of (Sat.right (h' := hn) hs').h0]; rfl, .slice (some ⟨g, 0, none⟩) R.length cap', R.set k (q.lsn, .slice a q.slots.length cap), hn, hb ++ K, hv', ⟨by simp [TS.set, h2.1], fun i r2 p2 hr2 hp2 => ?_⟩, m, es, clk, qv, qh, g1, g2, ?_⟩
  · have hp3 : (S.pages.set k q)[i]? = some p2 := hp2
    by_cases hik : k = i
    · subst hik
      rw [List.getElem?_set_self (by rw [h2.1]; exact hkl)] at hr2
      rw [List.getElem?_set_self hkl] at hp3
      cases hr2; cases hp3
      exact ⟨rfl, hsl.mono (fun W hW => Sat.lft hW)⟩
    · rw [List.getElem?_set_ne hik] at hr2 hp3
      obtain ⟨e1, e2⟩ := h2.2 i r2 p2 hr2 hp3
      exact ⟨e1, e2.mono (fun W hW => hW.right)⟩
  · have hs5 : Sat ((w.setCell ⟨g, k * 2, none⟩ (kI q.lsn)).setCell ⟨g, k * 2 + 1, none⟩ (.slice a q.slots.length cap)) (hn ++ (.blk tb (stO (S.set k q) pb (.slice (some ⟨g, 0, none⟩) R.length cap')) :: .blk pb (plateObj M m qv) :: .blk m (.map es clk) :: (qh ++ ((hb ++ K) ++ G)))) := hs'
    refine Sat.part hs5 ?_
    intro a
    simp only [cnt_cons, cnt_append]
    omega
set_option maxRecDepth 100000 in
theorem plc1_any {tb pb cb : Nat} {S : TS} {M : PM} {G : Heaplet} {w : World} (h : StIs tb pb S M G w) (hcb : w.cell? ⟨cb, 0, none⟩ = some (.pointer (some ⟨tb, 0, none⟩))) (i : Nat) (hi : i ≤ 1000) (hf : 0 ≤ S.frm ∧ S.frm ≤ 1000000) :
    Calls Tryz.prog 43 #[.int .i64 (i : Int), .pointer (some ⟨cb, 0, none⟩)] w (Qt (.int .i64 (S.frm + (i : Int))) w) := by
  obtain ⟨_, _, _, _, c0, c1, _⟩ := h.cells
  obtain ⟨f0, f1⟩ := hf
  obtain ⟨frm, hfr⟩ : ∃ frm, S.frm = frm := ⟨_, rfl⟩
  rw [hfr] at f0 f1 c1 ⊢
  have i0 : (0 : Int) ≤ (i : Int) := by omega
  have i1 : (i : Int) ≤ 1000 := by omega
  clear h hfr c0 hi
  go_enter Tryz.func43, Tryz.ntmps43
  go_wp2_with fail
  go_ret
  exact ⟨rfl, 0, rfl⟩
set_option maxRecDepth 100000 in
theorem plc2_any {tb pb cb cl : Nat} {S : TS} {M : PM} {G : Heaplet} {w : World} {a : Option Addr} {cap : Nat} {L : List Lf} {p : Lf} (h : StIs tb pb S M G w) (hcb : w.cell? ⟨cb, 0, none⟩ = some (.pointer (some ⟨tb, 0, none⟩))) (hcl : w.cell? ⟨cl, 0, none⟩ = some (.slice a L.length cap)) (hv : LvAt G (.slice a L.length cap) L) (i : Nat) (hp : L[i]? = some p) (hn : 0 ≤ p.1 ∧ p.1 < 1024) (hl : L.length ≤ 1000) (hf : 0 ≤ S.frm ∧ S.frm ≤ 1000000) (ht : 0 ≤ S.twins ∧ S.twins ≤ 64) :
    Calls Tryz.prog 44 #[.int .i64 (i : Int), .pointer (some ⟨cb, 0, none⟩), .pointer (some ⟨cl, 0, none⟩)] w (Qt (.int .i64 (S.frm + S.twins + p.1)) w) := by
  obtain ⟨a', cap', e, hc⟩ := hv
  simp only [Value.slice.injEq] at e
  obtain ⟨rfl, _, rfl⟩ := e
  obtain ⟨g, off, sv, rfl, _, hu⟩ := hc i p hp
  obtain ⟨u0, _, _⟩ := hu w h.frame
  have hil := (List.getElem?_eq_some_iff.1 hp).1
  have HHM : Hid (∀ k, Calls Tryz.prog 45 #[.pointer (some ⟨tb, 0, none⟩), .int .i64 p.1] (w.drewN k) (fun e w' => e = .returned (.int .i64 (S.frm + S.twins + p.1)) ∧ ∃ m, w' = w.drewN m)) := Lib.hid (fun k => by
    refine (home_any (h.below (Grown.drewN w k).below) p.1 (by omega)).mono ?_
    rintro e w' ⟨rfl, m, rfl⟩
    exact ⟨rfl, k + m, by rw [World.drewN_drewN]⟩)
  have i0 : (0 : Int) ≤ (i : Int) := by omega
  have i1 : (i : Int) < (L.length : Int) := by omega
  generalize S.frm + S.twins + p.1 = hm at *
  obtain ⟨n, q⟩ := p
  simp only at *
  clear h hc hu hp hn hl hf ht hil
  go_enter Tryz.func44, Tryz.ntmps44
  go_upto_region 1 with (fail)
  go_quiet ((go_at_call 45; with_reducible exact HHM.out _))
  go_wp2_with fail
  go_ret
  exact ⟨rfl, _, rfl⟩
end Go.Proofs.YtgocmnejlbfplaaGreatDoor
