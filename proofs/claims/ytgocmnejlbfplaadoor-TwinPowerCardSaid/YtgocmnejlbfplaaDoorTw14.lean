/- Pages' sectors laid on the plate: lay walked, once for each of Write's places. Conditions: none. (printed by lay.gen.py) -/
import Derived.Test.YtgocmnejlbfplaaDoorTw13
namespace Go.Proofs.YtgocmnejlbfplaaDoor
open Go Go.MapKept Go.RowKit Go.Proofs

attribute [local go_sem] Oper.semAt_some

/-- Sectors written in a row, and made safe. -/
def layQ (M : PM) : List (Int × ByteArray) → Int × PM
  | [] => syncM M
  | x :: t => if (writeM M x.1 x.2).1 ≠ 0 then writeM M x.1 x.2 else layQ (writeM M x.1 x.2).2 t
/-- What is written: each page's sector at its place. -/
def wsOf (pl : Nat → Int) (L : List Lf) : List (Int × ByteArray) := L.zipIdx.map fun x => (pl x.2, secM x.1.1.toNat x.1.2)
theorem wsOf_len (pl : Nat → Int) (L : List Lf) : (wsOf pl L).length = L.length := by simp [wsOf]
theorem wsOf_drop {pl : Nat → Int} {L : List Lf} {i : Nat} {p : Lf} (h : L[i]? = some p) : (wsOf pl L).drop i = (pl i, secM p.1.toNat p.2) :: (wsOf pl L).drop (i + 1) := by
  have hi : i < (wsOf pl L).length := by rw [wsOf_len]; exact (List.getElem?_eq_some_iff.1 h).1
  rw [List.drop_eq_getElem_cons hi]
  congr 1
  have : (wsOf pl L)[i]? = some (pl i, secM p.1.toNat p.2) := by
    unfold wsOf
    rw [List.getElem?_map, List.getElem?_zipIdx, h]
    simp
  exact Option.some.inj ((List.getElem?_eq_getElem hi).symm.trans this)
/-- Pages that can be written. -/
def LfOk (L : List Lf) : Prop := ∀ p ∈ L, goodP p.2 = true ∧ 0 ≤ p.1 ∧ p.1 < 1024
def LyRet (r : Int × PM) (tb pb : Nat) (S : TS) (G : Heaplet) (e : Ending) (w' : World) : Prop := e = .returned (.int .i64 r.1) ∧ StIs tb pb (S.die (decide (r.1 ≠ 0))) r.2 G w'
set_option maxRecDepth 100000 in
set_option maxHeartbeats 4000000 in
theorem lay1_any {tb pb cb : Nat} {S : TS} {M : PM} {G : Heaplet} {w : World} {v : Value} {L : List Lf} {pl : Nat → Int} (h : StIs tb pb S M G w) (hv : LvAt G v L) {bd : Nat} (hk : PlOk bd M) (hb : bd + 200 ≤ 100000) (hl : L.length ≤ 100) (hok : LfOk L)
    (hpl : ∀ (i : Nat) p M' W, L[i]? = some p → StIs tb pb S M' G W → Calls Tryd.prog 27 #[.int .i64 (i : Int), .pointer (some ⟨cb, 0, none⟩)] W (Qt (.int .i64 (pl i)) W)) :
    Calls Tryd.prog 26 #[.pointer (some ⟨tb, 0, none⟩), v, .func (.func 27) #[] #[.pointer (some ⟨cb, 0, none⟩)]] w (LyRet (layQ M (wsOf pl L)) tb pb S G) := by
  obtain ⟨a, cap, rfl, hc⟩ := hv
  have HC := Lib.hid hc
  have HPL := Lib.hid hpl
  have HOK := Lib.hid hok
  obtain ⟨RR, hRR⟩ : ∃ RR, layQ M (wsOf pl L) = RR := ⟨_, rfl⟩
  rw [hRR]
  have HRR := Lib.hid hRR
  have HS := Lib.hid h
  have HK := Lib.hid hk
  have hl9 : (L.length : Int) ≤ 100 := by omega
  clear hc hpl hok hRR h hk
  go_enter Tryd.func26, Tryd.ntmps26
  go_wp2_with fail
  go_loopw [13] (fun v13 wr => ∃ (i : Nat) (M2 : PM), i ≤ L.length ∧ v13 = .int .i64 i ∧ layQ M2 ((wsOf pl L).drop i) = RR ∧ PlOk (bd + i) M2 ∧ StIs tb pb S M2 G wr) (fun v13 _ => 2000 - (RowKit.intOf v13).toNat)
  case atStart => exact ⟨0, M, by omega, rfl, HRR.out, HK.out, HS.out⟩
  case round =>
    clear HS HK HRR
    obtain ⟨i, M2, hi, rfl, hr, hk, hs⟩ := hrel
    have i0 : (0 : Int) ≤ (i : Int) := by omega
    by_cases hil : i < L.length
    · have i1 : (i : Int) < (L.length : Int) := by omega
      obtain ⟨p, hp⟩ : ∃ p, L[i]? = some p := ⟨_, List.getElem?_eq_getElem hil⟩
      obtain ⟨g, off, sv, rfl, hsv, hu⟩ := HC.out i p hp
      obtain ⟨u0, u1, u2⟩ := hu wr hs.frame
      obtain ⟨o1, o2, o3⟩ := HOK.out p (List.mem_of_getElem? hp)
      rw [wsOf_drop hp] at hr
      have HP := Lib.hid hp
      obtain ⟨n, q⟩ := p
      simp only at hsv u0 u1 u2 o1 o2 o3 hr
      obtain ⟨nn, rfl⟩ : ∃ nn : Nat, n = (nn : Int) := ⟨n.toNat, by omega⟩
      rw [Int.toNat_natCast] at hr
      obtain ⟨sa, sc, rfl, _⟩ := id hsv
      obtain ⟨we, M3, hwr⟩ : ∃ we M3, writeM M2 (pl i) (secM nn q) = (we, M3) := ⟨_, _, rfl⟩
      have hr2 : (if we ≠ 0 then (we, M3) else layQ M3 ((wsOf pl L).drop (i + 1))) = RR := by
        rw [← hr]
        show _ = (if (writeM M2 (pl i) (secM nn q)).1 ≠ 0 then writeM M2 (pl i) (secM nn q) else layQ (writeM M2 (pl i) (secM nn q)).2 ((wsOf pl L).drop (i + 1)))
        rw [hwr]
      have hk3 : PlOk (bd + (i + 1)) M3 := by
        have := hk.write (by omega) (pl i) (secM nn q) (secM_size o1)
        rw [hwr] at this
        exact this
      have hs1 := hs.new (.cells #[kI (nn : Int), kI q.lsn, .slice sa q.slots.length sc] 27)
      obtain ⟨xb, hxb⟩ : ∃ xb, wr.heap.size = xb := ⟨_, rfl⟩
      rw [hxb] at hs1
      have HPC : Hid (∀ W, StIs tb pb S M2 (.blk xb (.cells #[kI (nn : Int), kI q.lsn, .slice sa q.slots.length sc] 27) :: G) W → Calls Tryd.prog 27 #[.int .i64 (i : Int), .pointer (some ⟨cb, 0, none⟩)] W (fun e w' => e = .returned (.int .i64 (pl i)) ∧ StIs tb pb S M2 (.blk xb (.cells #[kI (nn : Int), kI q.lsn, .slice sa q.slots.length sc] 27) :: G) w')) := Lib.hid (fun W hW => by
        refine (HPL.out i _ M2 W HP.out (hW.part (fun a => by simp only [cnt_cons]; omega))).mono ?_
        rintro e w' ⟨rfl, m, rfl⟩
        exact ⟨rfl, hW.below (Grown.drewN W m).below⟩)
      have HSE : Hid (∀ W, StIs tb pb S M2 (.blk xb (.cells #[kI (nn : Int), kI q.lsn, .slice sa q.slots.length sc] 27) :: G) W → Calls Tryd.prog 39 #[.int .i64 (nn : Int), pgV q.lsn (.slice sa q.slots.length sc)] W (fun e w' => e = .returned (.string (secM nn q)) ∧ StIs tb pb S M2 (.blk xb (.cells #[kI (nn : Int), kI q.lsn, .slice sa q.slots.length sc] 27) :: G) w')) := Lib.hid (fun W hW => by
        refine (sector_any nn (by omega) o1 (hsv.mono (F' := (.blk xb (.cells #[kI (nn : Int), kI q.lsn, .slice sa q.slots.length sc] 27) :: G)) (fun w hw => hw.tail)) hW.frame).mono ?_
        rintro e w' ⟨rfl, hb⟩
        exact ⟨rfl, hW.below hb⟩)
      have HWR : Hid (∀ W, StIs tb pb S M2 (.blk xb (.cells #[kI (nn : Int), kI q.lsn, .slice sa q.slots.length sc] 27) :: G) W → Calls Tryd.prog 38 #[.pointer (some ⟨pb, 0, none⟩), .int .i64 (pl i), .string (secM nn q)] W (Ret (.int .i64 we) (StIs tb pb S M3 (.blk xb (.cells #[kI (nn : Int), kI q.lsn, .slice sa q.slots.length sc] 27) :: G)))) := Lib.hid (fun W hW => by
        have := hW.write hk (pl i) (secM nn q)
        rw [hwr] at this
        exact this)
      have hcell : ∀ W M', StIs tb pb S M' (.blk xb (.cells #[kI (nn : Int), kI q.lsn, .slice sa q.slots.length sc] 27) :: G) W → W.cell? ⟨tb, 0, none⟩ = some (.pointer (some ⟨pb, 0, none⟩)) ∧ W.cell? ⟨xb, 0, none⟩ = some (kI (nn : Int)) ∧ W.cell? ⟨xb, 1, none⟩ = some (kI q.lsn) ∧ W.cell? ⟨xb, 2, none⟩ = some (.slice sa q.slots.length sc) := fun W M' hW => by
        obtain ⟨_, _, _, _, e0, _⟩ := hW.cells
        have hb := hW.frame.h0
        exact ⟨e0, by rw [cell_of hb]; rfl, by rw [cell_of hb]; rfl, by rw [cell_of hb]; rfl⟩
      have HCC := Lib.hid hcell
      have HR2 := Lib.hid (And.intro hr2 hk3)
      have HS1 := Lib.hid hs1
      have HI := Lib.hid hil
      clear hr hk hs hp hu hsv o1 o2 o3 hr2 hk3 hs1 hwr hcell hi hil
      generalize secM nn q = sq at *
      go_upto_region 4 with (fail)
      clear u0 u1 u2
      generalize wr.alloc (.cells #[.int .i64 (nn : Int), .int .i64 q.lsn, .slice sa q.slots.length sc] 27) = W1 at *
      clear hxb
      have hd1 : StIs tb pb S M2 (.blk xb (.cells #[kI (nn : Int), kI q.lsn, .slice sa q.slots.length sc] 27) :: G) W1.drew := HS1.out.below (Grown.drewN W1 1).below
      have HD1 := Lib.hid hd1
      have K1 := Lib.hid (HCC.out _ _ HS1.out)
      have K2 := Lib.hid (HCC.out _ _ hd1)
      clear hd1
      go_cut [9] (fun v9 wx => v9 = .int .i64 we ∧ StIs tb pb S M3 (.blk xb (.cells #[kI (nn : Int), kI q.lsn, .slice sa q.slots.length sc] 27) :: G) wx)
      case first =>
        go_region_held3 (fun w' => w'.cell? ⟨tb, 0, none⟩ = some (.pointer (some ⟨pb, 0, none⟩)) ∧ w'.cell? ⟨xb, 0, none⟩ = some (kI (nn : Int)) ∧ w'.cell? ⟨xb, 1, none⟩ = some (kI q.lsn) ∧ w'.cell? ⟨xb, 2, none⟩ = some (.slice sa q.slots.length sc))
          (with_reducible first | exact K1.out | exact K2.out | exact K3.out | exact K4.out | exact K5.out | exact K6.out | exact K7.out)
          (first
            | (go_at_call 27
               first
               | ((with_reducible refine (HPC.out _ HD1.out).mono ?_)
                  rintro e w6 ⟨rfl, hs6⟩
                  have HS6 := Lib.hid hs6
                  have K3 := Lib.hid (HCC.out _ _ hs6)
                  clear hs6)
               | ((with_reducible refine (HPC.out _ HS7.out).mono ?_)
                  rintro e w6 ⟨rfl, hs6⟩
                  have HS8 := Lib.hid hs6
                  have K4 := Lib.hid (HCC.out _ _ hs6)
                  clear hs6))
            | (go_at_call 39
               first
               | ((with_reducible refine (HSE.out _ HD1.out).mono ?_)
                  rintro e w7 ⟨rfl, hs7⟩
                  have HS7 := Lib.hid hs7
                  have K5 := Lib.hid (HCC.out _ _ hs7)
                  clear hs7)
               | ((with_reducible refine (HSE.out _ HS6.out).mono ?_)
                  rintro e w7 ⟨rfl, hs7⟩
                  have HS8 := Lib.hid hs7
                  have K6 := Lib.hid (HCC.out _ _ hs7)
                  clear hs7))
            | (go_at_call 38
               with_reducible refine (HWR.out _ HS8.out).mono ?_
               rintro e w9 ⟨rfl, hs9⟩
               have HS9 := Lib.hid hs9
               have K7 := Lib.hid (HCC.out _ _ hs9)
               clear hs9))
        all_goals
          clear K1 K2 K7 HCC HPC HSE HWR HS8
          go_wp2_with fail
          go_meet
          exact ⟨rfl, HS9.out⟩
      case rest =>
        obtain ⟨rfl, hs⟩ := hcut
        clear K1 K2 HCC HPC HSE HWR HD1 HS1
        have hs2 : StIs tb pb S M3 G wc := hs.part (fun a => by simp only [cnt_cons]; omega)
        by_cases hz : we = 0
        · subst hz
          have FIN : Hid (layQ M3 ((wsOf pl L).drop (i + 1)) = RR ∧ PlOk (bd + (i + 1)) M3 ∧ StIs tb pb S M3 G wc) := Lib.hid ⟨by have := HR2.out.1; rw [if_neg (fun h => h rfl)] at this; exact this, HR2.out.2, hs2⟩
          clear hs hs2 HR2
          go_wp2_with fail
          exact ⟨⟨i + 1, M3, by have := HI.out; omega, rfl, FIN.out⟩, by have := HI.out; simp only [RowKit.intOf]; omega⟩
        · have hz1 : (we == 0) = false := by rw [beq_eq_false_iff_ne]; exact hz
          have hz2 : (we != 0) = true := by rw [bne, hz1]; rfl
          have hrr := HR2.out.1
          rw [if_pos hz] at hrr
          subst hrr
          obtain ⟨_, _, _, _, _, _, _, _, _, d5, df⟩ := hs2.cells
          have FIN : Hid (StIs tb pb (S.die (decide (we ≠ 0))) M3 G (wc.setCell ⟨tb, 5, none⟩ (.bool true))) := Lib.hid (by
            have e : decide (we ≠ 0) = true := decide_eq_true hz
            rw [e]; exact hs2.setDead true)
          clear hs hs2 HR2
          go_wp2_with fail
          go_ret
          exact ⟨rfl, FIN.out⟩
    · obtain rfl : i = L.length := by omega
      have i1 : ((L.length : Int) < (L.length : Int)) = False := eq_false (by omega)
      rw [List.drop_of_length_le (by rw [wsOf_len]; omega)] at hr
      have hr' : syncM M2 = RR := hr
      obtain ⟨se, M3⟩ := RR
      have HSY := Lib.hid (hs.sync hk)
      rw [hr'] at HSY
      obtain ⟨_, _, _, _, c0, _⟩ := hs.cells
      obtain ⟨sb, hsb⟩ : ∃ sb, (se != 0) = sb := ⟨_, rfl⟩
      have hsd : decide (se ≠ 0) = sb := by rw [← hsb]; by_cases h : se = 0 <;> simp [h]
      have HSD := Lib.hid hsd
      clear hr hr' hs hk hi hil hsd
      go_wp2_with (go_at_call 23; refine (HSY.out).mono ?_; rintro e w3 ⟨rfl, hs3⟩; obtain ⟨_, _, _, _, _, _, _, _, _, d5, df⟩ := hs3.cells; have HS3 := Lib.hid (hs3.setDead sb); clear hs3)
      go_ret
      exact ⟨rfl, by rw [HSD.out]; exact HS3.out⟩
set_option maxRecDepth 100000 in
set_option maxHeartbeats 4000000 in
theorem lay2_any {tb pb cb cl : Nat} {S : TS} {M : PM} {G : Heaplet} {w : World} {v : Value} {L : List Lf} {pl : Nat → Int} (h : StIs tb pb S M G w) (hv : LvAt G v L) {bd : Nat} (hk : PlOk bd M) (hb : bd + 200 ≤ 100000) (hl : L.length ≤ 100) (hok : LfOk L)
    (hpl : ∀ (i : Nat) p M' W, L[i]? = some p → StIs tb pb S M' G W → Calls Tryd.prog 28 #[.int .i64 (i : Int), .pointer (some ⟨cb, 0, none⟩), .pointer (some ⟨cl, 0, none⟩)] W (Qt (.int .i64 (pl i)) W)) :
    Calls Tryd.prog 26 #[.pointer (some ⟨tb, 0, none⟩), v, .func (.func 28) #[] #[.pointer (some ⟨cb, 0, none⟩), .pointer (some ⟨cl, 0, none⟩)]] w (LyRet (layQ M (wsOf pl L)) tb pb S G) := by
  obtain ⟨a, cap, rfl, hc⟩ := hv
  have HC := Lib.hid hc
  have HPL := Lib.hid hpl
  have HOK := Lib.hid hok
  obtain ⟨RR, hRR⟩ : ∃ RR, layQ M (wsOf pl L) = RR := ⟨_, rfl⟩
  rw [hRR]
  have HRR := Lib.hid hRR
  have HS := Lib.hid h
  have HK := Lib.hid hk
  have hl9 : (L.length : Int) ≤ 100 := by omega
  clear hc hpl hok hRR h hk
  go_enter Tryd.func26, Tryd.ntmps26
  go_wp2_with fail
  go_loopw [13] (fun v13 wr => ∃ (i : Nat) (M2 : PM), i ≤ L.length ∧ v13 = .int .i64 i ∧ layQ M2 ((wsOf pl L).drop i) = RR ∧ PlOk (bd + i) M2 ∧ StIs tb pb S M2 G wr) (fun v13 _ => 2000 - (RowKit.intOf v13).toNat)
  case atStart => exact ⟨0, M, by omega, rfl, HRR.out, HK.out, HS.out⟩
  case round =>
    clear HS HK HRR
    obtain ⟨i, M2, hi, rfl, hr, hk, hs⟩ := hrel
    have i0 : (0 : Int) ≤ (i : Int) := by omega
    by_cases hil : i < L.length
    · have i1 : (i : Int) < (L.length : Int) := by omega
      obtain ⟨p, hp⟩ : ∃ p, L[i]? = some p := ⟨_, List.getElem?_eq_getElem hil⟩
      obtain ⟨g, off, sv, rfl, hsv, hu⟩ := HC.out i p hp
      obtain ⟨u0, u1, u2⟩ := hu wr hs.frame
      obtain ⟨o1, o2, o3⟩ := HOK.out p (List.mem_of_getElem? hp)
      rw [wsOf_drop hp] at hr
      have HP := Lib.hid hp
      obtain ⟨n, q⟩ := p
      simp only at hsv u0 u1 u2 o1 o2 o3 hr
      obtain ⟨nn, rfl⟩ : ∃ nn : Nat, n = (nn : Int) := ⟨n.toNat, by omega⟩
      rw [Int.toNat_natCast] at hr
      obtain ⟨sa, sc, rfl, _⟩ := id hsv
      obtain ⟨we, M3, hwr⟩ : ∃ we M3, writeM M2 (pl i) (secM nn q) = (we, M3) := ⟨_, _, rfl⟩
      have hr2 : (if we ≠ 0 then (we, M3) else layQ M3 ((wsOf pl L).drop (i + 1))) = RR := by
        rw [← hr]
        show _ = (if (writeM M2 (pl i) (secM nn q)).1 ≠ 0 then writeM M2 (pl i) (secM nn q) else layQ (writeM M2 (pl i) (secM nn q)).2 ((wsOf pl L).drop (i + 1)))
        rw [hwr]
      have hk3 : PlOk (bd + (i + 1)) M3 := by
        have := hk.write (by omega) (pl i) (secM nn q) (secM_size o1)
        rw [hwr] at this
        exact this
      have hs1 := hs.new (.cells #[kI (nn : Int), kI q.lsn, .slice sa q.slots.length sc] 27)
      obtain ⟨xb, hxb⟩ : ∃ xb, wr.heap.size = xb := ⟨_, rfl⟩
      rw [hxb] at hs1
      have HPC : Hid (∀ W, StIs tb pb S M2 (.blk xb (.cells #[kI (nn : Int), kI q.lsn, .slice sa q.slots.length sc] 27) :: G) W → Calls Tryd.prog 28 #[.int .i64 (i : Int), .pointer (some ⟨cb, 0, none⟩), .pointer (some ⟨cl, 0, none⟩)] W (fun e w' => e = .returned (.int .i64 (pl i)) ∧ StIs tb pb S M2 (.blk xb (.cells #[kI (nn : Int), kI q.lsn, .slice sa q.slots.length sc] 27) :: G) w')) := Lib.hid (fun W hW => by
        refine (HPL.out i _ M2 W HP.out (hW.part (fun a => by simp only [cnt_cons]; omega))).mono ?_
        rintro e w' ⟨rfl, m, rfl⟩
        exact ⟨rfl, hW.below (Grown.drewN W m).below⟩)
      have HSE : Hid (∀ W, StIs tb pb S M2 (.blk xb (.cells #[kI (nn : Int), kI q.lsn, .slice sa q.slots.length sc] 27) :: G) W → Calls Tryd.prog 39 #[.int .i64 (nn : Int), pgV q.lsn (.slice sa q.slots.length sc)] W (fun e w' => e = .returned (.string (secM nn q)) ∧ StIs tb pb S M2 (.blk xb (.cells #[kI (nn : Int), kI q.lsn, .slice sa q.slots.length sc] 27) :: G) w')) := Lib.hid (fun W hW => by
        refine (sector_any nn (by omega) o1 (hsv.mono (F' := (.blk xb (.cells #[kI (nn : Int), kI q.lsn, .slice sa q.slots.length sc] 27) :: G)) (fun w hw => hw.tail)) hW.frame).mono ?_
        rintro e w' ⟨rfl, hb⟩
        exact ⟨rfl, hW.below hb⟩)
      have HWR : Hid (∀ W, StIs tb pb S M2 (.blk xb (.cells #[kI (nn : Int), kI q.lsn, .slice sa q.slots.length sc] 27) :: G) W → Calls Tryd.prog 38 #[.pointer (some ⟨pb, 0, none⟩), .int .i64 (pl i), .string (secM nn q)] W (Ret (.int .i64 we) (StIs tb pb S M3 (.blk xb (.cells #[kI (nn : Int), kI q.lsn, .slice sa q.slots.length sc] 27) :: G)))) := Lib.hid (fun W hW => by
        have := hW.write hk (pl i) (secM nn q)
        rw [hwr] at this
        exact this)
      have hcell : ∀ W M', StIs tb pb S M' (.blk xb (.cells #[kI (nn : Int), kI q.lsn, .slice sa q.slots.length sc] 27) :: G) W → W.cell? ⟨tb, 0, none⟩ = some (.pointer (some ⟨pb, 0, none⟩)) ∧ W.cell? ⟨xb, 0, none⟩ = some (kI (nn : Int)) ∧ W.cell? ⟨xb, 1, none⟩ = some (kI q.lsn) ∧ W.cell? ⟨xb, 2, none⟩ = some (.slice sa q.slots.length sc) := fun W M' hW => by
        obtain ⟨_, _, _, _, e0, _⟩ := hW.cells
        have hb := hW.frame.h0
        exact ⟨e0, by rw [cell_of hb]; rfl, by rw [cell_of hb]; rfl, by rw [cell_of hb]; rfl⟩
      have HCC := Lib.hid hcell
      have HR2 := Lib.hid (And.intro hr2 hk3)
      have HS1 := Lib.hid hs1
      have HI := Lib.hid hil
      clear hr hk hs hp hu hsv o1 o2 o3 hr2 hk3 hs1 hwr hcell hi hil
      generalize secM nn q = sq at *
      go_upto_region 4 with (fail)
      clear u0 u1 u2
      generalize wr.alloc (.cells #[.int .i64 (nn : Int), .int .i64 q.lsn, .slice sa q.slots.length sc] 27) = W1 at *
      clear hxb
      have hd1 : StIs tb pb S M2 (.blk xb (.cells #[kI (nn : Int), kI q.lsn, .slice sa q.slots.length sc] 27) :: G) W1.drew := HS1.out.below (Grown.drewN W1 1).below
      have HD1 := Lib.hid hd1
      have K1 := Lib.hid (HCC.out _ _ HS1.out)
      have K2 := Lib.hid (HCC.out _ _ hd1)
      clear hd1
      go_cut [9] (fun v9 wx => v9 = .int .i64 we ∧ StIs tb pb S M3 (.blk xb (.cells #[kI (nn : Int), kI q.lsn, .slice sa q.slots.length sc] 27) :: G) wx)
      case first =>
        go_region_held3 (fun w' => w'.cell? ⟨tb, 0, none⟩ = some (.pointer (some ⟨pb, 0, none⟩)) ∧ w'.cell? ⟨xb, 0, none⟩ = some (kI (nn : Int)) ∧ w'.cell? ⟨xb, 1, none⟩ = some (kI q.lsn) ∧ w'.cell? ⟨xb, 2, none⟩ = some (.slice sa q.slots.length sc))
          (with_reducible first | exact K1.out | exact K2.out | exact K3.out | exact K4.out | exact K5.out | exact K6.out | exact K7.out)
          (first
            | (go_at_call 28
               first
               | ((with_reducible refine (HPC.out _ HD1.out).mono ?_)
                  rintro e w6 ⟨rfl, hs6⟩
                  have HS6 := Lib.hid hs6
                  have K3 := Lib.hid (HCC.out _ _ hs6)
                  clear hs6)
               | ((with_reducible refine (HPC.out _ HS7.out).mono ?_)
                  rintro e w6 ⟨rfl, hs6⟩
                  have HS8 := Lib.hid hs6
                  have K4 := Lib.hid (HCC.out _ _ hs6)
                  clear hs6))
            | (go_at_call 39
               first
               | ((with_reducible refine (HSE.out _ HD1.out).mono ?_)
                  rintro e w7 ⟨rfl, hs7⟩
                  have HS7 := Lib.hid hs7
                  have K5 := Lib.hid (HCC.out _ _ hs7)
                  clear hs7)
               | ((with_reducible refine (HSE.out _ HS6.out).mono ?_)
                  rintro e w7 ⟨rfl, hs7⟩
                  have HS8 := Lib.hid hs7
                  have K6 := Lib.hid (HCC.out _ _ hs7)
                  clear hs7))
            | (go_at_call 38
               with_reducible refine (HWR.out _ HS8.out).mono ?_
               rintro e w9 ⟨rfl, hs9⟩
               have HS9 := Lib.hid hs9
               have K7 := Lib.hid (HCC.out _ _ hs9)
               clear hs9))
        all_goals
          clear K1 K2 K7 HCC HPC HSE HWR HS8
          go_wp2_with fail
          go_meet
          exact ⟨rfl, HS9.out⟩
      case rest =>
        obtain ⟨rfl, hs⟩ := hcut
        clear K1 K2 HCC HPC HSE HWR HD1 HS1
        have hs2 : StIs tb pb S M3 G wc := hs.part (fun a => by simp only [cnt_cons]; omega)
        by_cases hz : we = 0
        · subst hz
          have FIN : Hid (layQ M3 ((wsOf pl L).drop (i + 1)) = RR ∧ PlOk (bd + (i + 1)) M3 ∧ StIs tb pb S M3 G wc) := Lib.hid ⟨by have := HR2.out.1; rw [if_neg (fun h => h rfl)] at this; exact this, HR2.out.2, hs2⟩
          clear hs hs2 HR2
          go_wp2_with fail
          exact ⟨⟨i + 1, M3, by have := HI.out; omega, rfl, FIN.out⟩, by have := HI.out; simp only [RowKit.intOf]; omega⟩
        · have hz1 : (we == 0) = false := by rw [beq_eq_false_iff_ne]; exact hz
          have hz2 : (we != 0) = true := by rw [bne, hz1]; rfl
          have hrr := HR2.out.1
          rw [if_pos hz] at hrr
          subst hrr
          obtain ⟨_, _, _, _, _, _, _, _, _, d5, df⟩ := hs2.cells
          have FIN : Hid (StIs tb pb (S.die (decide (we ≠ 0))) M3 G (wc.setCell ⟨tb, 5, none⟩ (.bool true))) := Lib.hid (by
            have e : decide (we ≠ 0) = true := decide_eq_true hz
            rw [e]; exact hs2.setDead true)
          clear hs hs2 HR2
          go_wp2_with fail
          go_ret
          exact ⟨rfl, FIN.out⟩
    · obtain rfl : i = L.length := by omega
      have i1 : ((L.length : Int) < (L.length : Int)) = False := eq_false (by omega)
      rw [List.drop_of_length_le (by rw [wsOf_len]; omega)] at hr
      have hr' : syncM M2 = RR := hr
      obtain ⟨se, M3⟩ := RR
      have HSY := Lib.hid (hs.sync hk)
      rw [hr'] at HSY
      obtain ⟨_, _, _, _, c0, _⟩ := hs.cells
      obtain ⟨sb, hsb⟩ : ∃ sb, (se != 0) = sb := ⟨_, rfl⟩
      have hsd : decide (se ≠ 0) = sb := by rw [← hsb]; by_cases h : se = 0 <;> simp [h]
      have HSD := Lib.hid hsd
      clear hr hr' hs hk hi hil hsd
      go_wp2_with (go_at_call 23; refine (HSY.out).mono ?_; rintro e w3 ⟨rfl, hs3⟩; obtain ⟨_, _, _, _, _, _, _, _, _, d5, df⟩ := hs3.cells; have HS3 := Lib.hid (hs3.setDead sb); clear hs3)
      go_ret
      exact ⟨rfl, by rw [HSD.out]; exact HS3.out⟩
end Go.Proofs.YtgocmnejlbfplaaDoor
