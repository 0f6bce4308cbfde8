/- TwinRefuses walked. Conditions: none. -/
import Derived.Test.YtgocmnejlbfplaaDoorTw21
namespace Go.Proofs.YtgocmnejlbfplaaDoor
open Go Go.MapKept Go.RowKit Go.Proofs

attribute [local go_sem] Oper.semAt_some

theorem Sat.lone {w : World} {x : HItem} {F : Heaplet} (s : Sat w (x :: F)) : Sat w [x] := Sat.lft (h := [x]) (F := F) s
/-- An image beside a store. -/
theorem StIs.image {tb pb : Nat} {S : TS} {M : PM} {G : Heaplet} {w : World} (h : StIs tb pb S M G w) (lsn : Int) (d : ByteArray) : Calls Tryd.prog 10 #[.int .i64 lsn, .string d] w (fun e w' => ∃ x, e = .returned (pgV lsn (.slice (some ⟨x, 0, none⟩) 1 1)) ∧ StIs tb pb S M (.blk x (.cells #[.bool true, kS d] 60) :: G) w') := by
  obtain ⟨Z, _, _, hz, hmk, _⟩ := h.view
  refine (image_any lsn d Z _ hz).mono ?_
  rintro e w' ⟨x, rfl, hs⟩
  exact ⟨x, rfl, hmk w' [.blk x (.cells #[.bool true, kS d] 60)] hs⟩
theorem StIs.same {tb pb : Nat} {S : TS} {M : PM} {G : Heaplet} {w : World} {va vb : Value} {p q : Pg} (h : StIs tb pb S M G w) (ha : SlAt G va p.slots) (hb : SlAt G vb q.slots) (hl : p.slots.length ≤ 1000) (hl2 : q.slots.length ≤ 1000) (res : Bool) (hres : res = true ↔ p = q) :
    Calls Tryd.prog 13 #[pgV p.lsn va, pgV q.lsn vb] w (Ret (.bool res) (StIs tb pb S M G)) := by
  refine (same_any ha hb h.frame hl hl2 res hres).mono ?_
  rintro e w' ⟨rfl, hb⟩
  exact ⟨rfl, h.below hb⟩
theorem agAt_two {y : Nat} {v0 v1 v2 v5 v6 v7 : Value} {la lb : Option Addr} {lc ld : Nat} {P Q : List Lf} {T : TypeId} {F : Heaplet} (h : LvAt F (.slice la P.length lc) P) (h2 : LvAt F (.slice lb Q.length ld) Q) : AgAt (.blk y (.cells #[v0, v1, v2, .slice la P.length lc, .slice none 0 0, v5, v6, v7, .slice lb Q.length ld, .slice none 0 0] T) :: F) (.slice (some ⟨y, 0, none⟩) 2 2) [(P, 0), (Q, 0)] := by
  refine ⟨some ⟨y, 0, none⟩, 2, rfl, fun i r hr => ?_⟩
  match i, hr with
  | 0, hr =>
    cases hr
    refine ⟨y, 0, la, lc, none, 0, rfl, h.mono (fun w hw => hw.tail), fun w hw => ⟨?_, ?_⟩⟩
    · show w.cell? ⟨y, 3, none⟩ = _
      rw [cell_of hw.h0]; rfl
    · show w.cell? ⟨y, 4, none⟩ = _
      rw [cell_of hw.h0]; rfl
  | 1, hr =>
    cases hr
    refine ⟨y, 0, lb, ld, none, 0, rfl, h2.mono (fun w hw => hw.tail), fun w hw => ⟨?_, ?_⟩⟩
    · show w.cell? ⟨y, 8, none⟩ = _
      rw [cell_of hw.h0]; rfl
    · show w.cell? ⟨y, 9, none⟩ = _
      rw [cell_of hw.h0]; rfl
set_option maxRecDepth 100000 in
set_option maxHeartbeats 8000000 in
theorem refuses_any {va sv : Value} {L : List Lf} {o : Lf} {F : Heaplet} {w : World} (hv : LvAt F va L) (hs : Sat w F) (hl : L.length ≤ 9223372036854775807) (hr : ∀ p ∈ L, -9223372036854775808 ≤ p.2.lsn ∧ p.2.lsn ≤ 9223372036854775807) (ho : SlAt F sv o.2.slots) (hor : -9223372036854775808 ≤ o.2.lsn ∧ o.2.lsn ≤ 9223372036854775807) :
    Calls Tryd.prog 3 #[va, lfV o.1 o.2.lsn sv] w (Ret (.bool true) (Below w.heap.size w)) := by
  obtain ⟨a, cap, rfl, -⟩ := id hv
  obtain ⟨on, q⟩ := o
  simp only at ho hor ⊢
  obtain ⟨sa, sc, rfl, -⟩ := id ho
  have h1 := (sat_all w).new (.cells #[kI on, kI q.lsn, .slice sa q.slots.length sc] 27)
  obtain ⟨bx, hbx⟩ : ∃ bx, w.heap.size = bx := ⟨_, rfl⟩
  rw [hbx] at h1 ⊢
  obtain ⟨G, hG⟩ : ∃ G, HItem.blk bx (.cells #[kI on, kI q.lsn, .slice sa q.slots.length sc] 27) :: allOf w = G := ⟨_, rfl⟩
  rw [hG] at h1
  have hGF : ∀ W, Sat W G → Sat W F := fun W hW => by
    rw [← hG] at hW
    exact hs.monoB hW.tail.below
  have HV := Lib.hid (hv.mono hGF)
  have HO := Lib.hid (ho.mono hGF)
  have HB : Hid (∀ W, Sat W G → Below bx w W) := Lib.hid (fun W hW => by
    rw [← hG] at hW
    rw [← hbx]
    exact hW.tail.below)
  have HX : Hid (∀ W, Sat W G → W.cell? ⟨bx, 0, none⟩ = some (kI on) ∧ W.cell? ⟨bx, 1, none⟩ = some (kI q.lsn) ∧ W.cell? ⟨bx, 2, none⟩ = some (.slice sa q.slots.length sc)) := Lib.hid (fun W hW => by
    rw [← hG] at hW
    refine ⟨?_, ?_, ?_⟩ <;> (rw [cell_of hW.h0]; rfl))
  have HAW := Lib.hid (awake8 G _ h1)
  have HP := Lib.hid (And.intro hl (And.intro hr hor))
  have hl9 : (L.length : Int) ≤ 9223372036854775807 := by omega
  clear hv hs hr ho hor h1 hG hGF hl
  obtain ⟨PB, hPB⟩ : ∃ PB : World → Prop, Below bx w = PB := ⟨_, rfl⟩
  rw [hPB] at HB ⊢
  clear hPB
  go_enter Tryd.func3, Tryd.ntmps3
  go_upto_region 3 with (go_at_call 5; refine (HAW.out).mono ?_; rintro e w2 ⟨rfl, hs2⟩; have HS2 := Lib.hid hs2; obtain ⟨x0, x1, x2⟩ := HX.out _ hs2; clear hs2)
  clear HAW
  obtain ⟨gr, hgr⟩ : ∃ gr, greatM [(L, 0), ([(on, q)], 0)] = gr := ⟨_, rfl⟩
  have HGR := Lib.hid hgr
  have h4 := HS2.out.new (.cells #[kI on, kI q.lsn, .slice sa q.slots.length sc] 27)
  have h5 := h4.new (.cells #[kI 0, kI 0, .int .u8 0, .slice a L.length cap, .slice none 0 0, kI 0, kI 0, .int .u8 0, .slice (some ⟨w2.heap.size, 0, none⟩) 1 1, .slice none 0 0] 32)
  rw [World.size_alloc] at h5
  have HGC := Lib.hid (great_any (.slice (some ⟨w2.heap.size + 1, 0, none⟩) 2 2) [(L, 0), ([(on, q)], 0)] _ _ h5 (agAt_two (la := a) (P := L) (lc := cap) (Q := [(on, q)]) (lb := some ⟨w2.heap.size, 0, none⟩) (ld := 1) (HV.out.mono (fun W hW => hW.tail)) (lvAt_one _ on q _ _ _ HO.out)) (by simp only [List.length_cons, List.length_nil]; omega))
  rw [hgr] at HGC
  have HS3 := Lib.hid h5.tail.tail
  clear h4 h5 HS2
  clear hgr
  cases gr with
  | true =>
    go_wp2_with (go_at_call 6; refine (HGC.out).mono ?_; rintro e w3 ⟨rfl, rfl⟩)
    go_ret
    exact ⟨rfl, HB.out _ HS3.out⟩
  | false =>
    go_upto_region 5 with (go_at_call 6; refine (HGC.out).mono ?_; rintro e w3 ⟨rfl, rfl⟩)
    clear HGC x0 x1 x2
    obtain ⟨g1, g2⟩ := great_two HGR.out
    have HML := Lib.hid (modest_of g1 HP.out.2.1)
    have HMO := Lib.hid (modest_of g2 (fun p hp => by
      obtain rfl : p = (on, q) := by simpa using hp
      exact HP.out.2.2))
    clear g1 g2 HGR HP
    have HNW := Lib.hid (plate_new G 16 _ HS3.out)
    clear HS3
    have HOP : Hid (∀ pb W, PlateIs pb (newM 16) G W → _) := Lib.hid (fun pb W hW => fresh_open (N := 16) (frm := 0) (twins := 3) (k := 5) (by decide) (by decide) (by decide) (by decide) (by decide) (by decide) (by decide) hW)
    have HW1 : Hid (∀ tb pb v G W, StIs tb pb (newT 0 3 5) (newM 16) G W → LvAt G v oneL → Calls Tryd.prog 9 #[.pointer (some ⟨tb, 0, none⟩), v] W (fun e w' => e = .returned (.int .i64 0) ∧ StIs tb pb oneT oneM G w')) := Lib.hid (fun tb pb v G W hW hv => by
      have := twrite_at hW hv Lv5.new (by decide) (by decide) oneFit
      rw [one_write.1] at this
      exact this)
    have HL1 := Lib.hid one_write.2
    have HAT := Lib.hid one_at
    have HAC := Lib.hid one_acts
    generalize oneT = S1 at HW1 HL1 HAT
    generalize oneM = M1 at HW1 HL1 HAC
    generalize newT 0 3 5 = S0 at HOP HW1
    generalize newM 16 = M0 at HNW HOP HW1
    go_upto_region 6 with (go_at_call 7; refine (HNW.out).mono ?_; rintro e w4 ⟨pb, rfl, hp1⟩; have HP1 := Lib.hid hp1; clear hp1)
    clear HNW
    go_upto_region 7 with (go_at_call 8; refine (HOP.out _ _ HP1.out).mono ?_; rintro e w5 ⟨tb, rfl, hs5⟩; have HS5 := Lib.hid hs5; clear hs5)
    clear HOP HP1
    obtain ⟨Z, _, _, hz, hmk, _⟩ := HS5.out.view
    have HMK := Lib.hid hmk
    have HZ := Lib.hid hz
    clear hz hmk HS5
    go_upto_region 9 with (first | (go_at_call 10; refine (image_any 1 ⟨#[97]⟩ Z _ HZ.out).mono ?_; rintro e w6 ⟨x, rfl, hs6⟩; have HS6 := Lib.hid (HMK.out w6 [.blk x (.cells #[.bool true, kS ⟨#[97]⟩] 60)] hs6); clear hs6) | (go_at_call 9; refine (HW1.out _ _ _ _ _ (HS6.out.new (.cells #[kI 2, kI 1, .slice (some ⟨x, 0, none⟩) 1 1] 27)) (lvAt_one _ 2 (imgP 1 aI) (.slice (some ⟨x, 0, none⟩) 1 1) _ _ (slAt_one x aI G))).mono ?_; rintro e w7 ⟨rfl, hs7⟩; have HS7 := Lib.hid (hs7.part (fun a => by simp only [cnt_cons, cnt_append]; omega) : StIs tb pb S1 M1 G w7); clear hs7))
    clear HW1 HMK HZ HS6
    rcases HL1.out.write (L := L) (by decide) HML.out.1 with ⟨hf, he⟩ | ⟨hf, M2, he, hl2, -⟩
    · have HWL : Hid (∀ W, StIs tb pb S1 M1 G W → Calls Tryd.prog 9 #[.pointer (some ⟨tb, 0, none⟩), .slice a L.length cap] W (fun e w' => e = .returned (.int .i64 1) ∧ StIs tb pb S1 M1 G w')) := Lib.hid (fun W hW => by
        have := twrite_at hW HV.out HL1.out (by decide) HML.out.1 HML.out.2
        rw [he] at this
        exact this)
      clear hf he
      go_upto_region 11 with (first | (go_at_call 9; refine (HWL.out _ HS7.out).mono ?_; rintro e w8 ⟨rfl, hs8⟩; have HS8 := Lib.hid hs8; have HAQ := Lib.hid (acts_any _ _ _ _ hs8.toPlate); rw [HAC.out] at HAQ; clear hs8) | (go_at_call 11; refine (HAQ.out).mono ?_; rintro e w9 ⟨rfl, rfl⟩))
      clear HWL HS7 HAQ
      go_wp2_with fail
      go_loopw [9] (fun v9 wr => ∃ i : Nat, i ≤ 5 ∧ v9 = .int .i64 i ∧ StIs tb pb S1 M1 G wr) (fun v9 _ => 100 - (RowKit.intOf v9).toNat)
      case atStart => exact ⟨0, by omega, rfl, HS8.out⟩
      case round =>
        clear HS8
        obtain ⟨i, hi, rfl, hst⟩ := hrel
        have HST := Lib.hid hst
        clear hst
        have i0 : (0 : Int) ≤ (i : Int) := by omega
        by_cases hi5 : i < 5
        · have i1 : (i : Int) < 5 := by omega
          obtain ⟨p, hp⟩ : ∃ p, (if i = 2 then imgP 1 aI else emptyP) = p := ⟨_, rfl⟩
          have hat := HAT.out i hi5
          rw [hp] at hat
          have HRD := Lib.hid (tread_at HST.out HL1.out i0 hat)
          have hpz : p.slots.length ≤ 1000 := HL1.out.sz p (List.mem_of_getElem? hat)
          have HPZ := Lib.hid hpz
          clear hat hpz
          by_cases h2 : i = 2
          · rw [if_pos h2] at hp
            have i2 : ((i : Int) == 2) = true := by rw [beq_iff_eq]; omega
            have HPE := Lib.hid hp
            subst h2
            clear hp hi hi5
            go_upto_region 16 with (go_at_call 12; refine (HRD.out).mono ?_; rintro e wa ⟨ra, rc, hh, rfl, hsl, hsa⟩; have HSL := Lib.hid hsl; have HSA := Lib.hid ((hsa.new (.cells #[kI p.lsn, .slice ra p.slots.length rc] 25)).new (.cells #[kI 0, .slice none 0 0] 25)); clear hsl hsa)
            rw [World.size_alloc] at HSA
            generalize (wa.alloc (.cells #[.int .i64 p.lsn, .slice ra p.slots.length rc] 25)).alloc (.cells #[.int .i64 0, .slice none 0 0] 25) = WB at *
            generalize wa.heap.size = ba at *
            obtain ⟨bb, hbb⟩ : ∃ bb, ba + 1 = bb := ⟨_, rfl⟩
            rw [hbb] at HSA ⊢
            clear hbb HRD
            have HIMG : Hid (Calls Tryd.prog 10 #[.int .i64 1, .string ⟨#[97]⟩] WB (fun e w' => ∃ xi, e = .returned (pgV 1 (.slice (some ⟨xi, 0, none⟩) 1 1)) ∧ StIs tb pb S1 M1 (.blk bb (.cells #[kI 0, .slice none 0 0] 25) :: .blk xi (.cells #[.bool true, kS ⟨#[97]⟩] 60) :: .blk ba (.cells #[kI p.lsn, .slice ra p.slots.length rc] 25) :: (hh ++ G)) w')) := Lib.hid ((HSA.out.image 1 ⟨#[97]⟩).mono (fun e w' h => by
              obtain ⟨xi, rfl, h2⟩ := h
              exact ⟨xi, rfl, h2.part (fun a => by simp only [cnt_cons, cnt_append]; omega)⟩))
            go_upto_region 18 with (go_at_call 10; refine (HIMG.out).mono ?_; rintro e wc ⟨xi, rfl, hsc⟩; have HSC := Lib.hid hsc; obtain ⟨c0, c1, cf⟩ := two_at hsc.frame; clear hsc)
            have HSD := Lib.hid (HSC.out.put2 (kI 1) (.slice (some ⟨xi, 0, none⟩) 1 1))
            clear HSC HSA HIMG c0 c1 cf
            generalize (wc.setCell ⟨bb, 0, none⟩ (.int .i64 1)).setCell ⟨bb, 1, none⟩ (.slice (some ⟨xi, 0, none⟩) 1 1) = WD at *
            obtain ⟨c0, c1, _⟩ := two_at HSD.out.frame
            obtain ⟨d0, d1, _⟩ := two_at HSD.out.frame.tail.tail
            have HSM := Lib.hid (HSD.out.same (p := p) (q := imgP 1 aI) (HSL.out.mono (fun W hW => hW.tail.tail.tail.lft)) ((slAt_one xi aI []).mono (fun W hW => hW.tail.lone)) HPZ.out (by decide) true (by simp [HPE.out]))
            go_wp2_with (go_at_call 13; refine (HSM.out).mono ?_; rintro e we ⟨rfl, hse⟩; have HSE := Lib.hid (hse.part (fun a => by simp only [cnt_cons, cnt_append]; omega) : StIs tb pb S1 M1 G we); clear hse)
            exact ⟨⟨3, by omega, rfl, HSE.out⟩, by simp only [RowKit.intOf]; omega⟩
          · rw [if_neg h2] at hp
            have i2 : ((i : Int) == 2) = false := by rw [beq_eq_false_iff_ne]; omega
            have i3 : ((i : Int) = 2) = False := eq_false (by omega)
            have HPE := Lib.hid hp
            clear hp hi
            go_upto_region 18 with (go_at_call 12; refine (HRD.out).mono ?_; rintro e wa ⟨ra, rc, hh, rfl, hsl, hsa⟩; have HSL := Lib.hid hsl; have HSA := Lib.hid ((hsa.new (.cells #[kI p.lsn, .slice ra p.slots.length rc] 25)).new (.cells #[kI 0, .slice none 0 0] 25)); clear hsl hsa)
            rw [World.size_alloc] at HSA
            generalize (wa.alloc (.cells #[.int .i64 p.lsn, .slice ra p.slots.length rc] 25)).alloc (.cells #[.int .i64 0, .slice none 0 0] 25) = WB at *
            generalize wa.heap.size = ba at *
            obtain ⟨bb, hbb⟩ : ∃ bb, ba + 1 = bb := ⟨_, rfl⟩
            rw [hbb] at HSA ⊢
            clear hbb HRD
            obtain ⟨c0, c1, _⟩ := two_at HSA.out.frame
            obtain ⟨d0, d1, _⟩ := two_at HSA.out.frame.tail
            have HSM := Lib.hid (HSA.out.same (p := p) (q := emptyP) (vb := .slice none 0 0) (HSL.out.mono (fun W hW => hW.tail.tail.lft)) (SlAt.nil _ _ _) HPZ.out (by decide) true (by simp [HPE.out]))
            go_wp2_with (go_at_call 13; refine (HSM.out).mono ?_; rintro e we ⟨rfl, hse⟩; have HSE := Lib.hid (hse.part (fun a => by simp only [cnt_cons, cnt_append]; omega) : StIs tb pb S1 M1 G we); clear hse)
            exact ⟨⟨i + 1, by omega, by simp, HSE.out⟩, by simp only [RowKit.intOf]; omega⟩
        · obtain rfl : i = 5 := by omega
          have FIN := Lib.hid (HB.out _ HST.out.frame)
          clear HST
          go_wp2_with fail
          go_ret
          exact ⟨rfl, FIN.out⟩
    · have hft := hf
      unfold fitsT at hft
      rw [Bool.and_eq_true] at hft
      have hin := fitPM_true hft.1
      have HLK : Hid (∀ (i : Nat) p, L[i]? = some p → 0 ≤ p.1 ∧ (putT S1 L).pages[p.1.toNat]? = some p.2) := Lib.hid (fun i p hp => ⟨(hin p (List.mem_of_getElem? hp)).1, putT_at L S1 i p (fitPM_nd hft.1).1 (fun q hq => ⟨(hin q hq).1, (hin q hq).2.1⟩) hp⟩)
      have HWL : Hid (∀ W, StIs tb pb S1 M1 G W → Calls Tryd.prog 9 #[.pointer (some ⟨tb, 0, none⟩), .slice a L.length cap] W (fun e w' => e = .returned (.int .i64 0) ∧ StIs tb pb (putT S1 L) M2 G w')) := Lib.hid (fun W hW => by
        have := twrite_at hW HV.out HL1.out (by decide) HML.out.1 HML.out.2
        rw [he] at this
        exact this)
      have HL2 := Lib.hid hl2
      clear hf he hl2 hft hin HL1 HAT HAC
      generalize putT S1 L = S2 at HLK HWL HL2
      go_upto_region 21 with (go_at_call 9; refine (HWL.out _ HS7.out).mono ?_; rintro e w8 ⟨rfl, hs8⟩; have HS8 := Lib.hid hs8; clear hs8)
      clear HWL HS7
      go_wp2_with fail
      go_loopw [13] (fun v13 wr => ∃ i : Nat, i ≤ L.length ∧ v13 = .int .i64 i ∧ StIs tb pb S2 M2 G wr) (fun v13 _ => 1000 - (RowKit.intOf v13).toNat)
      case atStart => exact ⟨0, by omega, rfl, HS8.out⟩
      case round =>
        clear HS8
        obtain ⟨i, hi, rfl, hst⟩ := hrel
        have HST := Lib.hid hst
        clear hst
        have i0 : (0 : Int) ≤ (i : Int) := by omega
        have hlm := HML.out.1
        by_cases hil : i < L.length
        · have i1 : (i : Int) < (L.length : Int) := by omega
          have i9 : i < 1000 := by omega
          obtain ⟨p, hp⟩ : ∃ p, L[i]? = some p := ⟨_, List.getElem?_eq_getElem hil⟩
          obtain ⟨p0, p1⟩ := HLK.out i p hp
          obtain ⟨a', c', ea, hcc⟩ := HV.out
          simp only [Value.slice.injEq] at ea
          obtain ⟨rfl, _, rfl⟩ := ea
          obtain ⟨gg, off, sv', rfl, hsv, hu⟩ := hcc i p hp
          have HSV := Lib.hid hsv
          have HU := Lib.hid hu
          obtain ⟨u0, _, _⟩ := hu _ HST.out.frame
          have HRD := Lib.hid (tread_at HST.out HL2.out p0 p1)
          have HPZ := Lib.hid (HL2.out.sz p.2 (List.mem_of_getElem? p1))
          obtain ⟨pn, pq⟩ := p
          simp only at u0 HSV HU HRD HPZ
          obtain ⟨sa', sc', rfl, -⟩ := id HSV.out
          clear hp p0 p1 hcc hsv hu hi hil hlm
          go_upto_region 25 with (go_at_call 12; refine (HRD.out).mono ?_; rintro e wa ⟨ra, rc, hh, rfl, hsl, hsa⟩; have HSL := Lib.hid hsl; have HSA := Lib.hid (hsa.new (.cells #[kI pq.lsn, .slice ra pq.slots.length rc] 25)); clear hsl hsa)
          clear HRD u0 HST
          generalize wa.alloc (.cells #[.int .i64 pq.lsn, .slice ra pq.slots.length rc] 25) = WB at *
          generalize wa.heap.size = ba at *
          obtain ⟨c0, c1, _⟩ := two_at HSA.out.frame
          obtain ⟨_, u1, u2⟩ := HU.out _ HSA.out.frame.tail.right
          have HSM : Hid (∀ W, StIs tb pb S2 M2 (.blk ba (.cells #[kI pq.lsn, .slice ra pq.slots.length rc] 25) :: (hh ++ G)) W → Calls Tryd.prog 13 #[pgV pq.lsn (.slice ra pq.slots.length rc), pgV pq.lsn (.slice sa' pq.slots.length sc')] W (Ret (.bool true) (StIs tb pb S2 M2 G))) := Lib.hid (fun W hW => by
            have := hW.same (p := pq) (q := pq) (HSL.out.mono (fun W hW => hW.tail.lft)) (HSV.out.mono (fun W hW => hW.tail.right)) HPZ.out HPZ.out true (by simp)
            refine this.mono ?_
            rintro e w' ⟨rfl, h⟩
            exact ⟨rfl, h.part (fun a => by simp only [cnt_cons, cnt_append]; omega)⟩)
          clear HSL HSV HPZ HU
          have HDN : Hid (StIs tb pb S2 M2 (.blk ba (.cells #[kI pq.lsn, .slice ra pq.slots.length rc] 25) :: (hh ++ G)) WB.drew) := Lib.hid (HSA.out.below (below_drewN WB 1))
          clear HSA
          go_region_with (go_at_call 13; refine (HSM.out _ HDN.out).mono ?_; rintro e we ⟨rfl, hse⟩; have HSE := Lib.hid hse; clear hse)
          all_goals
            clear c0 c1 u1 u2 HDN HSM
            go_wp2_with fail
            exact ⟨⟨i + 1, by omega, by simp, HSE.out⟩, by simp only [RowKit.intOf]; omega⟩
        · obtain rfl : i = L.length := by omega
          have i1 : ((L.length : Int) < (L.length : Int)) = False := eq_false (by omega)
          have HST2 := HST
          clear HLK hlm hi hil HST
          go_upto_region 29 with (go_at_call 12; refine (tread_nil 0 _).mono ?_; rintro e wa ⟨rfl, hbw⟩; have HSA := Lib.hid ((HST2.out.below hbw).new (.cells #[kI 0, .slice none 0 0] 25)); clear hbw)
          clear HST2
          generalize wa.alloc (.cells #[.int .i64 0, .slice none 0 0] 25) = WB at *
          generalize wa.heap.size = ba at *
          obtain ⟨x0, x1, x2⟩ := HX.out _ HSA.out.frame.tail
          have hsn := HSA.out.new (.cells #[kI on, kI q.lsn, .slice sa q.slots.length sc, kI on, kI q.lsn, .slice sa q.slots.length sc] 27)
          have HWT : Hid (Calls Tryd.prog 9 #[.pointer (some ⟨tb, 0, none⟩), .slice (some ⟨WB.heap.size, 0, none⟩) 2 2] (WB.alloc (.cells #[kI on, kI q.lsn, .slice sa q.slots.length sc, kI on, kI q.lsn, .slice sa q.slots.length sc] 27)) (fun e w' => e = .returned (.int .i64 1) ∧ StIs tb pb S2 M2 G w')) := Lib.hid (by
            have := twrite_at (L := [(on, q), (on, q)]) hsn (lvAt_two _ on on q q _ _ _ _ (HO.out.mono (fun W hW => hW.tail)) (HO.out.mono (fun W hW => hW.tail))) HL2.out (by decide) (by simp) (fun p hp => by
              obtain rfl : p = (on, q) := by simpa using hp
              exact HMO.out.2 _ (.head _))
            rcases HL2.out.write (L := [(on, q), (on, q)]) (by decide) (by simp) with ⟨_, he⟩ | ⟨hf, _⟩
            · rw [he] at this
              refine this.mono ?_
              rintro e w' ⟨rfl, h⟩
              exact ⟨rfl, h.part (fun a => by simp only [cnt_cons]; omega)⟩
            · rw [fits_twice] at hf
              cases hf)
          clear hsn HSA
          go_wp2_with (first | (go_at_call 9; with_reducible refine (HWT.out).mono ?_; rintro e wc ⟨rfl, hsc⟩; have HSC := Lib.hid hsc; clear hsc) | (go_at_call 9; refine (twrite_nil _ _ ⟨_, _, _, rfl⟩).mono ?_; rintro e wd ⟨rfl, hbd⟩; have FIN := Lib.hid (HB.out _ (HSC.out.below hbd).frame); clear hbd))
          go_ret
          exact ⟨rfl, FIN.out⟩
end Go.Proofs.YtgocmnejlbfplaaDoor
