/- Texts put together: Tw16, Tx16. Conditions: none. -/
import Derived.Test.YtgocmnejlbfplaaGreatDoorTy23
import Derived.Test.YtgocmnejlbfplaaGreatDoorTy25
namespace Go.Proofs.YtgocmnejlbfplaaGreatDoor
open Go Go.MapKept Go.RowKit Go.Proofs

attribute [local go_sem] Oper.semAt_some

theorem fitPM_true {len : Nat} : ∀ {L : List Lf} {S : List Int}, fitPM len S L = true → ∀ p ∈ L, 0 ≤ p.1 ∧ p.1 < (len : Int) ∧ goodP p.2 = true
  | [], _, _, p, hp => by cases hp
  | q :: r, S, h, p, hp => by
    unfold fitPM at h
    split at h
    · cases h
    · rename_i hc
      simp only [Bool.or_eq_true, decide_eq_true_eq, Bool.not_eq_true', not_or] at hc
      rcases List.mem_cons.1 hp with e | hp
      · subst e
        obtain ⟨⟨⟨h1, h2⟩, _⟩, h4⟩ := hc
        exact ⟨by omega, by omega, by simpa using h4⟩
      · exact fitPM_true h p hp
def putT (S : TS) (L : List Lf) : TS := L.foldl (fun S p => S.set p.1.toNat p.2) S
theorem putT_snoc (S : TS) (L : List Lf) (p : Lf) : putT S (L ++ [p]) = (putT S L).set p.1.toNat p.2 := by simp [putT, List.foldl_append]
theorem putT_keep : ∀ (L : List Lf) (S : TS), (putT S L).frm = S.frm ∧ (putT S L).twins = S.twins ∧ (putT S L).pages.length = S.pages.length ∧ (putT S L).life = S.life ∧ (putT S L).dead = S.dead
  | [], S => ⟨rfl, rfl, rfl, rfl, rfl⟩
  | p :: L, S => by
    obtain ⟨h1, h2, h3, h4, h5⟩ := putT_keep L (S.set p.1.toNat p.2)
    exact ⟨h1, h2, by rw [show putT S (p :: L) = putT (S.set p.1.toNat p.2) L from rfl, h3]; simp [TS.set], h4, h5⟩
def plH (S : TS) (L : List Lf) (i : Nat) : Int := S.frm + S.twins + ((L[i]?).map (fun p => p.1)).getD 0
/-- What Write comes to: the error, the store, the plate. -/
def writeT (S : TS) (M : PM) (L : List Lf) : Int × TS × PM :=
  if rdyT S M ≠ 0 then (rdyT S M, S, M)
  else if fitsT S L = false then (1, S, M)
  else if L.length = 0 then (0, S, M)
  else if (layQ M (wsOf (fun i => S.frm + (i : Int)) L)).1 ≠ 0 then ((layQ M (wsOf (fun i => S.frm + (i : Int)) L)).1, S.die true, (layQ M (wsOf (fun i => S.frm + (i : Int)) L)).2)
  else if (layQ (layQ M (wsOf (fun i => S.frm + (i : Int)) L)).2 (wsOf (plH S L) L)).1 ≠ 0 then ((layQ (layQ M (wsOf (fun i => S.frm + (i : Int)) L)).2 (wsOf (plH S L) L)).1, S.die true, (layQ (layQ M (wsOf (fun i => S.frm + (i : Int)) L)).2 (wsOf (plH S L) L)).2)
  else (0, putT (S.die false) L, (layQ (layQ M (wsOf (fun i => S.frm + (i : Int)) L)).2 (wsOf (plH S L) L)).2)
theorem layQ_ok {bd : Nat} : ∀ {ws : List (Int × ByteArray)} {M : PM}, PlOk bd M → (∀ x ∈ ws, x.2.size = 256) → bd + ws.length + 1 ≤ 100000 → PlOk (bd + ws.length + 1) (layQ M ws).2
  | [], M, h, _, hb => h.sync hb
  | x :: t, M, h, hs, hb => by
    have hw := h.write (by simp only [List.length_cons] at hb; omega) x.1 x.2 (hs x (.head _))
    show PlOk _ (if _ then _ else _ : Int × PM).2
    split
    · exact hw.mono (by simp only [List.length_cons]; omega) hb
    · exact (layQ_ok (bd := bd + 1) hw (fun y hy => hs y (.tail _ hy)) (by simp only [List.length_cons] at hb; omega)).mono (by simp only [List.length_cons]; omega) hb
theorem wsOf_size {pl : Nat → Int} {L : List Lf} (h : LfOk L) : ∀ x ∈ wsOf pl L, x.2.size = 256 := by
  intro x hx
  unfold wsOf at hx
  obtain ⟨y, hy, rfl⟩ := List.mem_map.1 hx
  obtain ⟨i, hi⟩ := List.mem_iff_getElem?.1 hy
  rw [List.getElem?_zipIdx] at hi
  cases hq : L[i]? with
  | none => rw [hq] at hi; cases hi
  | some p =>
    rw [hq] at hi
    cases hi
    exact secM_size (h p (List.mem_of_getElem? hq)).1
def WrRet (r : Int × TS × PM) (tb pb : Nat) (G : Heaplet) (e : Ending) (w' : World) : Prop := e = .returned (.int .i64 r.1) ∧ StIs tb pb r.2.1 r.2.2 G w'
theorem twrite_nil (v : Value) (w : World) (hv : ∃ a n c, v = .slice a n c) : Calls Tryz.prog 10 #[.pointer none, v] w (Ret (.int .i64 2) (Below w.heap.size w)) := by
  obtain ⟨a, n, c, rfl⟩ := hv
  have HR := Lib.hid (fun W => trdy_nil W)
  have s2 := ((sat_all w).new (.cells #[.pointer none] 29)).new (.cells #[.slice a n c] 36)
  have HB := Lib.hid s2.tail.tail.below
  clear s2
  go_enter Tryz.func10, Tryz.ntmps10
  go_wp2_with (go_at_call 40; refine (HR.out _).mono ?_; rintro e w1 ⟨rfl, rfl⟩)
  go_ret
  exact ⟨rfl, HB.out⟩
set_option maxRecDepth 100000 in
set_option maxHeartbeats 4000000 in
theorem twrite_any {tb pb : Nat} {S : TS} {M : PM} {G : Heaplet} {w : World} {v : Value} {L : List Lf} (h : StIs tb pb S M G w) (hv : LvAt G v L) {bd : Nat} (hk : PlOk bd M) (hb : bd + 1000 ≤ 100000) (hl : L.length ≤ 100) (hf : FitP L) (hfr : 0 ≤ S.frm ∧ S.frm ≤ 1000000) (htw : 0 ≤ S.twins ∧ S.twins ≤ 64) (hpg : S.pages.length ≤ 1024) :
    Calls Tryz.prog 10 #[.pointer (some ⟨tb, 0, none⟩), v] w (WrRet (writeT S M L) tb pb G) := by
  obtain ⟨a, cap, rfl, hc⟩ := id hv
  obtain ⟨WT, hWT⟩ : ∃ WT, writeT S M L = WT := ⟨_, rfl⟩
  rw [hWT]
  have HWT := Lib.hid hWT
  obtain ⟨cb, hcb⟩ : ∃ cb, w.heap.size = cb := ⟨_, rfl⟩
  obtain ⟨cl, hcl⟩ : ∃ cl, cb + 1 = cl := ⟨_, rfl⟩
  have h2 := (h.new (.cells #[.pointer (some ⟨tb, 0, none⟩)] 29)).new (.cells #[.slice a L.length cap] 36)
  rw [World.size_alloc, hcb, hcl] at h2
  obtain ⟨G2, hG2⟩ : ∃ G2, HItem.blk cl (.cells #[.slice a L.length cap] 36) :: .blk cb (.cells #[.pointer (some ⟨tb, 0, none⟩)] 29) :: G = G2 := ⟨_, rfl⟩
  rw [hG2] at h2
  have hv2 : LvAt G2 (.slice a L.length cap) L := hv.mono (fun W hW => by rw [← hG2] at hW; exact hW.tail.tail)
  have HCB : Hid (∀ W, Sat W G2 → W.cell? ⟨cb, 0, none⟩ = some (.pointer (some ⟨tb, 0, none⟩)) ∧ W.cell? ⟨cl, 0, none⟩ = some (.slice a L.length cap)) := Lib.hid (fun W hW => by
    rw [← hG2] at hW
    exact ⟨by rw [cell_of hW.h1]; rfl, by rw [cell_of hW.h0]; rfl⟩)
  have HDR : Hid (∀ W S' M', StIs tb pb S' M' G2 W → StIs tb pb S' M' G W) := Lib.hid (fun W S' M' hW => hW.part (fun a => by rw [← hG2]; simp only [cnt_cons]; omega))
  have HS := Lib.hid h2
  have HV := Lib.hid hv2
  have HP := Lib.hid (And.intro hk (And.intro hb (And.intro hl (And.intro hf (And.intro hfr (And.intro htw hpg))))))
  have hl9 : (L.length : Int) ≤ 100 := by omega
  obtain ⟨rd, hrd⟩ : ∃ rd, rdyT S M = rd := ⟨_, rfl⟩
  have HRD := Lib.hid (trdy_any h2)
  rw [hrd] at HRD
  have HR := Lib.hid hrd
  obtain ⟨k0, k1⟩ := HCB.out _ h2.frame
  clear h hv hc h2 hv2 hk hb hl hf hfr htw hpg hrd hWT hG2
  by_cases hz : rd = 0
  · subst hz
    obtain ⟨ft, hft⟩ : ∃ ft, fitsT S L = ft := ⟨_, rfl⟩
    have HFT := Lib.hid hft
    have HFC : Hid (∀ W, StIs tb pb S M G2 W → Calls Tryz.prog 41 #[.pointer (some ⟨tb, 0, none⟩), .slice a L.length cap] W (Ret (.bool ft) (Below W.heap.size W))) := Lib.hid (fun W hW => by
      have := fits_any hW HV.out (by have := HP.out; omega) HP.out.2.2.2.1 (by have := HP.out; omega)
      rw [hft] at this
      exact this)
    clear hft
    go_enter Tryz.func10, Tryz.ntmps10
    go_upto_region 4 with (go_at_call 40; refine (HRD.out).mono ?_; rintro e w2 ⟨rfl, nd, hw2⟩; have hs2 := HS.out.below (Grown.drewN _ nd).below; rw [← hw2] at hs2; have HS2 := Lib.hid hs2; clear hs2 hw2 k0 k1)
    clear HS HRD
    obtain ⟨k0, k1⟩ := HCB.out _ HS2.out.frame
    have HF2 := Lib.hid (HFC.out _ HS2.out)
    cases ft with
    | false =>
      obtain rfl : WT = (1, S, M) := by rw [← HWT.out]; unfold writeT; rw [HR.out, if_neg (fun h => h rfl), if_pos HFT.out]
      go_wp2_with (go_at_call 41; refine (HF2.out).mono ?_; rintro e w3 ⟨rfl, hb3⟩; have HS3 := Lib.hid (HDR.out _ _ _ (HS2.out.below hb3)); clear hb3)
      go_ret
      exact ⟨rfl, HS3.out⟩
    | true =>
      have hft := HFT.out
      unfold fitsT at hft
      rw [Bool.and_eq_true] at hft
      have hlk : LfOk L := fun p hp => by
        have := fitPM_true hft.1 p hp
        exact ⟨this.2.2, this.1, by have := HP.out; omega⟩
      have hin : ∀ p ∈ L, 0 ≤ p.1 ∧ p.1 < (S.pages.length : Int) := fun p hp => by
        have := fitPM_true hft.1 p hp
        exact ⟨this.1, this.2.1⟩
      have HLK := Lib.hid (And.intro hlk hin)
      clear hft hlk hin
      go_upto_region 6 with (go_at_call 41; refine (HF2.out).mono ?_; rintro e w3 ⟨rfl, hb3⟩; have HS3 := Lib.hid (HS2.out.below hb3); clear hb3 k0 k1)
      clear HS2 HF2 HFC
      obtain ⟨k0, k1⟩ := HCB.out _ HS3.out.frame
      by_cases hle : L.length = 0
      · obtain rfl : WT = (0, S, M) := by rw [← HWT.out]; unfold writeT; rw [HR.out, if_neg (fun h => h rfl), if_neg (by rw [HFT.out]; simp), if_pos hle]
        have hl0 : ((L.length : Int) == 0) = true := by rw [beq_iff_eq]; omega
        have hl1 : ((L.length : Int) = 0) = True := eq_true (by omega)
        have FIN := Lib.hid (HDR.out _ _ _ HS3.out)
        clear HS3
        go_wp2_with fail
        go_ret
        exact ⟨rfl, FIN.out⟩
      · have hl0 : ((L.length : Int) == 0) = false := by rw [beq_eq_false_iff_ne]; omega
        have hl1 : ((L.length : Int) = 0) = False := eq_false (by omega)
        have hl2 : (L.length = 0) = False := eq_false hle
        obtain ⟨r1, M1, h1⟩ : ∃ r1 M1, layQ M (wsOf (fun i => S.frm + (i : Int)) L) = (r1, M1) := ⟨_, _, rfl⟩
        have hwt := HWT.out
        unfold writeT at hwt
        rw [HR.out, if_neg (fun h => h rfl), if_neg (by rw [HFT.out]; simp), if_neg hle, h1] at hwt
        simp only at hwt
        have hk1 : PlOk (bd + 101) M1 := by
          have := layQ_ok HP.out.1 (wsOf_size (pl := fun i => S.frm + (i : Int)) HLK.out.1) (by rw [wsOf_len]; have := HP.out; omega)
          rw [h1, wsOf_len] at this
          exact this.mono (by have := HP.out; omega) (by have := HP.out; omega)
        have HL1 := Lib.hid (lay1_any (cb := cb) (pl := fun i => S.frm + (i : Int)) HS3.out HV.out HP.out.1 (by have := HP.out; omega) (by have := HP.out; omega) HLK.out.1 (fun i p M' W hp hW => plc1_any hW (HCB.out W hW.frame).1 i (by have := (List.getElem?_eq_some_iff.1 hp).1; have := HP.out; omega) HP.out.2.2.2.2.1))
        rw [h1] at HL1
        have HW1 := Lib.hid hwt
        have HK1 := Lib.hid hk1
        clear h1 hwt hk1 HWT
        by_cases hr1 : r1 = 0
        · subst hr1
          go_upto_region 11 with (go_at_call 42; refine (HL1.out).mono ?_; rintro e w4 ⟨rfl, hs4⟩; have HS4 := Lib.hid hs4; clear hs4 k0 k1)
          have hd0 : decide ((0 : Int) ≠ 0) = false := by decide
          rw [hd0] at HS4
          clear hd0 HL1 HS3
          obtain ⟨r2, M2, h2⟩ : ∃ r2 M2, layQ M1 (wsOf (plH S L) L) = (r2, M2) := ⟨_, _, rfl⟩
          have hwt := HW1.out
          rw [if_neg (fun h => h rfl), h2] at hwt
          simp only at hwt
          have HL2 := Lib.hid (lay2_any (cb := cb) (cl := cl) (pl := plH S L) HS4.out HV.out HK1.out (by have := HP.out; omega) (by have := HP.out; omega) HLK.out.1 (fun i p M' W hp hW => by
            have h3 := plc2_any hW (HCB.out W hW.frame).1 (HCB.out W hW.frame).2 HV.out i hp (by have := HLK.out.1 p (List.mem_of_getElem? hp); exact this.2) (by have := HP.out; omega) HP.out.2.2.2.2.1 HP.out.2.2.2.2.2.1
            have e : plH S L i = (S.die false).frm + (S.die false).twins + p.1 := by unfold plH; rw [hp]; rfl
            rw [e]
            exact h3))
          rw [h2] at HL2
          have HW2 := Lib.hid hwt
          obtain ⟨k0, k1⟩ := HCB.out _ HS4.out.frame
          clear h2 hwt HW1 HK1
          by_cases hr2 : r2 = 0
          · subst hr2
            have hwt := HW2.out
            rw [if_neg (fun h => h rfl)] at hwt
            subst hwt
            go_upto_region 14 with (go_at_call 42; refine (HL2.out).mono ?_; rintro e w5 ⟨rfl, hs5⟩; have HS5 := Lib.hid hs5; clear hs5 k0 k1)
            have H5 : Hid (StIs tb pb (putT (S.die false) (L.take 0)) M2 G2 w5) := Lib.hid (by have := HS5.out; exact this)
            clear HS5 HS4 HL2 HW2
            obtain ⟨k0, k1⟩ := HCB.out _ H5.out.frame
            have HC := HV.out
            go_wp2_with fail
            go_loopw [41] (fun v41 wr => ∃ i : Nat, i ≤ L.length ∧ v41 = .int .i64 i ∧ StIs tb pb (putT (S.die false) (L.take i)) M2 G2 wr) (fun v41 _ => 2000 - (RowKit.intOf v41).toNat)
            case atStart => exact ⟨0, by omega, rfl, H5.out⟩
            case round =>
              clear H5 k0 k1
              obtain ⟨i, hi, rfl, hs⟩ := hrel
              have i0 : (0 : Int) ≤ (i : Int) := by omega
              by_cases hil : i < L.length
              · have i1 : (i : Int) < (L.length : Int) := by omega
                obtain ⟨p, hp⟩ : ∃ p, L[i]? = some p := ⟨_, List.getElem?_eq_getElem hil⟩
                obtain ⟨a', c', e', hcc⟩ := HC
                simp only [Value.slice.injEq] at e'
                obtain ⟨rfl, _, rfl⟩ := e'
                obtain ⟨g, off, sv, rfl, hsv, hu⟩ := hcc i p hp
                obtain ⟨u0, u1, u2⟩ := hu wr hs.frame
                obtain ⟨sa, sc, rfl, _⟩ := id hsv
                have hlk := HLK.out.1 p (List.mem_of_getElem? hp)
                have hin := HLK.out.2 p (List.mem_of_getElem? hp)
                obtain ⟨S3, hS3⟩ : ∃ S3, putT (S.die false) (L.take i) = S3 := ⟨_, rfl⟩
                rw [hS3] at hs
                have htk : L.take (i + 1) = L.take i ++ [p] := by rw [List.take_add_one, hp]; rfl
                have hnx : putT (S.die false) (L.take (i + 1)) = S3.set p.1.toNat p.2 := by rw [htk, putT_snoc, hS3]
                have hpl : S3.pages.length = S.pages.length := by rw [← hS3]; exact (putT_keep _ _).2.2.1
                obtain ⟨n, q⟩ := p
                simp only at u0 u1 u2 hsv hlk hin hnx
                obtain ⟨nn, rfl⟩ : ∃ nn : Nat, n = (nn : Int) := ⟨n.toNat, by omega⟩
                rw [Int.toNat_natCast] at hnx
                have hs1 := hs.new (.cells #[kI (nn : Int), kI q.lsn, .slice sa q.slots.length sc] 55)
                obtain ⟨xb, hxb⟩ : ∃ xb, wr.heap.size = xb := ⟨_, rfl⟩
                rw [hxb] at hs1
                obtain ⟨Z, _, _, hz, hmk, _⟩ := hs1.view
                have HCLN := Lib.hid (clone_sl (hsv.mono (F' := Z) (fun W hW => ((hmk W [] hW).frame).tail)) hz (by have := (goodP_iff.1 hlk.1).2.2.1; omega))
                have HMK := Lib.hid hmk
                have HNX := Lib.hid (And.intro hnx (And.intro hpl (And.intro hlk (And.intro hin hil))))
                have x2 : (wr.alloc (.cells #[kI (nn : Int), kI q.lsn, .slice sa q.slots.length sc] 55)).cell? ⟨xb, 2, none⟩ = some (.slice sa q.slots.length sc) := by rw [cell_of hs1.frame.h0]; rfl
                clear hs hu hsv hlk hin hS3 htk hnx hpl hs1 hz hmk hp hi hil hcc
                go_upto_region 18 with (go_at_call 46; refine (HCLN.out).mono ?_; rintro e w6 ⟨v6, h6, rfl, hv6, hs6⟩; obtain ⟨va, vc, rfl⟩ := sl_form hv6; have HV6 := Lib.hid hv6; have hs7 := (HMK.out w6 h6 hs6).part (G' := .blk xb (.cells #[kI (nn : Int), kI q.lsn, .slice sa q.slots.length sc] 55) :: (h6 ++ G2)) (fun a => by simp only [cnt_cons, cnt_append]; omega); have y2 : w6.cell? ⟨xb, 2, none⟩ = some (.slice sa q.slots.length sc) := (by rw [cell_of hs7.frame.h0]; rfl); have yf := unfrozen_of hs7.frame.h0; have HS8 := Lib.hid (hs7.setF (i := 2) (.slice va q.slots.length vc)); clear hs6 hs7 hv6 x2 u0 u1 u2)
                have e5 : (#[kI (nn : Int), kI q.lsn, .slice sa q.slots.length sc] : Array Value).setIfInBounds 2 (.slice va q.slots.length vc) = #[kI (nn : Int), kI q.lsn, .slice va q.slots.length vc] := rfl
                rw [e5] at HS8
                clear e5 y2 yf HMK HCLN hxb
                generalize w6.setCell ⟨xb, 2, none⟩ (.slice va q.slots.length vc) = W8 at *
                obtain ⟨hnx, hpl, hlk, hin, hil⟩ := HNX.out
                obtain ⟨p0, hp0⟩ : ∃ p0, S3.pages[nn]? = some p0 := ⟨_, List.getElem?_eq_getElem (by omega)⟩
                have hsl6 : SlAt h6 (.slice va q.slots.length vc) q.slots := by
                  have := slAt_own HV6.out []
                  rw [List.append_nil] at this
                  exact this
                obtain ⟨gp, pc, q3, fz, ⟨x0, hx0⟩, ⟨x1, hx1⟩, z3, hfin⟩ := (show StIs tb pb S3 M2 (h6 ++ (.blk xb (.cells #[kI (nn : Int), kI q.lsn, .slice va q.slots.length vc] 55) :: G2)) W8 from HS8.out.part (fun a => by simp only [cnt_cons, cnt_append]; omega)).setPage hp0 hsl6
                have FIN : Hid (StIs tb pb (putT (S.die false) (L.take (i + 1))) M2 G2 ((W8.setCell ⟨gp, nn * 2, none⟩ (kI q.lsn)).setCell ⟨gp, nn * 2 + 1, none⟩ (.slice va q.slots.length vc)).drew) := Lib.hid (by
                  rw [hnx]
                  exact (hfin.part (fun a => by simp only [cnt_cons]; omega)).below (Grown.drewN _ 1).below)
                have hb8 := HS8.out.frame.h0
                have y0 : W8.cell? ⟨xb, 0, none⟩ = some (kI (nn : Int)) := by rw [cell_of hb8]; rfl
                have y1 : W8.cell? ⟨xb, 1, none⟩ = some (kI q.lsn) := by rw [cell_of hb8]; rfl
                have y2 : W8.cell? ⟨xb, 2, none⟩ = some (.slice va q.slots.length vc) := by rw [cell_of hb8]; rfl
                have y3 := (HCB.out _ HS8.out.frame.tail.right).1
                have n0 : (0 : Int) ≤ (nn : Int) := by omega
                have n1 : (nn : Int) < (S3.pages.length : Int) := by omega
                have K1 : Hid (W8.cell? ⟨cb, 0, none⟩ = some (.pointer (some ⟨tb, 0, none⟩)) ∧ W8.cell? ⟨tb, 3, none⟩ = some (.slice (some ⟨gp, 0, none⟩) S3.pages.length pc) ∧ W8.cell? ⟨xb, 0, none⟩ = some (kI (nn : Int)) ∧ W8.cell? ⟨xb, 1, none⟩ = some (kI q.lsn) ∧ W8.cell? ⟨xb, 2, none⟩ = some (.slice va q.slots.length vc)) := Lib.hid ⟨y3, q3, y0, y1, y2⟩
                have K2 : Hid (W8.drew.cell? ⟨cb, 0, none⟩ = some (.pointer (some ⟨tb, 0, none⟩)) ∧ W8.drew.cell? ⟨tb, 3, none⟩ = some (.slice (some ⟨gp, 0, none⟩) S3.pages.length pc) ∧ W8.drew.cell? ⟨xb, 0, none⟩ = some (kI (nn : Int)) ∧ W8.drew.cell? ⟨xb, 1, none⟩ = some (kI q.lsn) ∧ W8.drew.cell? ⟨xb, 2, none⟩ = some (.slice va q.slots.length vc)) := Lib.hid ⟨y3, q3, y0, y1, y2⟩
                have hb9 := hfin.frame.h0
                have z0 : ((W8.setCell ⟨gp, nn * 2, none⟩ (kI q.lsn)).setCell ⟨gp, nn * 2 + 1, none⟩ (.slice va q.slots.length vc)).cell? ⟨xb, 0, none⟩ = some (kI (nn : Int)) := by rw [cell_of hb9]; rfl
                have z1 : ((W8.setCell ⟨gp, nn * 2, none⟩ (kI q.lsn)).setCell ⟨gp, nn * 2 + 1, none⟩ (.slice va q.slots.length vc)).cell? ⟨xb, 1, none⟩ = some (kI q.lsn) := by rw [cell_of hb9]; rfl
                have z2 : ((W8.setCell ⟨gp, nn * 2, none⟩ (kI q.lsn)).setCell ⟨gp, nn * 2 + 1, none⟩ (.slice va q.slots.length vc)).cell? ⟨xb, 2, none⟩ = some (.slice va q.slots.length vc) := by rw [cell_of hb9]; rfl
                have z4 := (HCB.out _ hfin.frame.tail).1
                have K3 : Hid (((W8.setCell ⟨gp, nn * 2, none⟩ (kI q.lsn)).setCell ⟨gp, nn * 2 + 1, none⟩ (.slice va q.slots.length vc)).drew.cell? ⟨cb, 0, none⟩ = some (.pointer (some ⟨tb, 0, none⟩)) ∧ ((W8.setCell ⟨gp, nn * 2, none⟩ (kI q.lsn)).setCell ⟨gp, nn * 2 + 1, none⟩ (.slice va q.slots.length vc)).drew.cell? ⟨tb, 3, none⟩ = some (.slice (some ⟨gp, 0, none⟩) S3.pages.length pc) ∧ ((W8.setCell ⟨gp, nn * 2, none⟩ (kI q.lsn)).setCell ⟨gp, nn * 2 + 1, none⟩ (.slice va q.slots.length vc)).drew.cell? ⟨xb, 0, none⟩ = some (kI (nn : Int)) ∧ ((W8.setCell ⟨gp, nn * 2, none⟩ (kI q.lsn)).setCell ⟨gp, nn * 2 + 1, none⟩ (.slice va q.slots.length vc)).drew.cell? ⟨xb, 1, none⟩ = some (kI q.lsn) ∧ ((W8.setCell ⟨gp, nn * 2, none⟩ (kI q.lsn)).setCell ⟨gp, nn * 2 + 1, none⟩ (.slice va q.slots.length vc)).drew.cell? ⟨xb, 2, none⟩ = some (.slice va q.slots.length vc)) := Lib.hid ⟨z4, z3, z0, z1, z2⟩
                have HI := Lib.hid hil
                clear hb9 z0 z1 z2 z3 z4
                clear hnx hpl hlk hin hil hp0 hsl6 hfin hb8 y0 y1 y2 y3 q3 HNX HV6 HS8
                go_region_held3 (fun W => W.cell? ⟨cb, 0, none⟩ = some (.pointer (some ⟨tb, 0, none⟩)) ∧ W.cell? ⟨tb, 3, none⟩ = some (.slice (some ⟨gp, 0, none⟩) S3.pages.length pc) ∧ W.cell? ⟨xb, 0, none⟩ = some (kI (nn : Int)) ∧ W.cell? ⟨xb, 1, none⟩ = some (kI q.lsn) ∧ W.cell? ⟨xb, 2, none⟩ = some (.slice va q.slots.length vc))
                  (with_reducible first | exact K1.out | exact K2.out | exact K3.out)
                  (fail)
                all_goals
                  clear K1 K2 K3 hx0 hx1 fz
                  go_wp2_with fail
                  exact ⟨⟨i + 1, HI.out, by simp, FIN.out⟩, by have := HI.out; simp only [RowKit.intOf]; omega⟩
              · obtain rfl : i = L.length := by omega
                have i1 : ((L.length : Int) < (L.length : Int)) = False := eq_false (by omega)
                rw [List.take_length] at hs
                have FIN := Lib.hid (HDR.out _ _ _ hs)
                clear hs hi hil
                go_wp2_with fail
                go_ret
                exact ⟨rfl, FIN.out⟩
          · have hz1 : (r2 == 0) = false := by rw [beq_eq_false_iff_ne]; exact hr2
            have hz2 : (r2 != 0) = true := by rw [bne, hz1]; rfl
            have hwt := HW2.out
            rw [if_pos hr2] at hwt
            subst hwt
            have hd : decide (r2 ≠ 0) = true := decide_eq_true hr2
            go_wp2_with (go_at_call 42; refine (HL2.out).mono ?_; rintro e w5 ⟨rfl, hs5⟩; have HS5 := Lib.hid (HDR.out _ _ _ hs5); clear hs5)
            go_ret
            exact ⟨rfl, by have := HS5.out; rw [hd] at this; exact this⟩
        · have hz1 : (r1 == 0) = false := by rw [beq_eq_false_iff_ne]; exact hr1
          have hz2 : (r1 != 0) = true := by rw [bne, hz1]; rfl
          have hwt := HW1.out
          rw [if_pos hr1] at hwt
          subst hwt
          have hd : decide (r1 ≠ 0) = true := decide_eq_true hr1
          go_wp2_with (go_at_call 42; refine (HL1.out).mono ?_; rintro e w4 ⟨rfl, hs4⟩; have HS4 := Lib.hid (HDR.out _ _ _ hs4); clear hs4)
          go_ret
          exact ⟨rfl, by have := HS4.out; rw [hd] at this; exact this⟩
  · have hz1 : (rd == 0) = false := by rw [beq_eq_false_iff_ne]; exact hz
    have hz2 : (rd != 0) = true := by rw [bne, hz1]; rfl
    obtain rfl : WT = (rd, S, M) := by rw [← HWT.out]; unfold writeT; rw [HR.out, if_pos hz]
    go_enter Tryz.func10, Tryz.ntmps10
    go_wp2_with (go_at_call 40; refine (HRD.out).mono ?_; rintro e w2 ⟨rfl, nd, hw2⟩; have hs2 := HS.out.below (Grown.drewN _ nd).below; rw [← hw2] at hs2; have HS2 := Lib.hid (HDR.out _ _ _ hs2); clear hs2 hw2 k0 k1)
    go_ret
    exact ⟨rfl, HS2.out⟩
end Go.Proofs.YtgocmnejlbfplaaGreatDoor
namespace Go.Proofs.YtgocmnejlbfplaaGreatDoor
open Go Go.MapKept Go.RowKit Go.Proofs

attribute [local go_sem] Oper.semAt_some
variable {E : Heaplet}

theorem RSt.env {tb pb : Nat} {S : TS} {M : PM} {G : Heaplet} {w : World} (h : RSt E tb pb S M G w) : Sat w E := by
  obtain ⟨pv, R, h', K, h1, h2, hp⟩ := h
  exact Sat.lft (F := G) hp.1.frame.tail.right.right
/-- A page is turned; its slots lie in E. -/
theorem RSt.setPage {tb pb k : Nat} {S : TS} {M : PM} {G : Heaplet} {w : World} {p q : Pg} {a : Option Addr} {cap : Nat} (h : RSt E tb pb S M G w) (hk : S.pages[k]? = some p) (hsl : SlAt E (.slice a q.slots.length cap) q.slots) :
    ∃ g c, w.cell? ⟨tb, 3, none⟩ = some (.slice (some ⟨g, 0, none⟩) S.pages.length c) ∧ (∀ i, w.frozen? ⟨g, i, none⟩ = false) ∧ (∃ u, w.cell? ⟨g, k * 2, none⟩ = some u) ∧ (∃ u, w.cell? ⟨g, k * 2 + 1, none⟩ = some u) ∧ ((w.setCell ⟨g, k * 2, none⟩ (kI q.lsn)).setCell ⟨g, k * 2 + 1, none⟩ (.slice a q.slots.length cap)).cell? ⟨tb, 3, none⟩ = some (.slice (some ⟨g, 0, none⟩) S.pages.length c) ∧ RSt E tb pb (S.set k q) M G ((w.setCell ⟨g, k * 2, none⟩ (kI q.lsn)).setCell ⟨g, k * 2 + 1, none⟩ (.slice a q.slots.length cap)) := by
  obtain ⟨pv, R, h', K, h1, h2, ⟨H, hH, hs⟩, hbn⟩ := h
  have hkl := (List.getElem?_eq_some_iff.1 hk).1
  obtain ⟨r, hr⟩ : ∃ r, R[k]? = some r := ⟨_, List.getElem?_eq_getElem (by rw [h2.1]; exact hkl)⟩
  obtain ⟨g, cap', e⟩ := sl_some h1 (by rw [h2.1]; omega)
  subst e
  have s2 : Sat w (h' ++ (.blk tb (rsO S pb (.slice (some ⟨g, 0, none⟩) R.length cap')) :: (H ++ (K ++ (E ++ G))))) := by
    refine Sat.part hs ?_
    intro a
    simp only [cnt_cons, cnt_append]
    omega
  obtain ⟨hn, hv', hs'⟩ := pr_set2 ((q.lsn, .slice a q.slots.length cap) : Pr) rfl h1 s2 hr
  obtain ⟨a', cp, e, hc⟩ := sl_cells prC_len h1 s2
  cases e
  obtain ⟨g', ea, _, hu⟩ := hc k r hr
  cases ea
  have hfz : ∀ i, w.frozen? ⟨g, i, none⟩ = false := by
    rcases h1.2 with ⟨e, _⟩ | ⟨g', cap'', cur, e, _, _, _, _, rfl⟩
    · cases e
    · simp only [Value.slice.injEq, Option.some.injEq, Addr.mk.injEq] at e
      obtain ⟨⟨rfl, _, _⟩, _, rfl⟩ := e
      exact unfrozen_of (Sat.h0 s2)
  have ht : Sat w (.blk tb (rsO S pb (.slice (some ⟨g, 0, none⟩) R.length cap')) :: (h' ++ (K ++ (E ++ G)))) := hs.right
  refine ⟨g, cap', by rw [← h2.1, cell_of ht.h0]; rfl, hfz, ⟨_, hu 0 _ rfl⟩, ⟨_, hu 1 _ rfl⟩, by rw [← h2.1, cell_of (Sat.right (h' := hn) hs').h0]; rfl, .slice (some ⟨g, 0, none⟩) R.length cap', R.set k (q.lsn, .slice a q.slots.length cap), hn, K, hv', ⟨by simp [TS.set, h2.1], fun i r2 p2 hr2 hp2 => ?_⟩, ⟨H, hH, ?_⟩, hbn⟩
  · have hp3 : (S.pages.set k q)[i]? = some p2 := hp2
    by_cases hik : k = i
    · subst hik
      rw [List.getElem?_set_self (by rw [h2.1]; exact hkl)] at hr2
      rw [List.getElem?_set_self hkl] at hp3
      cases hr2; cases hp3
      exact ⟨rfl, hsl.mono (fun W hW => hW.right)⟩
    · rw [List.getElem?_set_ne hik] at hr2 hp3
      obtain ⟨e1, e2⟩ := h2.2 i r2 p2 hr2 hp3
      exact ⟨e1, e2⟩
  · have hs5 : Sat ((w.setCell ⟨g, k * 2, none⟩ (kI q.lsn)).setCell ⟨g, k * 2 + 1, none⟩ (.slice a q.slots.length cap)) (hn ++ (.blk tb (rsO (S.set k q) pb (.slice (some ⟨g, 0, none⟩) R.length cap')) :: (H ++ (K ++ (E ++ G))))) := hs'
    refine Sat.part hs5 ?_
    intro a
    simp only [cnt_cons, cnt_append]
    omega
/-- The numbers of the first ones, the last first. -/
def seenL (L : List Lf) (i : Nat) : List Int := ((L.take i).map (·.1)).reverse
theorem seenL_succ {L : List Lf} {i : Nat} {p : Lf} (h : L[i]? = some p) : seenL L (i + 1) = p.1 :: seenL L i := by
  unfold seenL
  rw [List.take_add_one, h]
  simp
theorem seenL_yes {L : List Lf} {i j : Nat} {p : Lf} (hj : j < i) (h : L[j]? = some p) : (seenL L i).contains p.1 = true := by
  unfold seenL
  rw [List.contains_iff_mem, List.mem_reverse, List.mem_map]
  refine ⟨p, ?_, rfl⟩
  refine List.mem_of_getElem? (i := j) ?_
  rw [List.getElem?_take, if_pos hj, h]
theorem seenL_no {L : List Lf} {i : Nat} {n : Int} (h : ∀ (j : Nat) p, j < i → L[j]? = some p → p.1 ≠ n) : (seenL L i).contains n = false := by
  cases hq : (seenL L i).contains n with
  | false => rfl
  | true =>
    exfalso
    unfold seenL at hq
    rw [List.contains_iff_mem, List.mem_reverse, List.mem_map] at hq
    obtain ⟨p, hp, e⟩ := hq
    obtain ⟨j, hj⟩ := List.mem_iff_getElem?.1 hp
    rw [List.getElem?_take] at hj
    split at hj
    · rename_i hji
      exact h j p hji hj e
    · cases hj
/-- What is written the k-th time. -/
def plK (S : TS) (L : List Lf) (k i : Nat) : Int := if k = 0 then S.frm + (i : Int) else plH S L i
def goW (S : TS) (L : List Lf) : Nat → Nat → PM → Int × TS × PM
  | 0, _, M => (0, putT S L, M)
  | f + 1, k, M => if (layQ M (wsOf (plK S L k) L)).1 ≠ 0 then ((layQ M (wsOf (plK S L k) L)).1, S.die true, (layQ M (wsOf (plK S L k) L)).2) else goW S L f (k + 1) (layQ M (wsOf (plK S L k) L)).2
theorem goW_all {S : TS} {M : PM} {L : List Lf} (h1 : rdyT S M = 0) (h2 : fitsT S L = true) (h3 : L.length ≠ 0) : writeT S M L = goW S L 2 0 M := by
  have hd : S.dead = false := by
    unfold rdyT at h1
    cases hq : S.dead with
    | false => rfl
    | true => rw [hq] at h1; simp at h1
  have he : S.die false = S := by rw [← hd]; rfl
  unfold writeT
  rw [if_neg (by simp [h1]), if_neg (by simp [h2]), if_neg h3, he]
  rfl
theorem writeT_rdy {S : TS} {M : PM} {L : List Lf} (h : rdyT S M ≠ 0) : writeT S M L = (rdyT S M, S, M) := by unfold writeT; rw [if_pos h]
theorem writeT_fit {S : TS} {M : PM} {L : List Lf} (h1 : rdyT S M = 0) (h2 : fitsT S L = false) : writeT S M L = (1, S, M) := by unfold writeT; rw [if_neg (by simp [h1]), if_pos h2]
theorem writeT_nil {S : TS} {M : PM} {L : List Lf} (h1 : rdyT S M = 0) (h2 : fitsT S L = true) (h3 : L.length = 0) : writeT S M L = (0, S, M) := by unfold writeT; rw [if_neg (by simp [h1]), if_neg (by simp [h2]), if_pos h3]
end Go.Proofs.YtgocmnejlbfplaaGreatDoor
