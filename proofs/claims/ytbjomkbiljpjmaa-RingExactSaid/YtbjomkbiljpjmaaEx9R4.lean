/- The document's ring walked: Put where one leaves. Conditions: none. -/
import Derived.Test.YtbjomkbiljpjmaaEx9R3
namespace Go.Proofs.Ytbjomkbiljpjmaa
open Go Go.MapKept Go.RowKit Go.Proofs

/-- The hand goes round. -/
def EvI (ub g at_ N : Nat) (f : Fr ByteArray) (fr' : FrsS) (hand' : Nat) (FF : Heaplet) (n : Nat) (wr : World) : Prop :=
  ∃ frj hj, freeM n frj hj = some (at_, f, fr', hand') ∧ PinsNN frj ∧ frj.length = N ∧ RefF ub g frj hj FF wr
set_option maxRecDepth 100000 in
set_option maxHeartbeats 4000000 in
theorem rput_evict (ub g : Nat) (fr : FrsS) (hand : Nat) (F : Heaplet) (w : World) (h : RefF ub g fr hand F w) (k : Int) (v : ByteArray) (at_ : Nat) (f : Fr ByteArray) (fr' : FrsS) (hand' : Nat) (hk : findF fr k = none) (hv : vacM fr = none) (hp : pinnedM fr = false) (hnn : PinsNN fr)
    (hfm : freeM (2 * fr.length + 1) fr hand = some (at_, f, fr', hand')) :
    Calls Try.prog 33 #[.pointer (some ⟨ub, 0, none⟩), .int .i64 k, kS v] w (Ret (.tuple #[outR (some f), .bool true]) (RefF ub g (fr'.set at_ (some ⟨k, v, 0, true⟩)) hand' F)) := by
  have h64 := h.1.2.1
  have hheld : ¬ heldM fr = fr.length := fun e => by
    have := (held_pinned hnn).1 e
    rw [hp] at this; cases this
  have h1 := h.new zF
  have hp := place_any ub g fr hand _ _ h1 k
  rw [findF_none hk] at hp
  have h2 := h1.new zF
  have hva := vacant_ref ub g fr hand _ _ h2
  rw [hv] at hva
  have HP := Lib.hid hp
  have HV := Lib.hid hva
  have H2 := Lib.hid h2
  have HD := Lib.hid hheld
  have HNN := Lib.hid hnn
  have HFM := Lib.hid hfm
  clear h hk hv h1 hp h2 hva hnn hheld hfm
  go_enter Try.func33, Try.ntmps33
  go_upto_region 1 with (fail)
  generalize w.alloc (.cells #[.bool false, kI 0, kS ⟨#[]⟩, kI 0, .bool false] 64) = W1 at *
  generalize w.heap.size = ob at *
  go_wp2_with fail
  refine (HP.out).mono ?_
  rintro e w' ⟨rfl, rfl⟩
  rw [show placeV none = -1 from rfl]
  go_upto_region 7 with (fail)
  generalize W1.alloc (.cells #[.bool false, kI 0, kS ⟨#[]⟩, kI 0, .bool false] 64) = W2 at *
  generalize W1.heap.size = o9 at *
  obtain ⟨h0, _, _⟩ := H2.out.head
  have HC : Hid (∀ (i : Nat) o, fr[i]? = some o → W2.cell? ⟨g, i * 5 + 3, none⟩ = some (kI (pinsO o))) := Lib.hid fun i o ho => H2.out.cell ho (fR_pins o)
  go_wp2_with fail
  refine (HV.out).mono ?_
  rintro e w'' ⟨rfl, rfl⟩
  rw [show placeV none = -1 from rfl]
  go_upto_block 0 with (fail)
  go_cut [11] from 11 to 59 (fun v11 wx => v11 = .int .i64 (heldM fr) ∧ wx = W2)
  case first =>
    go_wp2_with fail
    go_loopw [11, 12] (fun v11 v12 wx => ∃ r : Nat, r ≤ fr.length ∧ v12 = .int .i64 r ∧ v11 = .int .i64 (heldM (fr.take r)) ∧ wx = W2) (fun _ v _ => 1000 - (RowKit.intOf v).toNat)
    case atStart => exact ⟨0, by omega, rfl, rfl, rfl⟩
    case round =>
      obtain ⟨r, hr, rfl, rfl, rfl⟩ := hrel
      have r0 : (0 : Int) ≤ (r : Int) := by omega
      have hL : (fr.length : Int) ≤ 64 := by omega
      by_cases hlr : r < fr.length
      · have r1 : (r : Int) < (fr.length : Int) := by omega
        obtain ⟨o, ho⟩ : ∃ o, fr[r]? = some o := ⟨_, List.getElem?_eq_getElem hlr⟩
        have c3 := HC.out r o ho
        have hst := heldM_step ho
        have hle := heldM_le (fr.take r)
        rw [List.length_take] at hle
        have hq0 : (0 : Int) ≤ (heldM (fr.take r) : Int) := by omega
        have hq1 : (heldM (fr.take r) : Int) ≤ 64 := by omega
        clear ho hle
        cases hpb : pinB o with
        | true =>
          have hd : 0 < pinsO o := by rw [pinB_iff] at hpb; simpa using hpb
          rw [hpb] at hst
          simp only [if_true] at hst
          have HST := Lib.hid hst
          generalize heldM (fr.take r) = q at *
          generalize pinsO o = pz at *
          clear hst hpb
          go_wp2_with fail
          exact ⟨⟨r + 1, by omega, by simp, by rw [HST.out]; simp, by first | rfl | trivial⟩, by simp only [RowKit.intOf]; omega⟩
        | false =>
          have hd : ¬ 0 < pinsO o := by rw [pinB_iff] at hpb; simpa using hpb
          rw [hpb] at hst
          simp only [Bool.false_eq_true, if_false, Nat.add_zero] at hst
          have HST := Lib.hid hst
          generalize heldM (fr.take r) = q at *
          generalize pinsO o = pz at *
          clear hst hpb
          go_wp2_with fail
          exact ⟨⟨r + 1, by omega, by simp, by rw [HST.out], by first | rfl | trivial⟩, by simp only [RowKit.intOf]; omega⟩
      · obtain rfl : r = fr.length := by omega
        have et : Hid (heldM (fr.take fr.length) = heldM fr) := Lib.hid (by rw [List.take_length])
        generalize heldM (fr.take fr.length) = q at *
        go_wp2_with fail
        go_meet
        exact ⟨by rw [et.out], by first | rfl | trivial⟩
  case rest =>
    obtain ⟨rfl, rfl⟩ := hcut
    clear h0 HC
    have hne : ((heldM fr : Int) == (fr.length : Int)) = false := by
      have := HD.out
      rw [beq_eq_false_iff_ne]; omega
    obtain ⟨h0, _, _⟩ := H2.out.head
    generalize heldM fr = hq at *
    go_upto_block 2 with (fail)
    clear h0 hne HD
    obtain ⟨N, hN⟩ : ∃ N, fr.length = N := ⟨_, rfl⟩
    have H0 : Hid (EvI ub g at_ N f fr' hand' (.blk o9 zF :: .blk ob zF :: F) (2 * N + 1) wc) := Lib.hid ⟨fr, hand, by rw [← hN]; exact HFM.out, HNN.out, hN, H2.out⟩
    have hN64 : N ≤ 64 := by omega
    have hN64' : (N : Int) ≤ 64 := by omega
    clear HFM HNN H2 hN
    go_cut [] from 59 to 116 (fun wx => RefF ub g fr' at_ (.blk o9 zF :: .blk ob zF :: F) wx ∧ fr'[at_]? = some (some f) ∧ hand' = (at_ + 1) % fr'.length)
    case first =>
      go_wp2_with fail
      go_loopg [] (2 * N + 1) (fun n wr => EvI ub g at_ N f fr' hand' (.blk o9 zF :: .blk ob zF :: F) n wr)
      case atStart => exact H0.out
      case round =>
        clear H0
        obtain ⟨frj, hj, hfm, hnn, hlen, hR⟩ := hrel
        obtain ⟨m, rfl⟩ : ∃ m, gk = m + 1 := by
          cases gk with
          | zero => cases hfm
          | succ m => exact ⟨m, rfl⟩
        obtain ⟨fj, hfj⟩ := RS.freeM_head hfm
        rw [RS.freeM_succ m frj hj fj hfj] at hfm
        have hpin := hnn hj fj hfj
        have hjl := (List.getElem?_eq_some_iff.1 hfj).1
        obtain ⟨h0, h1, _⟩ := hR.head
        rw [hlen] at h0
        have c3 : wr.cell? ⟨g, hj * 5 + 3, none⟩ = some (kI fj.pins) := hR.cell hfj rfl
        have c4 : wr.cell? ⟨g, hj * 5 + 4, none⟩ = some (.bool fj.fresh) := hR.cell hfj rfl
        have u4 := hR.unfrozen (hj * 5 + 4)
        have j0 : (0 : Int) ≤ (hj : Int) := by omega
        have j1 : (hj : Int) < (N : Int) := by omega
        have HR := Lib.hid hR
        have HF := Lib.hid hfm
        have HJ := Lib.hid hfj
        have HNN := Lib.hid hnn
        have HLN := Lib.hid hlen
        clear hR hfm hfj hnn hlen
        by_cases hz : fj.pins = 0
        · have q0 : ¬ 0 < fj.pins := by omega
          have qb : (fj.pins == 0) = true := by simpa using hz
          cases hfr : fj.fresh with
          | false =>
            rw [hfr] at c4
            have hfm := HF.out
            rw [qb, hfr] at hfm
            simp only [Bool.not_false, Bool.and_self, if_true, Option.some.injEq, Prod.mk.injEq] at hfm
            obtain ⟨rfl, rfl, rfl, rfl⟩ := hfm
            have FIN : Hid (∀ n, RefF ub g frj hj (.blk o9 zF :: .blk ob zF :: F) (wr.drewN n)) := Lib.hid fun n => HR.out.drewN n
            clear HF hfr qb
            go_upto_region 17 with (fail)
            go_quiet (fail)
            go_wp2_with fail
            go_meet
            exact ⟨FIN.out _, HJ.out, by first | rfl | trivial⟩
          | true =>
            rw [hfr] at c4
            have hfm := HF.out
            rw [qb, hfr] at hfm
            simp only [Bool.not_true, Bool.and_false, Bool.false_eq_true, if_false, Bool.true_and] at hfm
            rw [show decide (0 < fj.pins) = false from by simpa using q0] at hfm
            have HF2 := Lib.hid hfm
            have HN2 := Lib.hid (HNN.out.set (i := hj) (f := { fj with fresh := false }) hpin)
            have HRN : Hid (∀ n, RefF ub g frj hj (.blk o9 zF :: .blk ob zF :: F) (wr.drewN n)) := Lib.hid fun n => HR.out.drewN n
            have hfc : fj.fresh = true := hfr
            clear HF hfm
            go_upto_region 17 with (fail)
            go_quiet (fail)
            go_upto_region 18 with (fail)
            go_cut [103] from 92 to 104 (fun v wx => v = .bool true ∧ RefF ub g frj hj (.blk o9 zF :: .blk ob zF :: F) wx)
            case first =>
              clear hfc hfr
              go_quiet (fail)
              go_wp2_with fail
              go_meet
              exact ⟨rfl, HRN.out _⟩
            case rest =>
              obtain ⟨rfl, hRc⟩ := hcut
              clear h0 h1 c3 c4 u4 HRN qb q0
              obtain ⟨h0, h1, _⟩ := hRc.head
              rw [HLN.out] at h0
              have c4 : wc.cell? ⟨g, hj * 5 + 4, none⟩ = some (.bool fj.fresh) := hRc.cell HJ.out rfl
              have u4 := hRc.unfrozen (hj * 5 + 4)
              have HST := Lib.hid (hRc.drew.set (j := 4) (u := .bool false) (some { fj with fresh := false }) HJ.out (by omega) rfl)
              clear hRc hfc hfr
              go_upto_region 19 with (fail)
              go_still_tail 10, (by kernel_rfl)
              change wpList _ _ _ _ _ (World.drew _)
              go_wp2_with fail
              refine (on_ref ub g _ _ _ _ HST.out).mono ?_
              rintro e w3 ⟨rfl, h3⟩
              rw [List.length_set] at h3
              have FIN : Hid (EvI ub g at_ N f fr' hand' (.blk o9 zF :: .blk ob zF :: F) m w3) := Lib.hid ⟨_, _, HF2.out, HN2.out, by rw [List.length_set]; exact HLN.out, h3⟩
              clear h3 HST
              go_wp2_with fail
              go_roundg m
              case measure => omega
              case rel => exact FIN.out
        · have q0 : 0 < fj.pins := by omega
          have qb : (fj.pins == 0) = false := by simpa using hz
          have hfm := HF.out
          rw [qb] at hfm
          simp only [Bool.false_and, Bool.false_eq_true, if_false] at hfm
          rw [show decide (0 < fj.pins) = true from by simpa using q0, Bool.and_true] at hfm
          have hself : frj.set hj (some { fj with fresh := fj.fresh }) = frj := by
            obtain ⟨hl, he⟩ := List.getElem?_eq_some_iff.1 HJ.out
            have : some { fj with fresh := fj.fresh } = frj[hj] := by rw [he]
            rw [this]; exact List.set_getElem_self hl
          rw [hself] at hfm
          have hst : ∀ n, RefF ub g frj hj (.blk o9 zF :: .blk ob zF :: F) (wr.drewN n) := fun n => HR.out.drewN n
          have HST := Lib.hid hst
          have HF2 := Lib.hid hfm
          clear HF hst hfm hself
          go_upto_region 17 with (fail)
          go_quiet (fail)
          go_upto_region 18 with (fail)
          go_quiet (fail)
          go_wp2_with fail
          refine (on_ref ub g _ _ _ _ (HST.out _)).mono ?_
          rintro e w3 ⟨rfl, h3⟩
          have FIN : Hid (EvI ub g at_ N f fr' hand' (.blk o9 zF :: .blk ob zF :: F) m w3) := Lib.hid ⟨_, _, HF2.out, HNN.out, HLN.out, h3⟩
          clear h3 HST
          go_wp2_with fail
          go_roundg m
          case measure => omega
          case rel => exact FIN.out
    case rest =>
      clear H0
      obtain ⟨hR, hf, rfl⟩ := hcut
      have hal := (List.getElem?_eq_some_iff.1 hf).1
      have ha64 := hR.1.2.1
      obtain ⟨h0, h1, _⟩ := hR.head
      have c0 : wc.cell? ⟨g, at_ * 5, none⟩ = some (.bool true) := hR.cell (j := 0) hf rfl
      have c1 : wc.cell? ⟨g, at_ * 5 + 1, none⟩ = some (kI f.key) := hR.cell hf rfl
      have c2 : wc.cell? ⟨g, at_ * 5 + 2, none⟩ = some (kS f.val) := hR.cell hf rfl
      have c3 : wc.cell? ⟨g, at_ * 5 + 3, none⟩ = some (kI f.pins) := hR.cell hf rfl
      have c4 : wc.cell? ⟨g, at_ * 5 + 4, none⟩ = some (.bool f.fresh) := hR.cell hf rfl
      obtain ⟨p0, p1, p2, p3, p4, v0, v1, v2, v3, v4⟩ := out5 hR
      have H3 := Lib.hid (hR.fr5 (.bool true) (kI f.key) (kS f.val) (kI f.pins) (.bool f.fresh))
      have HFF := Lib.hid hf
      have i0 : (0 : Int) ≤ (at_ : Int) := by omega
      have i1 : (at_ : Int) < (fr'.length : Int) := by omega
      clear hR hf
      go_upto_region 23 with (fail)
      clear h0 h1 c0 c1 c2 c3 c4 p0 p1 p2 p3 p4 v0 v1 v2 v3 v4
      generalize ((((wc.setCell ⟨o9, 0, none⟩ (.bool true)).setCell ⟨o9, 1, none⟩ (kI f.key)).setCell ⟨o9, 2, none⟩ (kS f.val)).setCell ⟨o9, 3, none⟩ (kI f.pins)).setCell ⟨o9, 4, none⟩ (.bool f.fresh) = W5 at *
      go_wp2_with fail
      refine (on_ref ub g _ _ _ _ H3.out).mono ?_
      rintro e w6 ⟨rfl, h6⟩
      obtain ⟨h0, _, _⟩ := h6.head
      have c0 : w6.cell? ⟨g, at_ * 5, none⟩ = some (.bool true) := h6.cell (j := 0) HFF.out rfl
      have c1 : w6.cell? ⟨g, at_ * 5 + 1, none⟩ = some (kI f.key) := h6.cell HFF.out rfl
      have c2 : w6.cell? ⟨g, at_ * 5 + 2, none⟩ = some (kS f.val) := h6.cell HFF.out rfl
      have c3 : w6.cell? ⟨g, at_ * 5 + 3, none⟩ = some (kI f.pins) := h6.cell HFF.out rfl
      have c4 : w6.cell? ⟨g, at_ * 5 + 4, none⟩ = some (.bool f.fresh) := h6.cell HFF.out rfl
      have u0 := h6.unfrozen (at_ * 5)
      have u1 := h6.unfrozen (at_ * 5 + 1)
      have u2 := h6.unfrozen (at_ * 5 + 2)
      have u3 := h6.unfrozen (at_ * 5 + 3)
      have u4 := h6.unfrozen (at_ * 5 + 4)
      have H7 := Lib.hid (h6.set5 (some ⟨k, v, 0, true⟩) hal rfl)
      clear h6 H3
      go_upto_region 25 with (fail)
      clear h0 c0 c1 c2 c3 c4 u0 u1 u2 u3 u4
      generalize ((((w6.setCell ⟨g, at_ * 5, none⟩ (.bool true)).setCell ⟨g, at_ * 5 + 1, none⟩ (kI k)).setCell ⟨g, at_ * 5 + 2, none⟩ (kS v)).setCell ⟨g, at_ * 5 + 3, none⟩ (kI 0)).setCell ⟨g, at_ * 5 + 4, none⟩ (.bool true) = W8 at *
      obtain ⟨p0, p1, p2, p3, p4, _, _, _, _, _⟩ := out5 H7.out
      obtain ⟨o0, o1, o2, o3, o4, v0, v1, v2, v3, v4⟩ := out5 H7.out.swapF
      have Fin := Lib.hid (H7.out.swapF.fr5 (.bool true) (kI f.key) (kS f.val) (kI f.pins) (.bool f.fresh))
      go_wp2_with fail
      exact bodyPost_ret (results_rput (ob := ob) (o := some f) rfl rfl ⟨_, _, _, _, _, rfl, Fin.out.frame.h0⟩) rfl ⟨rfl, Fin.out.unF.unF⟩
end Go.Proofs.Ytbjomkbiljpjmaa
