/- PastNeeds walked: what is needed. Conditions: none. -/
import Derived.Test.YtceegnfjdgjomaaPaParts
import Derived.Test.YtceegnfjdgjomaaPaNM
namespace Go.Proofs.Ytceegnfjdgjomaa
open Go Go.MapKept Go.RowKit Go.Proofs Go.Sort Go.Shelf

set_option maxRecDepth 100000 in
theorem eq_lo (a b : Tx × Int) (w : World) : (binOp .eql 36 (.agg #[kI a.1.c, kI a.1.e, kI a.1.n, kI a.2]) (.agg #[kI b.1.c, kI b.1.e, kI b.1.n, kI b.2])).run Try.prog w = .ok (.bool (decide (a = b))) w := by
  obtain ⟨⟨a1, a2, a3⟩, a4⟩ := a
  obtain ⟨⟨b1, b2, b3⟩, b4⟩ := b
  simp [go_sem]
  repeat' split
  all_goals
    simp_all
/-- The entries from one on. -/
theorem EnsIn.from {F : Heaplet} {a : Option Addr} {len cap : Nat} {l : List En} (h : EnsIn F (.slice a len cap) l) {i : Nat} (hi : i < l.length) {g off : Nat} (ha : a = some ⟨g, off, none⟩) : EnsIn F (.slice (some ⟨g, off + i * 13, none⟩) (len - i) (cap - i)) (l.drop i) := by
  obtain ⟨a', cap', e, hc⟩ := h
  cases e
  refine ⟨_, _, by rw [List.length_drop], fun w hw j q hq => ?_⟩
  rw [List.getElem?_drop] at hq
  obtain ⟨g', off', e, u⟩ := hc w hw (i + j) q hq
  rw [ha] at e
  cases e
  refine ⟨g, off + i * 13, rfl, ?_⟩
  rw [show off + i * 13 + j * 13 = off + (i + j) * 13 from by rw [Nat.add_mul]; omega]
  exact u
theorem FitL.from {l : List En} (h : FitL l) (i : Nat) : FitL (l.drop i) := fun x hx => h x (List.mem_of_mem_drop hx)
set_option maxRecDepth 100000 in
set_option maxHeartbeats 16000000 in
theorem needs_walk (a0 : Option Addr) (cap0 : Nat) (l : List En) (x1 : Int) (W : World) (hcap : l.length ≤ cap0) (h : EnsAt W a0 l) (_ : -9223372036854775808 ≤ x1) (_ : x1 ≤ 9223372036854775807) :
    Calls Try.prog 5 #[.slice a0 l.length cap0, .int .i64 x1] W (Ret (.bool true) (RowKit.Below W.heap.size W)) := by
  have hE := h.ens cap0
  have HAW := Lib.hid (awake_any (allOf W) W (sat_all W))
  have mixed : Try.prog.follows .mixedOrders = true := by kernel_rfl
  have HF := Lib.hid h.2.1
  have HE := Lib.hid hE
  clear hE h
  cases hgr : greatM l with
  | true =>
    have HGR := Lib.hid hgr
    clear hgr HF
    go_enter Try.func5, Try.ntmps5
    go_wp2_with fail
    refine HAW.out.mono ?_
    rintro e w1 ⟨rfl, hs1⟩
    have hG := great_any _ l _ w1 hs1 HE.out
    rw [HGR.out] at hG
    have HG := Lib.hid hG
    have HS1 := Lib.hid hs1
    clear hs1 HAW hG
    go_wp2_with fail
    refine HG.out.mono ?_
    rintro e w2 ⟨rfl, rfl⟩
    go_wp2_with fail
    go_ret
    exact ⟨rfl, HS1.out.below⟩
  | false =>
    have HGR := Lib.hid hgr
    have HL80 := Lib.hid (great_len hgr)
    clear hgr
    obtain ⟨fi, hfi, f1, f2⟩ : ∃ fi, wrap64 (1 + umod x1 1000) = fi ∧ 1 ≤ fi ∧ fi ≤ 1000 := by
      have h := umod_bd x1 1000 (by decide) (by decide)
      refine ⟨_, rfl, ?_⟩
      rw [IntWalk.wrap64_in _ ⟨by omega, by omega⟩]
      omega
    unfold umod at hfi
    have HFI := Lib.hid hfi
    have HNC := Lib.hid (needed_cases l fi f1 f2)
    clear hfi
    go_enter Try.func5, Try.ntmps5
    go_wp2_with fail
    refine HAW.out.mono ?_
    rintro e w1 ⟨rfl, hs1⟩
    have hG := great_any _ l _ w1 hs1 HE.out
    rw [HGR.out] at hG
    have HG := Lib.hid hG
    have HNd := Lib.hid (Needed_any _ l fi _ w1 hs1 HE.out (by have := HL80.out; omega) HF.out)
    clear hs1 HAW hG
    go_wp2_with fail
    refine HG.out.mono ?_
    rintro e w2 ⟨rfl, rfl⟩
    go_wp2_with fail
    rw [HFI.out]
    refine HNd.out.mono ?_
    rintro e w3 ⟨rfl, hs3⟩
    have HRd := Lib.hid (Read_any _ l fi _ w3 hs3 HE.out (by have := HL80.out; omega) HF.out)
    clear HG HNd hs3
    obtain ⟨n, hn⟩ : ∃ n, neededM l fi = n := ⟨_, rfl⟩
    rw [hn] at HNC ⊢
    clear hn
    go_wp2_with fail
    refine HRd.out.mono ?_
    rintro e w4 ⟨v', hh, rfl, hvw, hs4⟩
    rw [readM_yes l f1 (by omega)] at hvw
    obtain ⟨b0, c0, b1, c1, b2, c2, rfl, hV⟩ := vw_open hvw
    have hV := hV w4.heap.size (allOf W)
    have hll : (losersM l).length ≤ 80 := by have := HL80.out; have := losers_le l; omega
    have hdl : (doneM l).length ≤ 80 := by have := HL80.out; have := doneM_len l; omega
    have hpl : (pagesM l fi).length ≤ 80 := by have := HL80.out; have := pages_le l fi; omega
    have HST := Lib.hid (losers_strict l)
    have HPT := Lib.hid (pages_strict l fi)
    have HLL := Lib.hid hll
    have HDL := Lib.hid hdl
    have HPL := Lib.hid hpl
    clear hll hdl hpl hvw
    obtain ⟨LS, hLS⟩ : ∃ LS, losersM l = LS := ⟨_, rfl⟩
    obtain ⟨DS, hDS⟩ : ∃ DS, doneM l = DS := ⟨_, rfl⟩
    obtain ⟨PS, hPS⟩ : ∃ PS, pagesM l fi = PS := ⟨_, rfl⟩
    rw [hLS] at HST HLL
    rw [hDS] at HDL
    rw [hPS] at HPT HPL
    rw [hLS, hDS, hPS] at hV
    rw [hLS, hDS, hPS]
    have HLS := Lib.hid hLS
    have HDS := Lib.hid hDS
    clear hLS hDS hPS
    simp only at hV ⊢
    have hs5 := hs4.new (vwO (.slice b0 LS.length c0) (.slice b1 DS.length c1) (.slice b2 PS.length c2))
    obtain ⟨H0, hH0⟩ : ∃ H0, HItem.blk w4.heap.size (vwO (.slice b0 LS.length c0) (.slice b1 DS.length c1) (.slice b2 PS.length c2)) :: (hh ++ allOf W) = H0 := ⟨_, rfl⟩
    have hF0 : ∀ w, Sat w H0 → Sat w (allOf W) := fun w hw => by rw [← hH0] at hw; exact hw.tail.right
    rw [hH0] at hs5 hV
    have HF0 := Lib.hid hF0
    have HE0 := Lib.hid (HE.out.mono hF0)
    have HS5 := Lib.hid hs5
    have HV := Lib.hid hV
    rw [HLS.out] at HNC
    obtain ⟨⟨q0, q1, q2⟩, _⟩ := hV _ HS5.out
    clear hH0 hF0 hs5 hs4 HRd HE hV
    go_upto_region 8 with (fail)
    generalize w4.alloc (.cells #[.slice b0 LS.length c0, .slice b1 DS.length c1, .slice b2 PS.length c2] 33) = W5 at *
    generalize w4.heap.size = vb at *
    rcases HNC.out with ⟨rfl, hnil⟩ | ⟨i, x, hx, hni, hsub, hpos⟩
    · have HNIL := Lib.hid hnil
      subst hnil
      clear HNC
      go_wp2_with fail
      go_ret
      exact ⟨rfl, (HF0.out _ HS5.out).below⟩
    · have hil : i < l.length := (List.getElem?_eq_some_iff.1 hx).1
      have hl80 := HL80.out
      have g1 : 1 ≤ n := by omega
      have g2 : n ≤ 1080 := by omega
      have g3 : (n == 0) = false := by simp; omega
      have g4 : ¬ n < fi := by omega
      have g5 : ¬ ((l.length : Int) ≤ n - fi) := by omega
      have g6 : (n - fi).toNat = i := by omega
      have g7 : 0 ≤ n - fi := by omega
      have g8 : n - fi ≤ (l.length : Int) := by omega
      have g9 : ¬ cap0 = i := by omega
      obtain ⟨g, off, rfl, _⟩ : ∃ g off, a0 = some ⟨g, off, none⟩ ∧ True := by
        obtain ⟨a1, cap1, e1, hEc⟩ := HE0.out
        cases e1
        obtain ⟨g, off, e, _⟩ := hEc _ HS5.out i x hx
        exact ⟨g, off, e, trivial⟩
      have hE1 := HE0.out.from hil rfl
      have HE1 := Lib.hid hE1
      have HSUB := Lib.hid hsub
      have HPOS := Lib.hid hpos
      clear hx hni hsub hpos hE1 HNC hl80
      have HRd := Lib.hid (Read_any _ (l.drop i) n _ W5 HS5.out HE1.out (by rw [List.length_drop]; have := HL80.out; omega) (HF.out.from i))
      go_wp2_with fail
      refine HRd.out.mono ?_
      rintro e w6 ⟨v6, h6, rfl, hvw, hs6⟩
      rw [readM_yes (l.drop i) g1 (by omega)] at hvw
      obtain ⟨d0, e0, d1, e1, d2, e2, rfl, hV6⟩ := vw_open hvw
      have hV6' := hV6 w6.heap.size H0
      have hwl : (losersM (l.drop i)).length ≤ 80 := by have := HL80.out; have := losers_le (l.drop i); rw [List.length_drop] at this; omega
      have HWL := Lib.hid hwl
      clear hwl hvw hV6
      obtain ⟨WS, hWS⟩ : ∃ WS, losersM (l.drop i) = WS := ⟨_, rfl⟩
      obtain ⟨WD, hWD⟩ : ∃ WD, doneM (l.drop i) = WD := ⟨_, rfl⟩
      obtain ⟨WP, hWP⟩ : ∃ WP, pagesM (l.drop i) n = WP := ⟨_, rfl⟩
      rw [hWS] at HWL HSUB
      rw [hWS, hWD, hWP] at hV6'
      rw [hWS, hWD, hWP]
      clear hWS hWD hWP
      simp only at hV6' ⊢
      have hs7 := hs6.new (vwO (.slice d0 WS.length e0) (.slice d1 WD.length e1) (.slice d2 WP.length e2))
      obtain ⟨H1, hH1⟩ : ∃ H1, HItem.blk w6.heap.size (vwO (.slice d0 WS.length e0) (.slice d1 WD.length e1) (.slice d2 WP.length e2)) :: (h6 ++ H0) = H1 := ⟨_, rfl⟩
      have hF1 : ∀ w, Sat w H1 → Sat w H0 := fun w hw => by rw [← hH1] at hw; exact hw.tail.right
      rw [hH1] at hs7 hV6'
      have HF1 := Lib.hid hF1
      have HS7 := Lib.hid hs7
      have HV6 := Lib.hid hV6'
      clear hV6' hs7 hs6 hF1 hH1 HRd q0 q1 q2 g3 g4 g5 g6 g7 g8 g9 HS5
      go_upto_region 13 with (fail)
      generalize w6.alloc (.cells #[.slice d0 WS.length e0, .slice d1 WD.length e1, .slice d2 WP.length e2] 33) = W7 at *
      generalize w6.heap.size = vc at *
      obtain ⟨⟨q0, q1, q2⟩, _⟩ := HV.out _ (HF1.out _ HS7.out)
      obtain ⟨⟨p0, p1, p2⟩, _⟩ := HV6.out _ HS7.out
      have y1 : (LS.length == 0) = false := by have := HPOS.out; simp; intro e; rw [e] at this; simp at this
      have y2 : ((LS.length : Int) == 0) = false := by have := HPOS.out; simp; intro e; rw [e] at this; simp at this
      have y3 : ¬ WS.length < LS.length := by have := HSUB.out.length_le; omega
      have y4 : ¬ (WS.length : Int) < (LS.length : Int) := by have := HSUB.out.length_le; omega
      go_wp2_with fail
      clear y1 y2 y3 y4 p0 p1 p2 q0 q1 q2
      go_loopw [8, 9] (fun v8 v9 wr => ∃ k j : Nat, k ≤ LS.length ∧ j ≤ WS.length ∧ v8 = .int .i64 k ∧ v9 = .int .i64 j ∧ (LS.drop k).Sublist (WS.drop j) ∧ Sat wr H1) (fun _ v9 _ => 200000 - (RowKit.intOf v9).toNat)
      case atStart => exact ⟨0, 0, by omega, by omega, rfl, rfl, HSUB.out, HS7.out⟩
      case round =>
        clear HS7
        obtain ⟨k, j, hk, hj, rfl, rfl, hsub, hg⟩ := hrel
        have k0 : (0 : Int) ≤ (k : Int) := by omega
        have j0 : (0 : Int) ≤ (j : Int) := by omega
        have kl : (k : Int) ≤ 80 := by have := HLL.out; omega
        have jl : (j : Int) ≤ 80 := by have := HWL.out; omega
        obtain ⟨⟨q0, q1, q2⟩, hcl, _⟩ := HV.out _ (HF1.out _ hg)
        obtain ⟨⟨p0, p1, p2⟩, hcw, _⟩ := HV6.out _ hg
        have HG := Lib.hid hg
        have HSU := Lib.hid hsub
        clear hg hsub
        by_cases hjl : j < WS.length
        · have j1 : (j : Int) < (WS.length : Int) := by omega
          by_cases hkl : k < LS.length
          · have k1 : (k : Int) < (LS.length : Int) := by omega
            obtain ⟨a, ha⟩ : ∃ a, LS[k]? = some a := ⟨_, List.getElem?_eq_getElem hkl⟩
            obtain ⟨b, hb⟩ : ∃ b, WS[j]? = some b := ⟨_, List.getElem?_eq_getElem hjl⟩
            obtain ⟨ga, rfl, a0, a1, a2, a3⟩ := hcl k a ha
            obtain ⟨gb, rfl, b0, b1, b2, b3⟩ := hcw j b hb
            have hhit := sub_hit HSU.out ha hb
            have HH := Lib.hid hhit
            obtain ⟨bt, hbt⟩ : ∃ bt, decide (b = a) = bt := ⟨_, rfl⟩
            have heq := fun w => eq_lo b a w
            rw [hbt] at heq
            have HBT := Lib.hid hbt
            clear hbt hhit ha hb hcl hcw
            go_upto_region 19 with (fail)
            go_quiet (fail)
            have HG9 := Lib.hid (HG.out.grown (Grown.drewN _ nq))
            clear HG heq a0 a1 a2 a3 b0 b1 b2 b3 q0 q1 q2 p0 p1 p2
            cases bt with
            | false =>
              go_wp2_with fail
              exact ⟨⟨k, j + 1, by omega, by omega, rfl, by simp, HH.out.2 (fun e => by have := HBT.out; rw [decide_eq_false_iff_not] at this; exact this e.symm), HG9.out⟩, by simp only [RowKit.intOf]; omega⟩
            | true =>
              go_wp2_with fail
              exact ⟨⟨k + 1, j + 1, by omega, by omega, by simp, by simp, HH.out.1 (by have := HBT.out; rw [decide_eq_true_iff] at this; exact this.symm), HG9.out⟩, by simp only [RowKit.intOf]; omega⟩
          · obtain rfl : k = LS.length := by omega
            clear hcl hcw
            go_wp2_with fail
            go_ret
            exact ⟨rfl, (HF0.out _ (HF1.out _ HG.out)).below⟩
        · obtain rfl : j = WS.length := by omega
          have hend := HSU.out
          rw [List.drop_length] at hend
          have hk2 := sub_end hend
          obtain rfl : k = LS.length := by omega
          clear hcl hcw hend hk2 HSU
          go_wp2_with fail
          go_ret
          exact ⟨rfl, (HF0.out _ (HF1.out _ HG.out)).below⟩
end Go.Proofs.Ytceegnfjdgjomaa
