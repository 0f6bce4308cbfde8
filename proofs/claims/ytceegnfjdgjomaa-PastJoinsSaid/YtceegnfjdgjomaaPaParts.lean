/- PastParts walked: a loser, or at its end. Conditions: none. -/
import Derived.Test.YtceegnfjdgjomaaPaLess
import Derived.Test.YtceegnfjdgjomaaPaVw
import Derived.Test.YtceegnfjdgjomaaPaArgs
namespace Go.Proofs.Ytceegnfjdgjomaa
open Go Go.MapKept Go.RowKit Go.Proofs Go.Sort Go.Shelf

/-- Whether a name's last entry is told. -/
def isM (t : Tx) (n : Int) (p : Tx × Int) : Bool := decide (p.1 = t) && (p.2 == n)
theorem is_all {l : List En} {x y : En} (hx : x ∈ l) (hg : goodM x = true) (hy : (ofM l x.t).getLast? = some y) : (losersM l).any (isM x.t y.lsn) = !endM l x.t := by
  have hlo : lastOf l x.t = some y.lsn := by unfold lastOf; rw [hy]; rfl
  cases he : endM l x.t with
  | false =>
    rw [Bool.not_false, List.any_eq_true]
    exact ⟨(x.t, y.lsn), (mem_losers l x.t y.lsn).2 ⟨he, hlo⟩, by simp [isM]⟩
  | true =>
    rw [Bool.not_true, List.any_eq_false]
    rintro ⟨t, n⟩ hm h
    simp only [isM, Bool.and_eq_true, decide_eq_true_eq] at h
    obtain ⟨rfl, _⟩ := h
    rw [((mem_losers l _ n).1 hm).1] at he
    cases he
theorem done_count (l : List En) (t : Tx) : (doneM l).count t ≤ 1 := List.nodup_iff_count.1 (done_nodup l) t
theorem done_one {l : List En} {t : Tx} (h : (doneM l).count t = 1) : endM l t = true := com_end ((mem_done t l).1 (List.count_pos_iff.1 (by omega)))
theorem great_len {l : List En} (h : greatM l = false) : l.length ≤ 80 := by
  unfold greatM at h
  rw [Bool.or_eq_false_iff, decide_eq_false_iff_not] at h
  omega
theorem any_take_succ {α : Type} (p : α → Bool) (L : List α) (k : Nat) (x : α) (hx : L[k]? = some x) : (L.take (k + 1)).any p = ((L.take k).any p || p x) := by
  rw [List.take_add_one, hx, List.any_append]; simp
theorem count_take_succ (t : Tx) (L : List Tx) (k : Nat) (x : Tx) (hx : L[k]? = some x) : (L.take (k + 1)).count t = (L.take k).count t + if x = t then 1 else 0 := by
  rw [List.take_add_one, hx, List.count_append]
  by_cases h : x = t
  · simp [h]
  · simp [h]
set_option maxRecDepth 100000 in
set_option maxHeartbeats 16000000 in
theorem parts_walk (a0 : Option Addr) (cap0 : Nat) (l : List En) (W : World) (_ : l.length ≤ cap0) (h : EnsAt W a0 l) :
    Calls Try.prog 4 #[.slice a0 l.length cap0] W (Ret (.bool true) (RowKit.Below W.heap.size W)) := by
  have hE := h.ens cap0
  have HAW := Lib.hid (awake_any (allOf W) W (sat_all W))
  have mixed : Try.prog.follows .mixedOrders = true := by kernel_rfl
  have HF := Lib.hid h.2.1
  have HE := Lib.hid hE
  clear hE h
  cases hgr : greatM l with
  | true =>
    have HGR := Lib.hid hgr
    clear hgr HF
    go_enter Try.func4, Try.ntmps4
    go_wp2_with fail
    refine HAW.out.mono ?_
    rintro e w1 ⟨rfl, hs1⟩
    have hG := great_any _ l _ w1 hs1 HE.out
    rw [HGR.out] at hG
    have HG := Lib.hid hG
    have HS1 := Lib.hid hs1
    clear hs1 HAW hG
    go_wp2_with fail
    refine HG.out.mono ?_
    rintro e w2 ⟨rfl, rfl⟩
    go_wp2_with fail
    go_ret
    exact ⟨rfl, HS1.out.below⟩
  | false =>
    have HGR := Lib.hid hgr
    have HL80 := Lib.hid (great_len hgr)
    clear hgr
    go_enter Try.func4, Try.ntmps4
    go_wp2_with fail
    refine HAW.out.mono ?_
    rintro e w1 ⟨rfl, hs1⟩
    have hG := great_any _ l _ w1 hs1 HE.out
    rw [HGR.out] at hG
    have HG := Lib.hid hG
    have HRd := Lib.hid (Read_any _ l 1 _ w1 hs1 HE.out (by have := HL80.out; omega) HF.out)
    clear hs1 HAW hG
    go_wp2_with fail
    refine HG.out.mono ?_
    rintro e w2 ⟨rfl, rfl⟩
    go_wp2_with fail
    refine HRd.out.mono ?_
    rintro e w4 ⟨v', hh, rfl, hvw, hs4⟩
    rw [readM_yes l (by decide) (by decide)] at hvw
    obtain ⟨b0, c0, b1, c1, b2, c2, rfl, hV⟩ := vw_open hvw
    have hV := hV w4.heap.size (allOf W)
    have hll : (losersM l).length ≤ 80 := by have := HL80.out; have := losers_le l; omega
    have hdl : (doneM l).length ≤ 80 := by have := HL80.out; have := doneM_len l; omega
    have hpl : (pagesM l 1).length ≤ 80 := by have := HL80.out; have := pages_le l 1; omega
    have HST := Lib.hid (losers_strict l)
    have HPT := Lib.hid (pages_strict l 1)
    have HLL := Lib.hid hll
    have HDL := Lib.hid hdl
    have HPL := Lib.hid hpl
    clear hll hdl hpl hvw
    obtain ⟨LS, hLS⟩ : ∃ LS, losersM l = LS := ⟨_, rfl⟩
    obtain ⟨DS, hDS⟩ : ∃ DS, doneM l = DS := ⟨_, rfl⟩
    obtain ⟨PS, hPS⟩ : ∃ PS, pagesM l 1 = PS := ⟨_, rfl⟩
    rw [hLS] at HST HLL
    rw [hDS] at HDL
    rw [hPS] at HPT HPL
    rw [hLS, hDS, hPS] at hV
    rw [hLS, hDS, hPS]
    have HLS := Lib.hid hLS
    have HDS := Lib.hid hDS
    clear hLS hDS hPS
    simp only at hV ⊢
    have hs5 := hs4.new (vwO (.slice b0 LS.length c0) (.slice b1 DS.length c1) (.slice b2 PS.length c2))
    obtain ⟨H0, hH0⟩ : ∃ H0, HItem.blk w4.heap.size (vwO (.slice b0 LS.length c0) (.slice b1 DS.length c1) (.slice b2 PS.length c2)) :: (hh ++ allOf W) = H0 := ⟨_, rfl⟩
    have hF0 : ∀ w, Sat w H0 → Sat w (allOf W) := fun w hw => by rw [← hH0] at hw; exact hw.tail.right
    rw [hH0] at hs5 hV
    have hE0 : EnsIn H0 (.slice a0 l.length cap0) l := HE.out.mono hF0
    have HE0 := Lib.hid hE0
    have HF0 := Lib.hid hF0
    have HS5 := Lib.hid hs5
    have HV := Lib.hid hV
    clear hH0 hF0 hs5 hs4 HG HRd hE0 HE hV
    go_wp2_with fail
    generalize w4.alloc (.cells #[.slice b0 LS.length c0, .slice b1 DS.length c1, .slice b2 PS.length c2] 33) = W5 at *
    generalize w4.heap.size = vb at *
    go_loopw [4] (fun v4 wr => ∃ r : Nat, r ≤ 100 ∧ v4 = .int .i64 ((r : Int) + 1) ∧ Sat wr H0) (fun v4 _ => 200000 - (RowKit.intOf v4).toNat)
    case atStart => exact ⟨0, by omega, rfl, HS5.out⟩
    case round =>
      clear HS5
      obtain ⟨r, hr, rfl, hg⟩ := hrel
      have r0 : (0 : Int) ≤ (r : Int) := by omega
      obtain ⟨⟨q0, q1, q2⟩, hcl, hcd, hcp⟩ := HV.out _ hg
      have HGS := Lib.hid hg
      clear hg
      by_cases hlr : (r : Int) + 1 < (LS.length : Int)
      · as_aux_lemma =>
          have hlr1 : r + 1 < LS.length := by omega
          have hlr0 : r < LS.length := by omega
          obtain ⟨x, hx⟩ : ∃ x, LS[r]? = some x := ⟨_, List.getElem?_eq_getElem hlr0⟩
          obtain ⟨y, hy⟩ : ∃ y, LS[r + 1]? = some y := ⟨_, List.getElem?_eq_getElem hlr1⟩
          have HLT := Lib.hid (fun w => less_call x.1 y.1 (lessM_yes (pair_at HST.out (Nat.lt_succ_self r) hx hy)) w)
          have HX := Lib.hid hx
          have HY := Lib.hid hy
          have HLLo := HLL.out
          have hr79 : r ≤ 78 := by omega
          clear hx hy hcl hcd hcp HLLo
          go_upto_region 9 with (fail)
          obtain ⟨g, hbg, _⟩ := (HV.out _ HGS.out).2.1 r x HX.out
          obtain rfl : b0 = some ⟨g, 0, none⟩ := hbg
          clear q0 q1 q2
          have k0 : ∀ n os, (grow (wr.drewN n) os).cell? ⟨vb, 0, none⟩ = some (.slice (some ⟨g, 0, none⟩) LS.length c0) := fun n os => (HV.out _ (HGS.out.grown ⟨n, os, rfl⟩)).1.1
          have kx : ∀ n os, (grow (wr.drewN n) os).cell? ⟨g, r * 4, none⟩ = some (kI x.1.c) ∧ (grow (wr.drewN n) os).cell? ⟨g, r * 4 + 1, none⟩ = some (kI x.1.e) ∧ (grow (wr.drewN n) os).cell? ⟨g, r * 4 + 2, none⟩ = some (kI x.1.n) := by
            intro n os
            obtain ⟨g', e, u0, u1, u2, _⟩ := (HV.out _ (HGS.out.grown ⟨n, os, rfl⟩)).2.1 r x HX.out
            cases e
            exact ⟨u0, u1, u2⟩
          have ky : ∀ n os, (grow (wr.drewN n) os).cell? ⟨g, (r + 1) * 4, none⟩ = some (kI y.1.c) ∧ (grow (wr.drewN n) os).cell? ⟨g, (r + 1) * 4 + 1, none⟩ = some (kI y.1.e) ∧ (grow (wr.drewN n) os).cell? ⟨g, (r + 1) * 4 + 2, none⟩ = some (kI y.1.n) := by
            intro n os
            obtain ⟨g', e, u0, u1, u2, _⟩ := (HV.out _ (HGS.out.grown ⟨n, os, rfl⟩)).2.1 (r + 1) y HY.out
            cases e
            exact ⟨u0, u1, u2⟩
          have kx0 := fun n os => (kx n os).1
          have kx1 := fun n os => (kx n os).2.1
          have kx2 := fun n os => (kx n os).2.2
          have ky0 := fun n os => (ky n os).1
          have ky1 := fun n os => (ky n os).2.1
          have ky2 := fun n os => (ky n os).2.2
          have w1 : IntKind.i64.wrap ((r : Int) + 1 - 1) = (r : Int) := by rw [IntWalk.i64_in _ (by omega)]; omega
          have w2 : IntKind.i64.wrap (r : Int) = (r : Int) := IntWalk.i64_in _ (by omega)
          have t1 : ((r : Int) + 1).toNat = r + 1 := by omega
          have s1 : (0 : Int) ≤ (r : Int) + 1 := by omega
          have HSG : Hid (∀ n os, Sat (grow (wr.drewN n) os) H0) := Lib.hid (fun n os => HGS.out.grown ⟨n, os, rfl⟩)
          clear kx ky HX HY HGS
          go_quiet_grown (first | with_reducible exact Calls.grown_of (HLT.out _))
          have HS6 := Lib.hid (HSG.out nq osq)
          clear k0 kx0 kx1 kx2 ky0 ky1 ky2 w1 w2 t1 s1 HSG
          generalize grow (wr.drewN nq) osq = W6 at *
          go_wp2_with fail
          exact ⟨⟨r + 1, by omega, by simp, HS6.out⟩, by simp only [RowKit.intOf]; omega⟩
      · clear hcl hcd hcp
        go_wp2_with fail
        clear hlr r0 hr q0 q1 q2
        go_loopw [5] (fun v5 wr => ∃ r : Nat, r ≤ 100 ∧ v5 = .int .i64 ((r : Int) + 1) ∧ Sat wr H0) (fun v5 _ => 200000 - (RowKit.intOf v5).toNat)
        case atStart => exact ⟨0, by omega, rfl, HGS.out⟩
        case round =>
          clear HGS
          obtain ⟨r, hr, rfl, hg⟩ := hrel
          have r0 : (0 : Int) ≤ (r : Int) := by omega
          obtain ⟨⟨q0, q1, q2⟩, hcl, hcd, hcp⟩ := HV.out _ hg
          have HGS := Lib.hid hg
          clear hg hcl hcd
          by_cases hlr : (r : Int) + 1 < (PS.length : Int)
          · as_aux_lemma =>
              have hlr1 : r + 1 < PS.length := by omega
              have hlr0 : r < PS.length := by omega
              obtain ⟨x, hx⟩ : ∃ x, PS[r]? = some x := ⟨_, List.getElem?_eq_getElem hlr0⟩
              obtain ⟨y, hy⟩ : ∃ y, PS[r + 1]? = some y := ⟨_, List.getElem?_eq_getElem hlr1⟩
              have hlt := pair_at HPT.out (Nat.lt_succ_self r) hx hy
              have hno : (y.1 ≤ x.1) = False := by simpa using hlt
              have hr79 : r ≤ 78 := by have := HPL.out; omega
              obtain ⟨g, rfl, u0, _⟩ := hcp r x hx
              obtain ⟨g', e, u1, _⟩ := hcp (r + 1) y hy
              cases e
              have w1 : IntKind.i64.wrap ((r : Int) + 1 - 1) = (r : Int) := by rw [IntWalk.i64_in _ (by omega)]; omega
              have w2 : IntKind.i64.wrap (r : Int) = (r : Int) := IntWalk.i64_in _ (by omega)
              have t1 : ((r : Int) + 1).toNat = r + 1 := by omega
              have s1 : (0 : Int) ≤ (r : Int) + 1 := by omega
              clear hx hy hcp hlt
              go_upto_region 14 with (fail)
              go_quiet (fail)
              clear w1 w2 t1 s1 u0 u1 q0 q1 q2 hno
              have HS6 := Lib.hid (HGS.out.grown (Grown.drewN _ nq))
              clear HGS
              go_wp2_with fail
              exact ⟨⟨r + 1, by omega, by simp, HS6.out⟩, by simp only [RowKit.intOf]; omega⟩
          · clear hcp
            go_wp2_with fail
            clear hlr r0 hr q0 q1 q2
            go_loopw [6] (fun v6 wr => ∃ r : Nat, r ≤ l.length ∧ v6 = .int .i64 r ∧ Sat wr H0) (fun v6 _ => 200000 - (RowKit.intOf v6).toNat)
            case atStart => exact ⟨0, by omega, rfl, HGS.out⟩
            case round =>
              clear HGS
              obtain ⟨r, hr, rfl, hg⟩ := hrel
              have r0 : (0 : Int) ≤ (r : Int) := by omega
              have HGS := Lib.hid hg
              have r80 : (r : Int) ≤ 80 := by have := HL80.out; omega
              by_cases hlr : r < l.length
              · have r1 : (r : Int) < (l.length : Int) := by omega
                obtain ⟨x, hx⟩ : ∃ x, l[r]? = some x := ⟨_, List.getElem?_eq_getElem hlr⟩
                have HIN := Lib.hid (List.mem_of_getElem? hx)
                obtain ⟨a1, cap1, e1, hEc⟩ := HE0.out
                cases e1
                obtain ⟨g, off, rfl, e0, e1, e2, e3, e4, e5, e6, e7, e8, e9, e10, e11, e12⟩ := hEc wr hg r x hx
                have HEC := Lib.hid (fun w hw => by obtain ⟨g', off', e, u⟩ := hEc w hw r x hx; cases e; exact u : ∀ w, Sat w H0 → EnO w g (off + r * 13) x)
                have hfit := HF.out.get hx
                have HX := Lib.hid hfit
                clear hfit hEc hx hg
                cases hgo : goodM x with
                | false =>
                  as_aux_lemma =>
                    have hgA := good_any x wr HX.out.1 HX.out.2
                    rw [hgo] at hgA
                    have HGA := Lib.hid hgA
                    clear hgA hgo
                    go_wp2_with fail
                    refine HGA.out.mono ?_
                    rintro e w6 ⟨rfl, hg6⟩
                    have HS6 := Lib.hid (HGS.out.grown hg6)
                    clear hg6
                    go_wp2_with fail
                    exact ⟨⟨r + 1, by omega, by simp, HS6.out⟩, by simp only [RowKit.intOf]; omega⟩
                | true =>
                  as_aux_lemma =>
                    have hgA := good_any x wr HX.out.1 HX.out.2
                    rw [hgo] at hgA
                    have HGA := Lib.hid hgA
                    obtain ⟨y, hy, hyl, hpos⟩ := lastOf_some HIN.out hgo
                    have hall := is_all HIN.out hgo hy
                    rw [HLS.out] at hall
                    have hcnt := done_count l x.t
                    have hone := fun q => done_one (l := l) (t := x.t) q
                    rw [HDS.out] at hcnt hone
                    have hend := of_end l x.t
                    have HOF := Lib.hid (fun w (hw : Sat w H0) => Of_any _ l x.t _ w hw HE0.out (by have := HL80.out; omega) HF.out)
                    have holen := ofM_len l x.t
                    obtain ⟨O, hO⟩ : ∃ O, ofM l x.t = O := ⟨_, rfl⟩
                    rw [hO] at hy hpos hend HOF holen
                    obtain ⟨m, hm⟩ : ∃ m, O.length = m + 1 := ⟨O.length - 1, by omega⟩
                    have hym : O[m]? = some y := by rw [List.getLast?_eq_getElem?] at hy; rw [← hy]; congr 1; omega
                    have HALL := Lib.hid hall
                    have HCNT := Lib.hid (And.intro hcnt hone)
                    have HEND := Lib.hid hend
                    have HYM := Lib.hid hym
                    have hm80 : m ≤ 80 := by have := HL80.out; omega
                    have HM := Lib.hid hm
                    clear hgA hgo hy hyl hpos hall hcnt hone hend holen hO hym hm HX
                    go_upto_region 19 with (fail)
                    go_wp2_with fail
                    refine HGA.out.mono ?_
                    rintro e w6 ⟨rfl, hg6⟩
                    have HS6 := Lib.hid (HGS.out.grown hg6)
                    clear hg6 HGS HGA e0 e1 e2 e3 e4 e5 e6 e7 e8 e9 e10 e11 e12
                    obtain ⟨e0, e1, e2, e3, e4, e5, e6, e7, e8, e9, e10, e11, e12⟩ := HEC.out _ HS6.out
                    have HOF6 := Lib.hid (HOF.out _ HS6.out)
                    go_wp2_with fail
                    refine HOF6.out.mono ?_
                    rintro e w7 ⟨v7, h7, rfl, hv7, hs7⟩
                    obtain ⟨g7, c7, rfl⟩ := sl_some hv7 (by rw [HM.out]; omega)
                    have hEO : ∀ w, Sat w (h7 ++ H0) → ∀ i q, O[i]? = some q → EnO w g7 (0 + i * 13) q := by
                      intro w hw i q hq
                      obtain ⟨a', cap', e, hc⟩ := sl_cells eC_len hv7 hw
                      cases e
                      obtain ⟨g', e, _, hu⟩ := hc i q hq
                      cases e
                      rw [Nat.zero_add]
                      exact ⟨hu 0 _ rfl, hu 1 _ rfl, hu 2 _ rfl, hu 3 _ rfl, hu 4 _ rfl, hu 5 _ rfl, hu 6 _ rfl, hu 7 _ rfl, hu 8 _ rfl, hu 9 _ rfl, hu 10 _ rfl, hu 11 _ rfl, hu 12 _ rfl⟩
                    have HEO := Lib.hid hEO
                    have HS7 := Lib.hid hs7
                    rw [HM.out]
                    clear hEO hs7 hv7 HOF6 HOF HS6 e0 e1 e2 e3 e4 e5 e6 e7 e8 e9 e10 e11 e12
                    go_wp2_with fail
                    go_loopw [8, 9] (fun v8 v9 wx => ∃ k : Nat, k ≤ m + 1 ∧ v9 = .int .i64 k ∧ v8 = .bool ((O.take k).any isEndM) ∧ wx = w7) (fun _ v9 _ => 200000 - (RowKit.intOf v9).toNat)
                    case atStart => exact ⟨0, by omega, rfl, rfl, rfl⟩
                    case round =>
                      obtain ⟨k, hk, rfl, rfl, rfl⟩ := hrel
                      have k0 : (0 : Int) ≤ (k : Int) := by omega
                      by_cases hkm : k < m + 1
                      · as_aux_lemma =>
                          have k1 : (k : Int) < (m : Int) + 1 := by omega
                          obtain ⟨q, hq⟩ : ∃ q, O[k]? = some q := ⟨_, List.getElem?_eq_getElem (by have := HM.out; omega)⟩
                          obtain ⟨f0, _, _, _, _, _, _, _, _, _, _, _, _⟩ := HEO.out _ HS7.out k q hq
                          rw [Nat.zero_add] at f0
                          have hst := any_take_succ isEndM O k q hq
                          have HST := Lib.hid hst
                          obtain ⟨b, hb⟩ : ∃ b, (O.take k).any isEndM = b := ⟨_, rfl⟩
                          rw [hb] at HST ⊢
                          unfold isEndM at HST
                          clear hst hq hb
                          cases b with
                          | true =>
                            go_wp2_with fail
                            exact ⟨⟨k + 1, by omega, by simp, by rw [show isEndM = fun x => (x.kind == 3 || x.kind == 4) from rfl, HST.out]; simp, (by first | rfl | trivial)⟩, by simp only [RowKit.intOf]; omega⟩
                          | false =>
                            cases h3 : (q.kind == 3) with
                            | true =>
                              go_wp2_with fail
                              exact ⟨⟨k + 1, by omega, by simp, by rw [show isEndM = fun x => (x.kind == 3 || x.kind == 4) from rfl, HST.out]; simp [h3], (by first | rfl | trivial)⟩, by simp only [RowKit.intOf]; omega⟩
                            | false =>
                              cases h4 : (q.kind == 4)
                              all_goals
                                go_wp2_with fail
                                exact ⟨⟨k + 1, by omega, by simp, by rw [show isEndM = fun x => (x.kind == 3 || x.kind == 4) from rfl, HST.out]; simp [h3, h4], (by first | rfl | trivial)⟩, by simp only [RowKit.intOf]; omega⟩
                      · obtain rfl : k = m + 1 := by omega
                        have hfull : (O.take (m + 1)).any isEndM = endM l x.t := by
                          rw [← HM.out, List.take_length]; exact HEND.out
                        rw [hfull]
                        clear hfull hkm k0 hk
                        have hk0 : ((m : Int) + 1 < (m : Int) + 1) = False := by simp
                        go_wp2_with fail
                        clear hk0
                        obtain ⟨E, hE⟩ : ∃ E, endM l x.t = E := ⟨_, rfl⟩
                        rw [hE] at HALL HCNT HEND ⊢
                        clear hE
                        have hs8 := HS7.out
                        have hLc : ∀ w, Sat w (h7 ++ H0) → Sat w H0 := fun w hw => hw.right
                        have HLc := Lib.hid hLc
                        have HEY := Lib.hid (fun w (hw : Sat w (h7 ++ H0)) => by obtain ⟨_, _, _, _, u, _⟩ := HEO.out w hw m y HYM.out; rw [Nat.zero_add] at u; exact u : ∀ w, Sat w (h7 ++ H0) → w.cell? ⟨g7, m * 13 + 4, none⟩ = some (kI y.lsn))
                        clear hLc HEO
                        go_loopw [10, 11] (fun v10 v11 wx => ∃ k : Nat, k ≤ LS.length ∧ v11 = .int .i64 k ∧ v10 = .bool ((LS.take k).any (isM x.t y.lsn)) ∧ Sat wx (h7 ++ H0)) (fun _ v11 _ => 200000 - (RowKit.intOf v11).toNat)
                        case atStart => exact ⟨0, by omega, rfl, rfl, HS7.out⟩
                        case round =>
                          clear hs8 HS7
                          obtain ⟨k, hk, rfl, rfl, hg⟩ := hrel
                          have k0 : (0 : Int) ≤ (k : Int) := by omega
                          have HG8 := Lib.hid hg
                          obtain ⟨⟨q0, q1, q2⟩, hcl, hcd, hcp⟩ := HV.out _ (HLc.out _ hg)
                          clear hcd hcp hg
                          by_cases hkm : k < LS.length
                          · as_aux_lemma =>
                              have k1 : (k : Int) < (LS.length : Int) := by omega
                              have kll : k ≤ 80 := by have := HLL.out; omega
                              obtain ⟨p, hp⟩ : ∃ p, LS[k]? = some p := ⟨_, List.getElem?_eq_getElem hkm⟩
                              obtain ⟨g8, rfl, u0, u1, u2, u3⟩ := hcl k p hp
                              have hst := any_take_succ (isM x.t y.lsn) LS k p hp
                              obtain ⟨b, hb⟩ : ∃ b, (LS.take k).any (isM x.t y.lsn) = b := ⟨_, rfl⟩
                              obtain ⟨bt, hbt⟩ : ∃ bt, decide (p.1 = x.t) = bt := ⟨_, rfl⟩
                              obtain ⟨bn, hbn⟩ : ∃ bn, (p.2 == y.lsn) = bn := ⟨_, rfl⟩
                              have heq := fun w => eq_tx p.1 x.t w
                              rw [hbt] at heq
                              rw [hb] at hst ⊢
                              rw [show isM x.t y.lsn p = (bt && bn) from by unfold isM; rw [hbt, hbn]] at hst
                              have HST := Lib.hid hst
                              have hey := HEY.out _ HG8.out
                              obtain ⟨e0, e1, e2, e3, _, _, _, _, _, _, _, _, _⟩ := HEC.out _ (HLc.out _ HG8.out)
                              have w1 : IntKind.i64.wrap ((m : Int) + 1 - 1) = (m : Int) := by rw [IntWalk.i64_in _ (by omega)]; omega
                              have w2 : IntKind.i64.wrap (m : Int) = (m : Int) := IntWalk.i64_in _ (by omega)
                              have m0 : (0 : Int) ≤ (m : Int) := by omega
                              have m1 : (m : Int) < (m : Int) + 1 := by omega
                              clear hst hp hb hbt hcl
                              go_upto_region 30 with (fail)
                              cases b with
                              | true =>
                                go_quiet (fail)
                                have HG9 := Lib.hid (HG8.out.grown (Grown.drewN _ nq))
                                clear HG8 w1 w2 m0 m1 hey heq e0 e1 e2 e3 u0 u1 u2 u3 q0 q1 q2 hbn
                                go_wp2_with fail
                                exact ⟨⟨k + 1, by omega, by simp, by rw [HST.out]; simp, HG9.out⟩, by simp only [RowKit.intOf]; omega⟩
                              | false =>
                                cases bt with
                                | false =>
                                  go_quiet (fail)
                                  have HG9 := Lib.hid (HG8.out.grown (Grown.drewN _ nq))
                                  clear HG8 w1 w2 m0 m1 hey heq e0 e1 e2 e3 u0 u1 u2 u3 q0 q1 q2 hbn
                                  go_wp2_with fail
                                  exact ⟨⟨k + 1, by omega, by simp, by rw [HST.out]; simp, HG9.out⟩, by simp only [RowKit.intOf]; omega⟩
                                | true =>
                                  go_quiet (fail)
                                  have HG9 := Lib.hid (HG8.out.grown (Grown.drewN _ nq))
                                  clear HG8 w1 w2 m0 m1 hey heq e0 e1 e2 e3 u0 u1 u2 u3 q0 q1 q2 hbn
                                  go_wp2_with fail
                                  exact ⟨⟨k + 1, by omega, by simp, by rw [HST.out]; simp, HG9.out⟩, by simp only [RowKit.intOf]; omega⟩
                          · obtain rfl : k = LS.length := by omega
                            rw [List.take_length, HALL.out]
                            clear hkm hcl k0 hk
                            go_wp2_with fail
                            clear q0 q1 q2
                            go_loopw [12, 13] (fun v12 v13 wx => ∃ k c : Nat, k ≤ DS.length ∧ v13 = .int .i64 k ∧ v12 = .int .i64 c ∧ c = (DS.take k).count x.t ∧ Sat wx (h7 ++ H0)) (fun _ v13 _ => 200000 - (RowKit.intOf v13).toNat)
                            case atStart => exact ⟨0, 0, by omega, rfl, rfl, rfl, HG8.out⟩
                            case round =>
                              clear HG8
                              obtain ⟨k, c, hk, rfl, rfl, hc, hg⟩ := hrel
                              have k0 : (0 : Int) ≤ (k : Int) := by omega
                              have HG8 := Lib.hid hg
                              obtain ⟨⟨q0, q1, q2⟩, hcl, hcd, hcp⟩ := HV.out _ (HLc.out _ hg)
                              clear hcl hcp hg
                              have HC := Lib.hid hc
                              have c0 : (0 : Int) ≤ (c : Int) := by omega
                              have c1 : (c : Int) ≤ 80 := by
                                have := HC.out
                                have := HDL.out
                                have := List.count_le_length (a := x.t) (l := DS.take k)
                                rw [List.length_take] at this
                                omega
                              clear hc
                              by_cases hkm : k < DS.length
                              · as_aux_lemma =>
                                  have k1 : (k : Int) < (DS.length : Int) := by omega
                                  obtain ⟨p, hp⟩ : ∃ p, DS[k]? = some p := ⟨_, List.getElem?_eq_getElem hkm⟩
                                  have kll : k ≤ 80 := by have := HDL.out; omega
                                  obtain ⟨g8, rfl, u0, u1, u2⟩ := hcd k p hp
                                  have hst := count_take_succ x.t DS k p hp
                                  rw [← HC.out] at hst
                                  have HST := Lib.hid hst
                                  have heq := fun w => eq_tx p x.t w
                                  obtain ⟨bt, hbt⟩ : ∃ bt, decide (p = x.t) = bt := ⟨_, rfl⟩
                                  rw [hbt] at heq
                                  have HBT := Lib.hid hbt
                                  obtain ⟨e0, e1, e2, e3, _, _, _, _, _, _, _, _, _⟩ := HEC.out _ (HLc.out _ HG8.out)
                                  clear hst hp hcd hbt
                                  go_upto_region 35 with (fail)
                                  go_quiet (fail)
                                  have HG9 := Lib.hid (HG8.out.grown (Grown.drewN _ nq))
                                  clear HG8 heq e0 e1 e2 e3 u0 u1 u2 q0 q1 q2
                                  cases bt with
                                  | false =>
                                    go_wp2_with fail
                                    exact ⟨⟨k + 1, c, by omega, by simp, rfl, by rw [HST.out, if_neg (by simpa using HBT.out)]; rfl, HG9.out⟩, by simp only [RowKit.intOf]; omega⟩
                                  | true =>
                                    go_wp2_with fail
                                    exact ⟨⟨k + 1, c + 1, by omega, by simp, by simp, by rw [HST.out, if_pos (by simpa using HBT.out)], HG9.out⟩, by simp only [RowKit.intOf]; omega⟩
                              · obtain rfl : k = DS.length := by omega
                                have hcc : c = DS.count x.t := by rw [HC.out, List.take_length]
                                have hcase : (E = true ∧ c = 0) ∨ (E = true ∧ c = 1) ∨ (E = false ∧ c = 0) := by
                                  have h1 := HCNT.out.1
                                  have h2 := HCNT.out.2
                                  rw [← hcc] at h1 h2
                                  by_cases hc1 : c = 1
                                  · exact .inr (.inl ⟨h2 hc1, hc1⟩)
                                  · cases E
                                    · exact .inr (.inr ⟨rfl, by omega⟩)
                                    · exact .inl ⟨rfl, by omega⟩
                                clear hcc HC hkm hcd k0 hk
                                rcases hcase with ⟨rfl, rfl⟩ | ⟨rfl, rfl⟩ | ⟨rfl, rfl⟩
                                all_goals
                                  go_wp2_with fail
                                  exact ⟨⟨r + 1, by omega, by simp, HLc.out _ HG8.out⟩, by simp only [RowKit.intOf]; omega⟩
              · as_aux_lemma =>
                  obtain rfl : r = l.length := by omega
                  clear hlr hg
                  go_wp2_with fail
                  go_ret
                  exact ⟨rfl, (HF0.out _ HGS.out).below⟩
end Go.Proofs.Ytceegnfjdgjomaa
