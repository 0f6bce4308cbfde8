/- KeyGone walked: who is gone holds nothing. Conditions: none. -/
import Derived.Test.YthgfbnopbfiifaaKeyGM
import Derived.Test.YthgfbnopbfiifaaKeyW
import Derived.Test.YthgfbnopbfiifaaKeyO
import Derived.Test.YthgfbnopbfiifaaKey16
import Derived.Test.YthgfbnopbfiifaaKeySh
import Derived.Test.YthgfbnopbfiifaaArgs14
import Derived.Deep.CutBlock
namespace Go.Proofs.Ythgfbnopbfiifaa
open Go Go.MapKept Go.RowKit Go.Proofs Go.Sort

theorem KtIs.newG {b : Nat} {K : KtM} {F : Heaplet} {w : World} (h : KtIs b K F w) (o : Obj) : KtIs b K (.blk w.heap.size o :: F) (w.alloc o) := by
  obtain ⟨A, s, back⟩ := h.split
  exact back ((s.new o).perm List.perm_middle.symm)
/-- An act. -/
def actG (K : KtM) (kind c p : Int) (x : Bool) : KtM := if kind = 1 then (askM K c p x).2 else if kind = 2 then (freeM K c p x).2 else if kind = 3 then (busyM K c p).2 else K
theorem act_go {K : KtM} {n : Nat} (h : GO K n) (kind c : Int) {p : Int} (x : Bool) (hp : 0 ≤ p ∧ p < 8) : GO (actG K kind c p x) (n + 1) := by
  unfold actG
  split
  · exact h.ask c x hp
  · split
    · exact h.free c p x
    · split
      · exact h.busy c p
      · exact h.mono (by omega)
/-- What was held, up to a client and a page. -/
def WasI (T : TabM) (c0 p0 : Int) (cur : Array Value) : Prop := cur.size = 72 ∧ ∀ c p : Int, 1 ≤ c → c ≤ 8 → 0 ≤ p → p < 8 → (c < c0 ∨ c = c0 ∧ p < p0) → cur[c.toNat * 8 + p.toNat]? = some (kI (holdsM T c p))
theorem WasI.put {T : TabM} {c0 p0 : Int} {cur : Array Value} (h : WasI T c0 p0 cur) (hc : 1 ≤ c0 ∧ c0 ≤ 8) (hp : 0 ≤ p0 ∧ p0 < 8) : WasI T c0 (p0 + 1) (cur.setIfInBounds (c0.toNat * 8 + p0.toNat) (kI (holdsM T c0 p0))) := by
  obtain ⟨h1, h2⟩ := h
  refine ⟨by simpa using h1, fun c p a1 a2 a3 a4 a5 => ?_⟩
  by_cases e : c = c0 ∧ p = p0
  · obtain ⟨rfl, rfl⟩ := e
    rw [Array.getElem?_setIfInBounds_self_of_lt (by omega)]
  · rw [Array.getElem?_setIfInBounds_ne (by omega)]
    exact h2 c p a1 a2 a3 a4 (by omega)
theorem WasI.row {T : TabM} {c0 : Int} {cur : Array Value} (h : WasI T c0 8 cur) : WasI T (c0 + 1) 0 cur := ⟨h.1, fun c p a1 a2 a3 a4 a5 => h.2 c p a1 a2 a3 a4 (by omega)⟩
theorem zeroC_size : Try.zeroCells44.size = 72 := by kernel_rfl
theorem zeroC_one : ∀ v ∈ Try.zeroCells44.toList, v.oneCell' = true := by
  have h : (Try.zeroCells44.toList.all fun v => v.oneCell') = true := by kernel_rfl
  intro v hv
  exact List.all_eq_true.1 h v hv
theorem KtIs.in1 {b : Nat} {K : KtM} {h1 F : Heaplet} {w : World} (h : KtIs b K (h1 ++ F) w) : ∃ A0, Sat w (h1 ++ (A0 ++ F)) ∧ ∀ {h1' w'}, Sat w' (h1' ++ (A0 ++ F)) → KtIs b K (h1' ++ F) w' := by
  obtain ⟨A, s, back⟩ := h.split
  exact ⟨A, sat_ap s, fun {h1' w'} s' => back (sat_ap s')⟩
set_option maxRecDepth 100000 in
set_option maxHeartbeats 16000000 in
theorem gone_walk (p : Option Addr) (len cap : Nat) (V0 V1 V2 : Nat → Int) (V3 : Nat → Bool) (cv : Int) (W : World) (ha : Acts14 W p len V0 V1 V2 V3) :
    Calls Try.prog 6 #[.slice p len cap, .int .i64 cv] W fun e W' => e = .returned (.bool true) ∧ Below W.heap.size W W' := by
  have Ha := Lib.hid ha
  have hlen := ha.1
  clear ha
  obtain ⟨cl, hcl, l0, l1⟩ : ∃ cl, wrap64 (1 + wrap64 ((IntKind.u64.wrap cv).tmod 8)) = cl ∧ 1 ≤ cl ∧ cl ≤ 8 := ⟨_, rfl, (uone_bd cv).1, (uone_bd cv).2⟩
  have HCL := Lib.hid hcl
  clear hcl
  go_enter Try.func6, Try.ntmps6
  go_wp2_with fail
  refine (awake14 (allOf W) W (sat_all W)).mono ?_
  rintro e w0 ⟨rfl, hs⟩
  have HS0 := Lib.hid hs
  clear hs
  go_upto_region 4 with (fail)
  rw [HCL.out]
  clear HCL
  go_wp2_with fail
  refine (key_new (allOf W) w0 HS0.out).mono ?_
  rintro e w1 ⟨b, rfl, hL⟩
  have H0 := Lib.hid hL
  clear hL HS0
  go_upto_block 0 with (fail)
  go_cut [6, 7, 8] from 25 to 70 (fun _ _ _ wx => ∃ K : KtM, GO K 150 ∧ KtIs b K (allOf W) wx)
  case first =>
    go_wp2_with fail
    go_loopw [6] (fun v6 wr => ∃ (k : Nat) (K : KtM), k ≤ len ∧ k ≤ 150 ∧ v6 = .int .i64 k ∧ GO K k ∧ KtIs b K (allOf W) wr) (fun v6 _ => 200 - (RowKit.intOf v6).toNat)
    case atStart => exact ⟨0, ⟨[], []⟩, by omega, by omega, rfl, GO.start, H0.out⟩
    case round =>
      obtain ⟨k, K, hk1, hk2, rfl, hok, hK⟩ := hrel
      clear H0
      have j0 : (0 : Int) ≤ (k : Int) := by omega
      by_cases hlt : k < len ∧ k < 150
      · obtain ⟨hlt1, hlt2⟩ := hlt
        obtain ⟨ba, off, rfl, hba, ⟨hA, hA0, hA1⟩, ⟨hB, hB0, hB1⟩, ⟨hC, hC0, hC1⟩, hD⟩ := (Ha.out).2 k hlt1
        have c0 : wr.cell? ⟨ba, off + k * 4, none⟩ = some (kI (V0 k)) := (hK.frame.cellOld (a := ⟨ba, off + k * 4, none⟩) hba).trans hA
        have c1 : wr.cell? ⟨ba, off + k * 4 + 1, none⟩ = some (kI (V1 k)) := (hK.frame.cellOld (a := ⟨ba, off + k * 4 + 1, none⟩) hba).trans hB
        have c2 : wr.cell? ⟨ba, off + k * 4 + 2, none⟩ = some (kI (V2 k)) := (hK.frame.cellOld (a := ⟨ba, off + k * 4 + 2, none⟩) hba).trans hC
        have c3 : wr.cell? ⟨ba, off + k * 4 + 3, none⟩ = some (.bool (V3 k)) := (hK.frame.cellOld (a := ⟨ba, off + k * 4 + 3, none⟩) hba).trans hD
        generalize V0 k = kind at *
        generalize V1 k = c at *
        generalize V2 k = v2 at *
        generalize V3 k = x at *
        obtain ⟨q, hq, q0, q1⟩ : ∃ q, wrap64 ((IntKind.u64.wrap v2).tmod 8) = q ∧ 0 ≤ q ∧ q < 8 := ⟨_, rfl, umod_bd v2 8 (by omega) (by omega)⟩
        have HN := Lib.hid (hK.newG (.cells #[kI kind, kI c, kI v2, .bool x] 27))
        have HOK := Lib.hid hok
        have HQ := Lib.hid hq
        clear hA hB hC hD hok hK hq
        go_upto_region 9 with (fail)
        generalize wr.alloc (.cells #[.int .i64 kind, .int .i64 c, .int .i64 v2, .bool x] 27) = W1 at *
        generalize wr.heap.size = xb at *
        clear c0 c1 c2 c3
        have n0 : W1.cell? ⟨xb, 0, none⟩ = some (kI kind) := by rw [cell_of HN.out.frame.h0]; rfl
        have n1 : W1.cell? ⟨xb, 1, none⟩ = some (kI c) := by rw [cell_of HN.out.frame.h0]; rfl
        have n2 : W1.cell? ⟨xb, 2, none⟩ = some (kI v2) := by rw [cell_of HN.out.frame.h0]; rfl
        have n3 : W1.cell? ⟨xb, 3, none⟩ = some (.bool x) := by rw [cell_of HN.out.frame.h0]; rfl
        go_upto_block 2 with (fail)
        rw [HQ.out]
        clear HQ
        have hak := act_go HOK.out kind c x ⟨q0, q1⟩
        have HAK := Lib.hid hak
        have HF : Hid ((∀ l, getL q K.tab = some l → Fit8 l) ∧ K.ws.length ≤ 600000) := Lib.hid ⟨fun l hl => HOK.out.fit q l hl, by have := HOK.out.ws; omega⟩
        clear hak
        by_cases k1 : kind = 1
        · have b1 : (kind == 1) = true := by simpa using k1
          have EACT : Hid (actG K kind c q x = (askM K c q x).2) := Lib.hid (by unfold actG; simp [k1])
          have HC := Lib.hid (ask_any HN.out c q x HF.out.1 HF.out.2)
          clear k1 HN HF HOK
          go_wp2_with fail
          refine (HC.out).mono ?_
          rintro e w5 ⟨rfl, h5⟩
          have FIN : Hid (KtIs b (actG K kind c q x) (allOf W) w5) := Lib.hid (by rw [EACT.out]; exact KtIs.weaken (D := [_]) h5)
          clear h5 HC EACT
          go_wp2_with fail
          exact ⟨⟨k + 1, _, by omega, by omega, by simp, HAK.out, FIN.out⟩, by simp only [RowKit.intOf]; omega⟩
        · have b1 : (kind == 1) = false := by simpa using k1
          by_cases k2 : kind = 2
          · have b2 : (kind == 2) = true := by simpa using k2
            have EACT : Hid (actG K kind c q x = (freeM K c q x).2) := Lib.hid (by unfold actG; simp [k2])
            have HC := Lib.hid (free_any HN.out c q x HF.out.1 HF.out.2)
            clear k2 HN HF HOK k1
            go_wp2_with fail
            refine (HC.out).mono ?_
            rintro e w5 ⟨rfl, h5⟩
            have FIN : Hid (KtIs b (actG K kind c q x) (allOf W) w5) := Lib.hid (by rw [EACT.out]; exact KtIs.weaken (D := [_]) h5)
            clear h5 HC EACT
            go_wp2_with fail
            exact ⟨⟨k + 1, _, by omega, by omega, by simp, HAK.out, FIN.out⟩, by simp only [RowKit.intOf]; omega⟩
          · have b2 : (kind == 2) = false := by simpa using k2
            by_cases k3 : kind = 3
            · have b3 : (kind == 3) = true := by simpa using k3
              have EACT : Hid (actG K kind c q x = (busyM K c q).2) := Lib.hid (by unfold actG; simp [k3])
              have HC := Lib.hid (busy_any HN.out c q)
              clear k3 HN HF HOK k1 k2
              go_wp2_with fail
              refine (HC.out).mono ?_
              rintro e w5 ⟨rfl, h5⟩
              have FIN : Hid (KtIs b (actG K kind c q x) (allOf W) w5) := Lib.hid (by rw [EACT.out]; exact KtIs.weaken (D := [_]) h5)
              clear h5 HC EACT
              go_wp2_with fail
              exact ⟨⟨k + 1, _, by omega, by omega, by simp, HAK.out, FIN.out⟩, by simp only [RowKit.intOf]; omega⟩
            · have b3 : (kind == 3) = false := by simpa using k3
              have FIN : Hid (KtIs b (actG K kind c q x) (allOf W) W1) := Lib.hid (by unfold actG; simp only [k1, k2, k3, if_false]; exact KtIs.weaken (D := [_]) HN.out)
              clear k1 k2 k3 HN HF HOK
              go_wp2_with fail
              exact ⟨⟨k + 1, _, by omega, by omega, by simp, HAK.out, FIN.out⟩, by simp only [RowKit.intOf]; omega⟩
      · have FIN : Hid (∃ K : KtM, GO K 150 ∧ KtIs b K (allOf W) wr) := Lib.hid ⟨K, hok.mono hk2, hK⟩
        clear hok hK
        have hil : k = 150 ∧ 150 < len ∨ k = len := by omega
        rcases hil with ⟨rfl, h1⟩ | rfl
        all_goals
          clear hlt
          go_wp2_with fail
          go_meet
          exact FIN.out
  case rest =>
    clear H0
    obtain ⟨K, hok, hK⟩ := hcut
    have HOK := Lib.hid hok
    have HK := Lib.hid hK
    have hs := hK.newG (.cells Try.zeroCells44 44)
    obtain ⟨A0, hs0, back⟩ := KtIs.in1 (h1 := [.blk wc.heap.size (.cells Try.zeroCells44 44)]) (F := allOf W) hs
    have hst := run_storeCells_cells (P := Try.prog) wc.heap.size 0 Try.zeroCells44.toList 0 (wc.alloc (.cells Try.zeroCells44 44)) (fun j hj => by rw [cell_of hs0.h0, ← Array.getElem?_toList, Nat.zero_add, List.getElem?_eq_getElem hj]; rfl) (fun j _ => unfrozen_of hs0.h0 _) zeroC_one
    simp only [Nat.add_zero] at hst
    obtain ⟨c1, e1, s1, _⟩ := sat_setCells Try.zeroCells44.toList 0 _ _ hs0 (by simp)
    have H1 : Hid (∃ cur, WasI K.tab 1 0 cur ∧ KtIs b K (.blk wc.heap.size (.cells cur 44) :: allOf W) ((wc.alloc (.cells Try.zeroCells44 44)).setCells wc.heap.size 0 Try.zeroCells44.toList)) := Lib.hid ⟨c1, ⟨by rw [e1]; exact zeroC_size, fun c p a1 a2 a3 a4 a5 => by omega⟩, back (h1' := [.blk wc.heap.size (.cells c1 44)]) s1⟩
    clear hok hK hs hs0 back s1 e1
    go_upto_region 18 with (fail)
    generalize (wc.alloc (.cells Try.zeroCells44 44)).setCells wc.heap.size 0 Try.zeroCells44.toList = W2 at *
    generalize wc.heap.size = wb at *
    clear hst
    go_upto_block 3 with (fail)
    go_cut [10, 11] from 72 to 87 (fun _ _ wx => ∃ cur, WasI K.tab 9 0 cur ∧ KtIs b K (.blk wb (.cells cur 44) :: allOf W) wx)
    case first =>
      go_wp2_with fail
      go_loopw [10, 11] (fun v10 _ wx => ∃ (c : Int) (cur : Array Value), 1 ≤ c ∧ c ≤ 9 ∧ v10 = .int .i64 c ∧ WasI K.tab c 0 cur ∧ KtIs b K (.blk wb (.cells cur 44) :: allOf W) wx) (fun v10 _ _ => 20 - (RowKit.intOf v10).toNat)
      case atStart =>
        obtain ⟨cur, a1, a2⟩ := H1.out
        exact ⟨1, cur, by omega, by omega, rfl, a1, a2⟩
      case round =>
        clear H1
        obtain ⟨c, cur, hc1, hc9, rfl, hwas, hk⟩ := hrel
        have HW := Lib.hid (And.intro hwas hk)
        clear hwas hk
        by_cases hc8 : c ≤ 8
        · go_wp2_with fail
          go_loopw [11] (fun v11 wx => ∃ (q : Int) (cur : Array Value), 0 ≤ q ∧ q ≤ 8 ∧ v11 = .int .i64 q ∧ WasI K.tab c q cur ∧ KtIs b K (.blk wb (.cells cur 44) :: allOf W) wx) (fun v11 _ => 20 - (RowKit.intOf v11).toNat)
          case atStart => exact ⟨0, cur, by omega, by omega, rfl, HW.out.1, HW.out.2⟩
          case round =>
            clear HW
            obtain ⟨q, cur, hq0, hq8, rfl, hwas, hk⟩ := hrel
            by_cases hq7 : q < 8
            · have hh := holds_any (hk.grown (Grown.drew wr)) c q
              obtain ⟨hv, hhv⟩ : ∃ hv, holdsM K.tab c q = hv := ⟨_, rfl⟩
              rw [hhv] at hh
              have hput := hwas.put ⟨hc1, hc8⟩ ⟨hq0, hq7⟩
              rw [hhv] at hput
              obtain ⟨A0, s0, back⟩ := KtIs.in1 (h1 := [.blk wb (.cells cur 44)]) (F := allOf W) (hk.grown (Grown.drew wr))
              have f0 := unfrozen_of s0.h0 (c.toNat * 8 + q.toNat)
              have x0 : wr.drew.cell? ⟨wb, c.toNat * 8 + q.toNat, none⟩ = some cur[c.toNat * 8 + q.toNat]! := by
                rw [cell_of s0.h0, getElem!_pos cur _ (by have := hwas.1; omega)]
                exact Array.getElem?_eq_getElem _
              have FIN : Hid (WasI K.tab c (q + 1) (cur.setIfInBounds (c.toNat * 8 + q.toNat) (kI hv)) ∧ KtIs b K (.blk wb (.cells (cur.setIfInBounds (c.toNat * 8 + q.toNat) (kI hv)) 44) :: allOf W) (wr.drew.setCell ⟨wb, c.toNat * 8 + q.toNat, none⟩ (kI hv))) := Lib.hid ⟨hput, back (h1' := [.blk wb (.cells (cur.setIfInBounds (c.toNat * 8 + q.toNat) (kI hv)) 44)]) (Sat.setCell s0 (i := c.toNat * 8 + q.toNat) (kI hv))⟩
              have HH := Lib.hid hh
              clear hh hhv hput s0 back hwas hk
              go_upto_region 24 with (fail)
              go_region_with ((go_at_call 15; refine (HH.out).mono ?_; rintro e w9 ⟨rfl, rfl⟩))
              all_goals
                go_wp2_with fail
                exact ⟨⟨q + 1, _, by omega, by omega, by simp, FIN.out.1, FIN.out.2⟩, by simp only [RowKit.intOf]; omega⟩
            · obtain rfl : q = 8 := by omega
              have FIN : Hid (WasI K.tab (c + 1) 0 cur ∧ KtIs b K (.blk wb (.cells cur 44) :: allOf W) wr) := Lib.hid ⟨hwas.row, hk⟩
              clear hwas hk hq7
              go_wp2_with fail
              exact ⟨⟨c + 1, cur, by omega, by omega, by simp, FIN.out.1, FIN.out.2⟩, by simp only [RowKit.intOf]; omega⟩
        · obtain rfl : c = 9 := by omega
          clear hc8
          go_wp2_with fail
          go_meet
          exact ⟨cur, HW.out.1, HW.out.2⟩
    case rest =>
      clear H1
      obtain ⟨cur, hwas, hk⟩ := hcut
      have hgn := gn_leave HOK.out cl
      have hkl : K.tab.length ≤ 8 := rng_len HOK.out.nd HOK.out.rng
      have hgo := gone_any hk cl HOK.out.fit (fun q hq => by have := HOK.out.rng q hq; omega) (by have := HOK.out.ws; omega) (by omega)
      obtain ⟨K1, hK1⟩ : ∃ K1, leaveM K cl true = K1 := ⟨_, rfl⟩
      rw [hK1] at hgn hgo
      have HGN := Lib.hid hgn
      have HGO := Lib.hid hgo
      have HW := Lib.hid hwas
      clear hgn hkl hgo hK1 hwas hk HOK HK
      go_wp2_with fail
      refine (HGO.out).mono ?_
      rintro e w3 ⟨rfl, h3⟩
      have HOF := Lib.hid (of_any h3 cl (by have := HGN.out.len; omega))
      clear h3 HGO
      go_wp2_with fail
      refine (HOF.out).mono ?_
      rintro e w4 ⟨v, vh, rfl, hv, h4⟩
      have hof : ofM K1.tab cl = [] := by
        unfold ofM
        rw [List.filter_eq_nil_iff.2 (fun p _ => by rw [HGN.out.none p]; decide), sortK_nil]
      rw [hof] at hv
      obtain ⟨a5, cap5, rfl⟩ := sl_form hv
      have HWT := Lib.hid (waits_any (KtIs.weaken (D := vh) h4) HGN.out.fit (by have := HGN.out.len; omega))
      clear hof hv h4 HOF
      simp only [List.length_nil]
      go_wp2_with fail
      refine (HWT.out).mono ?_
      rintro e w5 ⟨v12, L, lh, rfl, hv12, _, hLm, hLl, h5⟩
      obtain ⟨a12, cap12, rfl⟩ := sl_form hv12
      have HL := Lib.hid (And.intro hv12 hLm)
      have H5 := Lib.hid h5
      have hll : (L.length : Int) ≤ 1000000 := by omega
      clear HWT hv12 hLm h5
      go_wp2_with fail
      go_loopw [13] (fun v13 wx => ∃ j : Nat, j ≤ L.length ∧ v13 = .int .i64 j ∧ KtIs b K1 (lh ++ (.blk wb (.cells cur 44) :: allOf W)) wx) (fun v13 _ => 2000000 - (RowKit.intOf v13).toNat)
      case atStart => exact ⟨0, by omega, rfl, H5.out⟩
      case round =>
        clear H5
        obtain ⟨j, hj, rfl, hk⟩ := hrel
        have j0 : (0 : Int) ≤ (j : Int) := by omega
        by_cases hjl : j < L.length
        · have j1 : (j : Int) < (L.length : Int) := by omega
          obtain ⟨x, hx⟩ : ∃ x, L[j]? = some x := ⟨_, List.getElem?_eq_getElem hjl⟩
          obtain ⟨a', cap', e, hc⟩ := sl_cells flE_len HL.out.1 hk.frame
          cases e
          obtain ⟨g, e2, _, hu⟩ := hc j x hx
          subst e2
          have u0 := hu 0 _ rfl
          have u1 := hu 1 _ rfl
          obtain ⟨x1, x2⟩ := HGN.out.edge ((HL.out.2 x).1 (List.mem_of_getElem? hx))
          have b1 : (x.1 == cl) = false := by simpa using x1
          have b2 : (x.2 == cl) = false := by simpa using x2
          have HK := Lib.hid hk
          simp only [Nat.add_zero] at u0
          clear hx hc hu hk x1 x2
          go_wp2_with fail
          exact ⟨⟨j + 1, by omega, by simp, HK.out⟩, by simp only [RowKit.intOf]; omega⟩
        · obtain rfl : j = L.length := by omega
          have HK := Lib.hid (KtIs.weaken (D := lh) hk)
          clear hk hj hjl
          go_wp2_with fail
          go_loopw [14, 15] (fun v14 _ wx => ∃ c : Int, 1 ≤ c ∧ c ≤ 9 ∧ v14 = .int .i64 c ∧ KtIs b K1 (.blk wb (.cells cur 44) :: allOf W) wx) (fun v14 _ _ => 20 - (RowKit.intOf v14).toNat)
          case atStart => exact ⟨1, by omega, by omega, rfl, HK.out⟩
          case round =>
            clear HK
            obtain ⟨c, hc1, hc9, rfl, hk⟩ := hrel
            have HK := Lib.hid hk
            clear hk
            by_cases hc8 : c ≤ 8
            · go_wp2_with fail
              go_loopw [15] (fun v15 wx => ∃ q : Int, 0 ≤ q ∧ q ≤ 8 ∧ v15 = .int .i64 q ∧ KtIs b K1 (.blk wb (.cells cur 44) :: allOf W) wx) (fun v15 _ => 20 - (RowKit.intOf v15).toNat)
              case atStart => exact ⟨0, by omega, by omega, rfl, HK.out⟩
              case round =>
                clear HK
                obtain ⟨q, hq0, hq8, rfl, hk⟩ := hrel
                by_cases hq7 : q < 8
                · obtain ⟨hv, hhv⟩ : ∃ hv, holdsM K1.tab c q = hv := ⟨_, rfl⟩
                  have hq : ∀ n, Calls Try.prog 15 #[.pointer (some ⟨b, 0, none⟩), .int .i64 c, .int .i64 q] (wr.drewN n) fun e w'' => e = .returned (.int .i64 hv) ∧ ∃ m, w'' = wr.drewN m := fun n => Calls.quiet_of_same ((holds_any (hk.grown (Grown.drewN wr n)) c q).mono fun _ _ h => ⟨by rw [← hhv]; exact h.1, h.2.symm⟩)
                  have HQ := Lib.hid hq
                  have FIN : Hid (∀ n, KtIs b K1 (.blk wb (.cells cur 44) :: allOf W) (wr.drewN n)) := Lib.hid (fun n => hk.grown (Grown.drewN wr n))
                  have x0 : wr.cell? ⟨wb, c.toNat * 8 + q.toNat, none⟩ = some (kI (holdsM K.tab c q)) := by
                    rw [cell_of hk.frame.h0]
                    exact HW.out.2 c q hc1 hc8 hq0 hq7 (by omega)
                  by_cases hcc : c = cl
                  · have h0 := HGN.out.none q
                    rw [← hcc, hhv] at h0
                    have b1 : (c == cl) = true := by simpa using hcc
                    have b2 : (c != cl) = false := by rw [bne, b1]; rfl
                    subst h0
                    clear hcc hhv hq hk x0
                    go_upto_region 40 with (fail)
                    go_quiet ((go_at_call 15; with_reducible exact HQ.out _))
                    go_wp2_with fail
                    exact ⟨⟨q + 1, by omega, by omega, by simp, FIN.out _⟩, by simp only [RowKit.intOf]; omega⟩
                  · have h0 := HGN.out.ge c q hcc
                    rw [hhv] at h0
                    have b1 : (c == cl) = false := by simpa using hcc
                    have b2 : (c != cl) = true := by simpa using hcc
                    generalize holdsM K.tab c q = wv at *
                    have b3 : (hv < wv) = False := eq_false (by omega)
                    clear hcc hhv hq hk h0
                    go_upto_region 40 with (fail)
                    go_quiet ((go_at_call 15; with_reducible exact HQ.out _))
                    go_wp2_with fail
                    exact ⟨⟨q + 1, by omega, by omega, by simp, FIN.out _⟩, by simp only [RowKit.intOf]; omega⟩
                · obtain rfl : q = 8 := by omega
                  have FIN := Lib.hid hk
                  clear hk hq7
                  go_wp2_with fail
                  exact ⟨⟨c + 1, by omega, by omega, by simp, FIN.out⟩, by simp only [RowKit.intOf]; omega⟩
            · obtain rfl : c = 9 := by omega
              have FIN : Hid (RowKit.Below W.heap.size W wr) := Lib.hid HK.out.frame.tail.below
              clear hc8 HK
              go_wp2_with fail
              refine (gone_nil 1 _).mono ?_
              rintro e w6 ⟨rfl, rfl⟩
              go_wp2_with fail
              refine (cancel_nil 1 _).mono ?_
              rintro e w6 ⟨rfl, rfl⟩
              go_wp2_with fail
              refine (ask_nil 1 1 true _).mono ?_
              rintro e w6 ⟨rfl, rfl⟩
              go_wp2_with fail
              refine (free_nil 1 1 true _).mono ?_
              rintro e w6 ⟨rfl, rfl⟩
              go_wp2_with fail
              refine (busy_nil 1 1 _).mono ?_
              rintro e w6 ⟨rfl, rfl⟩
              go_wp2_with fail
              refine (take_nil _).mono ?_
              rintro e w6 ⟨rfl, rfl⟩
              go_wp2_with fail
              refine (holds_nil 1 1 _).mono ?_
              rintro e w6 ⟨rfl, rfl⟩
              go_wp2_with fail
              refine (of_nil 1 _).mono ?_
              rintro e w6 ⟨rfl, rfl⟩
              go_wp2_with fail
              refine (waits_nil _).mono ?_
              rintro e w6 ⟨rfl, rfl⟩
              go_wp2_with fail
              go_ret
              exact ⟨rfl, FIN.out⟩
end Go.Proofs.Ythgfbnopbfiifaa
