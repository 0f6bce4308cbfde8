/- The document's Read walked. Conditions: none. -/
import Derived.Test.YtceegnfjdgjomaaPaR3M
namespace Go.Proofs.Ytceegnfjdgjomaa
open Go Go.MapKept Go.RowKit Go.Proofs Go.Sort Go.Shelf

theorem snoc_len {α : Type} {T : TypeId} {sz : Nat} {A : List α} {x : α} {a : Option Addr} {c n : Nat} {cs : List Value} {h : Heaplet} (hs : SliceIs T sz (.slice a (A ++ [x]).length c) n cs h) : SliceIs T sz (.slice a (A.length + 1) c) n cs h := by
  rw [show (A ++ [x]).length = A.length + 1 from by simp] at hs
  exact hs
/-- The losers up to here, gone over. -/
def InsI (t : Tx) (n : Int) (LL : List (Tx × Int)) (H : Heaplet) (v8 v9 v10 : Value) (wr : World) : Prop := ∃ (k : Nat) (A : List (Tx × Int)) (d : Bool) (nh : Heaplet), k ≤ LL.length ∧ v10 = .int .i64 k ∧ v9 = .bool d ∧ (LL.take k).foldl (insF lessM t n) ([], false) = (A, d) ∧ A.length ≤ 2 * k ∧ LSl v8 A nh ∧ Sat wr (nh ++ H)
set_option maxRecDepth 100000 in
set_option maxHeartbeats 4000000 in
theorem ReadR_no (v : Value) (l : List En) (first : Int) (F : Heaplet) (w : World) (hs : Sat w F) (hE : EnsIn F v l) (h1 : withinM first 1 1099511627776 = false) :
    Calls Try.prog 17 #[v, .int .i64 first] w fun e w' => ∃ v' h, e = .returned v' ∧ ViewIs v' (readM l first) h ∧ Sat w' (h ++ F) := by
  have e0 : readM l first = ⟨[], [], []⟩ := by unfold readM; rw [h1]; rfl
  rw [e0]
  have hcase : (first < 1) ∨ ((first < 1) = False ∧ (1099511627776 < first)) := by
    unfold withinM at h1
    rw [Bool.and_eq_false_iff, decide_eq_false_iff_not, decide_eq_false_iff_not] at h1
    by_cases h : first < 1
    · exact .inl h
    · refine .inr ⟨eq_false h, ?_⟩
      omega
  have hs1 := (hs.new vw0).new vw0
  rw [World.size_alloc] at hs1
  obtain ⟨W0, hW0⟩ : ∃ W0, (w.alloc vw0).alloc vw0 = W0 := ⟨_, rfl⟩
  rw [hW0] at hs1
  have hs2 := ((hs1.setCell (i := 0) (.slice none 0 0)).setCell (i := 1) (.slice none 0 0)).setCell (i := 2) (.slice none 0 0)
  have hs3 := ((hs2.swap.setCell (i := 0) (.slice none 0 0)).setCell (i := 1) (.slice none 0 0)).setCell (i := 2) (.slice none 0 0)
  have k0 : W0.frozen? ⟨w.heap.size + 1, 0, none⟩ = false := unfrozen_of hs1.h0 0
  have k1 : W0.frozen? ⟨w.heap.size + 1, 1, none⟩ = false := unfrozen_of hs1.h0 1
  have k2 : W0.frozen? ⟨w.heap.size + 1, 2, none⟩ = false := unfrozen_of hs1.h0 2
  have k3 : W0.cell? ⟨w.heap.size + 1, 0, none⟩ = some (.slice none 0 0) := by rw [cell_of hs1.h0]; rfl
  have k4 : W0.cell? ⟨w.heap.size + 1, 1, none⟩ = some (.slice none 0 0) := by rw [cell_of hs1.h0]; rfl
  have k5 : W0.cell? ⟨w.heap.size + 1, 2, none⟩ = some (.slice none 0 0) := by rw [cell_of hs1.h0]; rfl
  have d0 : W0.cell? ⟨w.heap.size, 0, none⟩ = some (.slice none 0 0) := by rw [cell_of hs1.h1]; rfl
  have d1 : W0.cell? ⟨w.heap.size, 1, none⟩ = some (.slice none 0 0) := by rw [cell_of hs1.h1]; rfl
  have d2 : W0.cell? ⟨w.heap.size, 2, none⟩ = some (.slice none 0 0) := by rw [cell_of hs1.h1]; rfl
  have f0 : W0.frozen? ⟨w.heap.size, 0, none⟩ = false := unfrozen_of hs1.h1 0
  have f1 : W0.frozen? ⟨w.heap.size, 1, none⟩ = false := unfrozen_of hs1.h1 1
  have f2 : W0.frozen? ⟨w.heap.size, 2, none⟩ = false := unfrozen_of hs1.h1 2
  have HS1 := Lib.hid hs1
  have HS2 := Lib.hid hs2
  have HS3 := Lib.hid hs3
  clear h1 e0 hs hs1 hs2 hs3 hE
  rcases hcase with h1 | ⟨h1, h2⟩
  all_goals
    go_enter Try.func17, Try.ntmps17
    go_wp2_with fail
    refine bodyPost_ret (v := .agg #[.slice none 0 0, .slice none 0 0, .slice none 0 0]) ?_ rfl ⟨_, [], rfl, ⟨_, _, _, [], [], [], rfl, SliceIs.nil _ _, SliceIs.nil _ _, SliceIs.nil _ _, rfl⟩, HS3.out.tail.tail⟩
    have hh := HS3.out.h0
    have q0 := cell_of hh 0
    have q1 := cell_of hh 1
    have q2 := cell_of hh 2
    simp at q0 q1 q2
    simp [results, Try.results17, go_sem, q0, q1, q2]
set_option maxRecDepth 100000 in
set_option maxHeartbeats 16000000 in
theorem ReadR_yes (v : Value) (l : List En) (first : Int) (F : Heaplet) (w : World) (hs : Sat w F) (hE : EnsIn F v l) (hl : l.length ≤ 1000) (h1 : withinM first 1 1099511627776 = true) :
    Calls Try.prog 17 #[v, .int .i64 first] w fun e w' => ∃ v' h, e = .returned v' ∧ ViewIs v' (readM l first) h ∧ Sat w' (h ++ F) := by
  have e0 : readM l first = ⟨losersM l, doneM l, pagesM l first⟩ := by unfold readM; rw [h1]; rfl
  rw [e0]
  have hb1 : 1 ≤ first ∧ first ≤ 1099511627776 := by simpa [withinM] using h1
  obtain ⟨fb1, fb2⟩ := hb1
  have g1 : (first < 1) = False := eq_false (by omega)
  have g2 : (1099511627776 < first) = False := eq_false (by omega)
  have HE := Lib.hid hE
  obtain ⟨a, cap, rfl, hc⟩ := hE
  have HC := Lib.hid hc
  have mixed : Try.prog.follows .mixedOrders = true := by kernel_rfl
  have hs1 := (hs.new vw0).new vw0
  rw [World.size_alloc] at hs1
  have hv0 : ViewIs (.agg #[.slice none 0 0, .slice none 0 0, .slice none 0 0]) ⟨[], [], []⟩ [] := ⟨_, _, _, [], [], [], rfl, SliceIs.nil _ _, SliceIs.nil _ _, SliceIs.nil _ _, rfl⟩
  have hr0 : RRIs (w.heap.size + 1) w.heap.size ⟨[], [], []⟩ F ((w.alloc vw0).alloc vw0) := ⟨_, _, _, [], hv0, hs1⟩
  have HR0 := Lib.hid hr0
  have k0 : ((w.alloc vw0).alloc vw0).frozen? ⟨w.heap.size + 1, 0, none⟩ = false := unfrozen_of hs1.h0 0
  have k1 : ((w.alloc vw0).alloc vw0).frozen? ⟨w.heap.size + 1, 1, none⟩ = false := unfrozen_of hs1.h0 1
  have k2 : ((w.alloc vw0).alloc vw0).frozen? ⟨w.heap.size + 1, 2, none⟩ = false := unfrozen_of hs1.h0 2
  have k3 : ((w.alloc vw0).alloc vw0).cell? ⟨w.heap.size + 1, 0, none⟩ = some (.slice none 0 0) := by rw [cell_of hs1.h0]; rfl
  have k4 : ((w.alloc vw0).alloc vw0).cell? ⟨w.heap.size + 1, 1, none⟩ = some (.slice none 0 0) := by rw [cell_of hs1.h0]; rfl
  have k5 : ((w.alloc vw0).alloc vw0).cell? ⟨w.heap.size + 1, 2, none⟩ = some (.slice none 0 0) := by rw [cell_of hs1.h0]; rfl
  clear hs h1 e0 hs1 hv0 hr0 hc
  go_enter Try.func17, Try.ntmps17
  go_wp2_with fail
  clear k0 k1 k2 k3 k4 k5
  generalize (w.alloc (.cells #[.slice none 0 0, .slice none 0 0, .slice none 0 0] 33)).alloc (.cells #[.slice none 0 0, .slice none 0 0, .slice none 0 0] 33) = W0 at *
  generalize w.heap.size + 1 = vb at *
  generalize w.heap.size = rb at *
  go_loopw [6] (fun v6 wr => ∃ (r : Nat) (LL : List (Tx × Int)) (PP : List (Int × Int)), r ≤ l.length ∧ v6 = .int .i64 r ∧ LL.length ≤ r ∧ PP.length ≤ r ∧ LosR l (l.take r) LL ∧ PagR first (l.take r) PP ∧ RRIs vb rb ⟨LL, doneM (l.take r), PP⟩ F wr) (fun v6 _ => 200000 - (RowKit.intOf v6).toNat)
  case atStart => exact ⟨0, [], [], by omega, rfl, by simp, by simp, losR_nil l, pagR_nil first, HR0.out⟩
  case round =>
    clear HR0
    obtain ⟨r, LL, PP, hr, rfl, hll, hpp, hlos, hpag, hg⟩ := hrel
    have r0 : (0 : Int) ≤ (r : Int) := by omega
    have r9 : (r : Int) ≤ 1000 := by omega
    by_cases hlr : r < l.length
    · have r1 : (r : Int) < (l.length : Int) := by omega
      obtain ⟨x, hx⟩ : ∃ x, l[r]? = some x := ⟨_, List.getElem?_eq_getElem hlr⟩
      obtain ⟨g, off, rfl, e0, e1, e2, e3, e4, e5, e6, e7, e8, e9, e10, e11, e12⟩ := HC.out wr hg.frame r x hx
      have htk : l.take (r + 1) = l.take r ++ [x] := by rw [List.take_add_one, hx]; rfl
      have hlen : ((l.take r).length : Int) = r := by rw [List.length_take]; omega
      have hdl : (doneM (l.take r)).length ≤ 1000 := by
        have := doneM_len (l.take r)
        rw [List.length_take] at this
        omega
      have hstep : goodM x = true → LosR l (l.take (r + 1)) (losN l x LL) ∧ doneM (l.take (r + 1)) = stepD (doneM (l.take r)) x ∧ PagR first (l.take (r + 1)) (pagN (first + r) x PP) := by
        intro hgo
        rw [htk]
        refine ⟨losN_step hlos hgo, by rw [doneM_snoc], ?_⟩
        have := pagN_step hpag hgo
        rw [hlen] at this
        exact this
      have hbad : goodM x = false → LosR l (l.take (r + 1)) LL ∧ doneM (l.take (r + 1)) = doneM (l.take r) ∧ PagR first (l.take (r + 1)) PP := by
        intro hgo
        rw [htk]
        exact bad_step hlos hpag hgo
      have HST := Lib.hid (And.intro hstep hbad)
      have HSTR := Lib.hid hlos.1
      have HSTP := Lib.hid hpag.1
      have HLL := Lib.hid hll
      have HPP := Lib.hid hpp
      have HDL := Lib.hid hdl
      have HN := Lib.hid (hg.new (eO x))
      clear hx htk hlen hdl hstep hbad hlos hpag hg hll hpp
      generalize doneM (l.take r) = R at *
      go_upto_region 8 with (fail)
      generalize wr.alloc (eO x) = W1 at *
      generalize wr.heap.size = xb at *
      clear e0 e1 e2 e3 e4 e5 e6 e7 e8 e9 e10 e11 e12
      obtain ⟨n0, n1, n2, n3, n4, n5, n6, n7, n8, n9, n10, n11, n12⟩ := enAt_of HN.out.frame.h0
      obtain ⟨bg, hbg⟩ : ∃ b, goodM x = b := ⟨_, rfl⟩
      have HGC := Lib.hid (fun w => goodR_call x hbg w)
      have HBG := Lib.hid hbg
      clear hbg
      go_wp2_with fail
      refine (HGC.out _).mono ?_
      rintro e w5 ⟨rfl, q, os, rfl⟩
      have HN5 := Lib.hid (HN.out.grown ⟨q, os, rfl⟩)
      clear n0 n1 n2 n3 n4 n5 n6 n7 n8 n9 n10 n11 n12 HN HGC
      generalize grow (W1.drewN q) os = W5 at *
      cases bg with
      | false =>
        have FIN := Lib.hid (And.intro (HST.out.2 HBG.out) HN5.out.drop)
        clear HST
        go_wp2_with fail
        refine ⟨⟨r + 1, LL, PP, by omega, by simp, by have := HLL.out; omega, by have := HPP.out; omega, FIN.out.1.1, FIN.out.1.2.2, ?_⟩, by simp only [RowKit.intOf]; omega⟩
        rw [FIN.out.1.2.1]; exact FIN.out.2
      | true =>
        have HST := Lib.hid (HST.out.1 HBG.out)
        obtain ⟨n0, n1, n2, n3, n4, n5, n6, n7, n8, n9, n10, n11, n12⟩ := enAt_of HN5.out.frame.h0
        obtain ⟨H, a0, c0, a1, c1, a2, c2, hsH, hop⟩ := rr_open HN5.out
        have hxH : ∀ W, Sat W H → Sat W (.blk xb (eO x) :: F) := fun W hW => (hop.2.1 W hW).frame
        have HEN := Lib.hid (endedR_any _ l x.t H W5 hsH (HE.out.mono fun W hW => (hxH W hW).tail) (by omega))
        have HOP := Lib.hid hop
        have HXH := Lib.hid (fun W hW => enAt_of (hxH W hW).h0)
        clear hop hxH HN5 hsH
        obtain ⟨be, hbe⟩ : ∃ b, endM l x.t = b := ⟨_, rfl⟩
        have hln : losN l x LL = if be = true then LL else insL lessM x.t x.lsn LL := by unfold losN; rw [hbe]
        have HLN := Lib.hid hln
        rw [hbe] at HEN
        clear hbe hln
        go_wp2_with fail
        refine HEN.out.mono ?_
        rintro e w6 ⟨rfl, hs6⟩
        have HS6 := Lib.hid hs6
        clear hs6 n0 n1 n2 n3 n4 n5 n6 n7 n8 n9 n10 n11 n12 HEN
        go_upto_if 41 with (fail)
        go_cut [6] (fun v6 wx => v6 = .int .i64 r ∧ RRIs vb rb ⟨losN l x LL, R, PP⟩ (.blk xb (eO x) :: F) wx)
        case first =>
          as_aux_lemma =>
            cases be with
            | true =>
              have FIN : Hid (RRIs vb rb ⟨losN l x LL, R, PP⟩ (.blk xb (eO x) :: F) w6) := Lib.hid (by rw [HLN.out, if_pos rfl]; exact HOP.out.2.1 _ HS6.out)
              go_wp2_with fail
              go_meet
              exact ⟨rfl, FIN.out⟩
            | false =>
              have HLN2 : Hid (losN l x LL = insL lessM x.t x.lsn LL) := Lib.hid (by rw [HLN.out, if_neg (by simp)])
              clear HLN
              have hsn := HS6.out.new (.cells #[] 36)
              have hn1 : LSl (.slice (some ⟨w6.heap.size, 0, none⟩) 0 0) [] [.blk w6.heap.size (.cells #[] 36)] := sl_new _ _ _
              have H0 := Lib.hid (And.intro hn1 (show Sat _ ([.blk w6.heap.size (.cells #[] 36)] ++ H) from hsn))
              clear hsn hn1 HS6
              go_wp2_with fail
              generalize w6.alloc (.cells #[] 36) = W6 at *
              generalize w6.heap.size = nb at *
              go_loopw [8, 9, 10] (fun v8 v9 v10 wr => InsI x.t x.lsn LL H v8 v9 v10 wr) (fun _ _ v10 _ => 200000 - (RowKit.intOf v10).toNat)
              case atStart => exact ⟨0, [], false, _, by omega, rfl, rfl, rfl, by simp, H0.out.1, H0.out.2⟩
              case round =>
                clear H0
                obtain ⟨k, A, d, nh, hk, rfl, rfl, hfo, hal, hv8, hg⟩ := hrel
                obtain ⟨p8, q8, rfl⟩ := sl_form hv8
                have kk0 : (0 : Int) ≤ (k : Int) := by omega
                have kk9 : (k : Int) ≤ 1000 := by have := HLL.out; omega
                have HV := Lib.hid hv8
                have HG := Lib.hid hg
                have HAL := Lib.hid hal
                obtain ⟨⟨z0, z1, z2⟩, hcl, _, _⟩ := HOP.out.1 wr hg.right
                clear z1 z2 hv8 hal
                by_cases hkl : k < LL.length
                · as_aux_lemma =>
                    have k1 : (k : Int) < (LL.length : Int) := by omega
                    obtain ⟨y, hy⟩ : ∃ y, LL[k]? = some y := ⟨_, List.getElem?_eq_getElem hkl⟩
                    have hst := foldl_take_succ (insF lessM x.t x.lsn) ([], false) LL k y hy
                    rw [hfo] at hst
                    have HFO := Lib.hid hst
                    have HYC : Hid (∀ W, Sat W H → W.cell? ⟨vb, 0, none⟩ = some (.slice a0 LL.length c0) ∧ ∃ g, a0 = some ⟨g, 0, none⟩ ∧ W.cell? ⟨g, k * 4, none⟩ = some (kI y.1.c) ∧ W.cell? ⟨g, k * 4 + 1, none⟩ = some (kI y.1.e) ∧ W.cell? ⟨g, k * 4 + 2, none⟩ = some (kI y.1.n) ∧ W.cell? ⟨g, k * 4 + 3, none⟩ = some (kI y.2)) := Lib.hid (fun W hW => by
                      obtain ⟨⟨z0, _, _⟩, hcl, _, _⟩ := HOP.out.1 W hW
                      exact ⟨z0, hcl k y hy⟩)
                    obtain ⟨gy, rfl, _, _, _, _⟩ := hcl k y hy
                    have HYD : Hid (∀ W, Sat W H → W.cell? ⟨vb, 0, none⟩ = some (.slice (some ⟨gy, 0, none⟩) LL.length c0) ∧ W.cell? ⟨gy, k * 4, none⟩ = some (kI y.1.c) ∧ W.cell? ⟨gy, k * 4 + 1, none⟩ = some (kI y.1.e) ∧ W.cell? ⟨gy, k * 4 + 2, none⟩ = some (kI y.1.n) ∧ W.cell? ⟨gy, k * 4 + 3, none⟩ = some (kI y.2)) := Lib.hid (fun W hW => by
                      obtain ⟨z0, g', e, u⟩ := HYC.out W hW
                      cases e
                      exact ⟨z0, u⟩)
                    clear hst hy hcl HYC hfo hg HOP
                    go_upto_region 15 with (fail)
                    clear z0
                    go_cut [62] (fun v62 wx => v62 = .bool (!d && lessM x.t y.1) ∧ Sat wx (nh ++ H))
                    case first =>
                      cases d with
                      | true =>
                        go_quiet (fail)
                        have HG9 := Lib.hid (HG.out.grown (Grown.drewN _ nq))
                        go_wp2_with fail
                        go_meet
                        exact ⟨rfl, HG9.out⟩
                      | false =>
                        obtain ⟨bl, hbl⟩ : ∃ b, lessM x.t y.1 = b := ⟨_, rfl⟩
                        have HLS := Lib.hid (fun w => lessR_call x.t y.1 hbl w)
                        have HBL := Lib.hid hbl
                        clear hbl
                        have HSG : Hid (∀ n os, Sat (grow (wr.drewN n) os) H) := Lib.hid (fun n os => (HG.out.grown ⟨n, os, rfl⟩).right)
                        have n1 := fun n os => (HXH.out _ (HSG.out n os)).2.1
                        have n2 := fun n os => (HXH.out _ (HSG.out n os)).2.2.1
                        have n3 := fun n os => (HXH.out _ (HSG.out n os)).2.2.2.1
                        have y0 := fun n os => (HYD.out _ (HSG.out n os)).1
                        have y1 := fun n os => (HYD.out _ (HSG.out n os)).2.1
                        have y2 := fun n os => (HYD.out _ (HSG.out n os)).2.2.1
                        have y3 := fun n os => (HYD.out _ (HSG.out n os)).2.2.2.1
                        go_quiet_grown (first | with_reducible exact Calls.grown_of (HLS.out _))
                        have HG9 := Lib.hid (HG.out.grown ⟨nq, osq, rfl⟩)
                        clear n1 n2 n3 y0 y1 y2 y3 HSG
                        go_wp2_with fail
                        go_meet
                        exact ⟨by rw [HBL.out]; first | rfl | simp, HG9.out⟩
                    case rest =>
                      clear HG
                      obtain ⟨rfl, hg⟩ := hcut
                      have HG := Lib.hid hg
                      obtain ⟨b1, hb1⟩ : ∃ b1, (!d && lessM x.t y.1) = b1 := ⟨_, rfl⟩
                      rw [hb1]
                      have hins : insF lessM x.t x.lsn (A, d) y = if y.1 = x.t then ((if b1 = true then (A ++ [(x.t, x.lsn)], true) else (A, d)).1 ++ [(x.t, x.lsn)], true) else ((if b1 = true then (A ++ [(x.t, x.lsn)], true) else (A, d)).1 ++ [y], (if b1 = true then (A ++ [(x.t, x.lsn)], true) else (A, d)).2) := by
                        rw [← hb1]; rfl
                      rw [hins] at HFO
                      clear hins hb1 hg
                      go_upto_if 62 with (fail)
                      go_cut [8, 9] (fun v8 v9 wx => ∃ (A1 : List (Tx × Int)) (d1 : Bool) (nh1 : Heaplet), v9 = .bool d1 ∧ (if b1 = true then (A ++ [(x.t, x.lsn)], true) else (A, d)) = (A1, d1) ∧ A1.length ≤ A.length + 1 ∧ LSl v8 A1 nh1 ∧ Sat wx (nh1 ++ H))
                      case first =>
                        cases b1 with
                        | false =>
                          go_wp2_with fail
                          go_meet
                          exact ⟨A, d, nh, rfl, rfl, by omega, HV.out, HG.out⟩
                        | true =>
                          obtain ⟨n0, n1, n2, n3, n4, _, _, _, _, _, _, _, _⟩ := HXH.out _ HG.out.right
                          obtain ⟨v7, w7, h7, hap, hv7, hs7⟩ := lo_push (A := []) (x.t, x.lsn) HV.out (HG.out.new (.cells #[kI x.t.c, kI x.t.e, kI x.t.n, kI x.lsn] 36)) (by have := HAL.out; have := HLL.out; omega)
                          obtain ⟨p9, q9, rfl⟩ := sl_form hv7
                          have HAP := Lib.hid hap
                          have FIN := Lib.hid (And.intro (snoc_len hv7) (show Sat w7 (h7 ++ H) from hs7))
                          clear hap hv7 hs7
                          go_wp2_with (at_builtin; refine wpList_append_run rfl _ _ _ _ rfl _ _ _ _ rfl rfl HAP.out ?_)
                          go_meet
                          exact ⟨_, true, h7, rfl, rfl, by simp, FIN.out.1, FIN.out.2⟩
                      case rest =>
                        clear HG HV
                        obtain ⟨A1, d1, nh1, rfl, hA1, hl1, hv1, hg⟩ := hcut
                        rw [hA1] at HFO
                        obtain ⟨p9, q9, rfl⟩ := sl_form hv1
                        have HV := Lib.hid hv1
                        have HG := Lib.hid hg
                        have HL1 : Hid (A1.length + 1 ≤ 2 * (k + 1)) := Lib.hid (by have := HAL.out; omega)
                        obtain ⟨y0, y1, y2, y3, y4⟩ := HYD.out _ hg.right
                        obtain ⟨n0, n1, n2, n3, n4, _, _, _, _, _, _, _, _⟩ := HXH.out _ hg.right
                        have heq := fun w => eq_tx y.1 x.t w
                        obtain ⟨bt, hbt⟩ : ∃ bt, decide (y.1 = x.t) = bt := ⟨_, rfl⟩
                        have HBT := Lib.hid hbt
                        rw [hbt] at heq
                        clear hbt hA1 hl1 hv1 hg
                        go_upto_region 18 with (fail)
                        go_quiet (fail)
                        have HG9 := Lib.hid (HG.out.grown (Grown.drewN _ nq))
                        clear HG heq y0 y1 y2 y3 y4 n0 n1 n2 n3 n4
                        generalize wc.drewN nq = W9 at *
                        cases bt with
                        | true =>
                          have e : (LL.take (k + 1)).foldl (insF lessM x.t x.lsn) ([], false) = (A1 ++ [(x.t, x.lsn)], true) := by rw [HFO.out, if_pos (by simpa using HBT.out)]
                          obtain ⟨n0, n1, n2, n3, n4, _, _, _, _, _, _, _, _⟩ := HXH.out _ HG9.out.right
                          obtain ⟨v7, w7, h7, hap, hv7, hs7⟩ := lo_push (A := []) (x.t, x.lsn) HV.out (HG9.out.new (.cells #[kI x.t.c, kI x.t.e, kI x.t.n, kI x.lsn] 36)) (by have := HL1.out; have := HLL.out; omega)
                          obtain ⟨p10, q10, rfl⟩ := sl_form hv7
                          have HAP := Lib.hid hap
                          have FIN : Hid (InsI x.t x.lsn LL H (.slice p10 (A1.length + 1) q10) (.bool true) (.int .i64 ((k : Int) + 1)) w7) := Lib.hid ⟨k + 1, A1 ++ [(x.t, x.lsn)], true, h7, by omega, by simp, rfl, e, by rw [List.length_append]; exact HL1.out, snoc_len hv7, hs7⟩
                          clear hap hv7 hs7 e
                          go_wp2_with (at_builtin; refine wpList_append_run rfl _ _ _ _ rfl _ _ _ _ rfl rfl HAP.out ?_)
                          first
                            | exact ⟨⟨_, _, _, FIN.out, rfl, rfl, rfl⟩, by simp only [RowKit.intOf]; omega⟩
                            | exact ⟨FIN.out, by simp only [RowKit.intOf]; omega⟩
                        | false =>
                          have e : (LL.take (k + 1)).foldl (insF lessM x.t x.lsn) ([], false) = (A1 ++ [y], d1) := by rw [HFO.out, if_neg (by simpa using HBT.out)]
                          obtain ⟨y0, y1, y2, y3, y4⟩ := HYD.out _ HG9.out.right
                          obtain ⟨v7, w7, h7, hap, hv7, hs7⟩ := lo_push (A := []) y HV.out (HG9.out.new (.cells #[kI y.1.c, kI y.1.e, kI y.1.n, kI y.2] 36)) (by have := HL1.out; have := HLL.out; omega)
                          obtain ⟨p10, q10, rfl⟩ := sl_form hv7
                          have HAP := Lib.hid hap
                          have FIN : Hid (InsI x.t x.lsn LL H (.slice p10 (A1.length + 1) q10) (.bool d1) (.int .i64 ((k : Int) + 1)) w7) := Lib.hid ⟨k + 1, A1 ++ [y], d1, h7, by omega, by simp, rfl, e, by rw [List.length_append]; exact HL1.out, snoc_len hv7, hs7⟩
                          clear hap hv7 hs7 e
                          go_wp2_with (at_builtin; refine wpList_append_run rfl _ _ _ _ rfl _ _ _ _ rfl rfl HAP.out ?_)
                          first
                            | exact ⟨⟨_, _, _, FIN.out, rfl, rfl, rfl⟩, by simp only [RowKit.intOf]; omega⟩
                            | exact ⟨FIN.out, by simp only [RowKit.intOf]; omega⟩
                · as_aux_lemma =>
                    obtain rfl : k = LL.length := by omega
                    have hrun := insF_run lessM_ir lessM_tr x.t x.lsn LL [] HSTR.out
                    rw [List.take_length] at hfo
                    rw [hfo, List.nil_append, ← HLN2.out] at hrun
                    have HRUN := Lib.hid hrun
                    clear hrun hfo hcl hkl kk0 kk9 hk
                    cases d with
                    | true =>
                      have e : A = losN l x LL := HRUN.out
                      obtain ⟨k1, hend⟩ := HOP.out.2.2.1 wr nh _ A HV.out HG.out
                      have FIN : Hid (RRIs vb rb ⟨losN l x LL, R, PP⟩ (.blk xb (eO x) :: F) _) := Lib.hid (by rw [← e]; exact hend)
                      clear hend e hg
                      go_wp2_with fail
                      go_meet
                      exact ⟨rfl, FIN.out⟩
                    | false =>
                      have e : A ++ [(x.t, x.lsn)] = losN l x LL := HRUN.out
                      obtain ⟨n0, n1, n2, n3, n4, _, _, _, _, _, _, _, _⟩ := HXH.out _ HG.out.right
                      obtain ⟨v7, w7, h7, hap, hv7, hs7⟩ := lo_push (A := []) (x.t, x.lsn) HV.out (HG.out.new (.cells #[kI x.t.c, kI x.t.e, kI x.t.n, kI x.lsn] 36)) (by have := HAL.out; have := HLL.out; omega)
                      obtain ⟨p10, q10, rfl⟩ := sl_form hv7
                      have hs8 : Sat w7 (h7 ++ H) := hs7
                      obtain ⟨k1, hend⟩ := HOP.out.2.2.1 w7 h7 _ _ hv7 hs8
                      obtain ⟨⟨k2, _, _⟩, _, _, _⟩ := HOP.out.1 w7 hs8.right
                      have hal := HAL.out
                      have HAP := Lib.hid hap
                      have FIN : Hid (RRIs vb rb ⟨losN l x LL, R, PP⟩ (.blk xb (eO x) :: F) (w7.setCell ⟨vb, 0, none⟩ (.slice p10 (A.length + 1) q10))) := Lib.hid (by rw [← e]; simpa using hend)
                      clear hap hv7 hs7 hs8 hend e hg z0
                      obtain ⟨⟨z0, _, _⟩, _, _, _⟩ := HOP.out.1 wr HG.out.right
                      go_wp2_with (at_builtin; refine wpList_append_run rfl _ _ _ _ rfl _ _ _ _ rfl rfl HAP.out ?_)
                      go_meet
                      exact ⟨rfl, FIN.out⟩
        case rest =>
          clear HS6 HOP HXH HLN
          obtain ⟨rfl, hr7⟩ := hcut
          obtain ⟨L1, hL1⟩ : ∃ L1, losN l x LL = L1 := ⟨_, rfl⟩
          have hl1 := losN_len l x LL
          rw [hL1] at hr7 HST hl1
          have HL1 : Hid (L1.length ≤ r + 1) := Lib.hid (by have := HLL.out; omega)
          have HR7 := Lib.hid hr7
          clear hr7 hl1 hL1 HLL HSTR
          obtain ⟨kb, hkb⟩ : ∃ kb, (x.kind == 3) = kb := ⟨_, rfl⟩
          have hsd : stepD R x = if (kb && !hasM R x.t) = true then R ++ [x.t] else R := by unfold stepD; rw [HBG.out, hkb, Bool.true_and]
          have HSD := Lib.hid hsd
          clear hsd
          obtain ⟨n0, n1, n2, n3, n4, n5, n6, n7, n8, n9, n10, n11, n12⟩ := enAt_of HR7.out.frame.h0
          go_upto_if 110 with (fail)
          clear n0 n1 n2 n3 n4 n5 n6 n7 n8 n9 n10 n11 n12
          go_cut [6] (fun v6 wx => v6 = .int .i64 r ∧ RRIs vb rb ⟨L1, stepD R x, PP⟩ (.blk xb (eO x) :: F) wx)
          case first =>
            as_aux_lemma =>
              cases kb with
              | false =>
                have FIN : Hid (RRIs vb rb ⟨L1, stepD R x, PP⟩ (.blk xb (eO x) :: F) wc) := Lib.hid (by rw [HSD.out, if_neg (by simp)]; exact HR7.out)
                go_wp2_with fail
                go_meet
                exact ⟨rfl, FIN.out⟩
              | true =>
                obtain ⟨H, a0, c0, a1, c1, a2, c2, hsH, hop⟩ := rr_open HR7.out
                have HXH : Hid (∀ W, Sat W H → EnAt W xb x) := Lib.hid (fun W hW => enAt_of (hop.2.1 W hW).frame.h0)
                have HOP := Lib.hid hop
                have HS7 := Lib.hid hsH
                clear hop hsH HR7 hkb
                go_wp2_with fail
                go_loopw [11, 12] (fun v11 v12 wr => ∃ k : Nat, k ≤ R.length ∧ v12 = .int .i64 k ∧ v11 = .bool (hasM (R.take k) x.t) ∧ Sat wr H) (fun _ v12 _ => 200000 - (RowKit.intOf v12).toNat)
                case atStart => exact ⟨0, by omega, rfl, rfl, HS7.out⟩
                case round =>
                  clear HS7
                  obtain ⟨k, hk, rfl, rfl, hg⟩ := hrel
                  have kk0 : (0 : Int) ≤ (k : Int) := by omega
                  have kk9 : (k : Int) ≤ 1000 := by have := HDL.out; omega
                  have HG := Lib.hid hg
                  obtain ⟨⟨_, z1, _⟩, _, hcd, _⟩ := HOP.out.1 wr hg
                  by_cases hkl : k < R.length
                  · have k1 : (k : Int) < (R.length : Int) := by omega
                    obtain ⟨y, hy⟩ : ∃ y, R[k]? = some y := ⟨_, List.getElem?_eq_getElem hkl⟩
                    obtain ⟨gy, rfl, y0, y1, y2⟩ := hcd k y hy
                    have hst := has_step R x.t k y hy
                    obtain ⟨n0, n1, n2, n3, n4, _, _, _, _, _, _, _, _⟩ := HXH.out _ hg
                    have heq := fun w => eq_tx y x.t w
                    obtain ⟨bt, hbt⟩ : ∃ bt, decide (y = x.t) = bt := ⟨_, rfl⟩
                    obtain ⟨b, hb⟩ : ∃ b, hasM (R.take k) x.t = b := ⟨_, rfl⟩
                    rw [hbt] at heq hst
                    rw [hb] at hst ⊢
                    have HST9 := Lib.hid hst
                    clear hst hbt hb hy hcd hg
                    go_upto_region 30 with (fail)
                    cases b with
                    | true =>
                      go_quiet (fail)
                      have HG9 := Lib.hid (HG.out.grown (Grown.drewN _ nq))
                      clear heq y0 y1 y2 n0 n1 n2 n3 n4 z1
                      go_wp2_with fail
                      exact ⟨⟨k + 1, by omega, by simp, by rw [HST9.out]; simp, HG9.out⟩, by simp only [RowKit.intOf]; omega⟩
                    | false =>
                      go_quiet (fail)
                      have HG9 := Lib.hid (HG.out.grown (Grown.drewN _ nq))
                      clear heq y0 y1 y2 n0 n1 n2 n3 n4 z1
                      go_wp2_with fail
                      exact ⟨⟨k + 1, by omega, by simp, by rw [HST9.out]; simp, HG9.out⟩, by simp only [RowKit.intOf]; omega⟩
                  · obtain rfl : k = R.length := by omega
                    rw [List.take_length]
                    obtain ⟨b, hb⟩ : ∃ b, hasM R x.t = b := ⟨_, rfl⟩
                    rw [hb] at HSD ⊢
                    clear hb hcd hkl kk0 kk9 hk
                    cases b with
                    | true =>
                      have FIN : Hid (RRIs vb rb ⟨L1, stepD R x, PP⟩ (.blk xb (eO x) :: F) wr) := Lib.hid (by rw [HSD.out, if_neg (by simp)]; exact HOP.out.2.1 _ HG.out)
                      clear hg
                      go_wp2_with fail
                      go_meet
                      exact ⟨rfl, FIN.out⟩
                    | false =>
                      obtain ⟨n0, n1, n2, n3, n4, _, _, _, _, _, _, _, _⟩ := HXH.out _ hg
                      obtain ⟨a3, c3, a4, n4', c4, w8, hz, hap, k1, k2, hend⟩ := (HOP.out.2.1 _ HG.out).push x.t (by have := HDL.out; show R.length + 1 ≤ 200000; omega)
                      simp only at hz hap k1
                      have HAP := Lib.hid hap
                      have FIN : Hid (RRIs vb rb ⟨L1, stepD R x, PP⟩ (.blk xb (eO x) :: F) _) := Lib.hid (by rw [HSD.out, if_pos (by simp)]; exact hend)
                      clear hap hend hg z1
                      go_wp2_with (at_builtin; refine wpList_append_run rfl _ _ _ _ rfl _ _ _ _ rfl rfl HAP.out ?_)
                      go_meet
                      exact ⟨rfl, FIN.out⟩
          case rest =>
            clear HR7 hkb HSD
            obtain ⟨rfl, hr8⟩ := hcut
            have HR8 := Lib.hid hr8
            have HBGK := HBG
            clear hr8
            obtain ⟨n0, n1, n2, n3, n4, n5, n6, n7, n8, n9, n10, n11, n12⟩ := enAt_of HR8.out.frame.h0
            generalize stepD R x = R1 at *
            by_cases hk3 : x.kind < 3
            · as_aux_lemma =>
                have hpn : pagN (first + r) x PP = keepL ltI x.page (first + r) PP := by unfold pagN; rw [if_pos hk3]
                rw [hpn] at HST
                have hkl := keepL_len x.page (first + r) PP
                have HKL := Lib.hid hkl
                obtain ⟨H, a0, c0, a1, c1, a2, c2, hsH, hop⟩ := rr_open HR8.out
                have HXH : Hid (∀ W, Sat W H → W.cell? ⟨xb, 6, none⟩ = some (kI x.page)) := Lib.hid (fun W hW => (enAt_of (hop.2.1 W hW).frame.h0).2.2.2.2.2.2.1)
                have HOP := Lib.hid hop
                have HS7 := Lib.hid hsH
                have hsn := HS7.out.new (.cells #[] 38)
                have hn1 : FSl (.slice (some ⟨wc.heap.size, 0, none⟩) 0 0) [] [.blk wc.heap.size (.cells #[] 38)] := sl_new _ _ _
                have H0 := Lib.hid (And.intro hn1 (show Sat _ ([.blk wc.heap.size (.cells #[] 38)] ++ H) from hsn))
                clear hop hsH HR8 hpn hkl hsn hn1 HS7
                go_wp2_with fail
                clear n0 n1 n2 n3 n4 n5 n6 n7 n8 n9 n10 n11 n12
                generalize wc.alloc (.cells #[] 38) = W6 at *
                generalize wc.heap.size = nb at *
                go_loopw [13, 14, 15] (fun v13 v14 v15 wr => ∃ (k : Nat) (A : List (Int × Int)) (d : Bool) (nh : Heaplet), k ≤ PP.length ∧ v15 = .int .i64 k ∧ v14 = .bool d ∧ (PP.take k).foldl (keepF ltI x.page (first + r)) ([], false) = (A, d) ∧ A.length ≤ 2 * k ∧ FSl v13 A nh ∧ Sat wr (nh ++ H)) (fun _ _ v15 _ => 200000 - (RowKit.intOf v15).toNat)
                case atStart => exact ⟨0, [], false, _, by omega, rfl, rfl, rfl, by simp, H0.out.1, H0.out.2⟩
                case round =>
                  clear H0
                  obtain ⟨k, A, d, nh, hk, rfl, rfl, hfo, hal, hv8, hg⟩ := hrel
                  obtain ⟨p8, q8, rfl⟩ := sl_form hv8
                  have kk0 : (0 : Int) ≤ (k : Int) := by omega
                  have kk9 : (k : Int) ≤ 1000 := by have := HPP.out; omega
                  have HV := Lib.hid hv8
                  have HG := Lib.hid hg
                  have HAL := Lib.hid hal
                  obtain ⟨⟨_, _, z2⟩, _, _, hcl⟩ := HOP.out.1 wr hg.right
                  clear hv8 hal
                  by_cases hkl : k < PP.length
                  · as_aux_lemma =>
                      have k1 : (k : Int) < (PP.length : Int) := by omega
                      obtain ⟨y, hy⟩ : ∃ y, PP[k]? = some y := ⟨_, List.getElem?_eq_getElem hkl⟩
                      have hst := foldl_take_succ (keepF ltI x.page (first + r)) ([], false) PP k y hy
                      rw [hfo] at hst
                      have HFO := Lib.hid hst
                      have HYC : Hid (∀ W, Sat W H → W.cell? ⟨vb, 2, none⟩ = some (.slice a2 PP.length c2) ∧ ∃ g, a2 = some ⟨g, 0, none⟩ ∧ W.cell? ⟨g, k * 2, none⟩ = some (kI y.1) ∧ W.cell? ⟨g, k * 2 + 1, none⟩ = some (kI y.2)) := Lib.hid (fun W hW => by
                        obtain ⟨⟨_, _, z2⟩, _, _, hcl⟩ := HOP.out.1 W hW
                        exact ⟨z2, hcl k y hy⟩)
                      obtain ⟨gy, rfl, _, _⟩ := hcl k y hy
                      have HYD : Hid (∀ W, Sat W H → W.cell? ⟨vb, 2, none⟩ = some (.slice (some ⟨gy, 0, none⟩) PP.length c2) ∧ W.cell? ⟨gy, k * 2, none⟩ = some (kI y.1) ∧ W.cell? ⟨gy, k * 2 + 1, none⟩ = some (kI y.2)) := Lib.hid (fun W hW => by
                        obtain ⟨z0, g', e, u⟩ := HYC.out W hW
                        cases e
                        exact ⟨z0, u⟩)
                      clear hst hy hcl HYC hfo hg HOP
                      go_upto_region 39 with (fail)
                      clear z2
                      go_cut [161] (fun v161 wx => v161 = .bool (!d && ltI x.page y.1) ∧ Sat wx (nh ++ H))
                      case first =>
                        have n6 := HXH.out _ HG.out.right
                        obtain ⟨y0, y1, y2⟩ := HYD.out _ HG.out.right
                        cases d with
                        | true =>
                          go_quiet (fail)
                          have HG9 := Lib.hid (HG.out.grown (Grown.drewN _ nq))
                          clear n6 y0 y1 y2
                          go_wp2_with fail
                          go_meet
                          exact ⟨rfl, HG9.out⟩
                        | false =>
                          have e : ltI x.page y.1 = decide (x.page < y.1) := rfl
                          have HE1 := Lib.hid e
                          clear e
                          go_quiet (fail)
                          have HG9 := Lib.hid (HG.out.grown (Grown.drewN _ nq))
                          clear n6 y0 y1 y2
                          go_wp2_with fail
                          go_meet
                          exact ⟨by rw [HE1.out]; simp, HG9.out⟩
                      case rest =>
                        clear HG
                        obtain ⟨rfl, hg⟩ := hcut
                        have HG := Lib.hid hg
                        obtain ⟨b1, hb1⟩ : ∃ b1, (!d && ltI x.page y.1) = b1 := ⟨_, rfl⟩
                        rw [hb1]
                        have hins : keepF ltI x.page (first + r) (A, d) y = ((if b1 = true then (A ++ [(x.page, first + r)], true) else (A, d)).1 ++ [y], (if b1 = true then (A ++ [(x.page, first + r)], true) else (A, d)).2 || decide (y.1 = x.page)) := by
                          rw [← hb1]; rfl
                        rw [hins] at HFO
                        clear hins hb1 hg
                        go_upto_if 161 with (fail)
                        go_cut [13, 14] (fun v13 v14 wx => ∃ (A1 : List (Int × Int)) (d1 : Bool) (nh1 : Heaplet), v14 = .bool d1 ∧ (if b1 = true then (A ++ [(x.page, first + (r : Int))], true) else (A, d)) = (A1, d1) ∧ A1.length ≤ A.length + 1 ∧ FSl v13 A1 nh1 ∧ Sat wx (nh1 ++ H))
                        case first =>
                          cases b1 with
                          | false =>
                            go_wp2_with fail
                            go_meet
                            exact ⟨A, d, nh, rfl, rfl, by omega, HV.out, HG.out⟩
                          | true =>
                            have n6 := HXH.out _ HG.out.right
                            obtain ⟨v7, w7, h7, hap, hv7, hs7⟩ := fi_push (A := []) (x.page, first + r) HV.out (HG.out.new (.cells #[kI x.page, kI (first + r)] 38)) (by have := HAL.out; have := HPP.out; omega)
                            obtain ⟨p9, q9, rfl⟩ := sl_form hv7
                            have HAP := Lib.hid hap
                            have FIN := Lib.hid (And.intro (snoc_len hv7) (show Sat w7 (h7 ++ H) from hs7))
                            clear hap hv7 hs7
                            go_wp2_with (at_builtin; refine wpList_append_run rfl _ _ _ _ rfl _ _ _ _ rfl rfl HAP.out ?_)
                            go_meet
                            exact ⟨_, true, h7, rfl, rfl, by simp, FIN.out.1, FIN.out.2⟩
                        case rest =>
                          clear HG HV
                          obtain ⟨A1, d1, nh1, rfl, hA1, hl1, hv1, hg⟩ := hcut
                          rw [hA1] at HFO
                          obtain ⟨p9, q9, rfl⟩ := sl_form hv1
                          have HV := Lib.hid hv1
                          have HG := Lib.hid hg
                          have HL9 : Hid (A1.length + 1 ≤ 2 * (k + 1)) := Lib.hid (by have := HAL.out; omega)
                          clear hA1 hl1 hv1 hg
                          go_upto_region 42 with (fail)
                          go_cut [14] (fun v14 wx => v14 = .bool (d1 || decide (y.1 = x.page)) ∧ Sat wx (nh1 ++ H))
                          case first =>
                            have n6 := HXH.out _ HG.out.right
                            obtain ⟨y0, y1, y2⟩ := HYD.out _ HG.out.right
                            cases d1 with
                            | true =>
                              go_quiet (fail)
                              have HG9 := Lib.hid (HG.out.grown (Grown.drewN _ nq))
                              clear n6 y0 y1 y2
                              go_wp2_with fail
                              go_meet
                              exact ⟨rfl, HG9.out⟩
                            | false =>
                              obtain ⟨be, hbe⟩ : ∃ be, (y.1 == x.page) = be := ⟨_, rfl⟩
                              have HE1 : Hid (decide (y.1 = x.page) = be) := Lib.hid (by rw [← hbe]; rfl)
                              go_quiet (fail)
                              have HG9 := Lib.hid (HG.out.grown (Grown.drewN _ nq))
                              clear n6 y0 y1 y2
                              go_wp2_with fail
                              go_meet
                              exact ⟨by rw [HE1.out]; first | rfl | simp, HG9.out⟩
                          case rest =>
                            clear HG
                            obtain ⟨rfl, hg⟩ := hcut
                            obtain ⟨d2, hd2⟩ : ∃ d2, (d1 || decide (y.1 = x.page)) = d2 := ⟨_, rfl⟩
                            simp only [hd2] at HFO
                            rw [hd2]
                            obtain ⟨y0, y1, y2⟩ := HYD.out _ hg.right
                            obtain ⟨v7, w7, h7, hap, hv7, hs7⟩ := fi_push (A := []) y HV.out (hg.new (.cells #[kI y.1, kI y.2] 38)) (by have := HL9.out; have := HPP.out; omega)
                            obtain ⟨p10, q10, rfl⟩ := sl_form hv7
                            have HAP := Lib.hid hap
                            have FIN := Lib.hid (And.intro (snoc_len hv7) (show Sat w7 (h7 ++ H) from hs7))
                            clear hap hv7 hs7 hd2 hg
                            go_wp2_with (at_builtin; refine wpList_append_run rfl _ _ _ _ rfl _ _ _ _ rfl rfl HAP.out ?_)
                            exact ⟨⟨k + 1, _, d2, h7, by omega, by simp, rfl, HFO.out, by simp; exact HL9.out, FIN.out.1, FIN.out.2⟩, by simp only [RowKit.intOf]; omega⟩
                  · as_aux_lemma =>
                      obtain rfl : k = PP.length := by omega
                      have hrun := keepF_run ltI_ir x.page (first + r) PP [] HSTP.out
                      rw [List.take_length] at hfo
                      rw [hfo, List.nil_append] at hrun
                      have HRUN := Lib.hid hrun
                      clear hrun hfo hcl hkl kk0 kk9 hk
                      cases d with
                      | true =>
                        have e : A = keepL ltI x.page (first + r) PP := HRUN.out
                        obtain ⟨k1, hend⟩ := HOP.out.2.2.2 wr nh _ A HV.out HG.out
                        have FIN : Hid (RRIs vb rb ⟨L1, R1, keepL ltI x.page (first + r) PP⟩ F _) := Lib.hid (by rw [← e]; exact hend.drop)
                        clear hend e hg
                        go_wp2_with fail
                        exact ⟨⟨r + 1, L1, _, by omega, by simp, HL1.out, by have := HPP.out; have := HKL.out; omega, HST.out.1, HST.out.2.2, by rw [HST.out.2.1]; exact FIN.out⟩, by simp only [RowKit.intOf]; omega⟩
                      | false =>
                        have e : A ++ [(x.page, first + (r : Int))] = keepL ltI x.page (first + r) PP := HRUN.out
                        have n6 := HXH.out _ HG.out.right
                        obtain ⟨v7, w7, h7, hap, hv7, hs7⟩ := fi_push (A := []) (x.page, first + r) HV.out (HG.out.new (.cells #[kI x.page, kI (first + r)] 38)) (by have := HAL.out; have := HPP.out; omega)
                        obtain ⟨p10, q10, rfl⟩ := sl_form hv7
                        have hs8 : Sat w7 (h7 ++ H) := hs7
                        obtain ⟨k1, hend⟩ := HOP.out.2.2.2 w7 h7 _ _ hv7 hs8
                        obtain ⟨⟨_, _, k2⟩, _, _, _⟩ := HOP.out.1 w7 hs8.right
                        have HAP := Lib.hid hap
                        have FIN : Hid (RRIs vb rb ⟨L1, R1, keepL ltI x.page (first + r) PP⟩ F (w7.setCell ⟨vb, 2, none⟩ (.slice p10 (A.length + 1) q10))) := Lib.hid (by rw [← e]; simpa using hend.drop)
                        clear hap hv7 hs7 hs8 hend e hg
                        go_wp2_with (at_builtin; refine wpList_append_run rfl _ _ _ _ rfl _ _ _ _ rfl rfl HAP.out ?_)
                        exact ⟨⟨r + 1, L1, _, by omega, by simp, HL1.out, by have := HPP.out; have := HKL.out; omega, HST.out.1, HST.out.2.2, by rw [HST.out.2.1]; exact FIN.out⟩, by simp only [RowKit.intOf]; omega⟩
            · have hk3f : (x.kind < 3) = False := eq_false hk3
              have e : pagN (first + r) x PP = PP := by unfold pagN; rw [if_neg hk3]
              rw [e] at HST
              have FIN := Lib.hid HR8.out.drop
              clear HR8 e hk3
              go_wp2_with fail
              exact ⟨⟨r + 1, L1, PP, by omega, by simp, HL1.out, by have := HPP.out; omega, HST.out.1, HST.out.2.2, by rw [HST.out.2.1]; exact FIN.out⟩, by simp only [RowKit.intOf]; omega⟩
    · obtain rfl : r = l.length := by omega
      rw [List.take_length] at hg hlos hpag
      have hL := losR_all hlos
      have hP := pagR_all hpag
      subst hL
      subst hP
      obtain ⟨lv, dv, pv, h, hv, s⟩ := hg
      have hend : Sat wr (.blk rb vw0 :: (h ++ F)) := (s.tail.perm List.perm_middle)
      have c0 : wr.cell? ⟨vb, 0, none⟩ = some lv := by rw [cell_of s.h0]; rfl
      have c1 : wr.cell? ⟨vb, 1, none⟩ = some dv := by rw [cell_of s.h0]; rfl
      have c2 : wr.cell? ⟨vb, 2, none⟩ = some pv := by rw [cell_of s.h0]; rfl
      have d0 : wr.cell? ⟨rb, 0, none⟩ = some (.slice none 0 0) := by rw [cell_of hend.h0]; rfl
      have d1 : wr.cell? ⟨rb, 1, none⟩ = some (.slice none 0 0) := by rw [cell_of hend.h0]; rfl
      have d2 : wr.cell? ⟨rb, 2, none⟩ = some (.slice none 0 0) := by rw [cell_of hend.h0]; rfl
      have f0 : wr.frozen? ⟨rb, 0, none⟩ = false := unfrozen_of hend.h0 0
      have f1 : wr.frozen? ⟨rb, 1, none⟩ = false := unfrozen_of hend.h0 1
      have f2 : wr.frozen? ⟨rb, 2, none⟩ = false := unfrozen_of hend.h0 2
      have hfinS := (((hend.setCell (i := 0) lv).setCell (i := 1) dv).setCell (i := 2) pv)
      have HFS := Lib.hid hfinS
      have HV := Lib.hid hv
      obtain ⟨lv', dv', pv', lh, dh, ph, e, hlv, hdv, hpv, rfl⟩ := hv
      obtain ⟨la', lc', e1⟩ := sl_form hlv
      obtain ⟨da', dc', e2⟩ := sl_form hdv
      obtain ⟨pa', pc', e3⟩ := sl_form hpv
      subst e1 e2 e3
      cases e
      clear hlv hdv hpv hend hfinS s hlos hpag hlr
      go_wp2_with fail
      refine bodyPost_ret (v := .agg #[.slice la' (losersM l).length lc', .slice da' (doneM l).length dc', .slice pa' (pagesM l first).length pc']) ?_ rfl ⟨_, rfl, _, HV.out, HFS.out.tail⟩
      have hh := HFS.out.h0
      generalize ((wr.setCell ⟨rb, 0, none⟩ _).setCell ⟨rb, 1, none⟩ _).setCell ⟨rb, 2, none⟩ _ = W9 at *
      have q0 := cell_of hh 0
      have q1 := cell_of hh 1
      have q2 := cell_of hh 2
      simp at q0 q1 q2
      simp [results, Try.results17, go_sem, q0, q1, q2]
theorem ReadR_any (v : Value) (l : List En) (first : Int) (F : Heaplet) (w : World) (hs : Sat w F) (hE : EnsIn F v l) (hl : l.length ≤ 1000) :
    Calls Try.prog 17 #[v, .int .i64 first] w fun e w' => ∃ v' h, e = .returned v' ∧ ViewIs v' (readM l first) h ∧ Sat w' (h ++ F) := by
  cases h1 : withinM first 1 1099511627776 with
  | false => exact ReadR_no v l first F w hs hE h1
  | true => exact ReadR_yes v l first F w hs hE hl h1
end Go.Proofs.Ytceegnfjdgjomaa
