/- The document's Of, ended, Needed walked. Conditions: none. -/
import Derived.Test.YtceegnfjdgjomaaPaR1
import Derived.Test.YtceegnfjdgjomaaPaRM
namespace Go.Proofs.Ytceegnfjdgjomaa
open Go Go.MapKept Go.RowKit Go.Proofs Go.Sort Go.Shelf

theorem goodR_call (x : En) {b : Bool} (hb : goodM x = b) (w : World) : Calls Try.prog 33 #[eV x] w fun e w' => e = .returned (.bool b) ∧ ∃ q os, w' = grow (w.drewN q) os := by
  subst hb
  exact goodR_any x w
theorem lessR_call (a b : Tx) {r : Bool} (hr : lessM a b = r) (w : World) : Calls Try.prog 35 #[tV a, tV b] w fun e w' => e = .returned (.bool r) ∧ ∃ q os, w' = grow (w.drewN q) os := by
  subst hr
  exact lessR_any a b w
set_option maxRecDepth 100000 in
set_option maxHeartbeats 4000000 in
theorem OfR_any (v : Value) (l : List En) (t : Tx) (F : Heaplet) (w : World) (hs : Sat w F) (hE : EnsIn F v l) (hl : l.length ≤ 100000) :
    Calls Try.prog 15 #[v, tV t] w fun e w' => ∃ v' h, e = .returned v' ∧ EnSl v' (ofM l t) h ∧ Sat w' (h ++ F) := by
  obtain ⟨a, cap, rfl, hc⟩ := hE
  have HC := Lib.hid hc
  have mixed : Try.prog.follows .mixedOrders = true := by kernel_rfl
  have hs1 := (hs.new (.cells #[kI t.c, kI t.e, kI t.n] 23)).new (.cells #[] 43)
  rw [World.size_alloc] at hs1
  have hn1 : EnSl (.slice (some ⟨w.heap.size + 1, 0, none⟩) 0 0) (ofM [] t) [.blk (w.heap.size + 1) (.cells #[] 43)] := sl_new _ _ _
  have H0 := Lib.hid (And.intro hn1 (show Sat _ ([.blk (w.heap.size + 1) (.cells #[] 43)] ++ (.blk w.heap.size (.cells #[kI t.c, kI t.e, kI t.n] 23) :: F)) from hs1))
  have HEQ := Lib.hid eq_tx
  clear hc hs hs1 hn1
  go_enter Try.func15, Try.ntmps15
  go_wp2_with fail
  generalize (w.alloc (.cells #[kI t.c, kI t.e, kI t.n] 23)).alloc (.cells #[] 43) = W0 at *
  generalize w.heap.size = m at *
  go_loopw [5, 6] (fun v5 v6 wr => ∃ (r : Nat) (h : Heaplet), r ≤ l.length ∧ v6 = .int .i64 r ∧ EnSl v5 (ofM (l.take r) t) h ∧ Sat wr (h ++ (.blk m (.cells #[kI t.c, kI t.e, kI t.n] 23) :: F))) (fun _ v6 _ => 200000 - (RowKit.intOf v6).toNat)
  case atStart => exact ⟨0, _, by omega, rfl, H0.out.1, H0.out.2⟩
  case round =>
    clear H0
    obtain ⟨r, h, hr, rfl, hv, hg⟩ := hrel
    obtain ⟨p5, q5, rfl⟩ := sl_form hv
    have r0 : (0 : Int) ≤ (r : Int) := by omega
    have r9 : (r : Int) ≤ 100000 := by omega
    by_cases hlr : r < l.length
    · have r1 : (r : Int) < (l.length : Int) := by omega
      obtain ⟨x, hx⟩ : ∃ x, l[r]? = some x := ⟨_, List.getElem?_eq_getElem hlr⟩
      obtain ⟨g, off, rfl, e0, _⟩ := HC.out wr hg.right.tail r x hx
      have HEN : Hid (∀ W, Sat W (h ++ (.blk m (.cells #[kI t.c, kI t.e, kI t.n] 23) :: F)) → EnO W g (off + r * 13) x) := Lib.hid (fun W hW => by
        obtain ⟨g', off', e, u⟩ := HC.out W hW.right.tail r x hx
        cases e
        exact u)
      have htk : l.take (r + 1) = l.take r ++ [x] := by rw [List.take_add_one, hx]; rfl
      have hst := ofM_step (l.take r) t x
      rw [← htk] at hst
      have HST := Lib.hid hst
      have HG := Lib.hid hg
      have HV := Lib.hid hv
      have hlen : (ofM (l.take r) t).length + 1 ≤ 200000 := by
        have := ofM_len (l.take r) t
        rw [List.length_take] at this
        omega
      have HLEN := Lib.hid hlen
      clear hx htk hg hst hv hlen e0
      go_upto_region 5 with (fail)
      have HSG : Hid (∀ n os, Sat (grow (wr.drewN n) os) (h ++ (.blk m (.cells #[kI t.c, kI t.e, kI t.n] 23) :: F))) := Lib.hid (fun n os => HG.out.grown ⟨n, os, rfl⟩)
      have m0 : ∀ n os, (grow (wr.drewN n) os).cell? ⟨m, 0, none⟩ = some (kI t.c) := fun n os => by rw [cell_of (HSG.out n os).right.h0]; rfl
      have m1 : ∀ n os, (grow (wr.drewN n) os).cell? ⟨m, 1, none⟩ = some (kI t.e) := fun n os => by rw [cell_of (HSG.out n os).right.h0]; rfl
      have m2 : ∀ n os, (grow (wr.drewN n) os).cell? ⟨m, 2, none⟩ = some (kI t.n) := fun n os => by rw [cell_of (HSG.out n os).right.h0]; rfl
      have n0 := fun n os => (HEN.out _ (HSG.out n os)).1
      have n1 := fun n os => (HEN.out _ (HSG.out n os)).2.1
      have n2 := fun n os => (HEN.out _ (HSG.out n os)).2.2.1
      have n3 := fun n os => (HEN.out _ (HSG.out n os)).2.2.2.1
      have n4 := fun n os => (HEN.out _ (HSG.out n os)).2.2.2.2.1
      have n5 := fun n os => (HEN.out _ (HSG.out n os)).2.2.2.2.2.1
      have n6 := fun n os => (HEN.out _ (HSG.out n os)).2.2.2.2.2.2.1
      have n7 := fun n os => (HEN.out _ (HSG.out n os)).2.2.2.2.2.2.2.1
      have n8 := fun n os => (HEN.out _ (HSG.out n os)).2.2.2.2.2.2.2.2.1
      have n9 := fun n os => (HEN.out _ (HSG.out n os)).2.2.2.2.2.2.2.2.2.1
      have n10 := fun n os => (HEN.out _ (HSG.out n os)).2.2.2.2.2.2.2.2.2.2.1
      have n11 := fun n os => (HEN.out _ (HSG.out n os)).2.2.2.2.2.2.2.2.2.2.2.1
      have n12 := fun n os => (HEN.out _ (HSG.out n os)).2.2.2.2.2.2.2.2.2.2.2.2
      have heq := HEQ.out x.t t
      obtain ⟨bt, hbt⟩ : ∃ b, decide (x.t = t) = b := ⟨_, rfl⟩
      obtain ⟨bg, hbg⟩ : ∃ b, goodM x = b := ⟨_, rfl⟩
      have HGC := Lib.hid (fun w => goodR_call x hbg w)
      rw [hbt] at heq HST
      rw [hbg] at HST
      clear hbt hbg
      obtain ⟨b, hb⟩ : ∃ b, (bt && bg) = b := ⟨_, rfl⟩
      have HB := Lib.hid hb
      rw [hb] at HST
      cases bg with
      | false =>
        have hb0 : b = false := by rw [← hb, Bool.and_false]
        subst hb0
        clear hb
        go_quiet_grown (first | with_reducible exact Calls.grown_of (HGC.out _))
        have HS5 := Lib.hid (HSG.out nq osq)
        have hst := HST.out
        rw [if_neg (by simp), List.append_nil] at hst
        have FIN : Hid (EnSl (.slice p5 (ofM (l.take r) t).length q5) (ofM (l.take (r + 1)) t) h) := Lib.hid (by rw [hst]; exact HV.out)
        clear hst m0 m1 m2 n0 n1 n2 n3 n4 n5 n6 n7 n8 n9 n10 n11 n12 HSG
        generalize grow (wr.drewN nq) osq = W5 at *
        go_wp2_with fail
        exact ⟨⟨r + 1, h, by omega, by simp, FIN.out, HS5.out⟩, by simp only [RowKit.intOf]; omega⟩
      | true =>
        have hb0 : b = bt := by rw [← hb, Bool.and_true]
        subst hb0
        clear hb
        cases b with
        | false =>
          go_quiet_grown (first | with_reducible exact Calls.grown_of (HGC.out _))
          have HS5 := Lib.hid (HSG.out nq osq)
          have hst := HST.out
          rw [if_neg (by simp), List.append_nil] at hst
          have FIN : Hid (EnSl (.slice p5 (ofM (l.take r) t).length q5) (ofM (l.take (r + 1)) t) h) := Lib.hid (by rw [hst]; exact HV.out)
          clear hst m0 m1 m2 n0 n1 n2 n3 n4 n5 n6 n7 n8 n9 n10 n11 n12 HSG
          generalize grow (wr.drewN nq) osq = W5 at *
          go_wp2_with fail
          exact ⟨⟨r + 1, h, by omega, by simp, FIN.out, HS5.out⟩, by simp only [RowKit.intOf]; omega⟩
        | true =>
          go_quiet_grown (first | with_reducible exact Calls.grown_of (HGC.out _))
          have HS5 := Lib.hid (HSG.out nq osq)
          clear m0 m1 m2 n0 n1 n2 n3 n4 n5 n6 n7 n8 n9 n10 n11 n12 HSG
          generalize grow (wr.drewN nq) osq = W5 at *
          have hst := HST.out
          rw [if_pos rfl] at hst
          obtain ⟨v7, w7, h7, hap, hv7, hs7⟩ := en_push (A := []) x HV.out (HS5.out.new (eO x)) HLEN.out
          rw [← hst] at hv7
          have FIN := Lib.hid (And.intro hv7 (show Sat w7 (h7 ++ _) from hs7))
          have HAP := Lib.hid hap
          obtain ⟨e0, e1, e2, e3, e4, e5, e6, e7, e8, e9, e10, e11, e12⟩ := HEN.out _ HS5.out
          clear hst hap hv7 hs7
          go_wp2_with (at_builtin; refine wpList_append_run rfl _ _ _ _ rfl _ _ _ _ rfl rfl HAP.out ?_)
          exact ⟨⟨r + 1, h7, by omega, by simp, FIN.out.1, FIN.out.2⟩, by simp only [RowKit.intOf]; omega⟩
    · obtain rfl : r = l.length := by omega
      rw [List.take_length] at hv ⊢
      have Fin := Lib.hid (And.intro hv hg)
      clear hv hg hlr
      go_wp2_with fail
      go_ret
      refine ⟨_, h, rfl, Fin.out.1, ?_⟩
      exact (Fin.out.2.perm List.perm_middle).tail
set_option maxRecDepth 100000 in
set_option maxHeartbeats 4000000 in
theorem endedR_any (v : Value) (l : List En) (t : Tx) (F : Heaplet) (w : World) (hs : Sat w F) (hE : EnsIn F v l) (hl : l.length ≤ 100000) :
    Calls Try.prog 34 #[v, tV t] w (Ret (.bool (endM l t)) (fun w' => Sat w' F)) := by
  have hs1 := hs.new (.cells #[kI t.c, kI t.e, kI t.n] 23)
  have HOF := Lib.hid (OfR_any v l t _ _ hs1 (hE.cons _) hl)
  have c0 : (w.alloc (.cells #[kI t.c, kI t.e, kI t.n] 23)).cell? ⟨w.heap.size, 0, none⟩ = some (kI t.c) := by rw [cell_of hs1.h0]; rfl
  have c1 : (w.alloc (.cells #[kI t.c, kI t.e, kI t.n] 23)).cell? ⟨w.heap.size, 1, none⟩ = some (kI t.e) := by rw [cell_of hs1.h0]; rfl
  have c2 : (w.alloc (.cells #[kI t.c, kI t.e, kI t.n] 23)).cell? ⟨w.heap.size, 2, none⟩ = some (kI t.n) := by rw [cell_of hs1.h0]; rfl
  have her := end_ref l t
  obtain ⟨res, hres⟩ : ∃ res, endM l t = res := ⟨_, rfl⟩
  rw [hres] at her ⊢
  have HER := Lib.hid her
  clear her hres
  obtain ⟨a, cap, rfl, _⟩ := hE
  have holen := ofM_len l t
  obtain ⟨O, hO⟩ : ∃ O, ofM l t = O := ⟨_, rfl⟩
  rw [hO] at HOF HER holen
  have HLEN : Hid (O.length ≤ 100000) := Lib.hid (by omega)
  clear hs1 hs hO holen
  go_enter Try.func34, Try.ntmps34
  go_wp2_with fail
  refine HOF.out.mono ?_
  rintro e w3 ⟨v3, h3, rfl, hv3, hs3⟩
  obtain ⟨p3, q3, rfl⟩ := sl_form hv3
  have hEO : ∀ i q, O[i]? = some q → ∃ g, p3 = some ⟨g, 0, none⟩ ∧ w3.cell? ⟨g, i * 13, none⟩ = some (kI q.kind) := by
    intro i q hq
    obtain ⟨a', cap', e, hc⟩ := sl_cells eC_len hv3 hs3
    cases e
    obtain ⟨g', e, _, hu⟩ := hc i q hq
    exact ⟨g', e, hu 0 _ rfl⟩
  have HEO := Lib.hid hEO
  have HS3 : Hid (Sat w3 F) := Lib.hid hs3.right.tail
  clear hEO hv3 hs3 HOF c0 c1 c2
  go_wp2_with fail
  go_loopw [6] (fun v6 wx => ∃ k : Nat, k ≤ O.length ∧ v6 = .int .i64 k ∧ (O.take k).any (fun x => decide (2 < x.kind)) = false ∧ wx = w3) (fun v6 _ => 200000 - (RowKit.intOf v6).toNat)
  case atStart => exact ⟨0, by omega, rfl, by simp, rfl⟩
  case round =>
    obtain ⟨k, hk, rfl, hno, rfl⟩ := hrel
    have k0 : (0 : Int) ≤ (k : Int) := by omega
    have k9 : (k : Int) ≤ 100000 := by have := HLEN.out; omega
    have HNO := Lib.hid hno
    clear hno
    by_cases hkl : k < O.length
    · have k1 : (k : Int) < (O.length : Int) := by omega
      obtain ⟨q, hq⟩ : ∃ q, O[k]? = some q := ⟨_, List.getElem?_eq_getElem hkl⟩
      obtain ⟨g, rfl, u⟩ := HEO.out k q hq
      have hst : (O.take (k + 1)).any (fun x => decide (2 < x.kind)) = decide (2 < q.kind) := by
        rw [List.take_add_one, hq, List.any_append, HNO.out]; simp
      have hin : 2 < q.kind → O.any (fun x => decide (2 < x.kind)) = true := fun h => List.any_eq_true.2 ⟨q, List.mem_of_getElem? hq, by simpa using h⟩
      have HST := Lib.hid (And.intro hst hin)
      clear hst hin hq
      by_cases h2 : 2 < q.kind
      · have e : res = true := by rw [← HER.out]; exact HST.out.2 h2
        subst e
        go_wp2_with fail
        go_ret
        exact ⟨rfl, HS3.out⟩
      · have h2f : (2 < q.kind) = False := by simpa using h2
        go_wp2_with fail
        exact ⟨⟨k + 1, by omega, by simp, by rw [HST.out.1]; simpa using h2, (by first | rfl | trivial)⟩, by simp only [RowKit.intOf]; omega⟩
    · obtain rfl : k = O.length := by omega
      have e : res = false := by rw [← HER.out]; have := HNO.out; rw [List.take_length] at this; exact this
      subst e
      clear hkl
      go_wp2_with fail
      go_ret
      exact ⟨rfl, HS3.out⟩
set_option maxRecDepth 100000 in
set_option maxHeartbeats 4000000 in
theorem NeededR_any (v : Value) (l : List En) (first : Int) (F : Heaplet) (w : World) (hs : Sat w F) (hE : EnsIn F v l) (hl : l.length ≤ 100000) :
    Calls Try.prog 18 #[v, .int .i64 first] w (Ret (.int .i64 (neededM l first)) (fun w' => Sat w' F)) := by
  have HE := Lib.hid hE
  obtain ⟨a, cap, rfl, hc⟩ := hE
  have HC := Lib.hid hc
  have HS := Lib.hid hs
  have HL := Lib.hid hl
  clear hs hc
  cases h1 : withinM first 1 1099511627776 with
  | false =>
    have e0 : neededM l first = 0 := by unfold neededM; rw [h1]; rfl
    rw [e0]
    have hcase : (1 ≤ first) = False ∨ (1 ≤ first ∧ (first ≤ 1099511627776) = False) := by
      unfold withinM at h1
      rw [Bool.and_eq_false_iff, decide_eq_false_iff_not, decide_eq_false_iff_not] at h1
      by_cases h : 1 ≤ first
      · exact .inr ⟨h, eq_false (h1.resolve_left (fun q => q h))⟩
      · exact .inl (eq_false h)
    clear e0 h1
    rcases hcase with h1 | ⟨h1, h2⟩
    all_goals
      go_enter Try.func18, Try.ntmps18
      go_wp2_with fail
      go_loopw [5] (fun v5 wx => v5 = .int .i64 0 ∧ wx = w) (fun _ _ => 0)
      case atStart => exact ⟨rfl, rfl⟩
      case round =>
        obtain ⟨rfl, rfl⟩ := hrel
        by_cases hz : (0 : Int) < (l.length : Int)
        all_goals
          go_wp2_with fail
          go_ret
          exact ⟨rfl, HS.out⟩
  | true =>
    have hw := h1
    unfold withinM at hw
    rw [Bool.and_eq_true, decide_eq_true_iff, decide_eq_true_iff] at hw
    obtain ⟨f1, f2⟩ := hw
    have H1 := Lib.hid h1
    clear h1
    obtain ⟨res, hres⟩ : ∃ res, neededM l first = res := ⟨_, rfl⟩
    rw [hres]
    have HRES := Lib.hid hres
    clear hres
    go_enter Try.func18, Try.ntmps18
    go_wp2_with fail
    go_loopw [5] (fun v5 wr => ∃ r : Nat, r ≤ l.length ∧ v5 = .int .i64 r ∧ (∀ i y, i < r → l[i]? = some y → (goodM y && !endM l y.t) = false) ∧ Sat wr F) (fun v5 _ => 200000 - (RowKit.intOf v5).toNat)
    case atStart => exact ⟨0, by omega, rfl, fun i y hi => by omega, HS.out⟩
    case round =>
      obtain ⟨r, hr, rfl, hno, hg⟩ := hrel
      have HNO := Lib.hid hno
      have HG := Lib.hid hg
      have r0 : (0 : Int) ≤ (r : Int) := by omega
      have r9 : (r : Int) ≤ 100000 := by omega
      clear hno
      by_cases hlr : r < l.length
      · have r1 : (r : Int) < (l.length : Int) := by omega
        obtain ⟨x, hx⟩ : ∃ x, l[r]? = some x := ⟨_, List.getElem?_eq_getElem hlr⟩
        obtain ⟨g, off, rfl, e0, e1, e2, e3, e4, e5, e6, e7, e8, e9, e10, e11, e12⟩ := HC.out wr hg r x hx
        have hnext : (goodM x && !endM l x.t) = false → ∀ i y, i < r + 1 → l[i]? = some y → (goodM y && !endM l y.t) = false := by
          intro hb i y hi hy
          by_cases e : i = r
          · subst e
            rw [hx] at hy
            cases hy
            exact hb
          · exact HNO.out i y (by omega) hy
        have hat : (goodM x && !endM l x.t) = true → res = first + r := fun hb => by rw [← HRES.out]; exact needed_at H1.out hx hb HNO.out
        have HNX := Lib.hid (And.intro hnext hat)
        have HENO : Hid (∀ W, Sat W F → EnO W g (off + r * 13) x) := Lib.hid (fun W hW => by
          obtain ⟨g', off', e, u⟩ := HC.out W hW r x hx
          cases e
          exact u)
        clear hnext hat hx hg
        obtain ⟨bg, hbg⟩ : ∃ b, goodM x = b := ⟨_, rfl⟩
        have HGC := Lib.hid (fun w => goodR_call x hbg w)
        rw [hbg] at HNX
        clear hbg
        cases bg with
        | false =>
          go_wp2_with fail
          refine (HGC.out _).mono ?_
          rintro e w3 ⟨rfl, q, os, rfl⟩
          have HG3 := Lib.hid (HG.out.grown ⟨q, os, rfl⟩)
          clear e0 e1 e2 e3 e4 e5 e6 e7 e8 e9 e10 e11 e12
          generalize grow (wr.drewN q) os = W3 at *
          go_wp2_with fail
          exact ⟨⟨r + 1, by omega, by simp, HNX.out.1 rfl, HG3.out⟩, by simp only [RowKit.intOf]; omega⟩
        | true =>
          go_wp2_with fail
          refine (HGC.out _).mono ?_
          rintro e w3 ⟨rfl, q, os, rfl⟩
          have HG3 := Lib.hid (HG.out.grown ⟨q, os, rfl⟩)
          clear e0 e1 e2 e3 e4 e5 e6 e7 e8 e9 e10 e11 e12
          generalize grow (wr.drewN q) os = W3 at *
          obtain ⟨e0, e1, e2, e3, e4, e5, e6, e7, e8, e9, e10, e11, e12⟩ := HENO.out _ HG3.out
          have HEN := Lib.hid (endedR_any _ l x.t F W3 HG3.out HE.out HL.out)
          obtain ⟨be, hbe⟩ : ∃ b, endM l x.t = b := ⟨_, rfl⟩
          rw [hbe] at HEN HNX
          clear hbe
          go_wp2_with fail
          refine HEN.out.mono ?_
          rintro e w4 ⟨rfl, hs4⟩
          have HG4 := Lib.hid hs4
          clear hs4
          cases be with
          | true =>
            go_wp2_with fail
            exact ⟨⟨r + 1, by omega, by simp, HNX.out.1 rfl, HG4.out⟩, by simp only [RowKit.intOf]; omega⟩
          | false =>
            have e : res = first + r := HNX.out.2 rfl
            subst e
            go_wp2_with fail
            go_ret
            exact ⟨rfl, HG4.out⟩
      · obtain rfl : r = l.length := by omega
        have e : res = 0 := by rw [← HRES.out]; exact needed_none H1.out HNO.out
        subst e
        clear hlr hg
        go_wp2_with fail
        go_ret
        exact ⟨rfl, HG.out⟩
end Go.Proofs.Ytceegnfjdgjomaa
