/- A client asks: walked. Conditions: none. -/
import Derived.Test.YthgfbnopbfiifaaKey8
namespace Go.Proofs.Ythgfbnopbfiifaa
open Go Go.MapKept Go.RowKit Go.Proofs Go.Sort

theorem ask_nil (c p : Int) (x : Bool) (w : World) : Calls Try.prog 9 #[.pointer none, .int .i64 c, .int .i64 p, .bool x] w (Ret (.int .i64 2) (Same w)) := by
  go_enter Try.func9, Try.ntmps9
  go_wp2
  go_ret
  exact ⟨rfl, rfl⟩
theorem ask_bad {b : Nat} {K : KtM} {F : Heaplet} {w : World} (h : KtIs b K F w) (c p : Int) (x : Bool) (hv : ¬(1 ≤ c ∧ c ≤ 8 ∧ 0 ≤ p ∧ p < 1024)) : Calls Try.prog 9 #[.pointer (some ⟨b, 0, none⟩), .int .i64 c, .int .i64 p, .bool x] w (Ret (.int .i64 1) (KtIs b K F)) := by
  have H := Lib.hid h
  clear h
  by_cases h1 : c < 1
  · clear hv
    go_enter Try.func9, Try.ntmps9
    go_wp2_with fail
    go_ret
    exact ⟨rfl, H.out⟩
  · by_cases h2 : 8 < c
    · clear hv
      go_enter Try.func9, Try.ntmps9
      go_wp2_with fail
      go_ret
      exact ⟨rfl, H.out⟩
    · by_cases h3 : p < 0
      · clear hv
        go_enter Try.func9, Try.ntmps9
        go_wp2_with fail
        go_ret
        exact ⟨rfl, H.out⟩
      · have h4 : 1024 ≤ p := by omega
        clear hv
        go_enter Try.func9, Try.ntmps9
        go_wp2_with fail
        go_ret
        exact ⟨rfl, H.out⟩
/-- The page's lock is at hand. -/
def AtP (b : Nat) (K : KtM) (p : Int) (l : LkM) (m g : Nat) (O F : Heaplet) (w : World) : Prop := PgIs b m g l K.ws O w ∧ OLk m p g O ∧ ∀ l' ws' w', PgIs b m g l' ws' O w' → KtIs b ⟨putL p l' K.tab, ws'⟩ F w'
set_option maxRecDepth 100000 in
set_option maxHeartbeats 8000000 in
theorem ask_good {b : Nat} {K : KtM} {F : Heaplet} {w : World} (h : KtIs b K F w) (c p : Int) (x : Bool) (hc1 : 1 ≤ c) (hc2 : c ≤ 8) (hp1 : 0 ≤ p) (hp2 : p < 1024) (hf : ∀ l, getL p K.tab = some l → Fit8 l) (hw : K.ws.length ≤ 600000) :
    Calls Try.prog 9 #[.pointer (some ⟨b, 0, none⟩), .int .i64 c, .int .i64 p, .bool x] w (Ret (.int .i64 (askM K c p x).1) (KtIs b (askM K c p x).2 F)) := by
  have hfit : Fit8 (lockOf K.tab p) := by
    unfold lockOf
    cases e : getL p K.tab with
    | none => exact fit8_nil
    | some l => exact hf l e
  have ea : askM K c p x = (if (lockOf K.tab p).queue.any (fun r => decide (r.c = c)) = true then ((31 : Int), (⟨putL p (lockOf K.tab p) K.tab, K.ws⟩ : KtM))
    else match getL c (lockOf K.tab p).holds with
      | some d => if (d.x || !x) = true then (0, ⟨putL p (lockOf K.tab p) K.tab, K.ws ++ [⟨false, c, p, d.x⟩]⟩) else (0, settled K p (lockOf K.tab p).holds ((lockOf K.tab p).queue ++ [⟨c, x⟩]))
      | none => (0, settled K p (lockOf K.tab p).holds ((lockOf K.tab p).queue ++ [⟨c, x⟩]))) := by
    unfold askM
    rw [if_pos (by simp; omega)]
    rfl
  obtain ⟨l, hl⟩ : ∃ l, lockOf K.tab p = l := ⟨_, rfl⟩
  rw [hl] at ea hfit
  obtain ⟨res, hres⟩ : ∃ res, askM K c p x = res := ⟨_, rfl⟩
  rw [hres] at ea ⊢
  have HEA := Lib.hid ea
  have HFIT := Lib.hid hfit
  have HWL := Lib.hid hw
  clear hres ea hfit hf hw
  have start : (∃ m g O, AtP b K p l m g O F w ∧ w.cell? ⟨b, 0, none⟩ = some (.map (some m)) ∧ lookT m p (pt g) w) ∨
      (∃ m w', w.cell? ⟨b, 0, none⟩ = some (.map (some m)) ∧ lookT m p (.pointer none) w ∧ (∀ o1 o2, ((w.alloc o1).alloc o2).cell? ⟨b, 0, none⟩ = some (.map (some m))) ∧
        (Instr.mapUpdate 49 (.map (some m)) (kI p) (pt (w.heap.size + 1))).run Try.prog ((w.alloc (.map #[] 0)).alloc (lkO w.heap.size (.slice none 0 0))) = .ok () w' ∧ ∃ O, AtP b K p l m (w.heap.size + 1) O F w') := by
    cases e : getL p K.tab with
    | some l0 =>
      left
      obtain rfl : l0 = l := by rw [← hl]; unfold lockOf; rw [e]; rfl
      obtain ⟨m, g, O, hp, ho, _, back⟩ := h.page e
      exact ⟨m, g, O, ⟨hp, ho, back⟩, hp.table, ho.look hp.frame⟩
    | none =>
      right
      obtain rfl : l = ⟨[], []⟩ := by rw [← hl]; unfold lockOf; rw [e]; rfl
      obtain ⟨m, c0, hlk, c1, w', hu, O, h1, h2, h3⟩ := h.lay e
      exact ⟨m, w', c0, hlk, c1, hu, O, h1, h2, h3⟩
  have START := Lib.hid start
  clear start h
  obtain ⟨vq, hvq⟩ : ∃ vq, l.queue.any (fun r => decide (r.c = c)) = vq := ⟨_, rfl⟩
  rw [hvq] at HEA
  have HVQ := Lib.hid hvq
  clear hvq
  have g1 : (c < 1) = False := eq_false (by omega)
  have g2 : (8 < c) = False := eq_false (by omega)
  have g3 : (p < 0) = False := eq_false (by omega)
  have g4 : (1024 ≤ p) = False := eq_false (by omega)
  have hmm := @run_makeMap Try.prog
  rcases START.out with ⟨m, g, O, hat, c0, hlk⟩ | ⟨m, W, c0, hlk, c1, hu, O, hat⟩
  case' inl =>
    have HAT := Lib.hid hat
    clear hat START
    go_enter Try.func9, Try.ntmps9
    go_upto_region 9 with (fail)
    clear c0 hlk
    generalize w = W at *
  case' inr =>
    have HAT := Lib.hid hat
    clear hat START
    have hu : (Instr.mapUpdate 49 (.map (some m)) (.int .i64 p) (.pointer (some ⟨w.heap.size + 1, 0, none⟩))).run Try.prog ((w.alloc (.map #[] 0)).alloc (.cells #[.map (some w.heap.size), .slice none 0 0] 56)) = .ok () W := hu
    go_enter Try.func9, Try.ntmps9
    go_upto_region 9 with (fail)
    clear c0 hlk c1 hu
    generalize w.heap.size + 1 = g at *
  all_goals
    clear hmm g1 g2 g3 g4
    have hat := HAT.out
    unfold AtP at hat
    obtain ⟨hpg, hol, back⟩ := hat
    have HPG := Lib.hid hpg
    have HOL := Lib.hid hol
    have HBACK := Lib.hid back
    obtain ⟨wv, wh, hh, hw, hlp, s⟩ := hpg
    obtain ⟨qa, qcap, hq1, hrq⟩ := lkp_rq hlp
    have hs0 := PgIs.sw s
    have s1 := hs0.drew.new (.cells #[kI c] 3)
    have c1 := hq1 _ _ hs0
    have k1 := hq1 _ _ ((hs0.new (.cells #[kI c] 3)).perm List.perm_middle.symm)
    have hcont := cont_any (cap := qcap) s1 ((hrq _).mono fun w hw => hw.tail) (fun w hw => by rw [cell_of hw.h0]; rfl) (by have := HFIT.out.lens; omega)
    rw [HVQ.out] at hcont
    unfold isV at hcont
    have HCON := Lib.hid hcont
    clear hol back hw hlp s hq1 hrq hs0 s1 hcont HAT HVQ
    go_cut [52] (fun v52 wx => v52 = .bool vq ∧ PgIs b m g l K.ws O wx)
    case' first =>
      go_region_with (first | (go_at_call 19; refine (isOf_call c _).mono ?_; rintro e w3 ⟨rfl, rfl⟩) | (go_at_call 18; refine (HCON.out).mono ?_; rintro e w3 ⟨rfl, hgr⟩))
      all_goals
        have FIN := Lib.hid (HPG.out.grown (((Grown.drew W).trans (Grown.alloc _ _)).trans hgr))
        clear hgr c1 k1 HCON HPG
        go_wp2_with fail
        go_meet
        exact ⟨rfl, FIN.out⟩
    case' rest =>
      clear c1 k1 HCON HPG
      obtain ⟨rfl, hpg⟩ := hcut
      cases vq with
      | true =>
        have hres : res = ((31 : Int), (⟨putL p l K.tab, K.ws⟩ : KtM)) := by rw [HEA.out]; simp
        subst hres
        have FIN := Lib.hid (HBACK.out _ _ _ hpg)
        clear hpg
        go_wp2_with fail
        go_ret
        exact ⟨rfl, FIN.out⟩
      | false =>
        have hres : res = (match getL c l.holds with
          | some d => if (d.x || !x) = true then ((0 : Int), (⟨putL p l K.tab, K.ws ++ [⟨false, c, p, d.x⟩]⟩ : KtM)) else (0, settled K p l.holds (l.queue ++ [⟨c, x⟩]))
          | none => (0, settled K p l.holds (l.queue ++ [⟨c, x⟩]))) := by rw [HEA.out]; simp
        have HRS := Lib.hid hres
        clear hres HEA
        have HPG := Lib.hid hpg
        obtain ⟨wv, wh, hh, hw, hlp, s⟩ := hpg
        obtain ⟨hm, hc0, hld⟩ := lkp_all hlp
        have c0 := hc0 _ _ (PgIs.sw s)
        have hlc := hld c
        have hbv : ∃ B : Bool, ((B = false ∧ res = (0, settled K p l.holds (l.queue ++ [⟨c, x⟩]))) ∨ (B = true ∧ ∃ dx, res = (0, ⟨putL p l K.tab, K.ws ++ [⟨false, c, p, dx⟩]⟩) ∧ ∃ d, getL c l.holds = some d ∧ d.x = dx)) ∧ B = (match getL c l.holds with | some d => d.x || !x | none => false) := by
          rw [HRS.out]
          cases e : getL c l.holds with
          | none => exact ⟨false, .inl ⟨rfl, rfl⟩, rfl⟩
          | some d =>
            simp only
            cases hb : (d.x || !x) with
            | false => exact ⟨false, .inl ⟨rfl, by simp⟩, rfl⟩
            | true => exact ⟨true, .inr ⟨rfl, d.x, by simp, d, rfl, rfl⟩, rfl⟩
        obtain ⟨B, hB, hBd⟩ := hbv
        have HB := Lib.hid hB
        have HLP := Lib.hid hlp
        have HW := Lib.hid hw
        have HS := Lib.hid s
        clear hld hB HRS hlp hw s hc0
        go_upto_region 11 with (fail)
        go_cut [10] (fun v10 wx => wx = wc ∧ ((v10 = .pointer none ∧ B = false) ∨ ∃ hg d, v10 = pt hg ∧ getL c l.holds = some d ∧ B = (d.x || !x) ∧ wx.cell? ⟨hg, 0, none⟩ = some (.bool d.x)))
        case first =>
          cases e : getL c l.holds with
          | none =>
            simp only [e] at hlc hBd
            have hlk := hlc _ _ (PgIs.sw HS.out)
            unfold lookH at hlk
            subst hBd
            clear hlc e
            go_wp2_with fail
            go_meet
            exact ⟨rfl, .inl ⟨rfl, by first | rfl | trivial⟩⟩
          | some d =>
            simp only [e] at hlc hBd
            obtain ⟨hg, hlc⟩ := hlc
            obtain ⟨hlk, d0, _, _⟩ := hlc _ _ (PgIs.sw HS.out)
            unfold lookH at hlk
            have FIN : Hid (∃ hg' d', pt hg = pt hg' ∧ getL c l.holds = some d' ∧ B = (d'.x || !x) ∧ wc.cell? ⟨hg', 0, none⟩ = some (.bool d'.x)) := Lib.hid ⟨hg, d, rfl, e, hBd, d0⟩
            clear hlc e hBd d0
            go_wp2_with fail
            go_meet
            exact ⟨rfl, .inr FIN.out⟩
        case rest =>
          obtain ⟨rfl, h10⟩ := hcut
          clear hlc hBd c0
          have H10 := Lib.hid h10
          go_upto_region 12 with (fail)
          go_cut [70] (fun v70 wx => v70 = .bool B ∧ wx = wc)
          case first =>
            rcases h10 with ⟨rfl, rfl⟩ | ⟨hg, d, rfl, e, hB, d0⟩
            · go_wp2_with fail
              go_meet
              exact ⟨rfl, rfl⟩
            · obtain ⟨dx, hdx⟩ : ∃ dx, d.x = dx := ⟨_, rfl⟩
              rw [hdx] at hB d0
              subst hB
              clear e hdx
              unfold pt
              cases dx
              · cases x
                all_goals
                  go_wp2_with fail
                  go_meet
                  exact ⟨rfl, rfl⟩
              · go_wp2_with fail
                go_meet
                exact ⟨rfl, rfl⟩
          case rest =>
            clear h10
            obtain ⟨rfl, rfl⟩ := hcut
            rcases HB.out with ⟨hB, hres⟩ | ⟨hB, dx, hres, hd⟩
            · subst hB hres
              obtain ⟨qv, qh, R, hqv, hsq, c1, fz, back⟩ := lkp_queue HLP.out (PgIs.sw HS.out)
              have hlen := HFIT.out.lens
              obtain ⟨a', c', w', h', hap, hqv', hs'⟩ := rq_push (A := []) ⟨c, x⟩ hqv (hsq.new (.cells #[kI c, .bool x] 59)) (by omega)
              obtain ⟨k1, k2, h'', hl'', hs''⟩ := back (.slice a' (l.queue.length + 1) c') (l.queue ++ [⟨c, x⟩]) h' w' _ hqv' hs'
              obtain ⟨qa0, qc0, rfl, _⟩ := hqv.form
              have hfk : FitK l.holds (l.queue ++ [⟨c, x⟩]) K.ws := by
                obtain ⟨f1, f2, f3, f4⟩ := HFIT.out
                have := HWL.out
                refine ⟨fun q hq => by have := f1 q hq; omega, fun r hr => ?_, by simp; omega, by simp; omega⟩
                rcases List.mem_append.1 hr with hr | hr
                · have := f3 r hr; omega
                · obtain rfl : r = ⟨c, x⟩ := by simpa using hr
                  exact ⟨by show _ ≤ c; omega, by show c ≤ _; omega⟩
              have hset := settle_any p (show PgIs b m g ⟨l.holds, l.queue ++ [⟨c, x⟩]⟩ K.ws O (w'.setCell ⟨g, 1, none⟩ (.slice a' (l.queue.length + 1) c')) from ⟨wv, wh, h'', HW.out, hl'', PgIs.ws hs''⟩) HOL.out hfk
              have HAP := Lib.hid hap
              have HSET := Lib.hid hset
              clear hqv hsq fz back hlen hap hqv' hs' hl'' hs'' hfk hset HPG HS HW HLP HB H10
              go_wp2_with (at_builtin; refine wpList_append_run rfl _ _ _ _ rfl _ _ _ _ rfl rfl HAP.out ?_)
              refine (HSET.out).mono ?_
              rintro e w6 ⟨rfl, h6⟩
              have FIN := Lib.hid (HBACK.out _ _ _ h6)
              clear h6 c1 k1 k2
              go_wp2_with fail
              go_ret
              exact ⟨rfl, FIN.out⟩
            · subst hB hres
              rcases H10.out with ⟨_, hf⟩ | ⟨hg, d, rfl, e, hbx, d0⟩
              · cases hf
              · obtain ⟨d', hd1, hd2⟩ := hd
                rw [e] at hd1
                cases hd1
                rw [hd2] at d0
                have hsay := say_any ⟨false, c, p, dx⟩ HW.out HS.out (by have := HWL.out; omega)
                have HSAY := Lib.hid hsay
                clear hsay e hd2 hbx
                unfold pt
                go_wp2_with fail
                refine (HSAY.out).mono ?_
                rintro e w6 ⟨rfl, wv6, wh6, hw6, hs6⟩
                have FIN := Lib.hid (HBACK.out _ _ w6 ⟨wv6, wh6, hh, hw6, HLP.out, hs6⟩)
                clear hw6 hs6 d0
                go_wp2_with fail
                go_ret
                exact ⟨rfl, FIN.out⟩
theorem ask_any {b : Nat} {K : KtM} {F : Heaplet} {w : World} (h : KtIs b K F w) (c p : Int) (x : Bool) (hf : ∀ l, getL p K.tab = some l → Fit8 l) (hw : K.ws.length ≤ 600000) :
    Calls Try.prog 9 #[.pointer (some ⟨b, 0, none⟩), .int .i64 c, .int .i64 p, .bool x] w (Ret (.int .i64 (askM K c p x).1) (KtIs b (askM K c p x).2 F)) := by
  by_cases hv : 1 ≤ c ∧ c ≤ 8 ∧ 0 ≤ p ∧ p < 1024
  · exact ask_good h c p x hv.1 hv.2.1 hv.2.2.1 hv.2.2.2 hf hw
  · have e : askM K c p x = (1, K) := by
      unfold askM
      rw [if_neg (by simp; omega)]
    rw [e]
    exact ask_bad h c p x hv
end Go.Proofs.Ythgfbnopbfiifaa
