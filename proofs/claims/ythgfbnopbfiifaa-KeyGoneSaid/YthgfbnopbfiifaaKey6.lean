/- The first requests are granted, walked. Conditions: none. -/
import Derived.Test.YthgfbnopbfiifaaKey5
import Derived.Deep.LoopGhost
namespace Go.Proofs.Ythgfbnopbfiifaa
open Go Go.MapKept Go.RowKit Go.Proofs Go.Sort

/-- The clients of a lock are numbers that fit; they are few. -/
def FitK (hs : Hds) (q : List Rq) (ws : List Wd) : Prop := (∀ p ∈ hs, -9223372036854775808 ≤ p.1 ∧ p.1 ≤ 9223372036854775807) ∧ (∀ r ∈ q, -9223372036854775808 ≤ r.c ∧ r.c ≤ 9223372036854775807) ∧ hs.length + q.length ≤ 1000 ∧ ws.length + q.length ≤ 800000
theorem mem_putL {V : Type} {k : Int} {v : V} {p : Int × V} : ∀ {D : List (Int × V)}, p ∈ putL k v D → p ∈ D ∨ p.1 = k
  | [], h => by
    simp [putL] at h
    exact .inr (by rw [h])
  | q :: r, h => by
    by_cases e : q.1 = k
    · simp only [putL, e, if_true, List.mem_cons] at h
      rcases h with h | h
      · exact .inr (by rw [h])
      · exact .inl (.tail _ h)
    · simp only [putL, e, if_false, List.mem_cons] at h
      rcases h with h | h
      · exact .inl (by rw [h]; exact .head _)
      · rcases mem_putL h with h | h
        · exact .inl (.tail _ h)
        · exact .inr h
theorem FitK.step {hs : Hds} {q : List Rq} {ws : List Wd} {r : Rq} (d : Hd) (x : Wd) (h : FitK hs (r :: q) ws) : FitK (putL r.c d hs) q (ws ++ [x]) := by
  obtain ⟨h1, h2, h3, h4⟩ := h
  refine ⟨fun p hp => ?_, fun r' hr => h2 r' (.tail _ hr), ?_, ?_⟩
  · rcases mem_putL hp with hp | hp
    · exact h1 p hp
    · rw [hp]; exact h2 r (.head _)
  · rw [length_putL]
    simp only [List.length_cons] at h3
    split <;> omega
  · simp only [List.length_cons, List.length_append, List.length_nil] at h4 ⊢
    omega
theorem two_cells {w : World} {b : Nat} {x y : Value} {t : TypeId} {H : Heaplet} (s : Sat w (.blk b (.cells #[x, y] t) :: H)) : w.cell? ⟨b, 0, none⟩ = some x ∧ w.cell? ⟨b, 1, none⟩ = some y := ⟨by rw [cell_of s.h0]; rfl, by rw [cell_of s.h0]; rfl⟩
set_option maxRecDepth 100000 in
set_option maxHeartbeats 8000000 in
theorem settle_any {b m g : Nat} {l : LkM} {ws : List Wd} {O : Heaplet} {w : World} (p : Int) (h : PgIs b m g l ws O w) (hO : OLk m p g O) (hf : FitK l.holds l.queue ws) :
    Calls Try.prog 21 #[.pointer (some ⟨b, 0, none⟩), .int .i64 p] w (Ret (.tuple #[]) (PgIs b m g (settleM p l.queue l.holds ws).1 (settleM p l.queue l.holds ws).2 O)) := by
  have H0 := Lib.hid h
  have HO := Lib.hid hO
  have HF := Lib.hid hf
  have t0 := h.table
  have hlk : lookT m p (pt g) w := hO.look h.frame
  unfold lookT at hlk
  clear h hO hf
  obtain ⟨res, hres⟩ : ∃ res, settleM p l.queue l.holds ws = res := ⟨_, rfl⟩
  rw [hres]
  have HRES := Lib.hid hres
  clear hres
  go_enter Try.func21, Try.ntmps21
  go_wp2_with fail
  clear t0 hlk
  go_loopg [] (l.queue.length) (fun n wr => ∃ (q : List Rq) (hs : Hds) (wss : List Wd), q.length = n ∧ settleM p q hs wss = res ∧ FitK hs q wss ∧ PgIs b m g ⟨hs, q⟩ wss O wr)
  case atStart => exact ⟨l.queue, l.holds, ws, rfl, HRES.out, HF.out, H0.out⟩
  case round =>
    clear H0 HRES HF
    obtain ⟨q, hs, wss, hq, hres, hf, hg⟩ := hrel
    cases q with
    | nil =>
      have hres' : res = (⟨hs, []⟩, wss) := by rw [← hres]; rfl
      subst hres'
      have HG := Lib.hid hg
      obtain ⟨wv, wh, hh, hw, hlp, s⟩ := hg
      obtain ⟨hm, a, cap, c0, c1, _, _, _⟩ := lkp_open hlp (PgIs.sw s)
      have c1 : wr.cell? ⟨g, 1, none⟩ = some (.slice a 0 cap) := c1
      clear hres hw hlp s hf hq
      go_wp2_with fail
      refine bodyPost_end (results_none rfl _ _ _) rfl ?_
      exact ⟨rfl, HG.out⟩
    | cons r q =>
      obtain ⟨rc, rx⟩ := r
      have ht := hg.table
      obtain ⟨wv, wh, hh, hw, hlp, s⟩ := hg
      obtain ⟨hm, a, cap, c0, c1, _, _, hqc⟩ := lkp_open hlp (PgIs.sw s)
      obtain ⟨qg, off, rfl, _, u0, u1⟩ := hqc 0 ⟨rc, rx⟩ rfl
      have c1 : wr.cell? ⟨g, 1, none⟩ = some (.slice (some ⟨qg, off, none⟩) (q.length + 1) cap) := c1
      have u0 : wr.cell? ⟨qg, off, none⟩ = some (kI rc) := by simpa using u0
      have u1 : wr.cell? ⟨qg, off + 1, none⟩ = some (.bool rx) := by simpa using u1
      have hql : (q.length : Int) ≤ 1000 := by have := hf.2.2.1; simp only [List.length_cons] at this; omega
      have HN := Lib.hid ((PgIs.sw s).new (.cells #[kI rc, .bool rx] 59))
      have HW := Lib.hid hw
      have HLP := Lib.hid hlp
      have HF := Lib.hid hf
      have HRES := Lib.hid hres
      have HQ := Lib.hid hq
      clear hqc hw hlp s hf hres c0 ht hq
      go_upto_region 3 with (fail)
      generalize wr.alloc (.cells #[.int .i64 rc, .bool rx] 59) = W1 at *
      generalize wr.heap.size = xb at *
      clear c1 u0 u1
      have n0 : W1.cell? ⟨xb, 0, none⟩ = some (kI rc) := by rw [cell_of HN.out.h0]; rfl
      have n1 : W1.cell? ⟨xb, 1, none⟩ = some (.bool rx) := by rw [cell_of HN.out.h0]; rfl
      have hway := inWay_any HLP.out (HN.out.perm List.perm_middle.symm) ⟨rc, rx⟩ HF.out.1 (by have := HF.out.2.2.1; show hs.length ≤ 1000; omega)
      have HWAY := Lib.hid hway
      clear hway
      go_wp2_with fail
      refine (HWAY.out).mono ?_
      rintro e W2 ⟨v6, vh, rfl, hv6, hs2⟩
      obtain ⟨a6, c6, rfl⟩ := sl_form hv6
      obtain ⟨way, hwy⟩ : ∃ way, wayM hs ⟨rc, rx⟩ = way := ⟨_, rfl⟩
      simp only [hwy] at hv6 ⊢
      have HWY := Lib.hid hwy
      clear hwy HWAY HN n0 n1
      have hO1 : Sat W2 (.blk xb (.cells #[kI rc, .bool rx] 59) :: (hh ++ (.blk b (tbO m wv) :: (wh ++ O)))) := (hs2.right.perm List.perm_middle)
      have n0 : W2.cell? ⟨xb, 0, none⟩ = some (kI rc) := by rw [cell_of hO1.h0]; rfl
      have n1 : W2.cell? ⟨xb, 1, none⟩ = some (.bool rx) := by rw [cell_of hO1.h0]; rfl
      cases way with
      | cons c way =>
        have hse : res = ((⟨(callM p rx (c :: way) (hs, wss)).1, ⟨rc, rx⟩ :: q⟩ : LkM), (callM p rx (c :: way) (hs, wss)).2) := by
          rw [← HRES.out]
          unfold settleM
          rw [HWY.out]
          simp
        subst hse
        have hwy := HWY.out
        have hmem : ∀ c' ∈ c :: way, (getL c' hs).isSome = true := by
          intro c' hc'
          rw [← hwy] at hc'
          unfold wayM at hc'
          have h1 := (List.mem_filter.1 hc').1
          rw [(sortK_perm _).mem_iff] at h1
          cases e : getL c' hs with
          | some d => rfl
          | none => exact absurd h1 (getL_none.1 e)
        have hlen : (c :: way).length ≤ 1000 := by
          rw [← hwy]
          unfold wayM
          have h1 := List.length_filter_le (fun c => !decide (c = rc) && (rx || hasX hs c)) (sortK (hs.map (·.1)))
          rw [(sortK_perm _).length_eq, List.length_map] at h1
          have := HF.out.2.2.1
          exact Nat.le_trans h1 (by omega)
        have a1 : Sat W2 ((HItem.blk b (tbO m wv) :: wh) ++ ((vh ++ (hh ++ [.blk xb (.cells #[kI rc, .bool rx] 59)])) ++ O)) := sat_ap (h1 := vh ++ (hh ++ [.blk xb (.cells #[kI rc, .bool rx] 59)])) (h2 := HItem.blk b (tbO m wv) :: wh) (h3 := O) (by simpa using hs2)
        have a2 : Sat W2 (.blk b (tbO m wv) :: (wh ++ (hh ++ (vh ++ (.blk xb (.cells #[kI rc, .bool rx] 59) :: O))))) := a1.perm (by
          have p1 := (List.perm_append_comm_assoc vh hh (.blk xb (.cells #[kI rc, .bool rx] 59) :: O)).append_left (HItem.blk b (tbO m wv) :: wh)
          simpa using p1)
        have hpg : PgIs b m g ⟨hs, ⟨rc, rx⟩ :: q⟩ wss (vh ++ (.blk xb (.cells #[kI rc, .bool rx] 59) :: O)) W2 := ⟨wv, wh, hh, HW.out, HLP.out, a2⟩
        have hcall := call_any p rx (c :: way) (ca := a6) (cc := c6) hpg (HO.out.cons.app) (fun w i c' hs' hc' => is_cell hv6 hs' hc' rfl) hmem hlen (by have := HF.out.2.2.2; omega)
        have HCALL := Lib.hid hcall
        have hwl : (0 : Int) ≤ (way.length : Int) := by omega
        clear hcall hpg a1 a2 hlen hmem hwy HWY hv6 hs2 hO1 HRES HF HQ HLP HW
        go_wp2_with fail
        refine (HCALL.out).mono ?_
        rintro e w6 ⟨rfl, h6⟩
        have FIN := Lib.hid h6.weaken.drop
        clear h6 n0 n1
        go_wp2_with fail
        refine bodyPost_end (results_none rfl _ _ _) rfl ?_
        exact ⟨rfl, FIN.out⟩
      | nil =>
        have hse : settleM p q (putL rc ⟨rx || hasX hs rc, false, 0⟩ hs) (wss ++ [⟨false, rc, p, rx || hasX hs rc⟩]) = res := by
          rw [← HRES.out]
          conv => rhs; unfold settleM
          rw [HWY.out]
          simp
        have HSE := Lib.hid hse
        clear hse HRES HWY
        have hs3 : Sat W2 (hh ++ (.blk xb (.cells #[kI rc, .bool rx] 59) :: .blk b (tbO m wv) :: (wh ++ O))) := hs2.right
        obtain ⟨qv, qh, R, hqv, hsq, c1, fz, back⟩ := lkp_queue HLP.out hs3
        obtain ⟨qa, qcap, rfl, hqcap⟩ := hqv.form
        obtain ⟨qg, off, rfl, hcap, htail⟩ := q_tail rqC_len hqv
        have c1 : W2.cell? ⟨g, 1, none⟩ = some (.slice (some ⟨qg, off, none⟩) (q.length + 1) qcap) := c1
        have f1 := fz 1
        have hcap1 : ((q.length : Int) + 1) ≤ (qcap : Int) := by omega
        obtain ⟨qa', hqa, hq'⟩ : ∃ qa', (if qcap = 1 then some (⟨qg, off, none⟩ : Addr) else some ⟨qg, off + 2, none⟩) = qa' ∧ QSl (.slice qa' q.length (qcap - 1)) q qh := by
          by_cases hq1 : qcap = 1
          · exact ⟨_, rfl, by rw [if_pos hq1]; exact htail off (.inr ⟨hq1, rfl⟩)⟩
          · exact ⟨_, rfl, by rw [if_neg hq1]; exact htail (off + 2) (.inl rfl)⟩
        obtain ⟨_, _, h', hl', hs4⟩ := back _ q qh W2 _ hq' hsq
        have HQA := Lib.hid hqa
        have HL := Lib.hid hl'
        have HS4 := Lib.hid hs4
        clear back htail hsq hqv hs3 hs2 hO1 fz hv6 hqa hq' hl' hs4
        go_upto_region 7 with (fail)
        rw [HQA.out]
        clear c1 f1 n0 n1 hqcap hcap hcap1 HQA
        generalize W2.setCell ⟨g, 1, none⟩ (.slice qa' q.length (qcap - 1)) = W3 at *
        obtain ⟨hm, hc0, hld⟩ := lkp_all HL.out
        have c0 := hc0 _ _ HS4.out
        have n0 : W3.cell? ⟨xb, 0, none⟩ = some (kI rc) := by rw [cell_of HS4.out.right.h0]; rfl
        have hlc := hld rc
        have HC0 := Lib.hid hc0
        have hsn := fun n => HS4.out.grown (Grown.drewN _ n)
        clear hld hc0
        obtain ⟨hx, hhx⟩ : ∃ hx, hasX hs rc = hx := ⟨_, rfl⟩
        rw [hhx] at HSE
        go_cut [7] (fun v7 wx => Sat wx (h' ++ (.blk xb (.cells #[kI rc, .bool rx] 59) :: .blk b (tbO m wv) :: (wh ++ O))) ∧ ((v7 = .pointer none ∧ hx = false) ∨ ∃ hg, v7 = pt hg ∧ wx.cell? ⟨hg, 0, none⟩ = some (.bool hx)))
        case first =>
          cases e : getL rc hs with
          | none =>
            have hx0 : hx = false := by rw [← hhx]; unfold hasX; rw [e]; rfl
            simp only [e] at hlc
            have hlk := fun n => hlc _ _ (hsn n)
            unfold lookH at hlk
            clear hhx e HSE hlc hsn
            subst hx0
            go_quiet (fail)
            have HG9 := Lib.hid (HS4.out.grown (Grown.drewN _ nq))
            clear HS4 hlk n0 c0
            go_wp2_with fail
            go_meet
            first
              | exact ⟨HG9.out, .inl ⟨rfl, rfl⟩⟩
              | exact ⟨HG9.out, .inl ⟨rfl, trivial⟩⟩
          | some d =>
            have hx0 : hx = d.x := by rw [← hhx]; unfold hasX; rw [e]; rfl
            simp only [e] at hlc
            obtain ⟨hg, hlc⟩ := hlc
            have hlk := fun n => (hlc _ _ (hsn n)).1
            have d0 := (hlc _ _ HS4.out).2.1
            unfold lookH at hlk
            rw [← hx0] at d0
            clear hhx e HSE hx0 hlc hsn
            go_quiet (fail)
            have HG9 := Lib.hid (And.intro (HS4.out.grown (Grown.drewN _ nq)) (show (W3.drewN nq).cell? ⟨hg, 0, none⟩ = some (.bool hx) by simpa using d0))
            clear HS4 n0 c0 hlk d0
            go_wp2_with fail
            go_meet
            exact ⟨HG9.out.1, .inr ⟨hg, rfl, HG9.out.2⟩⟩
        case rest =>
          clear HS4 hlc n0 c0 hhx hsn
          obtain ⟨hs5, h7⟩ := hcut
          have HS5 := Lib.hid hs5
          obtain ⟨n0, n1⟩ := two_cells hs5.right
          clear hs5
          go_upto_region 8 with (fail)
          go_cut [8] (fun v8 wx => v8 = .bool (rx || hx) ∧ wx = wc)
          case first =>
            cases rx
            · rcases h7 with ⟨rfl, rfl⟩ | ⟨hg, rfl, d0⟩
              · go_wp2_with fail
                go_meet
                exact ⟨rfl, rfl⟩
              · unfold pt
                go_wp2_with fail
                go_meet
                exact ⟨rfl, rfl⟩
            · clear h7
              go_wp2_with fail
              go_meet
              exact ⟨rfl, rfl⟩
          case rest =>
            obtain ⟨rfl, rfl⟩ := hcut
            clear h7 n1
            obtain ⟨xx, hxx⟩ : ∃ xx, (rx || hx) = xx := ⟨_, rfl⟩
            rw [hxx] at HSE ⊢
            have c0 := HC0.out _ _ HS5.out
            obtain ⟨hm2, w5, h5, k0, hu, hl5, hs6⟩ := lkp_put HL.out rc ⟨xx, false, 0⟩ (HS5.out.drew.new (hdO ⟨xx, false, 0⟩))
            have k1 := HC0.out _ _ ((HS5.out.drew.new (hdO ⟨xx, false, 0⟩)).perm List.perm_middle.symm)
            rw [k1] at k0
            cases k0
            have k1 : (wc.alloc (.cells #[.bool xx, .bool false, kI 0] 64)).cell? ⟨g, 0, none⟩ = some (.map (some hm)) := HC0.out _ _ ((HS5.out.new (hdO ⟨xx, false, 0⟩)).perm List.perm_middle.symm)
            obtain ⟨k2, _⟩ := two_cells (HS5.out.new (hdO ⟨xx, false, 0⟩)).tail.right
            have k2 : (wc.alloc (.cells #[.bool xx, .bool false, kI 0] 64)).cell? ⟨xb, 0, none⟩ = some (kI rc) := k2
            obtain ⟨n5, _⟩ := two_cells hs6.right
            have hu : (Instr.mapUpdate 53 (.map (some hm)) (.int .i64 rc) (.pointer (some ⟨wc.heap.size, 0, none⟩))).run Try.prog ((wc.alloc (.cells #[.bool xx, .bool false, .int .i64 0] 64)).drew) = .ok () w5 := hu
            have hs7 : Sat w5 (.blk b (tbO m wv) :: (wh ++ (h5 ++ O))) := PgIs.ws (Sat.tail (hs6.perm List.perm_middle))
            have hsay := say_any ⟨false, rc, p, xx⟩ HW.out hs7 (by have := HF.out.2.2.2; simp only [List.length_cons] at this; omega)
            have HSAY := Lib.hid hsay
            have HL5 := Lib.hid hl5
            clear hs7 hsay hs6 hl5 HS5 HC0 HW HL hxx
            go_upto_region 9 with (fail)
            go_region_law (fail)
            all_goals
              go_wp2_with fail
              refine (HSAY.out).mono ?_
              rintro e w6 ⟨rfl, wv6, wh6, hw6, hs8⟩
              have FIN := Lib.hid (And.intro (FitK.step (r := ⟨rc, rx⟩) ⟨xx, false, 0⟩ ⟨false, rc, p, xx⟩ HF.out) (show PgIs b m g ⟨putL rc ⟨xx, false, 0⟩ hs, q⟩ (wss ++ [⟨false, rc, p, xx⟩]) O w6 from ⟨wv6, wh6, h5, hw6, HL5.out, hs8⟩))
              clear hw6 hs8
              go_wp2_with fail
              go_roundg q.length
              case measure => have := HQ.out; simp only [List.length_cons] at this; omega
              case rel => exact ⟨q, _, _, rfl, HSE.out, FIN.out.1, FIN.out.2⟩
end Go.Proofs.Ythgfbnopbfiifaa
