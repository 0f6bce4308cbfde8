/- A step's words are written: tome.written walked. Conditions: none. -/
import Derived.Test.YtieaamlpadlfeaaGreatDoorTb10
import Derived.Deep.RegionHeld3
namespace Go.Proofs.YtieaamlpadlfeaaGreatDoor
open Go Go.MapKept Go.RowKit Go.Proofs

attribute [local go_sem] Oper.semAt_some

theorem fS_len (xs : List Bs) : (xs.flatMap fS).length = xs.length * 1 := fm_len (fl := fS) (sz := 1) (fun _ => rfl) xs
theorem fS_one (xs : List Bs) : ∀ u ∈ xs.flatMap fS, u.oneCell' = true := by
  intro u hu
  obtain ⟨x, _, hx⟩ := List.mem_flatMap.1 hu
  rw [List.mem_singleton.1 hx]
  rfl
/-- Several more, out of a row that lies there. -/
theorem WOwn.app {v : Value} {ws xs : List Bs} {h G : Heaplet} {w : World} {a : Addr} {c : Nat} (hv : WOwn v ws h) (s : Sat w (h ++ G)) (hx : ∀ j u, (xs.flatMap fS)[j]? = some u → w.cell? (a.add j) = some u) (hne : 0 < xs.length) (hl : ws.length ≤ 1000000) (hl2 : xs.length ≤ 1000000) :
    ∃ a' cap' w' h', (∀ ty, (Builtin.append_ #[40, 40] ty #[v, .slice (some a) xs.length c]).run Tryz.prog w = .ok (.slice a' (ws.length + xs.length) cap') w') ∧ WOwn (.slice a' (ws.length + xs.length) cap') (ws ++ xs) h' ∧ Sat w' (h' ++ G) := by
  obtain ⟨i, hi, hz, hsize, hby⟩ := info_parts infoS
  obtain ⟨v', w', h', hr, hv', s'⟩ := sat_append (P := Tryz.prog) (ty := 0) Tryz.underlying40 hi hz hsize hby rfl (by decide) hv s a xs.length c (xs.flatMap fS) (fS_len xs) hx (fS_one xs) hne (by unfold maxLen; omega) (by omega)
  have hv2 : SliceIs 9 1 v' (ws ++ xs).length ((ws ++ xs).flatMap fS) h' := by
    rw [List.length_append, List.flatMap_append]
    exact hv'
  obtain ⟨a', cap', e⟩ := sl_form hv'
  subst e
  exact ⟨a', cap', w', h', fun ty => hr, hv2, s'⟩
theorem WOwn.pushN {v : Value} {ws : List Bs} {h G : Heaplet} {w : World} (xs : List Bs) (hv : WOwn v ws h) (s : Sat w (h ++ G)) (hne : 0 < xs.length) (hl : ws.length ≤ 1000000) (hl2 : xs.length ≤ 1000000) :
    ∃ a' cap' w' h', (∀ ty, (Builtin.append_ #[40, 40] ty #[v, .slice (some ⟨w.heap.size, 0, none⟩) xs.length xs.length]).run Tryz.prog (w.alloc (.cells (xs.flatMap fS).toArray 9)) = .ok (.slice a' (ws.length + xs.length) cap') w') ∧ WOwn (.slice a' (ws.length + xs.length) cap') (ws ++ xs) h' ∧ Sat w' (h' ++ G) := by
  have s1 := s.new (.cells (xs.flatMap fS).toArray 9)
  obtain ⟨a', cap', w', h', hr, hv', s'⟩ := WOwn.app (a := ⟨w.heap.size, 0, none⟩) (c := xs.length) (G := .blk w.heap.size (.cells (xs.flatMap fS).toArray 9) :: G) hv (s1.perm (List.perm_middle (l₁ := h)).symm) (fun j u hu => by
    have hadd : (⟨w.heap.size, 0, none⟩ : Addr).add j = ⟨w.heap.size, j, none⟩ := by unfold Addr.add; split <;> simp_all
    rw [hadd, cell_of s1.h0]
    simpa using hu) hne hl hl2
  exact ⟨a', cap', w', h', hr, hv', (s'.perm List.perm_middle).tail⟩
theorem WOwn.appOwn {v v2 : Value} {ws xs : List Bs} {h h2 G : Heaplet} {w : World} (hv : WOwn v ws h) (hv2 : WOwn v2 xs h2) (s : Sat w (h ++ (h2 ++ G))) (hne : 0 < xs.length) (hl : ws.length ≤ 1000000) (hl2 : xs.length ≤ 1000000) :
    ∃ a' cap' w' h', (∀ ty, (Builtin.append_ #[40, 40] ty #[v, v2]).run Tryz.prog w = .ok (.slice a' (ws.length + xs.length) cap') w') ∧ WOwn (.slice a' (ws.length + xs.length) cap') (ws ++ xs) h' ∧ Sat w' (h' ++ G) := by
  obtain ⟨g, cap, e⟩ := sl_some hv2 hne
  subst e
  obtain ⟨a', cap', w', h', hr, hv', s'⟩ := WOwn.app (a := ⟨g, 0, none⟩) (c := cap) (G := h2 ++ G) hv s (fun j u hu => by
    have hadd : (⟨g, 0, none⟩ : Addr).add j = ⟨g, j, none⟩ := by unfold Addr.add; split <;> simp_all
    rw [hadd]
    exact (hv2.cell s.right rfl hu).2.2) hne hl hl2
  exact ⟨a', cap', w', h', hr, hv', s'.part (fun a => by simp only [cnt_append]; omega)⟩
theorem calledP_len (x : CallM) : (calledP x).length ≤ 4 := by
  unfold calledP
  simp only [List.length_cons, List.length_append]
  split <;> split <;> split <;> simp
theorem calledP_pos (x : CallM) : 0 < (calledP x).length := by unfold calledP; simp
theorem midP_len (x : StepM) : (midP x).length ≤ 5 := by
  unfold midP
  split
  · have := calledP_len x.call
    simp only [List.length_cons]
    omega
  · split
    · simp
    · split
      · simp
      · split <;> simp
theorem stepsW_of (k : Int) (hk : I64 k) {F : Heaplet} {w : World} (hL : LibF F) (s : Sat w F) : Calls Tryz.prog 31 #[.string ⟨#[99, 108, 105, 101, 110, 116, 32, 109, 111, 118, 101, 32, 100, 114, 111, 112, 32, 116, 119, 105, 99, 101, 32, 116, 105, 99, 107, 32, 99, 114, 97, 115, 104, 32, 115, 116, 97, 114, 116, 32, 110, 111, 116, 105, 99, 101, 32, 99, 104, 101, 99, 107, 32, 99, 97, 108, 109]⟩, .int .i64 k] w (Ret (kL (wordOf stepNames k)) (fun W => Sat W F)) :=
  wordOf_any hL s _ stepNames steps_fields (by decide) (by decide) steps_ascii k hk
set_option maxRecDepth 100000 in
set_option maxHeartbeats 4000000 in
theorem written_any {F : Heaplet} {w : World} {fv : Value} (hL : LibF F) (s : Sat w F) (x : StepM) (hft : FtAt F fv x.fates) (hk : I64 x.kind) (hc : I64 x.client) (hn : I64 x.n) (hfs : (∀ f ∈ x.fates, I64 f) ∧ x.fates.length ≤ 100000) (hxk : I64 x.call.kind) (hxp : I64 x.call.page) (hxs : I64 x.call.slot) (hd : x.call.data.length ≤ 1000000) :
    Calls Tryz.prog 13 #[stepV x fv] w (fun e w' => ∃ v h, e = .returned v ∧ WOwn v (wrP x) h ∧ Sat w' (h ++ F)) := by
  obtain ⟨k, c, u, n, fs, ⟨ck, cp, cs, d⟩⟩ := x
  simp only at hft hk hc hn hfs hxk hxp hxs hd
  obtain ⟨fa, fc, rfl, hfu⟩ := hft
  have s1 := s.new (stepO k c u n (.slice fa fs.length fc) ck cp cs d)
  obtain ⟨A, hA⟩ : ∃ A, w.heap.size = A := ⟨_, rfl⟩
  rw [hA] at s1
  obtain ⟨G, hG⟩ : ∃ G, HItem.blk A (stepO k c u n (.slice fa fs.length fc) ck cp cs d) :: F = G := ⟨_, rfl⟩
  rw [hG] at s1
  have HGF : Hid (∀ h W, Sat W (h ++ G) → Sat W (h ++ F)) := Lib.hid (fun h W hW => by
    rw [← hG] at hW
    exact (hW.perm List.perm_middle).tail)
  have HLG : Hid (LibF G) := Lib.hid (hL.mono (fun W hW => by rw [← hG] at hW; exact hW.tail))
  have HX : Hid (∀ W, Sat W G → W.cell? ⟨A, 0, none⟩ = some (kI k) ∧ W.cell? ⟨A, 1, none⟩ = some (kI c) ∧ W.cell? ⟨A, 2, none⟩ = some (.bool u) ∧ W.cell? ⟨A, 3, none⟩ = some (kI n) ∧ W.cell? ⟨A, 4, none⟩ = some (.slice fa fs.length fc) ∧ W.cell? ⟨A, 5, none⟩ = some (kI ck) ∧ W.cell? ⟨A, 6, none⟩ = some (kI cp) ∧ W.cell? ⟨A, 7, none⟩ = some (kI cs) ∧ W.cell? ⟨A, 8, none⟩ = some (kL d)) := Lib.hid (fun W hW => by
    rw [← hG] at hW
    exact nine_of hW)
  have HFU : Hid (∀ i f, fs[i]? = some f → ∃ g off, fa = some ⟨g, off, none⟩ ∧ ∀ w, Sat w G → w.cell? ⟨g, off + i, none⟩ = some (kI f)) := Lib.hid (fun i f hf => by
    obtain ⟨g, off, e, hw⟩ := hfu i f hf
    exact ⟨g, off, e, fun W hW => hw W (by rw [← hG] at hW; exact hW.tail)⟩)
  have HWO := Lib.hid (stepsW_of k hk HLG.out s1)
  have HIT : Hid (∀ m (h : Heaplet) W, I64 m → Sat W (h ++ G) → Calls Tryz.prog 32 #[.int .i64 m] W (Ret (kL (Lib.itoa m)) (fun W => Sat W (h ++ G)))) := Lib.hid (fun m h W hm hW => itoa_at (HLG.out.mono (fun W hW => hW.right)) hW m hm)
  have HCD : Hid (∀ (h : Heaplet) W, Sat W (h ++ G) → Calls Tryz.prog 33 #[callV ⟨ck, cp, cs, d⟩] W (fun e w' => ∃ v h', e = .returned v ∧ WOwn v (calledP ⟨ck, cp, cs, d⟩) h' ∧ Sat w' (h' ++ (h ++ G)))) := Lib.hid (fun h W hW => called_any (HLG.out.mono (fun W hW => hW.right)) hW ⟨ck, cp, cs, d⟩ hxk hxp hxs hd)
  have HC := Lib.hid hc
  have HN := Lib.hid hn
  have HFS := Lib.hid hfs
  obtain ⟨x0, x1, x2, x3, x4, x5, x6, x7, x8⟩ := HX.out _ s1
  obtain ⟨nm, hnm⟩ : ∃ nm, wordOf stepNames k = nm := ⟨_, rfl⟩
  obtain ⟨MP, hMP⟩ : ∃ MP, midP ⟨k, c, u, n, fs, ⟨ck, cp, cs, d⟩⟩ = MP := ⟨_, rfl⟩
  have eq0 : wrP ⟨k, c, u, n, fs, ⟨ck, cp, cs, d⟩⟩ = nm :: (MP ++ fs.map Lib.itoa) := by rw [← hnm, ← hMP]; rfl
  rw [eq0]
  rw [hnm] at HWO
  have HMP := Lib.hid hMP
  clear hL s s1 hk hc hn hfs hxk hxp hxs hd hG eq0 hnm hMP hfu
  go_enter Tryz.func13, Tryz.ntmps13
  go_upto_region 2 with (go_at_call 31; refine (HWO.out).mono ?_; rintro e w1 ⟨rfl, h1⟩; have H1 := Lib.hid (show Sat (w1.alloc (.cells #[kL nm] 9)) ([HItem.blk w1.heap.size (.cells #[kL nm] 9)] ++ G) from h1.new _); have V1 := Lib.hid (WOwn.one w1.heap.size nm); clear h1)
  clear HWO x0 x1 x2 x3 x4 x5 x6 x7 x8
  generalize w1.alloc (.cells #[kL nm] 9) = W1 at *
  generalize (some (⟨w1.heap.size, 0, none⟩ : Addr)) = oa at *
  generalize [HItem.blk w1.heap.size (.cells #[kL nm] 9)] = g1 at *
  have K0 := Lib.hid (show _ ∧ _ from ⟨(HX.out _ H1.out.drew.right).2.1, (HX.out _ H1.out.drew.right).2.2.2.1⟩)
  have HI1 := Lib.hid (HIT.out c g1 W1.drew HC.out H1.out.drew)
  clear H1
  first
    | (go_region_held3 (fun W => W.cell? ⟨A, 1, none⟩ = some (kI c) ∧ W.cell? ⟨A, 3, none⟩ = some (kI n))
        (with_reducible first | exact K0.out | exact K2.out | exact K3.out)
        (first
          | (go_at_call 32; refine (HIT.out n g1 _ HN.out H2.out).mono ?_; rintro e w3 ⟨rfl, h3⟩; have H3 := Lib.hid h3; have K3 := Lib.hid (show _ ∧ _ from ⟨(HX.out _ h3.right).2.1, (HX.out _ h3.right).2.2.2.1⟩); clear h3)
          | (go_at_call 32; refine (HI1.out).mono ?_; rintro e w2 ⟨rfl, h2⟩; have H2 := Lib.hid h2; have K2 := Lib.hid (show _ ∧ _ from ⟨(HX.out _ h2.right).2.1, (HX.out _ h2.right).2.2.2.1⟩); clear h2)))
    | fail
  clear K0 K2 K3 HI1 H2
  obtain ⟨x0, x1, x2, x3, x4, x5, x6, x7, x8⟩ := HX.out _ H3.out.right
  go_upto_if 20 with (fail)
  go_cut [6] (fun v6 wx => v6 = kL (wayW u) ∧ wx = w3)
  case first =>
    cases u with
    | false =>
      go_wp2_with fail
      go_meet
      exact ⟨rfl, rfl⟩
    | true =>
      go_wp2_with fail
      go_meet
      exact ⟨rfl, rfl⟩
  case rest =>
    obtain ⟨rfl, rfl⟩ := hcut
    have I3 := Lib.hid (HX.out _ H3.out.right)
    go_upto_block 0 with (fail)
    go_cut [3] (fun v3 wx => ∃ h, WOwn v3 (nm :: MP) h ∧ Sat wx (h ++ G))
    case first =>
      obtain ⟨xs, hxs⟩ : ∃ xs, xs = midP ⟨k, c, u, n, fs, ⟨ck, cp, cs, d⟩⟩ := ⟨_, rfl⟩
      have HM := Lib.hid (hxs.trans HMP.out)
      clear HMP HFS HFU x1 x2 x3 x4
      by_cases k2 : k = 2
      · subst k2
        obtain rfl : [wayW u, Lib.itoa c, Lib.itoa n] = MP := hxs.symm.trans HM.out
        obtain ⟨a4, c4, w4, g4, hap, hv, hs⟩ := WOwn.pushN [wayW u, Lib.itoa c, Lib.itoa n] V1.out H3.out (by simp) (by simp) (by simp)
        have P4 := Lib.hid hap
        have V4 := Lib.hid hv
        have H4 := Lib.hid hs
        clear hap hv hs hxs HM I3
        go_wp2_with (at_builtin; refine wpList_append_run rfl _ _ _ _ rfl _ _ _ _ rfl rfl P4.out ?_)
        go_meet
        exact ⟨_, V4.out, H4.out⟩
      by_cases k3 : k = 3
      · subst k3
        obtain rfl : [wayW u, Lib.itoa c, Lib.itoa n] = MP := hxs.symm.trans HM.out
        obtain ⟨a4, c4, w4, g4, hap, hv, hs⟩ := WOwn.pushN [wayW u, Lib.itoa c, Lib.itoa n] V1.out H3.out (by simp) (by simp) (by simp)
        have P4 := Lib.hid hap
        have V4 := Lib.hid hv
        have H4 := Lib.hid hs
        clear hap hv hs hxs HM I3
        go_wp2_with (at_builtin; refine wpList_append_run rfl _ _ _ _ rfl _ _ _ _ rfl rfl P4.out ?_)
        go_meet
        exact ⟨_, V4.out, H4.out⟩
      by_cases k4 : k = 4
      · subst k4
        obtain rfl : [wayW u, Lib.itoa c, Lib.itoa n] = MP := hxs.symm.trans HM.out
        obtain ⟨a4, c4, w4, g4, hap, hv, hs⟩ := WOwn.pushN [wayW u, Lib.itoa c, Lib.itoa n] V1.out H3.out (by simp) (by simp) (by simp)
        have P4 := Lib.hid hap
        have V4 := Lib.hid hv
        have H4 := Lib.hid hs
        clear hap hv hs hxs HM I3
        go_wp2_with (at_builtin; refine wpList_append_run rfl _ _ _ _ rfl _ _ _ _ rfl rfl P4.out ?_)
        go_meet
        exact ⟨_, V4.out, H4.out⟩
      by_cases k5 : k = 5
      · subst k5
        obtain rfl : [Lib.itoa c] = MP := hxs.symm.trans HM.out
        obtain ⟨a4, c4, w4, g4, hap, hv, hs⟩ := WOwn.pushN [Lib.itoa c] V1.out H3.out (by simp) (by simp) (by simp)
        have P4 := Lib.hid hap
        have V4 := Lib.hid hv
        have H4 := Lib.hid hs
        clear hap hv hs hxs HM I3
        go_wp2_with (at_builtin; refine wpList_append_run rfl _ _ _ _ rfl _ _ _ _ rfl rfl P4.out ?_)
        go_meet
        exact ⟨_, V4.out, H4.out⟩
      by_cases k8 : k = 8
      · subst k8
        obtain rfl : [Lib.itoa c] = MP := hxs.symm.trans HM.out
        obtain ⟨a4, c4, w4, g4, hap, hv, hs⟩ := WOwn.pushN [Lib.itoa c] V1.out H3.out (by simp) (by simp) (by simp)
        have P4 := Lib.hid hap
        have V4 := Lib.hid hv
        have H4 := Lib.hid hs
        clear hap hv hs hxs HM I3
        go_wp2_with (at_builtin; refine wpList_append_run rfl _ _ _ _ rfl _ _ _ _ rfl rfl P4.out ?_)
        go_meet
        exact ⟨_, V4.out, H4.out⟩
      by_cases k6 : k = 6
      · subst k6
        obtain rfl : [Lib.itoa c, Lib.itoa n] = MP := hxs.symm.trans HM.out
        obtain ⟨a4, c4, w4, g4, hap, hv, hs⟩ := WOwn.pushN [Lib.itoa c, Lib.itoa n] V1.out H3.out (by simp) (by simp) (by simp)
        have P4 := Lib.hid hap
        have V4 := Lib.hid hv
        have H4 := Lib.hid hs
        clear hap hv hs hxs HM I3
        go_wp2_with (at_builtin; refine wpList_append_run rfl _ _ _ _ rfl _ _ _ _ rfl rfl P4.out ?_)
        go_meet
        exact ⟨_, V4.out, H4.out⟩
      by_cases k7 : k = 7
      · subst k7
        obtain rfl : [Lib.itoa c, Lib.itoa n] = MP := hxs.symm.trans HM.out
        obtain ⟨a4, c4, w4, g4, hap, hv, hs⟩ := WOwn.pushN [Lib.itoa c, Lib.itoa n] V1.out H3.out (by simp) (by simp) (by simp)
        have P4 := Lib.hid hap
        have V4 := Lib.hid hv
        have H4 := Lib.hid hs
        clear hap hv hs hxs HM I3
        go_wp2_with (at_builtin; refine wpList_append_run rfl _ _ _ _ rfl _ _ _ _ rfl rfl P4.out ?_)
        go_meet
        exact ⟨_, V4.out, H4.out⟩
      by_cases k1 : k = 1
      · subst k1
        obtain rfl : (Lib.itoa c :: calledP ⟨ck, cp, cs, d⟩) = MP := hxs.symm.trans HM.out
        obtain ⟨a4, c4, w4, g4, hap, hv, hs⟩ := WOwn.push (Lib.itoa c) V1.out H3.out.drew (by simp)
        have P4 := Lib.hid hap
        have V4 := Lib.hid hv
        have H4 := Lib.hid hs
        obtain ⟨x0, x1, x2, x3, x4, x5, x6, x7, x8⟩ := HX.out _ H3.out.right
        obtain ⟨y0, y1, y2, y3, y4, y5, y6, y7, y8⟩ := HX.out _ (H3.out.new (.cells #[kL (Lib.itoa c)] 9)).tail.right
        obtain ⟨z0, z1, z2, z3, z4, z5, z6, z7, z8⟩ := HX.out _ hs.right
        have HC5 := Lib.hid (HCD.out g4 w4 hs)
        clear hxs HM hap hv hs I3
        go_upto_region 8 with (fail)
        go_region_law (first
          | (refine step_append_run (by rfl) _ _ _ _ (by rfl) _ _ _ _ (by rfl) (by rfl) P4.out ?_)
          | (refine step_append_run (by rfl) _ _ _ _ (by rfl) _ _ _ _ (by rfl) (by rfl) P6.out ?_)
          | (go_simp; go_at_call 33; refine (HC5.out).mono ?_; rintro e w5 ⟨v5, h5, rfl, hv5, hs5⟩; obtain ⟨a6, c6, w6, g6, hap6, hv6, hs6⟩ := WOwn.appOwn V4.out hv5 (hs5.part (k := g4 ++ (h5 ++ G)) (fun a => by simp only [cnt_append]; omega)) (calledP_pos _) (by simp) (Nat.le_trans (calledP_len _) (by decide)); have P6 := Lib.hid hap6; have V6 := Lib.hid hv6; have H6 := Lib.hid hs6; obtain ⟨a5, c5, rfl⟩ := sl_form hv5; clear hap6 hv6 hs6 hv5 hs5; (try dsimp only)))
        all_goals
          go_wp2_with fail
          go_meet
          exact ⟨_, V6.out, H6.out⟩
      obtain rfl : [] = MP := by
        rw [← HM.out]
        rw [hxs]
        simp [midP, k1, k2, k3, k4, k5, k6, k7, k8]
      have m1 : (k == 1) = false := by rw [beq_eq_false_iff_ne]; omega
      have m2 : (k == 2) = false := by rw [beq_eq_false_iff_ne]; omega
      have m3 : (k == 3) = false := by rw [beq_eq_false_iff_ne]; omega
      have m4 : (k == 4) = false := by rw [beq_eq_false_iff_ne]; omega
      have m5 : (k == 5) = false := by rw [beq_eq_false_iff_ne]; omega
      have m6 : (k == 6) = false := by rw [beq_eq_false_iff_ne]; omega
      have m7 : (k == 7) = false := by rw [beq_eq_false_iff_ne]; omega
      have m8 : (k == 8) = false := by rw [beq_eq_false_iff_ne]; omega
      clear hxs HM I3
      go_wp2_with fail
      go_meet
      exact ⟨_, V1.out, H3.out⟩
    case rest =>
      have HMP2 := Lib.hid (show MP.length ≤ 5 by rw [← HMP.out]; exact midP_len _)
      clear I3 H3 V1 x0 x1 x2 x3 x4 x5 x6 x7 x8 HMP
      obtain ⟨h, hv, hs⟩ := hcut
      have V0 := Lib.hid hv
      have S0 := Lib.hid hs
      obtain ⟨x0, x1, x2, x3, x4, x5, x6, x7, x8⟩ := HX.out _ hs.right
      have hl9 : (fs.length : Int) ≤ 100000 := by have := HFS.out.2; omega
      clear hv hs HCD HC HN
      go_wp2_with fail
      go_loopw [3, 61] (fun v3 v61 wr => ∃ (i : Nat) (h : Heaplet), i ≤ fs.length ∧ v61 = .int .i64 i ∧ WOwn v3 (nm :: (MP ++ (fs.take i).map Lib.itoa)) h ∧ Sat wr (h ++ G)) (fun _ v61 _ => 200000 - (intOf v61).toNat)
      case atStart => exact ⟨0, h, by omega, rfl, by simpa using V0.out, S0.out⟩
      case round =>
        clear V0 S0
        obtain ⟨i, h, hi, rfl, hv, hs⟩ := hrel
        have i0 : (0 : Int) ≤ (i : Int) := by omega
        by_cases hil : i < fs.length
        · have i1 : (i : Int) < (fs.length : Int) := by omega
          obtain ⟨f, hf⟩ : ∃ f, fs[i]? = some f := ⟨_, List.getElem?_eq_getElem hil⟩
          obtain ⟨g, off, rfl, hu⟩ := HFU.out i f hf
          have u0 := hu wr hs.right
          have HI := Lib.hid (HIT.out f h wr (HFS.out.1 f (List.mem_of_getElem? hf)) hs)
          have HV := Lib.hid hv
          have HE : Hid (nm :: (MP ++ (fs.take i).map Lib.itoa) ++ [Lib.itoa f] = nm :: (MP ++ (fs.take (i + 1)).map Lib.itoa)) := Lib.hid (by rw [List.take_add_one, hf]; simp)
          have HLE : Hid ((nm :: (MP ++ (fs.take i).map Lib.itoa)).length = MP.length + i + 1) := Lib.hid (by
            simp only [List.length_cons, List.length_append, List.length_map, List.length_take]
            omega)
          have HLN : Hid ((nm :: (MP ++ (fs.take i).map Lib.itoa)).length ≤ 1000000) := Lib.hid (by
            have := HMP2.out
            simp only [List.length_cons, List.length_append, List.length_map, List.length_take]
            omega)
          clear hv hs hu hf x0 x1 x2 x3 x4 x5 x6 x7 x8
          go_wp2_with (first
            | (at_builtin; refine wpList_append_run rfl _ _ _ _ rfl _ _ _ _ rfl rfl P5.out ?_)
            | (go_at_call 32; refine (HI.out).mono ?_; rintro e w5 ⟨rfl, h5⟩; obtain ⟨a5, c5, w6, g5, hap, hv5, hs5⟩ := WOwn.push (Lib.itoa f) HV.out h5 HLN.out; have P5 := Lib.hid hap; have V5 := Lib.hid hv5; have H5 := Lib.hid hs5; clear hap hv5 hs5 h5))
          have h9 := V5.out
          rw [HLE.out] at h9
          exact ⟨⟨i + 1, g5, by omega, by simp, by rw [← HE.out]; exact h9, H5.out⟩, by simp only [intOf]; omega⟩
        · obtain rfl : i = fs.length := by omega
          have HV := Lib.hid hv
          have HS := Lib.hid hs
          clear hv hs
          go_wp2_with fail
          go_ret
          refine ⟨_, h, rfl, ?_, HGF.out _ _ HS.out⟩
          have := HV.out
          rw [List.take_length] at this
          exact this
end Go.Proofs.YtieaamlpadlfeaaGreatDoor
