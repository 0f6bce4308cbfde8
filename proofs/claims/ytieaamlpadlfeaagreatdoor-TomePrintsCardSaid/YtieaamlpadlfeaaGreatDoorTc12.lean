/- The document's writing of a step: written walked. Conditions: none. -/
import Derived.Test.YtieaamlpadlfeaaGreatDoorTc11
namespace Go.Proofs.YtieaamlpadlfeaaGreatDoor
open Go Go.MapKept Go.RowKit Go.Proofs

attribute [local go_sem] Oper.semAt_some
attribute [local go_sem] ba_app

set_option maxRecDepth 100000 in
set_option maxHeartbeats 8000000 in
theorem rwritten_any {F : Heaplet} {w : World} {fv : Value} (s : Sat w F) (x : StepM) (hft : FtAt F fv x.fates) (hk : 1 ≤ x.kind ∧ x.kind ≤ 10) (hc : I64 x.client) (hn : I64 x.n) (hfs : (∀ f ∈ x.fates, I64 f) ∧ x.fates.length ≤ 10000) (hxk : I64 x.call.kind) (hxp : I64 x.call.page) (hxs : I64 x.call.slot) (hd : x.call.data.length ≤ 100000) :
    Calls Tryz.prog 15 #[stepV x fv] w (Ret (kL (wrR x)) (fun W => Sat W F)) := by
  obtain ⟨k0, c, u, n, fs, ⟨ck, cp, cs, d⟩⟩ := x
  simp only at hft hk hc hn hfs hxk hxp hxs hd
  obtain ⟨k, rfl⟩ : ∃ k : Nat, k0 = (k : Int) := ⟨k0.toNat, by omega⟩
  obtain ⟨fa, fc, rfl, hfu⟩ := hft
  have s1 := (s.new (stepO k c u n (.slice fa fs.length fc) ck cp cs d)).new (.cells #[kL [], kL [99, 108, 105, 101, 110, 116], kL [109, 111, 118, 101], kL [100, 114, 111, 112], kL [116, 119, 105, 99, 101], kL [116, 105, 99, 107], kL [99, 114, 97, 115, 104], kL [115, 116, 97, 114, 116], kL [110, 111, 116, 105, 99, 101], kL [99, 104, 101, 99, 107], kL [99, 97, 108, 109]] 9)
  rw [World.size_alloc] at s1
  obtain ⟨A, hA⟩ : ∃ A, w.heap.size = A := ⟨_, rfl⟩
  rw [hA] at s1
  have k1 : (1 : Int) ≤ (k : Int) := hk.1
  have k2 : (k : Int) ≤ 10 := hk.2
  have k3 : (0 : Int) ≤ (k : Int) := by omega
  have k11 : (k : Int) < 11 := by omega
  have K1 := Lib.hid (show 1 ≤ k ∧ k ≤ 10 by omega)
  obtain ⟨nm, hnm⟩ : ∃ nm, nameOf stepNames k = nm := ⟨_, rfl⟩
  obtain ⟨W2, hW2⟩ : ∃ W2, (w.alloc (stepO k c u n (.slice fa fs.length fc) ck cp cs d)).alloc (.cells #[kL [], kL [99, 108, 105, 101, 110, 116], kL [109, 111, 118, 101], kL [100, 114, 111, 112], kL [116, 119, 105, 99, 101], kL [116, 105, 99, 107], kL [99, 114, 97, 115, 104], kL [115, 116, 97, 114, 116], kL [110, 111, 116, 105, 99, 101], kL [99, 104, 101, 99, 107], kL [99, 97, 108, 109]] 9) = W2 := ⟨_, rfl⟩
  have cw : W2.cell? ⟨A + 1, k, none⟩ = some (kL nm) := by
    rw [← hW2, cell_of s1.h0, ← hnm]
    exact names_k K1.out.1 K1.out.2
  obtain ⟨G, hG⟩ : ∃ G, HItem.blk (A + 1) (.cells #[kL [], kL [99, 108, 105, 101, 110, 116], kL [109, 111, 118, 101], kL [100, 114, 111, 112], kL [116, 119, 105, 99, 101], kL [116, 105, 99, 107], kL [99, 114, 97, 115, 104], kL [115, 116, 97, 114, 116], kL [110, 111, 116, 105, 99, 101], kL [99, 104, 101, 99, 107], kL [99, 97, 108, 109]] 9) :: .blk A (stepO k c u n (.slice fa fs.length fc) ck cp cs d) :: F = G := ⟨_, rfl⟩
  have HX : Hid (∀ W, Sat W G → W.cell? ⟨A, 0, none⟩ = some (kI k) ∧ W.cell? ⟨A, 1, none⟩ = some (kI c) ∧ W.cell? ⟨A, 2, none⟩ = some (.bool u) ∧ W.cell? ⟨A, 3, none⟩ = some (kI n) ∧ W.cell? ⟨A, 4, none⟩ = some (.slice fa fs.length fc) ∧ W.cell? ⟨A, 5, none⟩ = some (kI ck) ∧ W.cell? ⟨A, 6, none⟩ = some (kI cp) ∧ W.cell? ⟨A, 7, none⟩ = some (kI cs) ∧ W.cell? ⟨A, 8, none⟩ = some (kL d)) := Lib.hid (fun W hW => by
    rw [← hG] at hW
    exact nine_of hW.tail)
  have HGF : Hid (∀ W, Sat W G → Sat W F) := Lib.hid (fun W hW => by rw [← hG] at hW; exact hW.tail.tail)
  have HFU : Hid (∀ i f, fs[i]? = some f → ∃ g off, fa = some ⟨g, off, none⟩ ∧ ∀ w, Sat w G → w.cell? ⟨g, off + i, none⟩ = some (kI f)) := Lib.hid (fun i f hf => by
    obtain ⟨g, off, e, hw⟩ := hfu i f hf
    exact ⟨g, off, e, fun W hW => hw W (HGF.out W hW)⟩)
  have HIT : Hid (∀ m W, I64 m → Sat W G → Calls Tryz.prog 34 #[.int .i64 m] W (Ret (kL (Lib.itoa m)) (fun W => Sat W G))) := Lib.hid (fun m W hm hW => rNumber_at hW m hm)
  have S2 := Lib.hid (show Sat W2 G by rw [← hW2, ← hG]; exact s1)
  have HC := Lib.hid hc
  have HN := Lib.hid hn
  have HFS := Lib.hid hfs
  have HCP := Lib.hid (And.intro hxk (And.intro hxp (And.intro hxs hd)))
  have HNM := Lib.hid hnm
  have HWR := Lib.hid (show ∀ r, wrR ⟨(k : Int), c, u, n, fs, ⟨ck, cp, cs, d⟩⟩ = r → wrR ⟨(k : Int), c, u, n, fs, ⟨ck, cp, cs, d⟩⟩ = r from fun _ h => h)
  obtain ⟨WR, hWR⟩ : ∃ WR, wrR ⟨(k : Int), c, u, n, fs, ⟨ck, cp, cs, d⟩⟩ = WR := ⟨_, rfl⟩
  have HWE := Lib.hid hWR
  rw [hWR]
  obtain ⟨q, hq⟩ : ∃ q, decide (1 < k ∧ k < 5) = q := ⟨_, rfl⟩
  have HQ := Lib.hid hq
  obtain ⟨r1, hr1⟩ : ∃ r1, (q && u) = r1 := ⟨_, rfl⟩
  obtain ⟨r2, hr2⟩ : ∃ r2, (q && !u) = r2 := ⟨_, rfl⟩
  have HR := Lib.hid (And.intro hr1 hr2)
  have hl1 : (nm.length : Int) ≤ 8388608 := by
    have := name_len k
    rw [hnm] at this
    omega
  have HL1 := Lib.hid hl1
  obtain ⟨x0, x1, x2, x3, x4, x5, x6, x7, x8⟩ := HX.out _ S2.out
  clear s s1 hk hc hn hfs hxk hxp hxs hd hG hfu hnm hWR hq HWR hr1 hr2
  go_enter Tryz.func15, Tryz.ntmps15
  go_upto_region 2 with (fail)
  clear hW2 hA cw
  have hkn : k = 1 ∨ (1 < k ∧ k < 5) ∨ 5 ≤ k := by have := K1.out; omega
  have HKN := Lib.hid hkn
  clear hkn
  go_cut [23] (fun v wx => v = .bool r1 ∧ wx = W2)
  case first =>
    rcases HKN.out with h1 | ⟨h1, h2⟩ | h1
    · obtain rfl : q = false := by rw [← HQ.out]; exact decide_eq_false (by omega)
      have m1 : ((1 : Int) < (k : Int)) = False := eq_false (by omega)
      have m2 : (1 < k) = False := eq_false (by omega)
      clear h1
      go_wp2_with fail
      go_meet
      exact ⟨by rw [← HR.out.1]; rfl, rfl⟩
    · obtain rfl : q = true := by rw [← HQ.out]; exact decide_eq_true (by omega)
      have m1 : ((1 : Int) < (k : Int)) := by omega
      have m2 : ((k : Int) < 5) := by omega
      go_wp2_with fail
      go_meet
      exact ⟨by rw [← HR.out.1]; rfl, rfl⟩
    · obtain rfl : q = false := by rw [← HQ.out]; exact decide_eq_false (by omega)
      have m1 : ((1 : Int) < (k : Int)) := by omega
      have m2 : ((k : Int) < 5) = False := eq_false (by omega)
      clear h1
      go_wp2_with fail
      go_meet
      exact ⟨by rw [← HR.out.1]; rfl, rfl⟩
  case rest =>
    obtain ⟨rfl, hww⟩ := hcut
    cases hww
    go_upto_if 23 with (fail)
    go_cut [3] (fun v wx => v = kL (nm ++ if r1 = true then [32, 117, 112] else []) ∧ wx = W2)
    case first =>
      have hl1 := HL1.out
      cases r1 with
      | false =>
        go_wp2_with fail
        go_meet
        exact ⟨by simp, rfl⟩
      | true =>
        go_wp2_with fail
        go_meet
        exact ⟨rfl, rfl⟩
    case rest =>
      obtain ⟨rfl, hww⟩ := hcut
      cases hww
      generalize hT1 : (nm ++ if r1 = true then [32, 117, 112] else []) = T1 at *
      go_upto_region 4 with (fail)
      go_cut [38] (fun v wx => v = .bool r2 ∧ wx = W2)
      case first =>
        rcases HKN.out with h1 | ⟨h1, h2⟩ | h1
        · obtain rfl : q = false := by rw [← HQ.out]; exact decide_eq_false (by omega)
          have m1 : ((1 : Int) < (k : Int)) = False := eq_false (by omega)
          have m2 : (1 < k) = False := eq_false (by omega)
          clear h1
          go_wp2_with fail
          go_meet
          exact ⟨by rw [← HR.out.2]; rfl, rfl⟩
        · obtain rfl : q = true := by rw [← HQ.out]; exact decide_eq_true (by omega)
          have m1 : ((1 : Int) < (k : Int)) := by omega
          have m2 : ((k : Int) < 5) := by omega
          go_wp2_with fail
          go_meet
          exact ⟨by rw [← HR.out.2]; rfl, rfl⟩
        · obtain rfl : q = false := by rw [← HQ.out]; exact decide_eq_false (by omega)
          have m1 : ((1 : Int) < (k : Int)) := by omega
          have m2 : ((k : Int) < 5) = False := eq_false (by omega)
          clear h1
          go_wp2_with fail
          go_meet
          exact ⟨by rw [← HR.out.2]; rfl, rfl⟩
      case rest =>
        obtain ⟨rfl, hww⟩ := hcut
        cases hww
        have HT1 := Lib.hid hT1
        go_upto_if 38 with (fail)
        go_cut [3] (fun v wx => v = kL (headR k u) ∧ wx = W2)
        case first =>
          have hl1 : (T1.length : Int) ≤ 8388608 := by rw [← hT1]; have := HL1.out; have := name_len k; rw [HNM.out] at this; split <;> simp <;> omega
          have hh : headR k u = T1 ++ if r2 = true then [32, 100, 111, 119, 110] else [] := by
            rw [← hT1, ← HR.out.1, ← HR.out.2, ← HQ.out, ← HNM.out]
            unfold headR
            cases u <;> (by_cases h : 1 < k ∧ k < 5 <;> simp [h, wayW, upW, downW])
          have HH := Lib.hid hh
          clear hT1 hh
          cases r2 with
          | false =>
            go_wp2_with fail
            go_meet
            exact ⟨by rw [HH.out]; simp, rfl⟩
          | true =>
            go_wp2_with fail
            go_meet
            exact ⟨by rw [HH.out]; rfl, rfl⟩
        case rest =>
          obtain ⟨rfl, hww⟩ := hcut
          cases hww
          clear HT1 HR HNM HL1 HQ hT1
          have hlh := headR_len k u
          by_cases h8 : 8 < k
          · have e : WR = headR k u := by rw [← HWE.out]; exact wrR_bare h8 _ _ _ _ _
            have m8 : (8 : Int) < (k : Int) := by omega
            clear h8 hlh
            go_wp2_with fail
            go_ret
            exact ⟨by rw [e]; rfl, HGF.out _ S2.out⟩
          have m8 : ((8 : Int) < (k : Int)) = False := eq_false (by omega)
          have m8' : (8 < k) = False := eq_false h8
          obtain ⟨T, hT⟩ : ∃ T, headR k u = T := ⟨_, rfl⟩
          obtain ⟨C, hC⟩ : ∃ C, Lib.itoa c = C := ⟨_, rfl⟩
          have hlc := itoa_len HC.out
          rw [hT] at hlh
          rw [hC] at hlc
          have HT := Lib.hid hT
          have HCC := Lib.hid hC
          have HNC := Lib.hid (HIT.out c W2 HC.out S2.out)
          rw [hT]
          rw [hC] at HNC
          have l1 : (T.length : Int) ≤ 8388608 := by omega
          have l2 : (C.length : Int) ≤ 8388608 := by omega
          have l3 : (T.length : Int) + 1 ≤ 8388608 := by omega
          have HLN := Lib.hid (And.intro hlh hlc)
          clear hT hC hlh hlc
          go_upto_region 9 with (go_at_call 34; refine (HNC.out).mono ?_; rintro e w3 ⟨rfl, h3⟩; have S3 := Lib.hid h3; clear h3)
          clear x0 x1 x2 x3 x4 x5 x6 x7 x8 l1 l2 l3 HNC
          obtain ⟨x0, x1, x2, x3, x4, x5, x6, x7, x8⟩ := HX.out _ S3.out
          generalize hT2 : T ++ 32 :: C = T2 at *
          have HT2 := Lib.hid hT2
          have lT2 : T2.length ≤ 60 := by rw [← hT2]; have := HLN.out; simp only [List.length_append, List.length_cons]; omega
          have LT2 := Lib.hid lT2
          clear hT2 lT2 S2
          by_cases h1 : k = 1
          · have m1 : ((k : Int) == 1) = true := by rw [h1]; rfl
            have e : WR = if ck < 1 ∨ 9 < ck then [] else T2 ++ (32 :: nameOf callNames ck.toNat) ++ fillW (formR ck.toNat) ⟨ck, cp, cs, d⟩ := by
              have h := HWE.out
              rw [h1, wrR_call] at h
              rw [← h, ← HT2.out, ← HT.out, ← HCC.out, h1]
            have HE := Lib.hid e
            clear e h1 h8 m8 m8'
            by_cases hck : ck < 1 ∨ 9 < ck
            · have e : WR = [] := by rw [HE.out, if_pos hck]
              have HE2 := Lib.hid e
              clear e HE
              rcases hck with h | h
              · go_wp2_with fail
                go_ret
                exact ⟨by rw [HE2.out]; rfl, HGF.out _ S3.out⟩
              · have m2 : (ck < 1) = False := eq_false (by omega)
                go_wp2_with fail
                go_ret
                exact ⟨by rw [HE2.out]; rfl, HGF.out _ S3.out⟩
            obtain ⟨j, rfl⟩ : ∃ j : Nat, ck = (j : Int) := ⟨ck.toNat, by omega⟩
            have hj : 1 ≤ j ∧ j ≤ 9 := by omega
            have e : WR = (T2 ++ 32 :: nameOf callNames j) ++ fillW (formR j) ⟨(j : Int), cp, cs, d⟩ := by rw [HE.out, if_neg hck]; rfl
            have HE2 := Lib.hid e
            have hcl := cname_len j
            obtain ⟨cn, hcn⟩ : ∃ cn, nameOf callNames j = cn := ⟨_, rfl⟩
            have HLK : Hid (∀ v h W, WOwn v ([] :: callNames) h → Sat W (h ++ G) → ∃ g off cap, v = .slice (some ⟨g, off, none⟩) 10 cap ∧ W.cell? ⟨g, off + j, none⟩ = some (kL cn)) := Lib.hid (fun v h W hv hW => by
              obtain ⟨a', c', e, _, hu⟩ := hv.ws
              obtain ⟨g, off, e2, hw⟩ := hu j _ (cnames_k hj.1 hj.2)
              rw [hcn] at hw
              exact ⟨g, off, c', by rw [e, e2]; rfl, hw W hW.lft⟩)
            rw [hcn] at HE2 hcl
            have HCA := Lib.hid (rcalls_any S3.out.drew)
            have j1 : (1 : Int) ≤ (j : Int) := by omega
            have j2 : (j : Int) ≤ 9 := by omega
            have j3 : (0 : Int) ≤ (j : Int) := by omega
            have j4 : (j : Int) < 10 := by omega
            have m2 : ((j : Int) < 1) = False := eq_false (by omega)
            have m3 : ((9 : Int) < (j : Int)) = False := eq_false (by omega)
            have m4 : (9 < j) = False := eq_false (by omega)
            have l1 : (T2.length : Int) ≤ 8388608 := by have := LT2.out; omega
            have l2 : (cn.length : Int) ≤ 8388608 := by omega
            have l3 : (T2.length : Int) + 1 ≤ 8388608 := by have := LT2.out; omega
            have l4 : (9223372036854775807 < T2.length + 1) = False := eq_false (by have := LT2.out; omega)
            have l5 : (9223372036854775807 < T2.length + (cn.length + 1)) = False := eq_false (by have := LT2.out; omega)
            have l6 : (9223372036854775807 < T2.length + 1 + cn.length) = False := eq_false (by have := LT2.out; omega)
            have HFO : Hid (∀ W K, Sat W K → Calls Tryz.prog 36 #[.int .i64 (j : Int)] W (Ret (kL (formR j)) (fun W => Sat W K))) := Lib.hid (fun W K hW => rform_any hW j hj.2)
            have HJ := Lib.hid (And.intro hj hcl)
            have y5 := (HX.out _ S3.out.drew).2.2.2.2.2.1
            clear e HE hck hcn hj hcl
            go_upto_region 12 with (fail)
            go_cut [3] (fun v wx => v = kL (T2 ++ 32 :: cn) ∧ ∃ h, Sat wx (h ++ G))
            case first =>
              go_region_law (((try go_simp); go_at_call 35; refine (HCA.out).mono ?_; rintro e w4 ⟨v4, h4, rfl, hv4, hs4⟩; obtain ⟨g4, o4, c4, rfl, cj4⟩ := HLK.out _ _ _ hv4 hs4; have S4 := Lib.hid hs4; have z5 := (HX.out _ hs4.right).2.2.2.2.2.1; clear hv4 hs4))
              all_goals
                go_wp2_with fail
                go_meet
                exact ⟨rfl, _, S4.out⟩
            case rest =>
              obtain ⟨rfl, h4, hs4⟩ := hcut
              obtain ⟨K, hK⟩ : ∃ K, h4 ++ G = K := ⟨_, rfl⟩
              have HKG : Hid (∀ W, Sat W K → Sat W G) := Lib.hid (fun W hW => by rw [← hK] at hW; exact hW.right)
              rw [hK] at hs4
              have S4 := Lib.hid hs4
              have HIT2 : Hid (∀ m W, I64 m → Sat W K → Calls Tryz.prog 34 #[.int .i64 m] W (Ret (kL (Lib.itoa m)) (fun W => Sat W K))) := Lib.hid (fun m W hm hW => rNumber_at hW m hm)
              have HWD : Hid (∀ W, Sat W K → Calls Tryz.prog 9 #[kL d] W (Ret (kL (wordL d)) (fun W => Sat W K))) := Lib.hid (fun W hW => refWord_any hW d (by have := HCP.out; omega))
              have HFM := Lib.hid (HFO.out _ _ hs4)
              have hfb := form_bytes j
              have hfl := form_len j
              clear x0 x1 x2 x3 x4 x5 x6 x7 x8 hK hs4 S3 HCA HFO HLK l1 l2 l3 l4 l5 l6 y5
              obtain ⟨x0, x1, x2, x3, x4, x5, x6, x7, x8⟩ := HX.out _ (HKG.out _ S4.out)
              generalize formR j = fm at *
              have l9 : (T2 ++ 32 :: cn).length ≤ 1000 := by have := LT2.out; have := HJ.out; simp only [List.length_append, List.length_cons]; omega
              generalize T2 ++ 32 :: cn = T3 at *
              have HFB := Lib.hid (And.intro hfb (And.intro hfl l9))
              clear hfb hfl l9
              go_upto_block 0 with (go_at_call 36; refine (HFM.out).mono ?_; rintro e w5 ⟨rfl, h5⟩; have S5 := Lib.hid h5; clear h5)
              clear x0 x1 x2 x3 x4 x5 x6 x7 x8 HFM S4
              go_wp2_with fail
              go_loopw [3, 5] (fun v3 v5 wr => ∃ (i : Nat) (V : Bs), i ≤ fm.length ∧ v5 = .int .i64 (i : Int) ∧ v3 = kL V ∧ V ++ fillW (fm.drop i) ⟨(j : Int), cp, cs, d⟩ = WR ∧ V.length ≤ 1000 + i * 400000 ∧ Sat wr K) (fun _ v5 _ => 100 - (RowKit.intOf v5).toNat)
              case atStart => exact ⟨0, T3, by omega, rfl, rfl, HE2.out.symm, by have := HFB.out; omega, S5.out⟩
              case round =>
                clear S5
                obtain ⟨i, V, hi, rfl, rfl, hV, hl, hs⟩ := hrel
                have HS := Lib.hid hs
                have i0 : (0 : Int) ≤ (i : Int) := by omega
                have fl9 : (fm.length : Int) ≤ 3 := by have := HFB.out; omega
                by_cases hil : i < fm.length
                · have i1 : (i : Int) < (fm.length : Int) := by omega
                  have i9 : i < 100 := by omega
                  obtain ⟨b, hb⟩ : ∃ b, fm[i]? = some b := ⟨_, List.getElem?_eq_getElem hil⟩
                  have hgt : ∀ (h : i < (⟨fm.toArray⟩ : ByteArray).size), (⟨fm.toArray⟩ : ByteArray)[i]'h = b := fun h => by
                    rw [List.getElem?_eq_getElem hil] at hb
                    cases hb
                    rfl
                  rw [fill_at _ hb, ← List.append_assoc] at hV
                  have hbb := HFB.out.1 b (List.mem_of_getElem? hb)
                  have HI := Lib.hid (And.intro hil hl)
                  have l1 : (V.length : Int) ≤ 8388608 := by
                    have h3 : i ≤ 3 := by omega
                    omega
                  have l3 : (V.length : Int) + 1 ≤ 8388608 := by
                    have h3 : i ≤ 3 := by omega
                    omega
                  obtain ⟨x0, x1, x2, x3, x4, x5, x6, x7, x8⟩ := HX.out _ (HKG.out _ hs)
                  rcases hbb with rfl | rfl | rfl
                  · rw [if_pos rfl] at hV
                    have hlr : (Lib.itoa cp).length ≤ 300010 := by
                      have := itoa_len HCP.out.2.1
                      omega
                    have l2 : ((Lib.itoa cp).length : Int) ≤ 8388608 := by omega
                    have FIN := Lib.hid (And.intro hV (show (V ++ 32 :: Lib.itoa cp).length ≤ 1000 + (i + 1) * 400000 by simp only [List.length_append, List.length_cons]; omega))
                    clear hi hil hb hs hV hl hlr
                    go_wp2_with (go_at_call 34; refine (HIT2.out cp _ HCP.out.2.1 HS.out).mono ?_; rintro e w6 ⟨rfl, h6⟩; have S6 := Lib.hid h6; clear h6)
                    exact ⟨⟨i + 1, _, HI.out.1, by simp, rfl, FIN.out.1, FIN.out.2, S6.out⟩, by simp only [RowKit.intOf]; omega⟩
                  · rw [if_neg (by decide), if_pos rfl] at hV
                    have hlr : (Lib.itoa cs).length ≤ 300010 := by
                      have := itoa_len HCP.out.2.2.1
                      omega
                    have l2 : ((Lib.itoa cs).length : Int) ≤ 8388608 := by omega
                    have FIN := Lib.hid (And.intro hV (show (V ++ 32 :: Lib.itoa cs).length ≤ 1000 + (i + 1) * 400000 by simp only [List.length_append, List.length_cons]; omega))
                    clear hi hil hb hs hV hl hlr
                    go_wp2_with (go_at_call 34; refine (HIT2.out cs _ HCP.out.2.2.1 HS.out).mono ?_; rintro e w6 ⟨rfl, h6⟩; have S6 := Lib.hid h6; clear h6)
                    exact ⟨⟨i + 1, _, HI.out.1, by simp, rfl, FIN.out.1, FIN.out.2, S6.out⟩, by simp only [RowKit.intOf]; omega⟩
                  · rw [if_neg (by decide), if_neg (by decide)] at hV
                    have hlr : (wordL d).length ≤ 300010 := by
                      have := wordL_len d
                      have := HCP.out.2.2.2
                      omega
                    have l2 : ((wordL d).length : Int) ≤ 8388608 := by omega
                    have FIN := Lib.hid (And.intro hV (show (V ++ 32 :: wordL d).length ≤ 1000 + (i + 1) * 400000 by simp only [List.length_append, List.length_cons]; omega))
                    clear hi hil hb hs hV hl hlr
                    go_wp2_with (go_at_call 9; refine (HWD.out _ HS.out).mono ?_; rintro e w6 ⟨rfl, h6⟩; have S6 := Lib.hid h6; clear h6)
                    exact ⟨⟨i + 1, _, HI.out.1, by simp, rfl, FIN.out.1, FIN.out.2, S6.out⟩, by simp only [RowKit.intOf]; omega⟩
                · obtain rfl : i = fm.length := by omega
                  rw [List.drop_length] at hV
                  have e : V = WR := by rw [← hV]; exact (List.append_nil V).symm
                  have HE3 := Lib.hid e
                  clear hi hil hs hV hl e
                  go_wp2_with fail
                  go_ret
                  exact ⟨by rw [← HE3.out]; rfl, HGF.out _ (HKG.out _ HS.out)⟩
          have m1 : ((k : Int) == 1) = false := by rw [beq_eq_false_iff_ne]; omega
          have e : WR = T2 ++ (if k ≠ 5 ∧ k ≠ 8 then (32 : UInt8) :: Lib.itoa n else []) ++ (fs.map fun f => (32 : UInt8) :: Lib.itoa f).flatten := by
            rw [← HWE.out, wrR_other (by have := K1.out; omega) (by omega), ← HT2.out, ← HT.out, ← HCC.out]
          have HE := Lib.hid e
          obtain ⟨r3, hr3⟩ : ∃ r3, decide (k ≠ 5 ∧ k ≠ 8) = r3 := ⟨_, rfl⟩
          have H3 := Lib.hid hr3
          clear e hr3 h1 h8
          have h58 : k = 5 ∨ k = 8 ∨ (k ≠ 5 ∧ k ≠ 8) := by omega
          have H58 := Lib.hid h58
          clear h58
          go_upto_region 24 with (fail)
          go_cut [124] (fun v wx => v = .bool r3 ∧ wx = w3)
          case first =>
            rcases H58.out with h | h | ⟨h, h'⟩
            · obtain rfl : r3 = false := by rw [← H3.out]; exact decide_eq_false (by omega)
              have n1 : ((k : Int) == 5) = true := by rw [h]; rfl
              have n2 : ((k : Int) != 5) = false := by rw [h]; rfl
              clear h
              go_wp2_with fail
              go_meet
              exact ⟨rfl, rfl⟩
            · obtain rfl : r3 = false := by rw [← H3.out]; exact decide_eq_false (by omega)
              have n1 : ((k : Int) == 5) = false := by rw [h]; rfl
              have n2 : ((k : Int) != 5) = true := by rw [h]; rfl
              have n3 : ((k : Int) == 8) = true := by rw [h]; rfl
              have n4 : ((k : Int) != 8) = false := by rw [h]; rfl
              clear h
              go_wp2_with fail
              go_meet
              exact ⟨rfl, rfl⟩
            · obtain rfl : r3 = true := by rw [← H3.out]; exact decide_eq_true ⟨h, h'⟩
              have n1 : ((k : Int) == 5) = false := by rw [beq_eq_false_iff_ne]; omega
              have n2 : ((k : Int) != 5) = true := by rw [bne_iff_ne]; omega
              have n3 : ((k : Int) == 8) = false := by rw [beq_eq_false_iff_ne]; omega
              have n4 : ((k : Int) != 8) = true := by rw [bne_iff_ne]; omega
              clear h h'
              go_wp2_with fail
              go_meet
              exact ⟨rfl, rfl⟩
          case rest =>
            obtain ⟨rfl, hww⟩ := hcut
            cases hww
            go_upto_if 124 with (fail)
            go_cut [3] (fun v wx => v = kL (T2 ++ if k ≠ 5 ∧ k ≠ 8 then (32 : UInt8) :: Lib.itoa n else []) ∧ Sat wx G)
            case first =>
              have lT2 := LT2.out
              have lnn := itoa_len HN.out
              have l1 : (T2.length : Int) ≤ 8388608 := by omega
              have l2 : ((Lib.itoa n).length : Int) ≤ 8388608 := by omega
              have l3 : (T2.length : Int) + 1 ≤ 8388608 := by omega
              have HNC := Lib.hid (HIT.out n w3 HN.out S3.out)
              clear lT2 lnn
              cases r3 with
              | false =>
                have h9 := of_decide_eq_false H3.out
                have e : (T2 ++ if k ≠ 5 ∧ k ≠ 8 then (32 : UInt8) :: Lib.itoa n else []) = T2 := by rw [if_neg h9, List.append_nil]
                have HE4 := Lib.hid e
                clear e h9
                go_wp2_with fail
                go_meet
                exact ⟨by rw [HE4.out], S3.out⟩
              | true =>
                have h9 := of_decide_eq_true H3.out
                have e : (T2 ++ if k ≠ 5 ∧ k ≠ 8 then (32 : UInt8) :: Lib.itoa n else []) = T2 ++ (32 : UInt8) :: Lib.itoa n := by rw [if_pos h9]
                have HE4 := Lib.hid e
                clear e h9
                go_wp2_with (go_at_call 34; refine (HNC.out).mono ?_; rintro e w4 ⟨rfl, h4⟩; have S4 := Lib.hid h4; clear h4)
                go_meet
                exact ⟨by rw [HE4.out], S4.out⟩
            case rest =>
              obtain ⟨rfl, hs4⟩ := hcut
              have S4 := Lib.hid hs4
              have lT4 : (T2 ++ if k ≠ 5 ∧ k ≠ 8 then (32 : UInt8) :: Lib.itoa n else []).length ≤ 100 := by
                have := LT2.out
                have := itoa_len HN.out
                split <;> simp only [List.length_append, List.length_cons, List.length_nil] <;> omega
              have HL4 := Lib.hid lT4
              generalize (T2 ++ if k ≠ 5 ∧ k ≠ 8 then (32 : UInt8) :: Lib.itoa n else []) = T4 at *
              clear hs4 lT4 x0 x1 x2 x3 x4 x5 x6 x7 x8 S3 H3 H58
              go_upto_block 2 with (fail)
              go_wp2_with fail
              go_loopw [3, 6] (fun v3 v6 wr => ∃ (i : Nat) (V : Bs), i ≤ fs.length ∧ v6 = .int .i64 (i : Int) ∧ v3 = kL V ∧ V ++ ((fs.drop i).map fun f => (32 : UInt8) :: Lib.itoa f).flatten = WR ∧ V.length ≤ 100 + i * 22 ∧ Sat wr G) (fun _ v6 _ => 100000 - (RowKit.intOf v6).toNat)
              case atStart => exact ⟨0, T4, by omega, rfl, rfl, HE.out.symm, by have := HL4.out; omega, S4.out⟩
              case round =>
                clear S4
                obtain ⟨i, V, hi, rfl, rfl, hV, hl, hs⟩ := hrel
                have HS := Lib.hid hs
                have i0 : (0 : Int) ≤ (i : Int) := by omega
                have fl9 : (fs.length : Int) ≤ 10000 := by have := HFS.out.2; omega
                obtain ⟨x0, x1, x2, x3, x4, x5, x6, x7, x8⟩ := HX.out _ hs
                by_cases hil : i < fs.length
                · have i1 : (i : Int) < (fs.length : Int) := by omega
                  have i9 : i < 100000 := by omega
                  obtain ⟨f, hf⟩ : ∃ f, fs[i]? = some f := ⟨_, List.getElem?_eq_getElem hil⟩
                  obtain ⟨gf, of, rfl, hcf⟩ := HFU.out i f hf
                  have xf := hcf _ hs
                  have h64 := HFS.out.1 f (List.mem_of_getElem? hf)
                  have HNC := Lib.hid (HIT.out f _ h64 hs)
                  have hlr := itoa_len h64
                  have hdr : ((fs.drop i).map fun f => (32 : UInt8) :: Lib.itoa f).flatten = (32 :: Lib.itoa f) ++ ((fs.drop (i + 1)).map fun f => (32 : UInt8) :: Lib.itoa f).flatten := by
                    obtain ⟨h9, rfl⟩ := List.getElem?_eq_some_iff.1 hf
                    rw [List.drop_eq_getElem_cons h9]
                    rfl
                  rw [hdr, ← List.append_assoc] at hV
                  have l1 : (V.length : Int) ≤ 8388608 := by omega
                  have l2 : ((Lib.itoa f).length : Int) ≤ 8388608 := by omega
                  have l3 : (V.length : Int) + 1 ≤ 8388608 := by omega
                  have FIN := Lib.hid (And.intro hV (And.intro (show (V ++ 32 :: Lib.itoa f).length ≤ 100 + (i + 1) * 22 by simp only [List.length_append, List.length_cons]; omega) hil))
                  clear hi hil hf hs hV hl hlr h64 hcf hdr
                  go_wp2_with (go_at_call 34; refine (HNC.out).mono ?_; rintro e w6 ⟨rfl, h6⟩; have S6 := Lib.hid h6; clear h6)
                  exact ⟨⟨i + 1, _, FIN.out.2.2, by simp, rfl, FIN.out.1, FIN.out.2.1, S6.out⟩, by simp only [RowKit.intOf]; omega⟩
                · obtain rfl : i = fs.length := by omega
                  rw [List.drop_length] at hV
                  have e : V = WR := by rw [← hV]; exact (List.append_nil V).symm
                  have HE3 := Lib.hid e
                  clear hi hil hs hV hl e
                  go_wp2_with fail
                  go_ret
                  exact ⟨by rw [← HE3.out]; rfl, HGF.out _ HS.out⟩
end Go.Proofs.YtieaamlpadlfeaaGreatDoor
