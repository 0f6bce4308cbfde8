/- MendAgain walked: a recovery that is cut off is gone on with. Conditions: none. -/
import Derived.Test.YtficgjklagnbjaaGreatMp15
namespace Go.Proofs.YtficgjklagnbjaaGreat
open Go Go.MapKept Go.RowKit Go.Proofs Go.Shelf

attribute [local go_sem] Oper.semAt_some

/-- Two rows of entries behind one another, in a slice of one's own. -/
theorem two_app {E1 E2 : List En} {a1 a2 : Option Addr} {c1 c2 g : Nat} {Z : Heaplet} {W : World} (h1 : EnsIn Z (.slice a1 E1.length c1) E1) (h2 : EnsIn Z (.slice a2 E2.length c2) E2) (s : Sat W (.blk g (.cells #[] 58) :: Z)) (hl : E1.length + E2.length ≤ 100000) :
    ∃ b1 d1 W1 b2 d2 W2 k2, (∀ ty, (Builtin.append_ #[29, 29] ty #[.slice (some ⟨g, 0, none⟩) 0 0, .slice a1 E1.length c1]).run Tryz.prog W = .ok (.slice b1 E1.length d1) W1) ∧
      (∀ ty, (Builtin.append_ #[29, 29] ty #[.slice b1 E1.length d1, .slice a2 E2.length c2]).run Tryz.prog W1 = .ok (.slice b2 (E1.length + E2.length) d2) W2) ∧ EnSl (.slice b2 (E1.length + E2.length) d2) (E1 ++ E2) k2 ∧ Sat W2 (k2 ++ Z) := by
  obtain ⟨b1, d1, W1, k1, e1, e2, e3⟩ := en_app (R := []) (R2 := E1) (c := c1) (h := [.blk g (.cells #[] 58)]) (sl_new 58 13 g) s (src_of h1 s.tail) (by simp; omega)
  rw [List.nil_append] at e2
  simp only [List.length_nil, Nat.zero_add] at e1 e2
  obtain ⟨b2, d2, W2, k2, f1, f2, f3⟩ := en_app (R := E1) (R2 := E2) (c := c2) e2 e3 (src_of h2 e3.right) (by omega)
  exact ⟨b1, d1, W1, b2, d2, W2, k2, e1, f1, f2, f3⟩
set_option maxRecDepth 100000 in
set_option maxHeartbeats 4000000 in
theorem again_walk (a : Option Addr) (cap : Nat) (l : List Ac) (cut cut2 : Int) (V : Nat → Int) (Wi : World) (hv : AcIn (allOf Wi) (.slice a l.length cap) l) :
    Calls Tryz.prog 4 #[.slice a l.length cap, .agg #[kI cut, kI cut2], .agg #[kI (V 0), kI (V 1), kI (V 2), kI (V 3)]] Wi (Ret (.bool true) (RowKit.Below Wi.heap.size Wi)) := by
  have HS := Lib.hid (((sat_all Wi).new (.cells #[kI cut, kI cut2] 46)).new (v4O V))
  rw [World.size_alloc] at HS
  obtain ⟨F0, hF0⟩ : ∃ F0, HItem.blk (Wi.heap.size + 1) (v4O V) :: .blk Wi.heap.size (.cells #[kI cut, kI cut2] 46) :: allOf Wi = F0 := ⟨_, rfl⟩
  rw [hF0] at HS
  have HV := Lib.hid (show AcIn F0 (.slice a l.length cap) l by
    obtain ⟨a', cap', e, hc⟩ := hv
    refine ⟨a', cap', e, fun w hw => hc w ?_⟩
    rw [← hF0] at hw
    exact hw.tail.tail)
  have HB : Hid (∀ W, Sat W F0 → RowKit.Below Wi.heap.size Wi W) := Lib.hid (fun W hW => by rw [← hF0] at hW; exact hW.tail.tail.below)
  have HC : Hid (∀ W, Sat W F0 → W.heap[Wi.heap.size + 1]? = some (v4O V) ∧ W.heap[Wi.heap.size]? = some (.cells #[kI cut, kI cut2] 46)) := Lib.hid (fun W hW => by rw [← hF0] at hW; exact ⟨hW.h0, hW.h1⟩)
  have HJ := Lib.hid (lived_js l)
  clear hF0 hv
  obtain ⟨S, ok, hL⟩ : ∃ S ok, livedP l = (S, ok) := ⟨_, _, rfl⟩
  rw [hL] at HJ
  have HLV : Hid (∀ W, Sat W F0 → Calls Tryz.prog 10 #[.slice a l.length cap] W fun e w' => ∃ pb, e = .returned (.tuple #[.pointer (some ⟨pb, 0, none⟩), .bool ok]) ∧ PsIs pb S F0 w') := Lib.hid (fun W hW => by
    have := lived_call HV.out hW
    rw [hL] at this
    exact this)
  clear hL HV
  generalize l.length = n at *
  go_enter Tryz.func4, Tryz.ntmps4
  go_upto_region 1 with (fail)
  generalize (Wi.alloc (.cells #[kI cut, kI cut2] 46)).alloc (.cells #[kI (V 0), kI (V 1), kI (V 2), kI (V 3)] 23) = W1 at *
  go_upto_region 3 with (go_at_call 9; refine (awake_any F0 _ HS.out).mono ?_; rintro e w1 ⟨rfl, hs1⟩; have HS1 := Lib.hid hs1; clear hs1 HS)
  go_upto_region 4 with (go_at_call 10; refine (HLV.out _ HS1.out).mono ?_; rintro e w2 ⟨pb, rfl, hps⟩; have HPS := Lib.hid hps; clear hps HS1 HLV)
  cases ok with
  | false =>
    have HE := Lib.hid (HB.out _ HPS.out.frame)
    clear HPS HJ
    go_wp2_with fail
    go_ret
    exact ⟨rfl, HE.out⟩
  | true =>
    obtain ⟨j, hj, hjs⟩ := HJ.out
    obtain ⟨B, hB, hsB⟩ := psB_of HPS.out
    clear HPS HJ
    have hll := (hjs.len (c := 1)).1
    have hal := hjs.hist.len
    obtain ⟨la, lc, hlc, hEB, hCB⟩ : ∃ la lc, S.list.length ≤ lc ∧ EnsIn B (.slice la S.list.length lc) S.list ∧ ∀ W F, Sat W (B ++ F) → W.cell? ⟨pb, 0, none⟩ = some (.slice la S.list.length lc) := by
      obtain ⟨lv, nv, av, vs, hl, ha, H, h1, h2, h3, h5, e⟩ := hB
      obtain ⟨la, lc, rfl⟩ := sl_form h1
      refine ⟨la, lc, sl_cap h1, (ens_in h1 ([] : Heaplet)).mono (fun w hw => ?_), fun W F hW => ?_⟩
      · rw [e] at hw
        (refine Sat.part hw ?_; intro a; simp only [cnt_cons, cnt_append, cnt_nil]; omega)
      · rw [e] at hW
        rw [cell_of hW.h0]; rfl
    obtain ⟨n', hn'⟩ : ∃ n', S.list.length = n' := ⟨_, rfl⟩
    obtain ⟨M, hM⟩ : ∃ M : Int, (n' : Int) + 1 = M := ⟨_, rfl⟩
    have hMb : 1 ≤ M ∧ M ≤ 10000 := by omega
    have hm1 : wrap64 ((n' : Int) + 1) = M := by rw [hM, IntWalk.wrap64_in _ (by omega)]
    have hm2 : IntKind.i64.wrap ((n' : Int) + 1) = M := by rw [hM, IntWalk.i64_in _ (by omega)]
    have hm3 : IntKind.u64.wrap M = M := by rw [IntKind.wrap_u64]; omega
    have hm4 : (M == 0) = false := by rw [beq_eq_false_iff_ne]; omega
    have hm5 : (M = 0) = False := eq_false (by omega)
    obtain ⟨k, hk, hkn⟩ : ∃ k : Nat, umod cut M = (k : Int) ∧ k ≤ n' := by
      have := umod_bd cut M (by omega) (by omega)
      exact ⟨(umod cut M).toNat, by omega, by omega⟩
    have hx1 : wrap64 ((IntKind.u64.wrap cut).tmod M) = (k : Int) := hk
    have hx2 : IntKind.i64.wrap ((IntKind.u64.wrap cut).tmod M) = (k : Int) := (IntWalk.i64_left _).trans hk
    rw [hn'] at hEB hCB
    have HEB := Lib.hid hEB
    have HCB := Lib.hid hCB
    have HSB := Lib.hid hsB
    have HBB := Lib.hid hB
    have HJS := Lib.hid (And.intro hjs (And.intro hj (And.intro hn' (And.intro hkn hll))))
    have c0 := hCB _ _ hsB
    have c0' := hCB _ _ hsB.drew
    have x0 : w2.cell? ⟨Wi.heap.size, 0, none⟩ = some (kI cut) := by rw [cell_of (HC.out _ hsB.right).2]; rfl
    have x0' : w2.drew.cell? ⟨Wi.heap.size, 0, none⟩ = some (kI cut) := by rw [cell_of (HC.out _ hsB.drew.right).2]; rfl
    clear hEB hCB hsB hB hjs hj hn' hll hal hk hM hMb
    go_upto_region 6 with (fail)
    go_quiet (fail)
    go_upto_region 7 with (fail)
    have hs3 : Sat (w2.drewN nq) (B ++ F0) := HSB.out.grown (Grown.drewN w2 nq)
    clear c0 c0' x0 x0' HSB hx1 hx2 hm1 hm2 hm3 hm4 hm5
    generalize w2.drewN nq = W3 at *
    obtain ⟨Pk, hPk, hli⟩ := HJS.out.1.cut (k := k) (by have := HJS.out.2.2.1; omega)
    have hkn2 : k ≤ S.list.length := by have := HJS.out; omega
    have hlk : (S.list.take k).length = k := by rw [List.length_take]; omega
    have hk80 : k ≤ 80 := by have := HJS.out; omega
    have hs4 := hs3.new (.cells #[] 58)
    have hE4 : EnsIn (B ++ F0) (.slice la k lc) (S.list.take k) := (ens_take (F := B) (a := la) (n := n') (cap := lc) HEB.out k hkn2).mono (fun w hw => hw.left')
    obtain ⟨a5, c5, w5, h5, hap, hv5, hs5⟩ := en_app (R := []) (R2 := S.list.take k) (c := lc) (h := [.blk W3.heap.size (.cells #[] 58)]) (sl_new 58 13 W3.heap.size) hs4 (src_of hE4 hs4.tail) (by rw [hlk]; simp; omega)
    rw [List.nil_append] at hv5
    simp only [List.length_nil, Nat.zero_add, hlk] at hap hv5
    have HAP := Lib.hid hap
    have HS5 := Lib.hid (And.intro hv5 hs5)
    have HPL := Lib.hid (And.intro hPk (And.intro hli (And.intro hkn2 (And.intro hlk hk80))))
    have c0 : W3.cell? ⟨pb, 0, none⟩ = some (.slice la n' lc) := HCB.out _ _ hs3
    have c0' : (W3.alloc (.cells #[] 58)).cell? ⟨pb, 0, none⟩ = some (.slice la n' lc) := HCB.out _ (F0 ++ [.blk W3.heap.size (.cells #[] 58)]) (by (refine Sat.part hs4 ?_; intro a; simp only [cnt_cons, cnt_append, cnt_nil]; omega))
    have hk0 : (0 : Int) ≤ (k : Int) := by omega
    have hk1 : (k : Int) ≤ (lc : Int) := by have := HJS.out.2.2.1; omega
    have hk2 : k ≤ lc := by omega
    clear hs3 hs4 hE4 hap hv5 hs5 hPk hli hkn2 hlk hk80
    go_upto_region 8 with (at_builtin; refine wpList_append_run rfl _ _ _ _ rfl _ _ _ _ rfl rfl HAP.out ?_)
    clear c0 c0' HAP
    obtain ⟨hPk, hli, hkn2, hlk, hk80⟩ := HPL.out
    obtain ⟨add, Vs, hall, hrc, hholds, hends, _, hadd, _⟩ := hli.rest2 (by omega)
    have hs5 : Sat w5 (B ++ (F0 ++ h5)) := by (refine Sat.part HS5.out.2 ?_; intro a; simp only [cnt_append, List.append_eq]; omega)
    have hE5 : EnsIn (F0 ++ h5) (.slice a5 k c5) (S.list.take k) := by
      have := (ens_in (l := S.list.take k) (v := .slice a5 k c5) HS5.out.1 F0).mono (F' := F0 ++ h5) (fun w hw => by (refine Sat.part hw ?_; intro a; simp only [cnt_append]; omega))
      exact this
    have HMX : Hid (∀ W G, Sat W (B ++ G) → Calls Tryz.prog 12 #[.pointer (some ⟨pb, 0, none⟩), .int .i64 (k : Int), .agg #[kI (V 0), kI (V 1), kI (V 2), kI (V 3)]] W fun e w' => ∃ ma mc h', e = .returned (.slice ma 4 mc) ∧ LvAt (h' ++ B) (.slice ma 4 mc) (mixedP S k V) ∧ Sat w' (h' ++ (B ++ G))) := Lib.hid (fun W G hW => by
      refine (mixed_any HBB.out hW (k := k) (V := V) ?_ ?_ HJS.out.1.all4).mono ?_
      · rw [HJS.out.1.hist.len, HJS.out.2.2.1]; omega
      · rw [HJS.out.1.hist.len]; have := HJS.out; omega
      · rintro e w' ⟨v', h', rfl, hv', hs'⟩
        obtain ⟨ma, mc, e, _⟩ := id hv'
        rw [mixedP_len] at e
        subst e
        exact ⟨ma, mc, h', rfl, hv', hs'⟩)
    have HRS : Hid (∀ W ma mc h', LvAt (h' ++ B) (.slice ma 4 mc) (mixedP S k V) → Sat W (h' ++ (B ++ (F0 ++ h5))) → Calls Tryz.prog 11 #[.slice a5 k c5, .slice ma 4 mc] W (UnRet add (finP Pk Vs) 0 (h' ++ (B ++ (F0 ++ h5))))) := Lib.hid (fun W ma mc h' hv' hW =>
      restart_all (hE5.mono (fun w hw => hw.right.right)) (hv'.mono (fun w hw => (show Sat w ((h' ++ B) ++ (F0 ++ h5)) by rw [List.append_assoc]; exact hw).left')) hW (HJS.out.1.mix_pgs hkn2 (by omega) V) (HJS.out.1.mix_redo hkn2 (by omega) V hPk) hli (by omega) hall)
    have hx : ∀ W G, Sat W (B ++ (F0 ++ G)) → W.cell? ⟨Wi.heap.size + 1, 0, none⟩ = some (kI (V 0)) ∧ W.cell? ⟨Wi.heap.size + 1, 1, none⟩ = some (kI (V 1)) ∧ W.cell? ⟨Wi.heap.size + 1, 2, none⟩ = some (kI (V 2)) ∧ W.cell? ⟨Wi.heap.size + 1, 3, none⟩ = some (kI (V 3)) ∧ W.cell? ⟨Wi.heap.size, 1, none⟩ = some (kI cut2) := by
      intro W G hW
      obtain ⟨hb1, hb2⟩ := HC.out W hW.right.left'
      exact ⟨by rw [cell_of hb1]; rfl, by rw [cell_of hb1]; rfl, by rw [cell_of hb1]; rfl, by rw [cell_of hb1]; rfl, by rw [cell_of hb2]; rfl⟩
    have HX := Lib.hid hx
    obtain ⟨x0, x1, x2, x3, _⟩ := hx _ _ hs5
    have HS6 := Lib.hid (And.intro HS5.out.1 hs5)
    have HP2 := Lib.hid (And.intro hall (And.intro hrc (And.intro hholds (And.intro hends hadd))))
    have HE5 := Lib.hid hE5
    clear hx hs5 hE5 hPk hli hkn2 hlk hk80 hall hrc hholds hends hadd HS5
    go_upto_region 9 with (first
      | (go_at_call 12; refine (HMX.out _ _ HS6.out.2).mono ?_; rintro e w6 ⟨ma, mc, h6, rfl, hv6, hs6⟩; have HQ := Lib.hid (And.intro hv6 hs6); clear hv6 hs6)
      | (go_at_call 11; refine (HRS.out _ _ _ _ HQ.out.1 HQ.out.2).mono ?_; rintro e w7 ⟨av, pv, h7, h8, rfl, hav, hpv, hs7⟩; obtain ⟨aa, ac, rfl⟩ := sl_form hav; obtain ⟨pa, pc, rfl⟩ := LvOwn.form hpv; have HS7 := Lib.hid (And.intro hav (And.intro hpv hs7)); clear hav hpv hs7))
    obtain ⟨hPk, hli, hkn2, hlk, hk80⟩ := HPL.out
    obtain ⟨hall, hrc, hholds, hends, hadd⟩ := HP2.out
    obtain ⟨na, hna⟩ : ∃ na, add.length = na := ⟨_, rfl⟩
    obtain ⟨M2, hM2⟩ : ∃ M2 : Int, (na : Int) + 1 = M2 := ⟨_, rfl⟩
    have hMb2 : 1 ≤ M2 ∧ M2 ≤ 10000 := by omega
    have hm1 : wrap64 ((na : Int) + 1) = M2 := by rw [hM2, IntWalk.wrap64_in _ (by omega)]
    have hm2 : IntKind.i64.wrap ((na : Int) + 1) = M2 := by rw [hM2, IntWalk.i64_in _ (by omega)]
    have hm3 : IntKind.u64.wrap M2 = M2 := by rw [IntKind.wrap_u64]; omega
    have hm4 : (M2 == 0) = false := by rw [beq_eq_false_iff_ne]; omega
    have hm5 : (M2 = 0) = False := eq_false (by omega)
    obtain ⟨q, hq, hqn⟩ : ∃ q : Nat, umod cut2 M2 = (q : Int) ∧ q ≤ na := by
      have := umod_bd cut2 M2 (by omega) (by omega)
      exact ⟨(umod cut2 M2).toNat, by omega, by omega⟩
    have hx1 : wrap64 ((IntKind.u64.wrap cut2).tmod M2) = (q : Int) := hq
    have hx2 : IntKind.i64.wrap ((IntKind.u64.wrap cut2).tmod M2) = (q : Int) := (IntWalk.i64_left _).trans hq
    have hav := HS7.out.1
    have hs7 : Sat w7 (B ++ (F0 ++ (h5 ++ (h6 ++ (h7 ++ h8))))) := by (refine Sat.part HS7.out.2.2 ?_; intro a; simp only [cnt_append]; omega)
    obtain ⟨_, _, _, _, y1⟩ := HX.out _ _ hs7
    rw [hna]
    have HNA := Lib.hid (And.intro hna hqn)
    clear hav hs7 hPk hli hkn2 hlk hk80 hall hrc hholds hends hadd hna hM2 hMb2 hq x0 x1 x2 x3
    go_upto_region 12 with (fail)
    obtain ⟨hPk, hli, hkn2, hlk, hk80⟩ := HPL.out
    obtain ⟨hall, hrc, hholds, hends, hadd⟩ := HP2.out
    obtain ⟨hna, hqn⟩ := HNA.out
    have hs7 : Sat w7 (B ++ (F0 ++ (h5 ++ (h6 ++ (h7 ++ h8))))) := by (refine Sat.part HS7.out.2.2 ?_; intro a; simp only [cnt_append]; omega)
    have HE5b : Hid (∀ W, Sat W (B ++ (F0 ++ (h5 ++ (h6 ++ (h7 ++ h8))))) → SrcAt eC 13 W a5 (S.list.take k)) := Lib.hid (fun W hW => src_of HE5.out (show Sat W (F0 ++ h5) by (refine Sat.part hW ?_; intro a; simp only [cnt_append]; omega)))
    have hEA : EnsIn (B ++ (F0 ++ (h5 ++ (h6 ++ (h7 ++ h8))))) (.slice aa add.length ac) add := (ens_in HS7.out.1 ([] : Heaplet)).mono (fun w hw => by (refine Sat.part hw ?_; intro a; simp only [cnt_append, cnt_nil]; omega))
    have HEA := Lib.hid (ens_take hEA q (by omega))
    obtain ⟨P1, hr1, hl1, hf1, hb1, hP1⟩ := HJS.out.1.again hkn2 (by have := HJS.out; omega) V hPk hrc (by omega) q (by omega)
    have hlq : (add.take q).length = q := by rw [List.length_take]; omega
    have hl1n : (S.list.take k ++ add.take q).length = k + q := by rw [List.length_append, hlk, hlq]
    have HAP1 : Hid (∀ W g, Sat W (.blk g (.cells #[] 58) :: (B ++ (F0 ++ (h5 ++ (h6 ++ (h7 ++ h8)))))) → ∃ a' c' w' h', (∀ ty, (Builtin.append_ #[29, 29] ty #[.slice (some ⟨g, 0, none⟩) 0 0, .slice a5 k c5]).run Tryz.prog W = .ok (.slice a' k c') w') ∧ EnSl (.slice a' k c') (S.list.take k) h' ∧ Sat w' (h' ++ (B ++ (F0 ++ (h5 ++ (h6 ++ (h7 ++ h8))))))) := Lib.hid (fun W g hW => by
      obtain ⟨a', c', w', h', e1, e2, e3⟩ := en_app (R := []) (R2 := S.list.take k) (c := c5) (h := [.blk g (.cells #[] 58)]) (sl_new 58 13 g) hW (HE5b.out W hW.tail) (by rw [hlk]; simp; omega)
      rw [List.nil_append] at e2
      simp only [List.length_nil, Nat.zero_add, hlk] at e1 e2
      exact ⟨a', c', w', h', e1, e2, e3⟩)
    have HAP2 : Hid (∀ W a' c' h', EnSl (.slice a' k c') (S.list.take k) h' → Sat W (h' ++ (B ++ (F0 ++ (h5 ++ (h6 ++ (h7 ++ h8)))))) → ∃ a2 c2 w2 h2, (∀ ty, (Builtin.append_ #[29, 29] ty #[.slice a' k c', .slice aa q ac]).run Tryz.prog W = .ok (.slice a2 (k + q) c2) w2) ∧ EnSl (.slice a2 (k + q) c2) (S.list.take k ++ add.take q) h2 ∧ Sat w2 (h2 ++ (B ++ (F0 ++ (h5 ++ (h6 ++ (h7 ++ h8))))))) := Lib.hid (fun W a' c' h' hv' hW => by
      obtain ⟨a2, c2, w2, h2, e1, e2, e3⟩ := en_app (R := S.list.take k) (R2 := add.take q) (c := ac) hv' hW (src_of HEA.out hW.right) (by rw [hlk, hlq]; omega)
      simp only [hlk, hlq] at e1 e2
      exact ⟨a2, c2, w2, h2, e1, e2, e3⟩)
    obtain ⟨x0, x1, x2, x3, _⟩ := HX.out _ _ hs7
    have h0 := (hs7.new (.cells #[] 58)).drew
    obtain ⟨a1, c1, W1, k1, hap1, hv1, hs1⟩ := HAP1.out _ _ h0
    obtain ⟨a2, c2, W2, k2, hap2, hv2, hs2⟩ := HAP2.out _ _ _ _ hv1 hs1
    have HAPa := Lib.hid hap1
    have HAPb := Lib.hid hap2
    have HRS2 : Hid (∀ W ma mc h', LvAt (h' ++ B) (.slice ma 4 mc) (mixedP S k V) → Sat W (h' ++ (B ++ (F0 ++ (h5 ++ (h6 ++ (h7 ++ (h8 ++ k2))))))) → Calls Tryz.prog 11 #[.slice a2 (k + q) c2, .slice ma 4 mc] W (fun e w' => ∃ add2 Vs2, (∃ n2, n2 = add2.length ∧ (q = na → n2 = 0)) ∧ holdsP (finP P1 Vs2) (foldP (S.list.take k)) = true ∧ LI (S.list.take k ++ add.take q ++ add2) (finP P1 Vs2) ∧ UnRet add2 (finP P1 Vs2) 0 (h' ++ (B ++ (F0 ++ (h5 ++ (h6 ++ (h7 ++ (h8 ++ k2))))))) e w')) := Lib.hid (fun W ma mc h' hv' hW => by
      obtain ⟨add2, Vs2, hall2, hrc2, hholds2, _, _, hadd2, hno2⟩ := hl1.rest2 (by omega)
      have hE2 : EnsIn (h' ++ (B ++ (F0 ++ (h5 ++ (h6 ++ (h7 ++ (h8 ++ k2))))))) (.slice a2 (k + q) c2) (S.list.take k ++ add.take q) := (ens_in hv2 ([] : Heaplet)).mono (fun w hw => by (refine Sat.part hw ?_; intro a; simp only [cnt_append, cnt_nil]; omega))
      have hL2 : LvAt (h' ++ (B ++ (F0 ++ (h5 ++ (h6 ++ (h7 ++ (h8 ++ k2))))))) (.slice ma 4 mc) (mixedP S k V) := hv'.mono (fun w hw => by (refine Sat.part hw ?_; intro a; simp only [cnt_append]; omega))
      refine (restart_all hE2 hL2 hW (HJS.out.1.mix_pgs hkn2 (by omega) V) hr1 hl1 (by omega) hall2).mono fun e w' he => ⟨add2, Vs2, ⟨_, rfl, fun e2 => ?_⟩, ?_, hrc2.li hl1, he⟩
      · have htk : add.take q = add := List.take_of_length_le (by omega)
        rw [htk] at hno2
        rw [hno2 (no_losers hends)]; rfl
      · rw [← hf1]; exact hholds2)
    have hK : ∀ W G, Sat W (B ++ (F0 ++ G)) → W.cell? ⟨Wi.heap.size + 1, 0, none⟩ = some (kI (V 0)) ∧ W.cell? ⟨Wi.heap.size + 1, 1, none⟩ = some (kI (V 1)) ∧ W.cell? ⟨Wi.heap.size + 1, 2, none⟩ = some (kI (V 2)) ∧ W.cell? ⟨Wi.heap.size + 1, 3, none⟩ = some (kI (V 3)) := fun W G hW => by
      obtain ⟨y0, y1, y2, y3, _⟩ := HX.out W G hW
      exact ⟨y0, y1, y2, y3⟩
    have hK2 : ∀ W K, Sat W (K ++ (B ++ (F0 ++ (h5 ++ (h6 ++ (h7 ++ h8)))))) → W.cell? ⟨Wi.heap.size + 1, 0, none⟩ = some (kI (V 0)) ∧ W.cell? ⟨Wi.heap.size + 1, 1, none⟩ = some (kI (V 1)) ∧ W.cell? ⟨Wi.heap.size + 1, 2, none⟩ = some (kI (V 2)) ∧ W.cell? ⟨Wi.heap.size + 1, 3, none⟩ = some (kI (V 3)) := fun W K hW => hK W _ hW.right
    have HK2 := Lib.hid hK2
    have K0 := Lib.hid (hK _ _ hs7)
    have K1 := Lib.hid (hK _ _ hs7.drew)
    have K2 := Lib.hid (hK2 _ [_] h0)
    have K3 := Lib.hid (hK2 _ _ hs1)
    have K4 := Lib.hid (hK2 _ _ hs2)
    have HQ0 : Hid (Sat W2 (B ++ (F0 ++ (h5 ++ (h6 ++ (h7 ++ (h8 ++ k2))))))) := Lib.hid (by (refine Sat.part hs2 ?_; intro a; simp only [cnt_append]; omega))
    have HV2 := Lib.hid hv2
    have q0 : (0 : Int) ≤ (q : Int) := by omega
    have q1 : (q : Int) ≤ (ac : Int) := by have := sl_cap HS7.out.1; omega
    have q2 : q ≤ ac := by omega
    clear hPk hli hkn2 hlk hk80 hall hrc hholds hends hadd hna hqn hs7 hEA hr1 hl1 hf1 hb1 hP1 hlq hl1n h0 hap1 hv1 hs1 hap2 hv2 hs2 hK hK2 y1 hx1 hx2 hm1 hm2 hm3 hm4 hm5 HAP1 HAP2 HE5b HEA
    go_region_held3 (fun w' => w'.cell? ⟨Wi.heap.size + 1, 0, none⟩ = some (kI (V 0)) ∧ w'.cell? ⟨Wi.heap.size + 1, 1, none⟩ = some (kI (V 1)) ∧ w'.cell? ⟨Wi.heap.size + 1, 2, none⟩ = some (kI (V 2)) ∧ w'.cell? ⟨Wi.heap.size + 1, 3, none⟩ = some (kI (V 3)))
      (with_reducible first | exact K0.out | exact K1.out | exact K2.out | exact K3.out | exact K4.out | exact K5.out | exact K6.out)
      (first
        | (refine step_append_run (by rfl) (.tmp 72) (.tmp 73) _ _ (by rfl) _ _ _ W1 (by rfl) (by rfl) HAPa.out ?_)
        | (refine step_append_run (by rfl) (.tmp 74) (.tmp 77) _ _ (by rfl) _ _ _ W2 (by rfl) (by rfl) HAPb.out ?_)
        | (go_at_call 12; refine (HMX.out _ _ HQ0.out).mono ?_; rintro e w8 ⟨ma2, mc2, h9, rfl, hv9, hs9⟩; have HQ9 := Lib.hid (And.intro hv9 hs9); have K5 := Lib.hid (HK2.out w8 (h9 ++ k2) (by (refine Sat.part hs9 ?_; intro a; simp only [cnt_append]; omega))); clear hv9 hs9)
        | (go_at_call 11; refine (HRS2.out _ _ _ _ HQ9.out.1 HQ9.out.2).mono ?_; rintro e w10 ⟨add2, Vs2, ⟨n2, hn2, hz2⟩, hho2, hli2, av2, pv2, h10, h11, rfl, hav2, hpv2, hs10⟩; obtain ⟨aa2, ac2', rfl⟩ := sl_form hav2; obtain ⟨pa2, pc2, rfl⟩ := LvOwn.form hpv2; rw [← hn2] at hav2 ⊢; have HS10 := Lib.hid (And.intro hav2 (And.intro hpv2 hs10)); have HZ2 := Lib.hid (And.intro hz2 (And.intro hho2 hli2)); have K6 := Lib.hid (HK2.out w10 (h10 ++ (h11 ++ (h9 ++ k2))) (by (refine Sat.part hs10 ?_; intro a; simp only [cnt_append]; omega))); clear hav2 hpv2 hs10 hn2 hz2 hho2 hli2))
    obtain ⟨hPk, hli, hkn2, hlk, hk80⟩ := HPL.out
    obtain ⟨hall, hrc, hholds, hends, hadd⟩ := HP2.out
    obtain ⟨hna, hqn⟩ := HNA.out
    obtain ⟨Z, hZ⟩ : ∃ Z, h10 ++ (h11 ++ (h9 ++ (B ++ (F0 ++ (h5 ++ (h6 ++ (h7 ++ (h8 ++ k2)))))))) = Z := ⟨_, rfl⟩
    have hsZ : Sat w10 Z := by rw [← hZ]; exact HS10.out.2.2
    obtain ⟨G, hG⟩ : ∃ G, foldP (S.list.take k) = G := ⟨_, rfl⟩
    have hEZ : EnsIn Z (.slice a5 (S.list.take k).length c5) (S.list.take k) := by
      rw [hlk]
      exact HE5.out.mono (fun w hw => by rw [← hZ] at hw; (refine Sat.part hw ?_; intro a; simp only [cnt_append]; omega))
    have hAZ : EnsIn Z (.slice aa add.length ac) add := (ens_in HS7.out.1 ([] : Heaplet)).mono (fun w hw => by rw [← hZ] at hw; (refine Sat.part hw ?_; intro a; simp only [cnt_append, cnt_nil]; omega))
    have hlf := hrc.li hli
    have hLZ : LvAt Z (.slice pa (finP Pk Vs).length pc) (finP Pk Vs) := (HS7.out.2.1.at ([] : Heaplet)).mono (fun w hw => by rw [← hZ] at hw; (refine Sat.part hw ?_; intro a; simp only [cnt_append, cnt_nil]; omega))
    have hLZ2 : LvAt Z (.slice pa2 (finP P1 Vs2).length pc2) (finP P1 Vs2) := (HS10.out.2.1.at ([] : Heaplet)).mono (fun w hw => by rw [← hZ] at hw; (refine Sat.part hw ?_; intro a; simp only [cnt_append, cnt_nil]; omega))
    have HBZ : Hid (∀ W, Sat W Z → RowKit.Below Wi.heap.size Wi W) := Lib.hid (fun W hW => by rw [← hZ] at hW; exact HB.out W hW.right.right.right.right.left')
    have HFO : Hid (∀ W K, Sat W (K ++ Z) → Calls Tryz.prog 14 #[.slice a5 k c5] W (Ret (grV G) (Below W.heap.size W))) := Lib.hid (fun W K hW => by
      have := fold_any (hEZ.mono (fun w hw => Sat.right (h' := K) hw)) hW (by omega) hli.onG
      rw [hlk, hG] at this; exact this)
    have HHO2 : Hid (∀ W, Sat W Z → Calls Tryz.prog 13 #[.slice pa2 (finP P1 Vs2).length pc2, grV G] W (Ret (.bool true) (Below W.heap.size W))) := Lib.hid (fun W hW => by
      have := holds_any (G := G) hLZ2 hW (by rw [HZ2.out.2.2.len]; omega) HZ2.out.2.2.pgs.good
      rw [← hG, HZ2.out.2.1, hG] at this; exact this)
    have HAP : Hid (∀ W g, Sat W (.blk g (.cells #[] 58) :: Z) → ∃ b1 d1 W1 b2 d2 W2 k2, (∀ ty, (Builtin.append_ #[29, 29] ty #[.slice (some ⟨g, 0, none⟩) 0 0, .slice a5 k c5]).run Tryz.prog W = .ok (.slice b1 k d1) W1) ∧
      (∀ ty, (Builtin.append_ #[29, 29] ty #[.slice b1 k d1, .slice aa na ac]).run Tryz.prog W1 = .ok (.slice b2 (k + na) d2) W2) ∧ EnSl (.slice b2 (k + na) d2) (S.list.take k ++ add) k2 ∧ Sat W2 (k2 ++ Z)) := Lib.hid (fun W g hW => by
      have := two_app hEZ hAZ hW (by omega)
      rw [hlk, hna] at this
      exact this)
    obtain ⟨add3, Vs3, hall3, hrc3, hholds3, _, _, _, hno3⟩ := hlf.rest2 (by rw [List.length_append]; omega)
    have ha3 : add3 = [] := hno3 (no_losers hends)
    have hli3 := hrc3.li hlf
    have HR3 : Hid (∀ W (d1 : Option Addr) (d2 : Nat) k2, EnSl (.slice d1 (k + na) d2) (S.list.take k ++ add) k2 → Sat W (k2 ++ Z) → Calls Tryz.prog 11 #[.slice d1 (k + na) d2, .slice pa (finP Pk Vs).length pc] W (UnRet [] (finP (finP Pk Vs) Vs3) 0 (k2 ++ Z))) := Lib.hid (fun W d1 d2 k2 hE hW => by
      have := restart_all (ens_in hE Z) (hLZ.mono (fun w hw => Sat.right (h' := k2) hw)) hW hlf.pgs (HJS.out.1.last_redo hkn2 hPk hrc) hlf (by rw [List.length_append]; omega) hall3
      rw [ha3] at this; exact this)
    have HHO3 : Hid (∀ W p h, LvOwn p (finP (finP Pk Vs) Vs3) h → Sat W (h ++ Z) → Calls Tryz.prog 13 #[p, grV G] W (Ret (.bool true) (Below W.heap.size W))) := Lib.hid (fun W p h hp hW => by
      have := holds_any (G := G) (hp.at Z) hW (by rw [hli3.len]; omega) hli3.pgs.good
      rw [hrc.fold] at hholds3
      rw [← hG, hholds3, hG] at this; exact this)
    have HSZ := Lib.hid hsZ
    have HQN : Hid (q = na → n2 = 0) := Lib.hid HZ2.out.1
    have hk250 : (k : Int) ≤ 80 := by omega
    clear hPk hli hkn2 hlk hk80 hall hrc hholds hends hadd hna hqn hZ hsZ hG hEZ hAZ hlf hLZ hLZ2 hall3 hrc3 hholds3 hno3 ha3 hli3 HPL HP2 HNA HE5 HS7 HS10 HZ2 HQ0 HQ9 HV2 HK2 K0 K1 K2 K3 K4 K5 K6 HAPa HAPb HRS2 HMX HRS HX HS6 HQ HEB HCB HBB HJS x0 x1 x2 x3 q0 q1 q2
    go_upto_region 15 with (first
      | (go_at_call 14; refine (HFO.out _ [] HSZ.out).mono ?_; rintro e w11 ⟨rfl, hb11⟩; have HS11 := Lib.hid (HSZ.out.monoB hb11); clear hb11)
      | (go_at_call 13; refine (HHO2.out _ HS11.out).mono ?_; rintro e w12 ⟨rfl, hb12⟩; have HS12 := Lib.hid (HS11.out.monoB hb12); clear hb12))
    clear HSZ HS11 HHO2
    go_upto_region 17 with (fail)
    · exfalso
      rename_i h1 h2
      have e1 : q = na := by omega
      rw [HQN.out e1] at h2
      simp at h2
    all_goals
      clear HQN
      obtain ⟨b1, d1, W13, b2, d2, W14, k14, hap1, hap2, hv14, hs14⟩ := HAP.out _ _ (HS12.out.new (.cells #[] 58))
      have HAPa := Lib.hid hap1
      have HAPb := Lib.hid hap2
      have HR := Lib.hid (HR3.out _ _ _ _ hv14 hs14)
      have HBK : Hid (∀ W K, Sat W (K ++ (k14 ++ Z)) → RowKit.Below Wi.heap.size Wi W) := Lib.hid (fun W K hW => HBZ.out W hW.right.right)
      have HFO2 : Hid (∀ W K, Sat W (K ++ (k14 ++ Z)) → Calls Tryz.prog 14 #[.slice a5 k c5] W (Ret (grV G) (Below W.heap.size W))) := Lib.hid (fun W K hW => HFO.out W (K ++ k14) (by rw [List.append_assoc]; exact hW))
      have HHO4 : Hid (∀ W p h, LvOwn p (finP (finP Pk Vs) Vs3) h → Sat W (h ++ (k14 ++ Z)) → Calls Tryz.prog 13 #[p, grV G] W (Ret (.bool true) (Below W.heap.size W))) := Lib.hid (fun W p h hp hW => HHO3.out W p h hp (by (refine Sat.part hW ?_; intro a; simp only [cnt_append]; omega)))
      clear hap1 hap2 hv14 hs14 HAP HR3 HS12 HBZ HFO HHO3
      go_upto_region 18 with (first
        | (at_builtin; refine wpList_append_run rfl _ _ _ _ rfl _ _ _ _ rfl rfl HAPa.out ?_; clear HAPa)
        | (at_builtin; refine wpList_append_run rfl _ _ _ _ rfl _ _ _ _ rfl rfl HAPb.out ?_; clear HAPb)
        | (go_at_call 11; refine (HR.out).mono ?_; rintro e w15 ⟨av3, pv3, h15, h16, rfl, hav3, hpv3, hs15⟩; obtain ⟨aa3, ac3, rfl⟩ := sl_form hav3; obtain ⟨pa3, pc3, rfl⟩ := LvOwn.form hpv3; have HP15 := Lib.hid hpv3; have HS15 : Hid (Sat w15 (h16 ++ (h15 ++ (k14 ++ Z)))) := Lib.hid (by (refine Sat.part hs15 ?_; intro a; simp only [cnt_append]; omega)); clear hav3 hpv3 hs15 HR))
      have HHO5 : Hid (∀ W, Sat W (h16 ++ (h15 ++ (k14 ++ Z))) → Calls Tryz.prog 13 #[.slice pa3 (finP (finP Pk Vs) Vs3).length pc3, grV G] W (Ret (.bool true) (Below W.heap.size W))) := Lib.hid (fun W hW => HHO4.out W _ _ HP15.out (by (refine Sat.part hW ?_; intro a; simp only [cnt_append]; omega)))
      clear HHO4 HP15
      go_wp2_with (first
        | (go_at_call 14; refine (HFO2.out _ (h16 ++ h15) (by (refine Sat.part HS15.out ?_; intro a; simp only [cnt_append]; omega))).mono ?_; rintro e w16 ⟨rfl, hb16⟩; have HS16 := Lib.hid (HS15.out.monoB hb16); clear hb16)
        | (go_at_call 13; refine (HHO5.out _ HS16.out).mono ?_; rintro e w17 ⟨rfl, hb17⟩; have HS17 := Lib.hid (HBK.out w17 (h16 ++ h15) (by have h17 := HS16.out.monoB hb17; (refine Sat.part h17 ?_; intro a; simp only [cnt_append]; omega))); clear hb17))
      go_ret
      exact ⟨rfl, HS17.out⟩
end Go.Proofs.YtficgjklagnbjaaGreat
