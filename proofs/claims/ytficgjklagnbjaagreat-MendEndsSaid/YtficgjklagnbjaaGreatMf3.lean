/- MendEnds walked: behind a restart nobody is a loser any more. Conditions: none. -/
import Derived.Test.YtficgjklagnbjaaGreatMp16
namespace Go.Proofs.YtficgjklagnbjaaGreat
open Go Go.MapKept Go.RowKit Go.Proofs Go.Shelf Go.Sort

attribute [local go_sem] Oper.semAt_some

/-- The pages of a log without entries, redone. -/
theorem JS.redo0 {i : Nat} {S : PS} (h : JS i S) {k : Nat} (hk : k ≤ S.list.length) {P0 P : List Lf} (h0 : S.all[0]? = some P0) (hP : S.all[k]? = some P) : Pgs P0 ∧ redoL (S.list.take k) P0 = (P, 0) := by
  have hp0 := h.hist.pgs P0 (List.mem_of_getElem? h0)
  exact ⟨hp0, h.hist.redo h.li.ok hk hP hp0.1 (v := fun _ => 0) (fun n hn => ⟨Nat.zero_le _, (h.hist.ver hn (Nat.zero_le _) h0).1⟩)⟩
set_option maxRecDepth 100000 in
set_option maxHeartbeats 8000000 in
theorem ends_walk (a : Option Addr) (cap : Nat) (l : List Ac) (cut : Int) (Wi : World) (hv : AcIn (allOf Wi) (.slice a l.length cap) l) :
    Calls Tryz.prog 7 #[.slice a l.length cap, kI cut] Wi (Ret (.bool true) (RowKit.Below Wi.heap.size Wi)) := by
  have HS := Lib.hid (sat_all Wi)
  obtain ⟨F0, hF0⟩ : ∃ F0, allOf Wi = F0 := ⟨_, rfl⟩
  rw [hF0] at HS hv
  have HV := Lib.hid hv
  have HB : Hid (∀ W, Sat W F0 → RowKit.Below Wi.heap.size Wi W) := Lib.hid (fun W hW => by rw [← hF0] at hW; exact hW.below)
  have HJ := Lib.hid (lived_js l)
  clear hF0 hv
  obtain ⟨S, ok, hL⟩ : ∃ S ok, livedP l = (S, ok) := ⟨_, _, rfl⟩
  rw [hL] at HJ
  have HLV : Hid (∀ W, Sat W F0 → Calls Tryz.prog 10 #[.slice a l.length cap] W fun e w' => ∃ pb, e = .returned (.tuple #[.pointer (some ⟨pb, 0, none⟩), .bool ok]) ∧ PsIs pb S F0 w') := Lib.hid (fun W hW => by
    have := lived_call HV.out hW
    rw [hL] at this
    exact this)
  clear hL HV
  generalize l.length = n at *
  go_enter Tryz.func7, Tryz.ntmps7
  go_upto_region 3 with (go_at_call 9; refine (awake_any F0 _ HS.out).mono ?_; rintro e w1 ⟨rfl, hs1⟩; have HS1 := Lib.hid hs1; clear hs1 HS)
  go_upto_region 4 with (go_at_call 10; refine (HLV.out _ HS1.out).mono ?_; rintro e w2 ⟨pb, rfl, hps⟩; have HPS := Lib.hid hps; clear hps HS1 HLV)
  cases ok with
  | false =>
    have HE := Lib.hid (HB.out _ HPS.out.frame)
    clear HPS HJ
    go_wp2_with fail
    go_ret
    exact ⟨rfl, HE.out⟩
  | true =>
    obtain ⟨j, hj, hjs⟩ := HJ.out
    obtain ⟨B, hB, hsB⟩ := psB_of HPS.out
    clear HPS HJ
    have hll := (hjs.len (c := 1)).1
    have hal := hjs.hist.len
    obtain ⟨P0, hP0⟩ : ∃ P0, S.all[0]? = some P0 := ⟨_, List.getElem?_eq_getElem (by omega)⟩
    obtain ⟨la, lc, ag, an, ac, za, zn, zc, hlc, han, hEB, hLB, hCB⟩ : ∃ la lc ag an ac za zn zc, S.list.length ≤ lc ∧ 0 < an ∧ EnsIn B (.slice la S.list.length lc) S.list ∧ LvAt B (.slice za zn zc) P0 ∧ ∀ W F, Sat W (B ++ F) → W.cell? ⟨pb, 0, none⟩ = some (.slice la S.list.length lc) ∧ W.cell? ⟨pb, 2, none⟩ = some (.slice (some ⟨ag, 0, none⟩) an ac) ∧ W.cell? ⟨ag, 0, none⟩ = some (.slice za zn zc) := by
      obtain ⟨lv, nv, av, vs, hl, ha, H, h1, h2, h3, h5, e⟩ := hB
      obtain ⟨la, lc, rfl⟩ := sl_form h1
      have hvl : vs.length = S.all.length := h5.1
      obtain ⟨zv, hzv⟩ : ∃ zv, vs[0]? = some zv := ⟨_, List.getElem?_eq_getElem (by omega)⟩
      have hz := h5.2 0 zv P0 hzv hP0
      obtain ⟨za, zc, rfl, _⟩ := id hz
      obtain ⟨ag, ac, rfl⟩ := sl_some h2 (by omega)
      refine ⟨la, lc, ag, vs.length, ac, za, _, zc, sl_cap h1, by omega, (ens_in h1 ([] : Heaplet)).mono (fun w hw => ?_), hz.mono (fun w hw => ?_), fun W F hW => ?_⟩
      · rw [e] at hw
        (refine Sat.part hw ?_; intro a; simp only [cnt_cons, cnt_append, cnt_nil]; omega)
      · rw [e] at hw
        exact hw.tail.right.right
      · rw [e] at hW
        have hA : Sat W (ha ++ (hl ++ (H ++ F))) := by (refine Sat.part hW.tail ?_; intro a; simp only [cnt_append, List.append_eq]; omega)
        refine ⟨by rw [cell_of hW.h0]; rfl, by rw [cell_of hW.h0]; rfl, ?_⟩
        have := (SliceIs.cell h2 hA rfl hzv).2.2
        simpa using this
    obtain ⟨n', hn'⟩ : ∃ n', S.list.length = n' := ⟨_, rfl⟩
    obtain ⟨M, hM⟩ : ∃ M : Int, (n' : Int) + 1 = M := ⟨_, rfl⟩
    have hMb : 1 ≤ M ∧ M ≤ 10000 := by omega
    have hm1 : wrap64 ((n' : Int) + 1) = M := by rw [hM, IntWalk.wrap64_in _ (by omega)]
    have hm2 : IntKind.i64.wrap ((n' : Int) + 1) = M := by rw [hM, IntWalk.i64_in _ (by omega)]
    have hm3 : IntKind.u64.wrap M = M := by rw [IntKind.wrap_u64]; omega
    have hm4 : (M == 0) = false := by rw [beq_eq_false_iff_ne]; omega
    have hm5 : (M = 0) = False := eq_false (by omega)
    obtain ⟨k, hk, hkn⟩ : ∃ k : Nat, umod cut M = (k : Int) ∧ k ≤ n' := by
      have := umod_bd cut M (by omega) (by omega)
      exact ⟨(umod cut M).toNat, by omega, by omega⟩
    have hx1 : wrap64 ((IntKind.u64.wrap cut).tmod M) = (k : Int) := hk
    have hx2 : IntKind.i64.wrap ((IntKind.u64.wrap cut).tmod M) = (k : Int) := (IntWalk.i64_left _).trans hk
    rw [hn'] at hEB hCB
    have HEB := Lib.hid hEB
    have HCB := Lib.hid hCB
    have HSB := Lib.hid hsB
    have HP0 := Lib.hid (And.intro hP0 (And.intro hLB han))
    have HBB := Lib.hid hB
    have HJS := Lib.hid (And.intro hjs (And.intro hj (And.intro hn' (And.intro hkn hll))))
    have c0 := (hCB _ _ hsB).1
    clear hEB hCB hLB han hP0 hsB hB hjs hj hn' hll hal hk hM hMb
    go_upto_region 7 with (fail)
    have hs3 : Sat w2 (B ++ F0) := HSB.out
    clear c0 HSB hx1 hx2 hm1 hm2 hm3 hm4 hm5
    obtain ⟨Pk, hPk, hli⟩ := HJS.out.1.cut (k := k) (by have := HJS.out.2.2.1; omega)
    have hkn2 : k ≤ S.list.length := by have := HJS.out; omega
    have hlk : (S.list.take k).length = k := by rw [List.length_take]; omega
    have hk80 : k ≤ 80 := by have := HJS.out; omega
    have hs4 := hs3.new (.cells #[] 58)
    have hE4 : EnsIn (B ++ F0) (.slice la k lc) (S.list.take k) := (ens_take (F := B) (a := la) (n := n') (cap := lc) HEB.out k hkn2).mono (fun w hw => hw.left')
    obtain ⟨a5, c5, w5, h5, hap, hv5, hs5⟩ := en_app (R := []) (R2 := S.list.take k) (c := lc) (h := [.blk w2.heap.size (.cells #[] 58)]) (sl_new 58 13 w2.heap.size) hs4 (src_of hE4 hs4.tail) (by rw [hlk]; simp; omega)
    rw [List.nil_append] at hv5
    simp only [List.length_nil, Nat.zero_add, hlk] at hap hv5
    have HAP := Lib.hid hap
    have HS5 := Lib.hid (And.intro hv5 hs5)
    have HPL := Lib.hid (And.intro hPk (And.intro hli (And.intro hkn2 (And.intro hlk hk80))))
    have c0 : w2.cell? ⟨pb, 0, none⟩ = some (.slice la n' lc) := (HCB.out _ _ hs3).1
    have c0' : (w2.alloc (.cells #[] 58)).cell? ⟨pb, 0, none⟩ = some (.slice la n' lc) := (HCB.out _ (F0 ++ [.blk w2.heap.size (.cells #[] 58)]) (by (refine Sat.part hs4 ?_; intro a; simp only [cnt_cons, cnt_append, cnt_nil]; omega))).1
    have hk0 : (0 : Int) ≤ (k : Int) := by omega
    have hk1 : (k : Int) ≤ (lc : Int) := by have := HJS.out.2.2.1; omega
    have hk2 : k ≤ lc := by omega
    clear hs3 hs4 hE4 hap hv5 hs5 hPk hli hkn2 hlk hk80
    go_upto_region 8 with (at_builtin; refine wpList_append_run rfl _ _ _ _ rfl _ _ _ _ rfl rfl HAP.out ?_)
    clear c0 c0' HAP
    obtain ⟨hPk, hli, hkn2, hlk, hk80⟩ := HPL.out
    obtain ⟨add, Vs, hall, hrc, _, hends, _, hadd, _⟩ := hli.rest2 (by omega)
    have hs5 : Sat w5 (B ++ (F0 ++ h5)) := by (refine Sat.part HS5.out.2 ?_; intro a; simp only [cnt_append, List.append_eq]; omega)
    have hE5 : EnsIn (F0 ++ h5) (.slice a5 k c5) (S.list.take k) := by
      have := (ens_in (l := S.list.take k) (v := .slice a5 k c5) HS5.out.1 F0).mono (F' := F0 ++ h5) (fun w hw => by (refine Sat.part hw ?_; intro a; simp only [cnt_append]; omega))
      exact this
    obtain ⟨hpg0, hr0⟩ := HJS.out.1.redo0 hkn2 HP0.out.1 hPk
    have HRS := Lib.hid (restart_all (hE5.mono (fun w hw => hw.right)) (HP0.out.2.1.mono (fun w hw => hw.left')) hs5 hpg0 hr0 hli (by omega) hall)
    obtain ⟨c0, c2, c3⟩ := HCB.out _ _ hs5
    have han : (0 : Int) < (an : Int) := by have := HP0.out.2.2; omega
    have HS6 := Lib.hid (And.intro HS5.out.1 hs5)
    have HP2 := Lib.hid (And.intro hrc (And.intro hends hadd))
    clear hs5 hE5 hPk hli hkn2 hlk hk80 hall hrc hends hadd hpg0 hr0 HS5
    go_upto_region 9 with (go_at_call 11; refine (HRS.out).mono ?_; rintro e w7 ⟨av, pv, h7, h8, rfl, hav, hpv, hs7⟩; obtain ⟨aa, ac2, rfl⟩ := sl_form hav; obtain ⟨pa, pc, rfl⟩ := LvOwn.form hpv; have HS7 := Lib.hid (And.intro hav hs7); clear hav hpv hs7)
    obtain ⟨hPk, hli, hkn2, hlk, hk80⟩ := HPL.out
    obtain ⟨hrc, hends, hadd⟩ := HP2.out
    obtain ⟨na, hna⟩ : ∃ na, add.length = na := ⟨_, rfl⟩
    obtain ⟨LK, hLK⟩ : ∃ LK, S.list.take k = LK := ⟨_, rfl⟩
    rw [hLK] at hli hlk hrc hends hadd
    obtain ⟨BS, hBS⟩ : ∃ BS, h7 ++ (h8 ++ (B ++ F0)) = BS := ⟨_, rfl⟩
    have HBS : Hid (∀ W, Sat W BS → RowKit.Below Wi.heap.size Wi W) := Lib.hid (fun W hW => by rw [← hBS] at hW; exact HB.out W hW.right.right.right)
    have HEA : Hid (∀ W, Sat W BS → ∀ i q, add[i]? = some q → ∃ g off, aa = some ⟨g, off, none⟩ ∧ EnO W g (off + i * 13) q) := Lib.hid (fun W hW i q hq => by
      obtain ⟨a', c', e, hc⟩ := ens_in HS7.out.1 ([] : Heaplet)
      simp only [Value.slice.injEq] at e
      obtain ⟨rfl, _, rfl⟩ := e
      rw [← hBS] at hW
      exact hc W (by (refine Sat.part hW ?_; intro a; simp only [cnt_append, cnt_nil]; omega)) i q hq)
    have HL5 : Hid (EnSl (.slice a5 k c5) (LK ++ add.take 0) h5) := Lib.hid (by rw [List.take_zero, List.append_nil, ← hLK]; exact HS6.out.1)
    have HS8 : Hid (Sat w7 (h5 ++ BS)) := Lib.hid (by rw [← hBS]; (refine Sat.part HS7.out.2 ?_; intro a; simp only [cnt_append]; omega))
    have HRC := Lib.hid (And.intro (hrc.li hli) (And.intro hrc.at (And.intro hends (And.intro hlk (And.intro hna (show na ≤ 160 by omega))))))
    have hgdd : ∀ (o1 o2 : Operand) (x y : Tx) W, (eqGuard .eql 56 o1 o2 (tV x) (tV y)).run Tryz.prog W = .ok () W := fun _ _ _ _ _ => by first | rfl | (simp [go_sem, eqGuard])
    have HGD := Lib.hid hgdd
    rw [hna]
    clear hPk hli hkn2 hlk hrc hends hadd HPL HP2 HRS HS6 HS7 hBS HB HBB HCB HEB HJS HP0 hLK c0 c2 c3 han hgdd
    go_upto_region 11 with (fail)
    have hn9 : (na : Int) ≤ 160 := by have := HRC.out; omega
    have hn8 : na ≤ 160 := HRC.out.2.2.2.2.2
    go_wp2_with fail
    go_loopw [8, 12] (fun v8 v12 wr => ∃ (i : Nat) (h : Heaplet), i ≤ na ∧ v12 = .int .i64 i ∧ EnSl v8 (LK ++ add.take i) h ∧ Sat wr (h ++ BS)) (fun _ v12 _ => 20000 - (RowKit.intOf v12).toNat)
    case atStart => exact ⟨0, h5, by omega, rfl, HL5.out, HS8.out⟩
    case round =>
      clear HL5 HS8
      obtain ⟨i, h, hin, rfl, hlv, hs⟩ := hrel
      have i0 : (0 : Int) ≤ (i : Int) := by omega
      obtain ⟨ra, rc, rfl⟩ := sl_form hlv
      by_cases hlt : i < na
      · have i1 : (i : Int) < (na : Int) := by omega
        obtain ⟨y, hy⟩ : ∃ y, add[i]? = some y := ⟨_, List.getElem?_eq_getElem (by have := HRC.out; omega)⟩
        obtain ⟨_, _, hu⟩ := HRC.out.2.1 i y hy
        obtain ⟨u1, u2, u3, u4, u5⟩ := hu.ends
        obtain ⟨LN, hLN⟩ : ∃ LN, lastN (ofM (LK ++ add.take i) y.t) = LN := ⟨_, rfl⟩
        rw [hLN] at u2 u3 u4 u5
        have HU := Lib.hid (And.intro hu.kind (And.intro u1 (And.intro u2 (And.intro u3 (And.intro u4 u5)))))
        obtain ⟨LL, hLL⟩ : ∃ LL, LK ++ add.take i = LL := ⟨_, rfl⟩
        rw [hLL] at hlv HU ⊢
        have hln : LL.length = k + i := by rw [← hLL, List.length_append, List.length_take, HRC.out.2.2.2.1]; have := HRC.out; omega
        obtain ⟨m, hm⟩ : ∃ m, LL.length = m := ⟨_, rfl⟩
        have hm9 : m ≤ 1000 := by have := HRC.out; omega
        have hm8 : (m : Int) ≤ 1000 := by omega
        have HLV := Lib.hid hlv
        have HEL : Hid (∀ W, Sat W (h ++ BS) → ∀ j q, LL[j]? = some q → ∃ g off, ra = some ⟨g, off, none⟩ ∧ EnO W g (off + j * 13) q) := Lib.hid (fun W hW j q hq => by
          obtain ⟨a', c', e, hc⟩ := ens_in HLV.out BS
          simp only [Value.slice.injEq] at e
          obtain ⟨rfl, _, rfl⟩ := e
          exact hc W hW j q hq)
        have HSS := Lib.hid hs
        have HYY := Lib.hid hy
        have HLL := Lib.hid (And.intro hLL (And.intro hln hm))
        rw [hm]
        clear hlv hs hy hu u1 u2 u3 u4 u5 hLN hLL hln
        go_wp2_with fail
        go_loopw [13, 14, 15] (fun v13 v14 v15 wr => ∃ j : Nat, j ≤ m ∧ v15 = .int .i64 j ∧ v13 = kI (lastT (LL.take j) y.t) ∧ v14 = .bool (endT (LL.take j) y.t) ∧ Sat wr (h ++ BS)) (fun _ _ v15 _ => 20000 - (RowKit.intOf v15).toNat)
        case atStart => exact ⟨0, by omega, rfl, rfl, rfl, HSS.out⟩
        case round =>
          clear HSS
          obtain ⟨j, hjm, rfl, rfl, rfl, hs⟩ := hrel
          have j0 : (0 : Int) ≤ (j : Int) := by omega
          by_cases hjl : j < m
          · have j1 : (j : Int) < (m : Int) := by omega
            obtain ⟨x, hx⟩ : ∃ x, LL[j]? = some x := ⟨_, List.getElem?_eq_getElem (by have := HLL.out; omega)⟩
            have hl1 := lastT_next hx y.t
            have he1 := endT_next hx y.t
            obtain ⟨rg, roff, rfl, e0, e1, e2, e3, e4, _⟩ := HEL.out _ hs j x hx
            obtain ⟨yg, yoff, rfl, f0, f1, f2, f3, _⟩ := HEA.out _ hs.right i y HYY.out
            have heq := eq_tx x.t y.t
            have hgd := fun (o1 o2 : Operand) => HGD.out o1 o2 x.t y.t
            have HXX := Lib.hid hx
            have HS9 := Lib.hid hs
            have HLE := Lib.hid (And.intro hl1 he1)
            generalize lastT (LL.take j) y.t = LA at *
            generalize endT (LL.take j) y.t = EA at *
            clear hx hs hl1 he1
            go_upto_region 19 with (fail)
            go_quiet (fail)
            have hs3 := HS9.out.grown (Grown.drewN wr nq)
            clear e0 e1 e2 e3 e4 f0 f1 f2 f3 heq hgd HS9
            generalize wr.drewN nq = W5 at *
            obtain ⟨hl1, he1⟩ := HLE.out
            cases hd : decide (x.t = y.t) with
            | false =>
              rw [if_neg (of_decide_eq_false hd)] at hl1
              rw [hd, Bool.false_and, Bool.or_false] at he1
              have FIN : Hid (LA = lastT (LL.take (j + 1)) y.t ∧ EA = endT (LL.take (j + 1)) y.t ∧ Sat W5 (h ++ BS)) := Lib.hid ⟨hl1.symm, he1.symm, hs3⟩
              clear hl1 he1 hs3 hd
              go_wp2_with fail
              exact ⟨⟨j + 1, by omega, by simp, by rw [FIN.out.1], by rw [FIN.out.2.1], FIN.out.2.2⟩, by simp only [RowKit.intOf]; omega⟩
            | true =>
              rw [if_pos (of_decide_eq_true hd)] at hl1
              rw [hd, Bool.true_and] at he1
              obtain ⟨rg2, roff2, er, e0, e1, e2, e3, e4, _⟩ := HEL.out _ hs3 j x HXX.out
              cases er
              have FIN : Hid (x.lsn = lastT (LL.take (j + 1)) y.t ∧ (EA || decide (2 < x.kind)) = endT (LL.take (j + 1)) y.t ∧ Sat W5 (h ++ BS)) := Lib.hid ⟨hl1.symm, he1.symm, hs3⟩
              clear hl1 he1 hs3 hd
              cases EA with
              | true =>
                go_wp2_with fail
                exact ⟨⟨j + 1, by omega, by simp, by rw [FIN.out.1], by rw [← FIN.out.2.1]; rfl, FIN.out.2.2⟩, by simp only [RowKit.intOf]; omega⟩
              | false =>
                go_wp2_with fail
                exact ⟨⟨j + 1, by omega, by simp, by rw [FIN.out.1], by rw [← FIN.out.2.1]; simp, FIN.out.2.2⟩, by simp only [RowKit.intOf]; omega⟩
          · obtain rfl : j = m := by omega
            have j1 : ((j : Int) < (j : Int)) = False := eq_false (by omega)
            obtain ⟨uk, u1, u2, u3, u4, u5⟩ := HU.out
            have htl : LL.take j = LL := List.take_of_length_le (by have := HLL.out; omega)
            rw [htl, u1, u2]
            obtain ⟨yg, yoff, rfl, f0, f1, f2, f3, f4, f5, f6, f7, f8, f9, f10, f11, f12⟩ := HEA.out _ hs.right i y HYY.out
            rw [u4] at f5
            have l0 : (LN == 0) = false := by rw [beq_eq_false_iff_ne]; omega
            have l1 : decide (y.lsn ≤ LN) = false := decide_eq_false (by omega)
            have l2 : (y.lsn ≤ LN) = False := eq_false (by omega)
            have l3 : (LN = 0) = False := eq_false (by omega)
            have l4 : LN ≠ 0 := by omega
            have hge := HLL.out.1
            have htk : add.take (i + 1) = add.take i ++ [y] := by rw [List.take_add_one, HYY.out]; rfl
            obtain ⟨v9, w9, h9, hap, hv9, hs9⟩ := en_push (A := []) y HLV.out (hs.new (eO y)) (by have := HLL.out; omega)
            rw [HLL.out.2.2] at hap
            have FIN : Hid (EnSl v9 (LK ++ add.take (i + 1)) h9 ∧ Sat w9 (h9 ++ BS)) := Lib.hid ⟨by rw [htk, ← List.append_assoc, hge]; exact hv9, hs9⟩
            have yp : y.prev = LN := u4
            have HAP : Hid (∀ ty, (Builtin.append_ #[29, 29] ty #[.slice ra j rc, .slice (some ⟨wr.heap.size, 0, none⟩) 1 1]).run Tryz.prog (wr.alloc (.cells #[kI y.kind, kI y.t.c, kI y.t.e, kI y.t.n, kI y.lsn, kI LN, kI y.page, kI y.slot, .bool y.wu, kS y.wd, .bool y.iu, kS y.idt, kI y.next] 58)) = .ok v9 w9) := Lib.hid (by rw [← yp]; exact hap)
            clear hap hv9 hs9 htk hge htl u1 u2 u3 u4 u5 yp hs HEL HLV HU HLL
            rcases uk with uk | uk
            · rw [uk] at f0 HAP
              clear uk
              go_wp2_with (at_builtin; refine wpList_append_run rfl _ _ _ _ rfl _ _ _ _ rfl rfl HAP.out ?_)
              exact ⟨⟨i + 1, h9, by omega, by simp, FIN.out.1, FIN.out.2⟩, by simp only [RowKit.intOf]; omega⟩
            · rw [uk] at f0 HAP
              clear uk
              go_wp2_with (at_builtin; refine wpList_append_run rfl _ _ _ _ rfl _ _ _ _ rfl rfl HAP.out ?_)
              exact ⟨⟨i + 1, h9, by omega, by simp, FIN.out.1, FIN.out.2⟩, by simp only [RowKit.intOf]; omega⟩
      · obtain rfl : i = na := by omega
        have i1 : ((i : Int) < (i : Int)) = False := eq_false (by omega)
        have htk : add.take i = add := List.take_of_length_le (by have := HRC.out; omega)
        rw [htk] at hlv
        obtain ⟨LL, hLL⟩ : ∃ LL, LK ++ add = LL := ⟨_, rfl⟩
        rw [hLL] at hlv
        have HALL : Hid (∀ x ∈ LL, endT LL x.t = true) := Lib.hid (fun x hx => by
          rw [← hLL] at hx ⊢
          exact ends_all HRC.out.1 HRC.out.2.2.1 hx)
        have hln : LL.length = k + i := by rw [← hLL, List.length_append, HRC.out.2.2.2.1]; have := HRC.out; omega
        obtain ⟨m, hm⟩ : ∃ m, LL.length = m := ⟨_, rfl⟩
        have hm9 : m ≤ 1000 := by have := HRC.out; omega
        have hm8 : (m : Int) ≤ 1000 := by omega
        have HLV := Lib.hid hlv
        have HEL : Hid (∀ W, Sat W (h ++ BS) → ∀ j q, LL[j]? = some q → ∃ g off, ra = some ⟨g, off, none⟩ ∧ EnO W g (off + j * 13) q) := Lib.hid (fun W hW j q hq => by
          obtain ⟨a', c', e, hc⟩ := ens_in HLV.out BS
          simp only [Value.slice.injEq] at e
          obtain ⟨rfl, _, rfl⟩ := e
          exact hc W hW j q hq)
        have HSS := Lib.hid hs
        have HLL := Lib.hid hm
        rw [htk, hLL, hm]
        clear hlv hs hLL hln htk HRC HEA HLV hm
        go_wp2_with fail
        go_loopw [16] (fun v16 wr => ∃ i : Nat, i ≤ m ∧ v16 = .int .i64 i ∧ Sat wr (h ++ BS)) (fun v16 _ => 20000 - (RowKit.intOf v16).toNat)
        case atStart => exact ⟨0, by omega, rfl, HSS.out⟩
        case round =>
          clear HSS
          obtain ⟨i2, hi2, rfl, hs⟩ := hrel
          have p0 : (0 : Int) ≤ (i2 : Int) := by omega
          by_cases hil : i2 < m
          · have p1 : (i2 : Int) < (m : Int) := by omega
            obtain ⟨y, hy⟩ : ∃ y, LL[i2]? = some y := ⟨_, List.getElem?_eq_getElem (by have := HLL.out; omega)⟩
            have HSS := Lib.hid hs
            have HYY := Lib.hid hy
            clear hs hy
            go_wp2_with fail
            go_loopw [17, 18] (fun v17 v18 wr => ∃ j : Nat, j ≤ m ∧ v18 = .int .i64 j ∧ v17 = .bool (endT (LL.take j) y.t) ∧ Sat wr (h ++ BS)) (fun _ v18 _ => 20000 - (RowKit.intOf v18).toNat)
            case atStart => exact ⟨0, by omega, rfl, rfl, HSS.out⟩
            case round =>
              clear HSS
              obtain ⟨j, hjm, rfl, rfl, hs⟩ := hrel
              have j0 : (0 : Int) ≤ (j : Int) := by omega
              by_cases hjl : j < m
              · have j1 : (j : Int) < (m : Int) := by omega
                obtain ⟨x, hx⟩ : ∃ x, LL[j]? = some x := ⟨_, List.getElem?_eq_getElem (by have := HLL.out; omega)⟩
                have he1 := endT_next hx y.t
                obtain ⟨rg, roff, rfl, e0, e1, e2, e3, e4, _⟩ := HEL.out _ hs j x hx
                obtain ⟨rg2, roff2, er, f0, f1, f2, f3, _⟩ := HEL.out _ hs i2 y HYY.out
                cases er
                have heq := eq_tx x.t y.t
                have hgd := fun (o1 o2 : Operand) => HGD.out o1 o2 x.t y.t
                generalize endT (LL.take j) y.t = EA at *
                have FIN : Hid ((EA || (decide (x.t = y.t) && decide (2 < x.kind))) = endT (LL.take (j + 1)) y.t ∧ ∀ n, Sat (wr.drewN n) (h ++ BS)) := Lib.hid ⟨he1.symm, fun n => hs.grown (Grown.drewN wr n)⟩
                clear he1 hx hs
                go_upto_region 32 with (fail)
                cases EA with
                | true =>
                  go_quiet (fail)
                  clear e0 e1 e2 e3 e4 f0 f1 f2 f3 heq hgd
                  go_wp2_with fail
                  exact ⟨⟨j + 1, by omega, by simp, by rw [← FIN.out.1]; rfl, FIN.out.2 _⟩, by simp only [RowKit.intOf]; omega⟩
                | false =>
                  cases hd : decide (x.t = y.t) with
                  | false =>
                    rw [hd] at heq FIN
                    go_quiet (fail)
                    clear e0 e1 e2 e3 e4 f0 f1 f2 f3 heq hgd
                    go_wp2_with fail
                    exact ⟨⟨j + 1, by omega, by simp, by rw [← FIN.out.1]; rfl, FIN.out.2 _⟩, by simp only [RowKit.intOf]; omega⟩
                  | true =>
                    rw [hd] at heq FIN
                    go_quiet (fail)
                    clear e0 e1 e2 e3 e4 f0 f1 f2 f3 heq hgd
                    go_wp2_with fail
                    exact ⟨⟨j + 1, by omega, by simp, by rw [← FIN.out.1]; simp, FIN.out.2 _⟩, by simp only [RowKit.intOf]; omega⟩
              · obtain rfl : j = m := by omega
                have j1 : ((j : Int) < (j : Int)) = False := eq_false (by omega)
                have htl : LL.take j = LL := List.take_of_length_le (by have := HLL.out; omega)
                rw [htl, HALL.out y (List.mem_of_getElem? HYY.out)]
                have FIN := Lib.hid hs
                clear hs htl
                go_wp2_with fail
                exact ⟨⟨i2 + 1, by omega, by simp, FIN.out⟩, by simp only [RowKit.intOf]; omega⟩
          · obtain rfl : i2 = m := by omega
            have p1 : ((i2 : Int) < (i2 : Int)) = False := eq_false (by omega)
            have FIN := Lib.hid (HBS.out _ hs.right)
            clear hs
            go_wp2_with fail
            go_ret
            exact ⟨rfl, FIN.out⟩
end Go.Proofs.YtficgjklagnbjaaGreat
