/- Texts put together: Md7, Md8. Conditions: none. -/
import Derived.Test.YtficgjklagnbjaaGreatFo20
namespace Go.Proofs.YtficgjklagnbjaaGreat
open Go Go.MapKept Go.RowKit Go.Proofs Go.Sort

theorem lenAt_ps {pb : Nat} {S : PS} {F : Heaplet} {w : World} (h : PsIs pb S F w) : lenAt pb w = S.list.length := by
  obtain ⟨lv, nv, av, vs, hl, ha, H, h1, h2, h3, h4, s⟩ := h
  obtain ⟨a0, c0, rfl⟩ := sl_form h1
  unfold lenAt
  rw [cell_of s.h0]; rfl
theorem PsIs.tailF {pb : Nat} {S : PS} {x : HItem} {F : Heaplet} {w : World} (h : PsIs pb S (x :: F) w) : PsIs pb S F w := h.part (fun a => by rw [cnt_cons]; omega)
theorem PsIs.box {pb : Nat} {S : PS} {F : Heaplet} {w : World} (h : PsIs pb S F w) (o : Obj) : PsIs pb S (.blk w.heap.size o :: F) (w.alloc o) := by
  obtain ⟨lv, nv, av, vs, hl, ha, H, h1, h2, h3, h4, s⟩ := h
  have h0 := s.new o
  exact ⟨lv, nv, av, vs, hl, ha, H, h1, h2, h3, h4, by (refine Sat.part h0 ?_; intro a; simp only [cnt_cons, cnt_append]; omega)⟩
set_option maxRecDepth 100000 in
set_option maxHeartbeats 4000000 in
theorem does_any {I : PS → Prop} {pb : Nat} {S : PS} {F : Heaplet} {w : World} (a : Ac) (hI : ∀ S, I S → Small S ∧ Ok4 S ∧ S.list.length + 1 ≤ 10000 ∧ S.all.length + 1 ≤ 10000) (hstep : ∀ S, I S → (undoP S a.c).1 = true → I (undoP S a.c).2) (h : PsIs pb S F w) (hS : I S) :
    Calls Tryz.prog 26 #[.pointer (some ⟨pb, 0, none⟩), acV a] w (Ret (.tuple #[]) (PsIs pb (doesP S a) F)) := by
  obtain ⟨S', hS'⟩ : ∃ S', doesP S a = S' := ⟨_, rfl⟩
  rw [hS']
  have HS' := Lib.hid hS'
  obtain ⟨c1, c5, e1, e2⟩ := a.c_bd
  obtain ⟨n4, e3⟩ := a.n_bd
  obtain ⟨k5, e4⟩ := a.k_bd
  obtain ⟨c, hc⟩ : ∃ c, a.c = c := ⟨_, rfl⟩
  obtain ⟨n, hn⟩ : ∃ n, a.n = n := ⟨_, rfl⟩
  obtain ⟨k, hk⟩ : ∃ k, a.k = k := ⟨_, rfl⟩
  rw [hc] at c1 c5 e2 hstep
  rw [hn] at n4 e3
  rw [hk] at k5 e4
  have HN := Lib.hid (And.intro hc (And.intro hn hk))
  have hu1 : wrap64 ((IntKind.u64.wrap a.client).tmod 4) = umod a.client 4 := rfl
  have hu2 : IntKind.i64.wrap ((IntKind.u64.wrap a.client).tmod 4) = umod a.client 4 := IntWalk.i64_left _
  have hu3 : wrap64 (1 + umod a.client 4) = (c : Int) := by rw [e2, IntWalk.wrap64_in _ (by omega)]
  have hu4 : IntKind.i64.wrap (1 + umod a.client 4) = (c : Int) := by rw [e2, IntWalk.i64_in _ (by omega)]
  have hu5 : wrap64 ((IntKind.u64.wrap a.page).tmod 4) = (n : Int) := e3
  have hu6 : IntKind.i64.wrap ((IntKind.u64.wrap a.page).tmod 4) = (n : Int) := (IntWalk.i64_left _).trans e3
  have hu7 : wrap64 ((IntKind.u64.wrap a.slot).tmod 5) = (k : Int) := e4
  have hu8 : IntKind.i64.wrap ((IntKind.u64.wrap a.slot).tmod 5) = (k : Int) := (IntWalk.i64_left _).trans e4
  have hp1 := h.box (acO a)
  have HP := Lib.hid hp1
  have HI := Lib.hid hI
  have HST := Lib.hid hstep
  have HSS := Lib.hid hS
  have ha1 := (sat_all w).new (acO a)
  have a0 : (w.alloc (acO a)).cell? ⟨w.heap.size, 0, none⟩ = some (kI a.kind) := by rw [cell_of ha1.h0]; rfl
  have a1 : (w.alloc (acO a)).cell? ⟨w.heap.size, 1, none⟩ = some (kI a.client) := by rw [cell_of ha1.h0]; rfl
  have a2 : (w.alloc (acO a)).cell? ⟨w.heap.size, 2, none⟩ = some (kI a.page) := by rw [cell_of ha1.h0]; rfl
  have a3 : (w.alloc (acO a)).cell? ⟨w.heap.size, 3, none⟩ = some (kI a.slot) := by rw [cell_of ha1.h0]; rfl
  have hdo : doesP S a = S' := hS'
  unfold doesP at hdo
  rw [hc, hn] at hdo
  have HDO := Lib.hid hdo
  clear h hp1 ha1 hS' hI hstep hS e1 e2 e3 e4 hc hn hk hdo
  go_enter Tryz.func26, Tryz.ntmps26
  go_upto_region 1 with (fail)
  generalize w.alloc (.cells #[kI a.kind, kI a.client, kI a.page, kI a.slot, kS a.data] 79) = W1 at *
  generalize w.heap.size = ab at *
  go_upto_region 5 with (fail)
  clear hu1 hu2 hu3 hu4 hu5 hu6 hu7 hu8 a0 a1 a2 a3
  by_cases q1 : a.kind = 1
  · have hdo := HDO.out
    rw [if_pos q1] at hdo
    have b1 : (a.kind == 1) = true := by rw [q1]; rfl
    have HD1 := Lib.hid hdo
    clear hdo HDO q1
    obtain ⟨lv, nv, av, vs, hl, ha, H, h1, h2, h3, h4, s⟩ := HP.out
    have HN3 := Lib.hid h3
    obtain ⟨na, nc, rfl, hc3⟩ := h3
    obtain ⟨g1, g2, g3, g4⟩ := HI.out S HSS.out
    have hnl : n < S.now.length := by have := g1.2.2.2.2.2.1; omega
    obtain ⟨pp, hpp⟩ : ∃ pp, S.now[n]? = some pp := ⟨_, List.getElem?_eq_getElem hnl⟩
    obtain ⟨pn, p⟩ := pp
    obtain ⟨ng, off, psv, rfl, hsv, hu⟩ := hc3 n _ hpp
    simp only at hsv hu
    have hpg : pgAt S.now n = p := by unfold pgAt; rw [hpp]
    have hgp := (g1.2.2.2.2.1 _ (List.mem_of_getElem? hpp)).1
    simp only at hgp
    have HMK : Hid (∀ W K, Sat W (K ++ (.blk pb (psO lv (.slice (some ⟨ng, off, none⟩) S.now.length nc) av S.ow S.tx S.la) :: (hl ++ (ha ++ (H ++ (.blk ab (acO a) :: F)))))) → PsIs pb S (K ++ (.blk ab (acO a) :: F)) W) := Lib.hid (fun W K hW => ⟨_, _, _, vs, hl, ha, H, h1, h2, HN3.out, h4, by (refine Sat.part hW ?_; intro a; simp only [cnt_cons, cnt_append]; omega)⟩)
    have HSM := Lib.hid (And.intro g1 (And.intro g2 (And.intro g3 (And.intro g4 hpg))))
    have m0 : W1.cell? ⟨pb, 3 + n, none⟩ = some (kI (S.ow n)) := by rw [cell_of s.h0]; exact psC_ow n4
    have m1 : W1.cell? ⟨pb, 1, none⟩ = some (.slice (some ⟨ng, off, none⟩) S.now.length nc) := by rw [cell_of s.h0]; rfl
    obtain ⟨_, u1, u2⟩ := hu W1 s.tail.right.right.left'
    obtain ⟨sa, sc, rfl, _⟩ := id hsv
    have n0 : (0 : Int) ≤ (n : Int) := by omega
    have n4i : (n : Int) < 4 := by omega
    have n4j : (n : Int) < (S.now.length : Int) := by omega
    have HAT := Lib.hid (at_any (k : Int) (hsv.mono (fun w hw => ((Sat.tail hw).right.right.left' : Sat w H))) s (good_bd hgp).1 (good_bd hgp).2.1 (good_bd hgp).2.2)
    obtain ⟨wu, wd, hwas⟩ : ∃ wu wd, atM p k = (wu, wd) := ⟨_, _, rfl⟩
    rw [hwas] at HAT
    have HWA := Lib.hid hwas
    have a4 : W1.cell? ⟨ab, 4, none⟩ = some (kS a.data) := by rw [cell_of (s.get (b := ab) (o := acO a) (by simp))]; rfl
    have HS := Lib.hid s
    clear h1 h2 h4 hc3 g1 g2 g3 g4 hpp hu hsv hpg hgp hnl s HN3 hwas
    by_cases o0 : S.ow n ≠ 0 ∧ S.ow n ≠ (c : Int)
    · have hrs := HD1.out
      rw [if_pos o0] at hrs
      subst hrs
      have b2 : (S.ow n != 0) = true := by simp [o0.1]
      have b3 : (S.ow n != (c : Int)) = true := by simp [o0.2]
      have FIN := Lib.hid (PsIs.tailF HP.out)
      clear o0 HP HD1 HSM HMK HS HAT HWA
      go_wp2_with fail
      refine bodyPost_end (results_none rfl _ _ _) rfl ?_
      exact ⟨rfl, FIN.out⟩
    · have hrs := HD1.out
      rw [if_neg o0] at hrs
      have HD2 := Lib.hid hrs
      have HOW : Hid (S.ow n = 0 ∨ S.ow n = (c : Int)) := Lib.hid (by omega)
      clear hrs HD1 o0
      go_upto_region 6 with (fail)
      go_cut [46] (fun v46 wx => v46 = .bool false ∧ wx = W1)
      case first =>
        rcases HOW.out with e | e
        · have b2 : (S.ow n != 0) = false := by simp [e]
          go_wp2_with fail
          go_meet
          exact ⟨rfl, rfl⟩
        · by_cases e0 : S.ow n = 0
          · have b2 : (S.ow n != 0) = false := by simp [e0]
            clear e e0
            go_wp2_with fail
            go_meet
            exact ⟨rfl, rfl⟩
          · have b2 : (S.ow n != 0) = true := by simp [e0]
            have b3 : (S.ow n != (c : Int)) = false := by simp [e]
            clear e e0
            go_wp2_with fail
            go_meet
            exact ⟨rfl, rfl⟩
      case rest =>
        obtain ⟨rfl, rfl⟩ := hcut
        clear m0
        go_upto_region 9 with (go_at_call 16; refine (HAT.out).mono ?_; rintro e w2 ⟨rfl, hb⟩; have HS2 := Lib.hid (HS.out.monoB hb); have a5 := (show (w2.alloc (.cells #[.bool wu, kS wd] 41)).cell? ⟨ab, 4, none⟩ = some (kS a.data) by rw [cell_of ((HS2.out.new (.cells #[.bool wu, kS wd] 41)).get (b := ab) (o := acO a) (by simp))]; rfl); clear hb HAT m1 u1 u2 a4)
        have hs9 : Sat ((w2.alloc (.cells #[.bool wu, kS wd] 41)).alloc (.cells #[.bool (!a.data.toList.isEmpty), kS a.data] 41)) (.blk (w2.heap.size + 1) (.cells #[.bool (!a.data.toList.isEmpty), kS a.data] 41) :: .blk w2.heap.size (.cells #[.bool wu, kS wd] 41) :: .blk pb (psO lv (.slice (some ⟨ng, off, none⟩) S.now.length nc) av S.ow S.tx S.la) :: (hl ++ (ha ++ (H ++ (.blk ab (acO a) :: F))))) := by
          have h0 := (HS2.out.new (.cells #[.bool wu, kS wd] 41)).new (.cells #[.bool (!a.data.toList.isEmpty), kS a.data] 41)
          rw [World.size_alloc] at h0
          exact h0
        clear a5 HS2
        generalize (w2.alloc (.cells #[.bool wu, .string wd] 41)).alloc (.cells #[.bool (!a.data.toList.isEmpty), .string a.data] 41) = W9 at *
        generalize w2.heap.size = sb at *
        obtain ⟨lsn, hlsn⟩ : ∃ lsn, lsnM S c n = lsn := ⟨_, rfl⟩
        have HLS : Hid (∀ (W : World) (K : Heaplet), Sat W (K ++ (.blk (sb + 1) (.cells #[.bool (!a.data.toList.isEmpty), kS a.data] 41) :: .blk sb (.cells #[.bool wu, kS wd] 41) :: .blk pb (psO lv (.slice (some ⟨ng, off, none⟩) S.now.length nc) av S.ow S.tx S.la) :: (hl ++ (ha ++ (H ++ (.blk ab (acO a) :: F)))))) → Calls Tryz.prog 20 #[.pointer (some ⟨pb, 0, none⟩), .int .i64 (c : Int), .int .i64 (n : Int)] W (Qt (kI lsn) W)) := Lib.hid (fun W K hW => by
          have := lsn_any (HMK.out W [] hW.right.tail.tail) HSM.out.1 c5 n4
          rw [hlsn] at this; exact this)
        have HTX : Hid (∀ (W : World) (K : Heaplet), Sat W (K ++ (.blk (sb + 1) (.cells #[.bool (!a.data.toList.isEmpty), kS a.data] 41) :: .blk sb (.cells #[.bool wu, kS wd] 41) :: .blk pb (psO lv (.slice (some ⟨ng, off, none⟩) S.now.length nc) av S.ow S.tx S.la) :: (hl ++ (ha ++ (H ++ (.blk ab (acO a) :: F)))))) → Calls Tryz.prog 17 #[.pointer (some ⟨pb, 0, none⟩), .int .i64 (c : Int)] W (Pur (.agg #[kI (c : Int), kI 1, kI (S.tx c)]) W)) := Lib.hid (fun W K hW => txn_any (HMK.out W [] hW.right.tail.tail) c5)
        have hye : (.cells #[kI 1, kI (c : Int), kI 1, kI (S.tx c), kI lsn, kI (S.la c), kI (n : Int), kI (k : Int), .bool wu, kS wd, .bool (!a.data.toList.isEmpty), kS a.data, kI 0] 58) = eO (chgE S a) := by
          unfold chgE
          rw [HN.out.1, HN.out.2.1, HN.out.2.2, HSM.out.2.2.2.2, HWA.out, hlsn]
          rfl
        have HYE := Lib.hid hye
        have hcell : ∀ W, Sat W (.blk (sb + 1) (.cells #[.bool (!a.data.toList.isEmpty), kS a.data] 41) :: .blk sb (.cells #[.bool wu, kS wd] 41) :: .blk pb (psO lv (.slice (some ⟨ng, off, none⟩) S.now.length nc) av S.ow S.tx S.la) :: (hl ++ (ha ++ (H ++ (.blk ab (acO a) :: F))))) → W.cell? ⟨pb, 12 + c, none⟩ = some (kI (S.la c)) ∧ W.cell? ⟨sb, 0, none⟩ = some (.bool wu) ∧ W.cell? ⟨sb, 1, none⟩ = some (kS wd) ∧ W.cell? ⟨sb + 1, 0, none⟩ = some (.bool (!a.data.toList.isEmpty)) ∧ W.cell? ⟨sb + 1, 1, none⟩ = some (kS a.data) := fun W hW => ⟨by rw [cell_of hW.h2]; exact psC_la c5, by rw [cell_of hW.h1]; rfl, by rw [cell_of hW.h1]; rfl, by rw [cell_of hW.h0]; rfl, by rw [cell_of hW.h0]; rfl⟩
        have HC := Lib.hid hcell
        have HS9 := Lib.hid hs9
        have K1 := Lib.hid (hcell _ hs9)
        have K2 := Lib.hid (hcell _ hs9.drew)
        have K3 := Lib.hid (hcell _ (hs9.new zO).drew.tail)
        have HS3 : Hid (Sat (W9.alloc zO).drew ([.blk W9.heap.size zO] ++ (.blk (sb + 1) (.cells #[.bool (!a.data.toList.isEmpty), kS a.data] 41) :: .blk sb (.cells #[.bool wu, kS wd] 41) :: .blk pb (psO lv (.slice (some ⟨ng, off, none⟩) S.now.length nc) av S.ow S.tx S.la) :: (hl ++ (ha ++ (H ++ (.blk ab (acO a) :: F))))))) := Lib.hid (hs9.new zO).drew
        have c0i : (0 : Int) ≤ (c : Int) := by omega
        have c5i : (c : Int) < 5 := by omega
        clear hcell hs9 hlsn hye
        go_cut [9] (fun v9 wx => ∃ yb, v9 = .pointer (some ⟨yb, 0, none⟩) ∧ Sat wx (.blk yb (eO (chgE S a)) :: .blk (sb + 1) (.cells #[.bool (!a.data.toList.isEmpty), kS a.data] 41) :: .blk sb (.cells #[.bool wu, kS wd] 41) :: .blk pb (psO lv (.slice (some ⟨ng, off, none⟩) S.now.length nc) av S.ow S.tx S.la) :: (hl ++ (ha ++ (H ++ (.blk ab (acO a) :: F))))))
        case first =>
          go_region_held3 (fun w' => w'.cell? ⟨pb, 12 + c, none⟩ = some (kI (S.la c)) ∧ w'.cell? ⟨sb, 0, none⟩ = some (.bool wu) ∧ w'.cell? ⟨sb, 1, none⟩ = some (kS wd) ∧ w'.cell? ⟨sb + 1, 0, none⟩ = some (.bool (!a.data.toList.isEmpty)) ∧ w'.cell? ⟨sb + 1, 1, none⟩ = some (kS a.data))
            (with_reducible first | exact K1.out | exact K2.out | exact K3.out | exact K5.out | exact K6.out | exact K7.out | exact K8.out | exact K9.out | exact K9.out.1 | exact K9.out.2.1 | exact K9.out.2.2.1 | exact K9.out.2.2.2.1 | exact K9.out.2.2.2.2)
            (first
              | (go_at_call 17
                 first
                 | ((with_reducible refine (HTX.out _ [] HS9.out.drew).mono ?_)
                    rintro e w3 ⟨rfl, hg⟩
                    have HSa : Hid (Sat w3 ([] ++ (.blk (sb + 1) (.cells #[.bool (!a.data.toList.isEmpty), kS a.data] 41) :: .blk sb (.cells #[.bool wu, kS wd] 41) :: .blk pb (psO lv (.slice (some ⟨ng, off, none⟩) S.now.length nc) av S.ow S.tx S.la) :: (hl ++ (ha ++ (H ++ (.blk ab (acO a) :: F))))))) := Lib.hid (HS9.out.drew.grown hg)
                    have HSb : Hid (Sat (w3.alloc zO) ([.blk w3.heap.size zO] ++ (.blk (sb + 1) (.cells #[.bool (!a.data.toList.isEmpty), kS a.data] 41) :: .blk sb (.cells #[.bool wu, kS wd] 41) :: .blk pb (psO lv (.slice (some ⟨ng, off, none⟩) S.now.length nc) av S.ow S.tx S.la) :: (hl ++ (ha ++ (H ++ (.blk ab (acO a) :: F))))))) := Lib.hid (HSa.out.new zO)
                    have K5 := Lib.hid (HC.out _ HSa.out)
                    have K6 := Lib.hid (HC.out _ HSb.out.tail))
                 | ((with_reducible refine (HTX.out _ _ HS3.out).mono ?_)
                    rintro e w3 ⟨rfl, hg⟩
                    have HSa : Hid (Sat w3 ([.blk W9.heap.size zO] ++ (.blk (sb + 1) (.cells #[.bool (!a.data.toList.isEmpty), kS a.data] 41) :: .blk sb (.cells #[.bool wu, kS wd] 41) :: .blk pb (psO lv (.slice (some ⟨ng, off, none⟩) S.now.length nc) av S.ow S.tx S.la) :: (hl ++ (ha ++ (H ++ (.blk ab (acO a) :: F))))))) := Lib.hid (HS3.out.grown hg)
                    have K5 := Lib.hid (HC.out _ HSa.out.tail)))
              | (go_at_call 20
                 first
                 | ((with_reducible refine (HLS.out _ _ HSa.out).mono ?_)
                    rintro e w4 ⟨rfl, hq⟩
                    have hg : Grown w3 w4 := (by obtain ⟨m, rfl⟩ := hq; exact Grown.drewN _ m)
                    clear hq
                    have HS5 := Lib.hid (HSa.out.grown hg)
                    first
                    | (have K7 := Lib.hid (HC.out _ HS5.out); have K8 := Lib.hid (HC.out _ (HS5.out.new zO).tail); have K9 := Lib.hid (HC.out _ (HS5.out.new (.cells #[kI 1, kI (c : Int), kI 1, kI (S.tx c), kI lsn, kI (S.la c), kI (n : Int), kI (k : Int), .bool wu, kS wd, .bool (!a.data.toList.isEmpty), kS a.data, kI 0] 58)).tail))
                    | (have K7 := Lib.hid (HC.out _ HS5.out.tail); have K9 := Lib.hid (HC.out _ (sat_put13 (x := zeroE) (y := ⟨1, ⟨c, 1, S.tx c⟩, lsn, S.la c, n, k, wu, wd, !a.data.toList.isEmpty, a.data, 0⟩) HS5.out).tail); have ff := unfrozen_of HS5.out.h0; obtain ⟨z0, z1, z2, z3, z4, z5, z6, z7, z8, z9, z10, z11, z12⟩ := enAt_of (x := zeroE) HS5.out.h0))
                 | ((with_reducible refine (HLS.out _ _ HSb.out).mono ?_)
                    rintro e w4 ⟨rfl, hq⟩
                    have hg : Grown (w3.alloc zO) w4 := (by obtain ⟨m, rfl⟩ := hq; exact Grown.drewN _ m)
                    clear hq
                    have HS5 := Lib.hid (HSb.out.grown hg)
                    have K7 := Lib.hid (HC.out _ HS5.out.tail); have K9 := Lib.hid (HC.out _ (sat_put13 (x := zeroE) (y := ⟨1, ⟨c, 1, S.tx c⟩, lsn, S.la c, n, k, wu, wd, !a.data.toList.isEmpty, a.data, 0⟩) HS5.out).tail); have ff := unfrozen_of HS5.out.h0; obtain ⟨z0, z1, z2, z3, z4, z5, z6, z7, z8, z9, z10, z11, z12⟩ := enAt_of (x := zeroE) HS5.out.h0)))
          all_goals
            first
            | (have FIN : Hid (Sat _ (.blk _ (eO (chgE S a)) :: .blk (sb + 1) (.cells #[.bool (!a.data.toList.isEmpty), kS a.data] 41) :: .blk sb (.cells #[.bool wu, kS wd] 41) :: .blk pb (psO lv (.slice (some ⟨ng, off, none⟩) S.now.length nc) av S.ow S.tx S.la) :: (hl ++ (ha ++ (H ++ (.blk ab (acO a) :: F)))))) := Lib.hid (by have h0 := sat_put13 (x := zeroE) (y := ⟨1, ⟨c, 1, S.tx c⟩, lsn, S.la c, n, k, wu, wd, !a.data.toList.isEmpty, a.data, 0⟩) HS5.out; rw [← HYE.out]; exact h0))
            | (have FIN : Hid (Sat _ (.blk _ (eO (chgE S a)) :: .blk (sb + 1) (.cells #[.bool (!a.data.toList.isEmpty), kS a.data] 41) :: .blk sb (.cells #[.bool wu, kS wd] 41) :: .blk pb (psO lv (.slice (some ⟨ng, off, none⟩) S.now.length nc) av S.ow S.tx S.la) :: (hl ++ (ha ++ (H ++ (.blk ab (acO a) :: F)))))) := Lib.hid (by have h0 := HS5.out.new (.cells #[kI 1, kI (c : Int), kI 1, kI (S.tx c), kI lsn, kI (S.la c), kI (n : Int), kI (k : Int), .bool wu, kS wd, .bool (!a.data.toList.isEmpty), kS a.data, kI 0] 58); rw [congrArg (HItem.blk _) HYE.out] at h0; exact h0))
            clear HS5 HSa K1 K2 K3 K5 K7 K9 HC HTX HLS
            go_wp2_with fail
            go_meet
            exact ⟨_, rfl, FIN.out⟩
        case rest =>
          obtain ⟨yb, rfl, hs10⟩ := hcut
          clear K1 K2 K3 HS3 HS9 HLS HTX HC HYE
          have hlb : -9223372036854775808 ≤ lsnM S c n ∧ lsnM S c n ≤ 9223372036854775807 := by
            have h1 := HSM.out.1.1 c
            have h2 : 0 ≤ (pgAt S.now n).lsn ∧ (pgAt S.now n).lsn ≤ 1000000 := by
              unfold pgAt
              split
              · rename_i q hq
                have := HSM.out.1.2.2.2.2.1 q (List.mem_of_getElem? hq)
                exact ⟨(goodP_iff.1 this.1).1, this.2⟩
              · decide
            unfold lsnM
            omega
          have hyf : (chgE S a).t.c = (c : Int) ∧ (chgE S a).page = (n : Int) ∧ (chgE S a).lsn = lsnM S c n := by
            unfold chgE PS.t
            rw [HN.out.1, HN.out.2.1]
            exact ⟨rfl, rfl, rfl⟩
          obtain ⟨y, hy⟩ : ∃ y, chgE S a = y := ⟨_, rfl⟩
          have hrs := HD2.out
          rw [hy] at hyf hs10 hrs
          obtain ⟨hy1, hy2, hy3⟩ := hyf
          have HK := Lib.hid hs10
          obtain ⟨y0, y1, y2, y3, y4, y5, y6, y7, y8, y9, y10, y11, y12⟩ := enAt_of hs10.h0
          have HGD := Lib.hid (good_any y wc (by rw [hy3]; exact hlb.1) (by rw [hy3]; exact hlb.2))
          obtain ⟨gy, hgy⟩ : ∃ gy, goodM y = gy := ⟨_, rfl⟩
          rw [hgy] at HGD hrs
          have HRS := Lib.hid hrs
          have HAD : Hid (∀ W, Sat W (.blk yb (eO y) :: .blk (sb + 1) (.cells #[.bool (!a.data.toList.isEmpty), kS a.data] 41) :: .blk sb (.cells #[.bool wu, kS wd] 41) :: .blk pb (psO lv (.slice (some ⟨ng, off, none⟩) S.now.length nc) av S.ow S.tx S.la) :: (hl ++ (ha ++ (H ++ (.blk ab (acO a) :: F))))) → Calls Tryz.prog 21 #[.pointer (some ⟨pb, 0, none⟩), eV y] W (Ret (.bool (addP S y).1) (PsIs pb (addP S y).2 ([.blk yb (eO y), .blk (sb + 1) (.cells #[.bool (!a.data.toList.isEmpty), kS a.data] 41), .blk sb (.cells #[.bool wu, kS wd] 41)] ++ (.blk ab (acO a) :: F))))) := Lib.hid (fun W hW => add2_any y (HMK.out W [.blk yb (eO y), .blk (sb + 1) (.cells #[.bool (!a.data.toList.isEmpty), kS a.data] 41), .blk sb (.cells #[.bool wu, kS wd] 41)] hW) HSM.out.1 ⟨HSM.out.2.2.1, HSM.out.2.2.2.1⟩ c5 hy1 (fun _ => ⟨n, n4, hy2⟩) (by rw [hy3]; exact hlb))
          have HOUT : Hid (∀ Sx W, PsIs pb Sx ([.blk yb (eO y), .blk (sb + 1) (.cells #[.bool (!a.data.toList.isEmpty), kS a.data] 41), .blk sb (.cells #[.bool wu, kS wd] 41)] ++ (.blk ab (acO a) :: F)) W → PsIs pb Sx F W) := Lib.hid (fun Sx W hW => hW.part (fun a => by simp only [cnt_cons, cnt_append]; omega))
          clear hs10 hrs hgy hy hy1 hy2 hy3 hlb HD2 HSM HS HN HWA
          cases gy with
          | false =>
            have hrs := HRS.out
            rw [if_neg (by intro h; exact absurd h.1 (by decide))] at hrs
            subst hrs
            go_wp2_with fail
            refine (HGD.out).mono ?_
            rintro e w5 ⟨rfl, hg⟩
            have FIN := Lib.hid (HOUT.out _ _ (HMK.out w5 [.blk yb (eO y), .blk (sb + 1) (.cells #[.bool (!a.data.toList.isEmpty), kS a.data] 41), .blk sb (.cells #[.bool wu, kS wd] 41)] (HK.out.grown hg)))
            clear hg HGD HAD HMK HK y0 y1 y2 y3 y4 y5 y6 y7 y8 y9 y10 y11 y12
            go_wp2_with fail
            refine bodyPost_end (results_none rfl _ _ _) rfl ?_
            exact ⟨rfl, FIN.out⟩
          | true =>
            obtain ⟨ub, hub⟩ : ∃ ub, (addP S y).1 = ub := ⟨_, rfl⟩
            rw [hub] at HAD HRS
            go_wp2_with fail
            refine (HGD.out).mono ?_
            rintro e w5 ⟨rfl, hg⟩
            have HK5 := Lib.hid (HK.out.grown hg)
            clear hg HGD HK y0 y1 y2 y3 y4 y5 y6 y7 y8 y9 y10 y11 y12
            obtain ⟨y0, y1, y2, y3, y4, y5, y6, y7, y8, y9, y10, y11, y12⟩ := enAt_of HK5.out.h0
            go_wp2_with fail
            refine (HAD.out _ HK5.out).mono ?_
            rintro e w6 ⟨rfl, hp6⟩
            clear y0 y1 y2 y3 y4 y5 y6 y7 y8 y9 y10 y11 y12 HK5 HAD
            cases ub with
            | false =>
              have hrs := HRS.out
              rw [if_neg (by intro h; exact absurd h.2 (by decide))] at hrs
              have hno : (addP S y).2 = S := by
                unfold addP at hub ⊢
                split
                · rename_i h3
                  rw [if_pos h3] at hub
                  split
                  · rename_i h4
                    rw [if_pos h4] at hub; cases hub
                  · rfl
                · rename_i h3
                  rw [if_neg h3] at hub; cases hub
              rw [hno, hrs] at hp6
              have FIN := Lib.hid (HOUT.out _ _ hp6)
              clear hp6 HMK hrs hno hub
              go_wp2_with fail
              refine bodyPost_end (results_none rfl _ _ _) rfl ?_
              exact ⟨rfl, FIN.out⟩
            | true =>
              have hrs := HRS.out
              rw [if_pos (by simp)] at hrs
              obtain ⟨lv', nv', av', vs', hl', ha', H', g1, g2, g3, g4, s6⟩ := hp6
              have m0 : w6.cell? ⟨pb, 3 + n, none⟩ = some (kI ((addP S y).2.ow n)) := by rw [cell_of s6.h0]; exact psC_ow n4
              have ff := unfrozen_of s6.h0
              have hs7 := s6.setCell (i := 3 + n) (kI (c : Int))
              rw [psC_set_ow n4] at hs7
              have FIN : Hid (PsIs pb S' F (w6.setCell ⟨pb, 3 + n, none⟩ (kI (c : Int)))) := Lib.hid (by
                rw [← hrs]
                exact HOUT.out _ _ ⟨_, _, _, vs', hl', ha', H', g1, g2, g3, g4, hs7⟩)
              clear s6 hs7 g1 g2 g3 g4 HMK hrs hub HRS
              go_wp2_with fail
              refine bodyPost_end (results_none rfl _ _ _) rfl ?_
              exact ⟨rfl, FIN.out⟩
  · have b1 : (a.kind == 1) = false := beq_eq_false_iff_ne.2 q1
    have hdo := HDO.out
    rw [if_neg q1] at hdo
    clear q1 HDO
    by_cases q2 : a.kind = 2
    · rw [if_pos q2] at hdo
      have b2 : (a.kind == 2) = true := by rw [q2]; rfl
      obtain ⟨g1, g2, g3, g4⟩ := HI.out S HSS.out
      have HUN := Lib.hid (undo2_any HP.out g1 g2 ⟨g3, g4⟩ c5)
      rw [hdo] at HUN
      generalize (undoP S c).1 = ub at *
      clear hdo q2 g1 g2 g3 g4 HP
      go_wp2_with (go_at_call 44; refine (HUN.out).mono ?_; rintro e w2 ⟨rfl, hp⟩; have FIN := Lib.hid (PsIs.tailF hp); clear hp)
      refine bodyPost_end (results_none rfl _ _ _) rfl ?_
      exact ⟨rfl, FIN.out⟩
    · rw [if_neg q2] at hdo
      have b2 : (a.kind == 2) = false := beq_eq_false_iff_ne.2 q2
      clear q2
      by_cases q3 : a.kind = 3
      · rw [if_pos q3] at hdo
        have b3 : (a.kind == 3) = true := by rw [q3]; rfl
        obtain ⟨g1, g2, g3, g4⟩ := HI.out S HSS.out
        have HEN := Lib.hid (end2_any 3 HP.out g1 (by omega) ⟨g3, g4⟩ c5)
        rw [hdo] at HEN
        clear hdo q3 g1 g2 g3 g4 HP
        go_wp2_with (go_at_call 45; refine (HEN.out).mono ?_; rintro e w2 ⟨rfl, hp⟩; have FIN := Lib.hid (PsIs.tailF hp); clear hp)
        refine bodyPost_end (results_none rfl _ _ _) rfl ?_
        exact ⟨rfl, FIN.out⟩
      · rw [if_neg q3] at hdo
        have b3 : (a.kind == 3) = false := beq_eq_false_iff_ne.2 q3
        clear q3
        by_cases q4 : a.kind = 4
        · rw [if_pos q4] at hdo
          have b4 : (a.kind == 4) = true := by rw [q4]; rfl
          obtain ⟨S2, hS2⟩ : ∃ S2, rollP c 10000 S = S2 := ⟨_, rfl⟩
          rw [hS2] at hdo
          have HR0 := Lib.hid hS2
          have HDE := Lib.hid hdo
          clear q4 hdo hS2
          go_wp2_with fail
          go_loopw [] (fun wr => ∃ f Sc, rollP c f Sc = S2 ∧ I Sc ∧ 10000 ≤ Sc.list.length + f ∧ PsIs pb Sc (.blk ab (acO a) :: F) wr) (fun wr => 20000 - lenAt pb wr)
          case atStart => exact ⟨10000, S, HR0.out, HSS.out, by omega, HP.out⟩
          case round =>
            clear HR0 HP
            obtain ⟨f, Sc, hroll, hSc, hlen, hp⟩ := hrel
            obtain ⟨g1, g2, g3, g4⟩ := HI.out Sc hSc
            obtain ⟨f', rfl⟩ : ∃ f', f = f' + 1 := ⟨f - 1, by omega⟩
            have hln := lenAt_ps hp
            have HUN := Lib.hid (undo2_any hp g1 g2 ⟨g3, g4⟩ c5)
            simp only [rollP] at hroll
            obtain ⟨ub, hub⟩ : ∃ ub, (undoP Sc c).1 = ub := ⟨_, rfl⟩
            rw [hub] at HUN
            cases ub with
            | true =>
              rw [if_pos hub] at hroll
              obtain ⟨y, nw, hy⟩ := undoP_yes hub
              have hle : (undoP Sc c).2.list.length = Sc.list.length + 1 := by rw [hy]; show (Sc.list ++ [y]).length = _; simp
              have F2 : Hid (∀ w2, PsIs pb (undoP Sc c).2 (.blk ab (acO a) :: F) w2 → (∃ f Sc, rollP c f Sc = S2 ∧ I Sc ∧ 10000 ≤ Sc.list.length + f ∧ PsIs pb Sc (.blk ab (acO a) :: F) w2) ∧ 20000 - lenAt pb w2 < 20000 - lenAt pb wr) := Lib.hid (fun w2 h2 => ⟨⟨f', _, hroll, HST.out Sc hSc hub, by omega, h2⟩, by rw [lenAt_ps h2, hln]; omega⟩)
              clear hroll hSc hlen hp g1 g2 g3 g4 hln hub hy hle
              go_wp2_with (go_at_call 44; refine (HUN.out).mono ?_; rintro e w2 ⟨rfl, hp⟩; have FIN := Lib.hid (F2.out _ hp); clear hp)
              exact FIN.out
            | false =>
              rw [if_neg (by rw [hub]; decide)] at hroll
              have hno := undoP_no hub
              rw [hno] at HUN
              subst hroll
              have HEN : Hid (∀ w2, PsIs pb Sc (.blk ab (acO a) :: F) w2 → Calls Tryz.prog 45 #[.pointer (some ⟨pb, 0, none⟩), .int .i64 (c : Int), kI 4] w2 (Ret (.tuple #[]) (PsIs pb S' (.blk ab (acO a) :: F)))) := Lib.hid (fun w2 h2 => by
                have := end2_any 4 h2 g1 (by omega) ⟨g3, g4⟩ c5
                rw [HDE.out] at this; exact this)
              clear hSc hlen hp g1 g2 g3 g4 hln hub hno
              go_wp2_with (first
                | (go_at_call 44; refine (HUN.out).mono ?_; rintro e w2 ⟨rfl, hp⟩; have HEN2 := Lib.hid (HEN.out _ hp); clear hp)
                | (go_at_call 45; refine (HEN2.out).mono ?_; rintro e w3 ⟨rfl, hp⟩; have FIN := Lib.hid (PsIs.tailF hp); clear hp))
              refine bodyPost_end (results_none rfl _ _ _) rfl ?_
              exact ⟨rfl, FIN.out⟩
        · rw [if_neg q4] at hdo
          have b4 : (a.kind == 4) = false := beq_eq_false_iff_ne.2 q4
          subst hdo
          have FIN := Lib.hid (PsIs.tailF HP.out)
          clear q4 HP
          go_wp2_with fail
          refine bodyPost_end (results_none rfl _ _ _) rfl ?_
          exact ⟨rfl, FIN.out⟩
end Go.Proofs.YtficgjklagnbjaaGreat
namespace Go.Proofs.YtficgjklagnbjaaGreat
open Go Go.MapKept Go.RowKit Go.Proofs Go.Sort

def z0F : Nat → Int := fun _ => 0
def tx0 : Nat → Int := fun j => if 1 ≤ j ∧ j < 5 then 1 else 0
def now0 : List Lf := [(0, emptyP), (1, emptyP), (2, emptyP), (3, emptyP)]
def PS0 : PS := ⟨[], now0, [now0], z0F, tx0, z0F⟩
theorem psO_tx {lv nv av : Value} {o t t' l : Nat → Int} (h : ∀ j, j < 5 → t j = t' j) : psO lv nv av o t l = psO lv nv av o t' l := by
  unfold psO psC
  rw [h 0 (by omega), h 1 (by omega), h 2 (by omega), h 3 (by omega), h 4 (by omega)]
theorem now0_get {i : Nat} (h : i < 4) : now0[i]? = some ((i : Int), emptyP) := by
  have h2 : i = 0 ∨ i = 1 ∨ i = 2 ∨ i = 3 := by omega
  rcases h2 with rfl | rfl | rfl | rfl <;> rfl
set_option maxRecDepth 100000 in
set_option maxHeartbeats 4000000 in
theorem born_any {F : Heaplet} {w : World} (s : Sat w F) :
    Calls Tryz.prog 25 #[] w fun e w' => ∃ pb, e = .returned (.pointer (some ⟨pb, 0, none⟩)) ∧ PsIs pb PS0 F w' := by
  have hs1 : Sat (w.alloc (psO (.slice none 0 0) (.slice none 0 0) (.slice none 0 0) z0F z0F z0F)) (.blk w.heap.size (psO (.slice none 0 0) (.slice none 0 0) (.slice none 0 0) z0F z0F z0F) :: F) := s.new _
  have HS1 : Hid (∃ nv hq, LvOwn nv (now0.take 0) hq ∧ Sat (w.alloc (.cells #[.slice none 0 0, .slice none 0 0, .slice none 0 0, kI 0, kI 0, kI 0, kI 0, kI 0, kI 0, kI 0, kI 0, kI 0, kI 0, kI 0, kI 0, kI 0, kI 0] 34)) (.blk w.heap.size (psO (.slice none 0 0) nv (.slice none 0 0) z0F z0F z0F) :: (hq ++ F))) := Lib.hid ⟨_, [], LvOwn.nil, hs1⟩
  clear s hs1
  go_enter Tryz.func25, Tryz.ntmps25
  go_upto_region 2 with (fail)
  generalize w.alloc (.cells #[.slice none 0 0, .slice none 0 0, .slice none 0 0, kI 0, kI 0, kI 0, kI 0, kI 0, kI 0, kI 0, kI 0, kI 0, kI 0, kI 0, kI 0, kI 0, kI 0] 34) = W1 at *
  generalize w.heap.size = pb at *
  go_wp2_with fail
  go_loopw [2] (fun v2 wr => ∃ i : Nat, i ≤ 4 ∧ v2 = .int .i64 i ∧ ∃ nv hq, LvOwn nv (now0.take i) hq ∧ Sat wr (.blk pb (psO (.slice none 0 0) nv (.slice none 0 0) z0F z0F z0F) :: (hq ++ F))) (fun v2 _ => 100 - (RowKit.intOf v2).toNat)
  case atStart => exact ⟨0, by omega, rfl, HS1.out⟩
  case round =>
    clear HS1
    obtain ⟨i, hi, rfl, nv, hq, hv, s⟩ := hrel
    have i0 : (0 : Int) ≤ (i : Int) := by omega
    obtain ⟨na, nc, rfl⟩ := LvOwn.form hv
    by_cases hil : i < 4
    · have i1 : (i : Int) < 4 := by omega
      have htk : now0.take (i + 1) = now0.take i ++ [((i : Int), emptyP)] := by rw [List.take_add_one, now0_get hil]; rfl
      have hln : (now0.take i).length = i := by rw [List.length_take]; show min i 4 = i; omega
      rw [hln] at hv s
      have h1 : Sat (wr.alloc (lfO i 0 (.slice none 0 0))) (.blk wr.heap.size (.cells #[kI i, kI emptyP.lsn, .slice none 0 0] 54) :: (hq ++ ([] ++ (.blk pb (psO (.slice none 0 0) (.slice na i nc) (.slice none 0 0) z0F z0F z0F) :: F)))) := by
        have h0 := s.new (lfO i 0 (.slice none 0 0))
        have h0' : Sat (wr.alloc (lfO i 0 (.slice none 0 0))) (.blk wr.heap.size (.cells #[kI i, kI emptyP.lsn, .slice none 0 0] 54) :: .blk pb (psO (.slice none 0 0) (.slice na i nc) (.slice none 0 0) z0F z0F z0F) :: (hq ++ F)) := h0
        (refine Sat.part h0' ?_; intro a; simp only [cnt_cons, cnt_append, List.nil_append]; omega)
      obtain ⟨v5, w5, h5, hap, hown5, hs5⟩ := lv_push (q := emptyP) (n := (i : Int)) (hn := []) hv h1 (SlAt.nil _ _ _) (by rw [hln]; omega)
      rw [← htk] at hown5
      have hs6 : Sat w5 (.blk pb (psO (.slice none 0 0) (.slice na i nc) (.slice none 0 0) z0F z0F z0F) :: (h5 ++ F)) := by (refine Sat.part hs5 ?_; intro a; simp only [cnt_cons, cnt_append]; omega)
      obtain ⟨a5, c5, rfl⟩ := LvOwn.form hown5
      have hln2 : (now0.take (i + 1)).length = i + 1 := by rw [List.length_take]; show min (i + 1) 4 = i + 1; omega
      rw [hln2] at hown5 hap
      have k0 : wr.cell? ⟨pb, 1, none⟩ = some (.slice na i nc) := by rw [cell_of s.h0]; rfl
      have k1 : w5.cell? ⟨pb, 1, none⟩ = some (.slice na i nc) := by rw [cell_of hs6.h0]; rfl
      have k2 := unfrozen_of hs6.h0
      have FIN : Hid (LvOwn (.slice a5 (i + 1) c5) (now0.take (i + 1)) h5 ∧ Sat (w5.setCell ⟨pb, 1, none⟩ (.slice a5 (i + 1) c5)) (.blk pb (psO (.slice none 0 0) (.slice a5 (i + 1) c5) (.slice none 0 0) z0F z0F z0F) :: (h5 ++ F))) := Lib.hid ⟨hown5, hs6.setCell (i := 1) (.slice a5 (i + 1) c5)⟩
      have hap : ∀ ty, (Builtin.append_ #[30, 30] ty #[.slice na i nc, .slice (some ⟨wr.heap.size, 0, none⟩) 1 1]).run Tryz.prog (wr.alloc (lfO i 0 (.slice none 0 0))) = .ok (.slice a5 (i + 1) c5) w5 := hap
      have HAP := Lib.hid hap
      have k3 : (wr.alloc (lfO i 0 (.slice none 0 0))).cell? ⟨pb, 1, none⟩ = some (.slice na i nc) := by rw [cell_of ((s.new (lfO i 0 (.slice none 0 0))).h1)]; rfl
      clear hv s h1 hs5 hs6 hown5 hap htk hln hln2 hi
      go_wp2_with (at_builtin; refine wpList_append_run rfl _ _ _ _ rfl _ _ _ _ rfl rfl HAP.out ?_)
      exact ⟨⟨i + 1, by omega, by simp, _, h5, FIN.out.1, FIN.out.2⟩, by simp only [RowKit.intOf]; omega⟩
    · have e4 : i = 4 := by omega
      have i1 : ((i : Int) < 4) = False := eq_false (by omega)
      have hv4 : LvOwn (.slice na 4 nc) now0 hq := by rw [e4] at hv; exact hv
      have hs4 : Sat wr (.blk pb (psO (.slice none 0 0) (.slice na 4 nc) (.slice none 0 0) z0F z0F z0F) :: (hq ++ F)) := by rw [e4] at s; exact s
      clear hv s e4 hi hil
      have hND : Sat (wr.alloc (.cells #[(.slice na 4 nc)] 30)).drew (.blk wr.heap.size (.cells #[(.slice na 4 nc)] 30) :: ([] ++ (.blk pb (psO (.slice none 0 0) (.slice na 4 nc) (.slice none 0 0) z0F z0F z0F) :: (hq ++ F)))) := (hs4.new (.cells #[(.slice na 4 nc)] 30)).drew
      obtain ⟨v6, w6, h6, hap, hv6, hs6⟩ := ls_push (vs := []) (SliceIs.nil _ _) hND (by simp)
      have hs7 : Sat w6 (.blk pb (psO (.slice none 0 0) (.slice na 4 nc) (.slice none 0 0) z0F z0F z0F) :: (h6 ++ (hq ++ F))) := by (refine Sat.part hs6 ?_; intro a; simp only [cnt_cons, cnt_append]; omega)
      obtain ⟨a6, c6, rfl⟩ := sl_form hv6
      have k0 : wr.cell? ⟨pb, 2, none⟩ = some (.slice none 0 0) := by rw [cell_of hs4.h0]; rfl
      have k0b : wr.cell? ⟨pb, 1, none⟩ = some (.slice na 4 nc) := by rw [cell_of hs4.h0]; rfl
      have k1 : w6.cell? ⟨pb, 2, none⟩ = some (.slice none 0 0) := by rw [cell_of hs7.h0]; rfl
      have k2 : w6.frozen? ⟨pb, 2, none⟩ = false := unfrozen_of hs7.h0 2
      have k3 : (wr.alloc (.cells #[(.slice na 4 nc)] 30)).cell? ⟨pb, 2, none⟩ = some (.slice none 0 0) := by rw [cell_of (hs4.new (.cells #[(.slice na 4 nc)] 30)).h1]; rfl
      have hap : ∀ ty, (Builtin.append_ #[31, 31] ty #[(.slice none 0 0), .slice (some ⟨wr.heap.size, 0, none⟩) 1 1]).run Tryz.prog (wr.alloc (.cells #[(.slice na 4 nc)] 30)).drew = .ok (.slice a6 1 c6) w6 := hap
      have HAP := Lib.hid hap
      have hs8 : Sat (w6.setCell ⟨pb, 2, none⟩ (.slice a6 1 c6)) (.blk pb (psO (.slice none 0 0) (.slice na 4 nc) (.slice a6 1 c6) z0F z0F z0F) :: (h6 ++ (hq ++ F))) := hs7.setCell (i := 2) (.slice a6 1 c6)
      have hv7 : SliceIs 30 1 (.slice a6 1 c6) 1 [(.slice na 4 nc)] h6 := hv6
      have HV := Lib.hid (And.intro hv4 (And.intro hv7 hs8))
      clear hND hs4 hs6 hs7 hs8 hv4 hv6 hv7 hap
      go_upto_region 6 with (fail)
      go_cut [] (fun wx => Sat wx (.blk pb (psO (.slice none 0 0) (.slice na 4 nc) (.slice a6 1 c6) z0F z0F z0F) :: (h6 ++ (hq ++ F))))
      case first =>
        go_region_law ((refine step_append_run (by rfl) _ _ _ _ (by rfl) _ _ _ w6 (by rfl) (by rfl) HAP.out ?_))
        all_goals
          go_wp2_with fail
          go_meet
          exact HV.out.2.2
      case rest =>
        have HS := Lib.hid hcut
        clear k0 k0b k1 k2 k3 HAP hcut i1 i0
        go_wp2_with fail
        go_loopw [3] (fun v3 wr => ∃ (j : Nat) (t : Nat → Int), 1 ≤ j ∧ j ≤ 5 ∧ v3 = .int .i64 j ∧ (∀ m, m < 5 → t m = if 1 ≤ m ∧ m < j then 1 else 0) ∧ Sat wr (.blk pb (psO (.slice none 0 0) (.slice na 4 nc) (.slice a6 1 c6) z0F t z0F) :: (h6 ++ (hq ++ F)))) (fun v3 _ => 100 - (RowKit.intOf v3).toNat)
        case atStart => exact ⟨1, z0F, by omega, by omega, rfl, fun m _ => by rw [if_neg (by omega)]; rfl, HS.out⟩
        case round =>
          clear HS
          obtain ⟨j, t, hj1, hj5, rfl, ht, s⟩ := hrel
          have j0 : (0 : Int) ≤ (j : Int) := by omega
          by_cases hjl : j < 5
          · have j1 : (j : Int) < 5 := by omega
            have m1 : ∀ W, Sat W (.blk pb (psO (.slice none 0 0) (.slice na 4 nc) (.slice a6 1 c6) z0F t z0F) :: (h6 ++ (hq ++ F))) → W.cell? ⟨pb, 7 + j, none⟩ = some (kI (t j)) := fun W hW => by rw [cell_of hW.h0]; exact psC_tx hjl
            have m2 := m1 _ s
            have ff := unfrozen_of s.h0
            have hs2 := s.setCell (i := 7 + j) (kI 1)
            rw [psC_set_tx hjl] at hs2
            have HO : Hid (∀ m, m < 5 → upd t j 1 m = if 1 ≤ m ∧ m < j + 1 then 1 else 0) := Lib.hid (fun m hm => by
              have h0 := ht m hm
              unfold upd
              by_cases e : m = j
              · subst e; rw [if_pos rfl, if_pos (by omega)]
              · rw [if_neg e, h0]
                by_cases e2 : 1 ≤ m ∧ m < j
                · rw [if_pos e2, if_pos (by omega)]
                · rw [if_neg e2, if_neg (by omega)])
            have FIN := Lib.hid hs2
            clear s hs2 ht m1
            go_wp2_with fail
            exact ⟨⟨j + 1, upd t j 1, by omega, by omega, by simp, HO.out, FIN.out⟩, by simp only [RowKit.intOf]; omega⟩
          · have e5 : j = 5 := by omega
            have j1 : ((j : Int) < 5) = False := eq_false (by omega)
            have FIN : Hid (PsIs pb PS0 F wr) := Lib.hid (by
              have h0 := psO_tx (lv := (.slice none 0 0)) (nv := (.slice na 4 nc)) (av := .slice a6 1 c6) (o := z0F) (l := z0F) (t := t) (t' := tx0) (fun m hm => by rw [ht m hm, e5]; rfl)
              rw [h0] at s
              refine ⟨(.slice none 0 0), (.slice na 4 nc), .slice a6 1 c6, [(.slice na 4 nc)], [], h6, hq, SliceIs.nil _ _, HV.out.2.1, ?_, ?_, s⟩
              · have := HV.out.1.at []
                rw [List.append_nil] at this
                exact this
              · refine ⟨rfl, fun i v P h1 h2 => ?_⟩
                have h3 := (List.getElem?_eq_some_iff.1 h1).1
                simp only [List.length_cons, List.length_nil] at h3
                obtain rfl : i = 0 := by omega
                cases h1; cases h2
                have := HV.out.1.at []
                rw [List.append_nil] at this
                exact this)
            clear s ht hj1 hj5 hjl e5 HV
            go_wp2_with fail
            go_ret
            exact ⟨_, rfl, FIN.out⟩
end Go.Proofs.YtficgjklagnbjaaGreat
