/- Texts put together: Md4, Md5, Md6. Conditions: none. -/
import Derived.Test.YtficgjklagnbjaaGreatFo19
namespace Go.Proofs.YtficgjklagnbjaaGreat
open Go Go.MapKept Go.RowKit Go.Proofs Go.Sort

/-- A client's newest change is undone; whether there was one. -/
def undoP (S : PS) (c : Nat) : Bool × PS :=
  if (backM S.list (S.t c) 0).2 = false then (false, S)
  else if (turnM (backM S.list (S.t c) 0).1 (lsnM S c (backM S.list (S.t c) 0).1.page.toNat) (S.la c)).2 = 0 then addP S (turnM (backM S.list (S.t c) 0).1 (lsnM S c (backM S.list (S.t c) 0).1.page.toNat) (S.la c)).1
  else (false, S)
/-- The entries of a past are good, on its pages. -/
def Ok4 (S : PS) : Prop := ∀ x ∈ S.list, goodM x = true ∧ (x.kind ≤ 2 → ∃ n : Nat, n < 4 ∧ x.page = n)
theorem backM_mem {l : List En} {t : Tx} {x : En} (h : backM l t 0 = (x, true)) : x ∈ l ∧ x.kind = 1 ∧ x.t = t ∧ goodM x = true := by
  unfold backM at h
  split at h
  · cases h
  · rename_i h1
    have e : (nextM (ofM l t)).1 = x := congrArg Prod.fst h
    simp only [Bool.or_eq_true, Bool.not_eq_true', not_or, Bool.not_eq_false] at h1
    have h2 : nextM (ofM l t) = (x, true, (nextM (ofM l t)).2.2) := Prod.ext e (Prod.ext h1.1.1 rfl)
    obtain ⟨h3, h4, _⟩ := nextM_mem h2
    obtain ⟨h5, h6, h7⟩ := ofM_in h3
    exact ⟨h5, h4, h6, h7⟩
theorem PsIs.new {pb : Nat} {S : PS} {F : Heaplet} {w : World} (h : PsIs pb S F w) (o : Obj) : PsIs pb S F (w.alloc o) := h.below (Grown.alloc w o).below
theorem PsIs.part {pb : Nat} {S : PS} {F G : Heaplet} {w : World} (h : PsIs pb S F w) (hg : ∀ a, cnt a G ≤ cnt a F) : PsIs pb S G w := by
  obtain ⟨lv, nv, av, vs, hl, ha, H, h1, h2, h3, h4, s⟩ := h
  refine ⟨lv, nv, av, vs, hl, ha, H, h1, h2, h3, h4, Sat.part s fun a => ?_⟩
  have := hg a
  simp only [cnt_cons, cnt_append]
  omega
set_option maxRecDepth 100000 in
set_option maxHeartbeats 4000000 in
theorem undo2_any {pb : Nat} {S : PS} {F : Heaplet} {w : World} {c : Nat} (h : PsIs pb S F w) (hs : Small S) (h4k : Ok4 S) (hl1 : S.list.length + 1 ≤ 10000 ∧ S.all.length + 1 ≤ 10000) (hc : c < 5) :
    Calls Tryz.prog 44 #[.pointer (some ⟨pb, 0, none⟩), .int .i64 (c : Int)] w (Ret (.bool (undoP S c).1) (PsIs pb (undoP S c).2 F)) := by
  obtain ⟨rb, rS, hr⟩ : ∃ rb rS, undoP S c = (rb, rS) := ⟨_, _, rfl⟩
  rw [hr]
  unfold undoP at hr
  obtain ⟨x, is, hbk⟩ : ∃ x is, backM S.list (S.t c) 0 = (x, is) := ⟨_, _, rfl⟩
  rw [hbk] at hr
  simp only at hr
  have HR := Lib.hid hr
  obtain ⟨lv, nv, av, vs, hl, ha, H, h1, h2, h3, h4, s⟩ := h
  obtain ⟨l0, lc, rfl⟩ := sl_form h1
  have HMK : Hid (∀ W, Sat W (.blk pb (psO (.slice l0 S.list.length lc) nv av S.ow S.tx S.la) :: (hl ++ (ha ++ (H ++ F)))) → PsIs pb S F W) := Lib.hid (fun W hW => ⟨_, _, _, vs, hl, ha, H, h1, h2, h3, h4, hW⟩)
  have HMK2 : Hid (∀ W K, Sat W (K ++ (.blk pb (psO (.slice l0 S.list.length lc) nv av S.ow S.tx S.la) :: (hl ++ (ha ++ (H ++ F))))) → PsIs pb S (K ++ F) W) := Lib.hid (fun W K hW => ⟨_, _, _, vs, hl, ha, H, h1, h2, h3, h4, by (refine Sat.part hW ?_; intro a; simp only [cnt_cons, cnt_append]; omega)⟩)
  have HBK : Hid (∀ (W : World) (K : Heaplet), Sat W (K ++ (.blk pb (psO (.slice l0 S.list.length lc) nv av S.ow S.tx S.la) :: (hl ++ (ha ++ (H ++ F))))) → Calls Tryz.prog 18 #[.slice l0 S.list.length lc, tV (S.t c), kI 0] W (Ret (.tuple #[eV x, .bool is]) (Below W.heap.size W))) := Lib.hid (fun W K hW => by
    have := back_any (S.t c) 0 ((ens_in h1 (ha ++ (H ++ F))).mono (fun w hw => (Sat.right (h' := K) hw).tail)) hW (by have := hs.2.2.2.2.2.2.1; omega) hs.2.2.2.1
    rw [hbk] at this; exact this)
  have HTX : Hid (∀ (W : World) (K : Heaplet), Sat W (K ++ (.blk pb (psO (.slice l0 S.list.length lc) nv av S.ow S.tx S.la) :: (hl ++ (ha ++ (H ++ F))))) → Calls Tryz.prog 17 #[.pointer (some ⟨pb, 0, none⟩), .int .i64 (c : Int)] W (Pur (tV (S.t c)) W)) := Lib.hid (fun W K hW => txn_any (HMK.out W hW.right) hc)
  have HS := Lib.hid s
  have HSM := Lib.hid (And.intro hs (And.intro h4k (And.intro hl1 (And.intro hc hbk))))
  have hcell : ∀ W, Sat W (.blk pb (psO (.slice l0 S.list.length lc) nv av S.ow S.tx S.la) :: (hl ++ (ha ++ (H ++ F)))) → W.cell? ⟨pb, 0, none⟩ = some (.slice l0 S.list.length lc) := fun W hW => by rw [cell_of hW.h0]; rfl
  have HC := Lib.hid hcell
  have K1 := Lib.hid (hcell _ s)
  have K2 := Lib.hid (hcell _ s.drew)
  have K3 := Lib.hid (hcell _ (s.new zO).drew.tail)
  have HS3 : Hid (Sat (w.alloc zO).drew ([.blk w.heap.size zO] ++ (.blk pb (psO (.slice l0 S.list.length lc) nv av S.ow S.tx S.la) :: (hl ++ (ha ++ (H ++ F)))))) := Lib.hid (s.new zO).drew
  clear hr s hcell hs h4k hl1 hbk h1 h2 h3 h4
  go_enter Tryz.func44, Tryz.ntmps44
  go_upto_region 1 with (fail)
  go_cut [5, 6] (fun v5 v6 wx => ∃ cb, v5 = .pointer (some ⟨cb, 0, none⟩) ∧ v6 = .bool is ∧ Sat wx (.blk cb (eO x) :: .blk pb (psO (.slice l0 S.list.length lc) nv av S.ow S.tx S.la) :: (hl ++ (ha ++ (H ++ F)))))
  case first =>
    go_region_held3 (fun w' => w'.cell? ⟨pb, 0, none⟩ = some (.slice l0 S.list.length lc))
      (with_reducible first | exact K1.out | exact K2.out | exact K3.out | exact K5.out | exact K6.out | exact K7.out | exact K8.out | exact K9.out)
      (first
        | (go_at_call 17
           first
           | ((with_reducible refine (HTX.out _ [] HS.out.drew).mono ?_)
              rintro e w2 ⟨rfl, hg⟩
              have HS2 : Hid (Sat w2 ([] ++ (.blk pb (psO (.slice l0 S.list.length lc) nv av S.ow S.tx S.la) :: (hl ++ (ha ++ (H ++ F)))))) := Lib.hid (HS.out.drew.grown hg)
              have HS4 : Hid (Sat (w2.alloc zO) ([.blk w2.heap.size zO] ++ (.blk pb (psO (.slice l0 S.list.length lc) nv av S.ow S.tx S.la) :: (hl ++ (ha ++ (H ++ F)))))) := Lib.hid (HS2.out.new zO)
              have K5 := Lib.hid (HC.out _ HS2.out)
              have K6 := Lib.hid (HC.out _ HS4.out.tail))
           | ((with_reducible refine (HTX.out _ _ HS3.out).mono ?_)
              rintro e w2 ⟨rfl, hg⟩
              have HS2 : Hid (Sat w2 ([.blk w.heap.size zO] ++ (.blk pb (psO (.slice l0 S.list.length lc) nv av S.ow S.tx S.la) :: (hl ++ (ha ++ (H ++ F)))))) := Lib.hid (HS3.out.grown hg)
              have K5 := Lib.hid (HC.out _ HS2.out.tail)))
        | (go_at_call 18
           first
           | ((with_reducible refine (HBK.out _ _ HS2.out).mono ?_)
              rintro e w3 ⟨rfl, hb⟩
              have HS5 := Lib.hid (HS2.out.monoB hb)
              first
              | (have K7 := Lib.hid (HC.out _ HS5.out); have K8 := Lib.hid (HC.out _ (HS5.out.new zO).tail); have K9 := Lib.hid (HC.out _ (HS5.out.new (eO x)).tail))
              | (have K7 := Lib.hid (HC.out _ HS5.out.tail); have K9 := Lib.hid (HC.out _ (sat_put13 (x := zeroE) (y := x) HS5.out).tail); have ff := unfrozen_of HS5.out.h0; obtain ⟨z0, z1, z2, z3, z4, z5, z6, z7, z8, z9, z10, z11, z12⟩ := enAt_of (x := zeroE) HS5.out.h0))
           | ((with_reducible refine (HBK.out _ _ HS4.out).mono ?_)
              rintro e w3 ⟨rfl, hb⟩
              have HS5 := Lib.hid (HS4.out.monoB hb)
              have K7 := Lib.hid (HC.out _ HS5.out.tail); have K9 := Lib.hid (HC.out _ (sat_put13 (x := zeroE) (y := x) HS5.out).tail); have ff := unfrozen_of HS5.out.h0; obtain ⟨z0, z1, z2, z3, z4, z5, z6, z7, z8, z9, z10, z11, z12⟩ := enAt_of (x := zeroE) HS5.out.h0)))
    all_goals
      first
      | (have FIN : Hid (Sat _ (.blk _ (eO x) :: .blk pb (psO (.slice l0 S.list.length lc) nv av S.ow S.tx S.la) :: (hl ++ (ha ++ (H ++ F))))) := Lib.hid (sat_put13 (x := zeroE) (y := x) HS5.out))
      | (have FIN := Lib.hid (HS5.out.new (eO x)))
      clear HS5 HS2 K1 K2 K3 K5 K7 K9 HC HBK HTX
      go_wp2_with fail
      go_meet
      exact ⟨_, rfl, rfl, FIN.out⟩
  case rest =>
    obtain ⟨cb, rfl, rfl, hs9⟩ := hcut
    clear K1 K2 K3 HS3 HS HBK HTX HC
    cases is with
    | false =>
      have hrs := HR.out
      rw [if_pos rfl] at hrs
      have e1 : false = rb := congrArg Prod.fst hrs
      have e2 : S = rS := congrArg Prod.snd hrs
      subst e1; subst e2
      have FIN := Lib.hid (HMK.out _ hs9.tail)
      clear hrs HR hs9 HSM HMK
      go_wp2_with fail
      go_ret
      exact ⟨rfl, FIN.out⟩
    | true =>
      have hrs := HR.out
      rw [if_neg (by decide)] at hrs
      obtain ⟨hm1, hm2, hm3, hm4⟩ := backM_mem HSM.out.2.2.2.2
      obtain ⟨n, hn4, hxp⟩ := (HSM.out.2.1 x hm1).2 (by omega)
      rw [hxp, Int.toNat_natCast] at hrs
      have hxb := goodM_lsn hm4
      obtain ⟨lsn, hlsn⟩ : ∃ lsn, lsnM S c n = lsn := ⟨_, rfl⟩
      have hlb : -9223372036854775808 ≤ lsn ∧ lsn ≤ 9223372036854775807 := by
        have h1 := HSM.out.1.1 c
        have h2 : 0 ≤ (pgAt S.now n).lsn ∧ (pgAt S.now n).lsn ≤ 1000000 := by
          unfold pgAt
          split
          · rename_i q hq
            have := HSM.out.1.2.2.2.2.1 q (List.mem_of_getElem? hq)
            exact ⟨(goodP_iff.1 this.1).1, this.2⟩
          · decide
        rw [← hlsn]
        unfold lsnM
        omega
      have HLS : Hid (∀ (W : World) (K : Heaplet), Sat W (K ++ (.blk cb (eO x) :: .blk pb (psO (.slice l0 S.list.length lc) nv av S.ow S.tx S.la) :: (hl ++ (ha ++ (H ++ F))))) → Calls Tryz.prog 20 #[.pointer (some ⟨pb, 0, none⟩), .int .i64 (c : Int), .int .i64 (n : Int)] W (Qt (kI lsn) W)) := Lib.hid (fun W K hW => by
        have := lsn_any (HMK.out W hW.right.tail) HSM.out.1 hc hn4
        rw [hlsn] at this; exact this)
      rw [hlsn] at hrs
      obtain ⟨y, c', hty⟩ : ∃ y c', turnM x lsn (S.la c) = (y, c') := ⟨_, _, rfl⟩
      rw [hty] at hrs
      simp only at hrs
      have HTU : Hid (∀ W, Calls Tryz.prog 19 #[.agg #[kI x.kind, kI x.t.c, kI x.t.e, kI x.t.n, kI x.lsn, kI x.prev, kI (n : Int), kI x.slot, .bool x.wu, kS x.wd, .bool x.iu, kS x.idt, kI x.next], kI lsn, kI (S.la c)] W (Ret (.tuple #[eV y, kI c']) (Below W.heap.size W))) := Lib.hid (fun W => by
        have := turn_any x lsn (S.la c) W (by omega) hlb
        rw [hty] at this
        unfold eV at this
        rw [hxp] at this
        exact this)
      have HRS := Lib.hid (And.intro hrs (And.intro hty (And.intro hm3 (And.intro hxp (And.intro hlb hn4)))))
      have c0 : (0 : Int) ≤ (c : Int) := by omega
      have c5 : (c : Int) < 5 := by omega
      have hcell : ∀ W, Sat W (.blk cb (eO x) :: .blk pb (psO (.slice l0 S.list.length lc) nv av S.ow S.tx S.la) :: (hl ++ (ha ++ (H ++ F)))) → W.cell? ⟨pb, 12 + c, none⟩ = some (kI (S.la c)) ∧ W.cell? ⟨cb, 0, none⟩ = some (kI x.kind) ∧ W.cell? ⟨cb, 1, none⟩ = some (kI x.t.c) ∧ W.cell? ⟨cb, 2, none⟩ = some (kI x.t.e) ∧ W.cell? ⟨cb, 3, none⟩ = some (kI x.t.n) ∧ W.cell? ⟨cb, 4, none⟩ = some (kI x.lsn) ∧ W.cell? ⟨cb, 5, none⟩ = some (kI x.prev) ∧ W.cell? ⟨cb, 6, none⟩ = some (kI (n : Int)) ∧ W.cell? ⟨cb, 7, none⟩ = some (kI x.slot) ∧ W.cell? ⟨cb, 8, none⟩ = some (.bool x.wu) ∧ W.cell? ⟨cb, 9, none⟩ = some (kS x.wd) ∧ W.cell? ⟨cb, 10, none⟩ = some (.bool x.iu) ∧ W.cell? ⟨cb, 11, none⟩ = some (kS x.idt) ∧ W.cell? ⟨cb, 12, none⟩ = some (kI x.next) := fun W hW => by
        obtain ⟨y0, y1, y2, y3, y4, y5, y6, y7, y8, y9, y10, y11, y12⟩ := enAt_of hW.h0
        rw [hxp] at y6
        exact ⟨by rw [cell_of hW.h1]; exact psC_la hc, y0, y1, y2, y3, y4, y5, y6, y7, y8, y9, y10, y11, y12⟩
      have HS9 := Lib.hid hs9
      have HC := Lib.hid hcell
      have K1 := Lib.hid (hcell _ hs9)
      have K2 := Lib.hid (hcell _ hs9.drew)
      have K3 := Lib.hid (hcell _ (hs9.new zO).drew.tail)
      have HS3 : Hid (Sat (wc.alloc zO).drew ([.blk wc.heap.size zO] ++ (.blk cb (eO x) :: .blk pb (psO (.slice l0 S.list.length lc) nv av S.ow S.tx S.la) :: (hl ++ (ha ++ (H ++ F)))))) := Lib.hid (hs9.new zO).drew
      clear hrs HR hm1 hm2 hm3 hm4 hxb hlb hlsn hty hcell hs9 hxp
      go_upto_region 4 with (fail)
      go_cut [7, 8] (fun v7 v8 wx => ∃ yb, v7 = .pointer (some ⟨yb, 0, none⟩) ∧ v8 = kI c' ∧ Sat wx (.blk yb (eO y) :: .blk cb (eO x) :: .blk pb (psO (.slice l0 S.list.length lc) nv av S.ow S.tx S.la) :: (hl ++ (ha ++ (H ++ F)))))
      case first =>
        go_region_held3 (fun w' => w'.cell? ⟨pb, 12 + c, none⟩ = some (kI (S.la c)) ∧ w'.cell? ⟨cb, 0, none⟩ = some (kI x.kind) ∧ w'.cell? ⟨cb, 1, none⟩ = some (kI x.t.c) ∧ w'.cell? ⟨cb, 2, none⟩ = some (kI x.t.e) ∧ w'.cell? ⟨cb, 3, none⟩ = some (kI x.t.n) ∧ w'.cell? ⟨cb, 4, none⟩ = some (kI x.lsn) ∧ w'.cell? ⟨cb, 5, none⟩ = some (kI x.prev) ∧ w'.cell? ⟨cb, 6, none⟩ = some (kI (n : Int)) ∧ w'.cell? ⟨cb, 7, none⟩ = some (kI x.slot) ∧ w'.cell? ⟨cb, 8, none⟩ = some (.bool x.wu) ∧ w'.cell? ⟨cb, 9, none⟩ = some (kS x.wd) ∧ w'.cell? ⟨cb, 10, none⟩ = some (.bool x.iu) ∧ w'.cell? ⟨cb, 11, none⟩ = some (kS x.idt) ∧ w'.cell? ⟨cb, 12, none⟩ = some (kI x.next))
          (with_reducible first | exact K1.out | exact K2.out | exact K3.out | exact K5.out | exact K6.out | exact K7.out | exact K8.out | exact K9.out | exact K9.out.1 | exact K9.out.2.1 | exact K9.out.2.2.1 | exact K9.out.2.2.2.1 | exact K9.out.2.2.2.2.1 | exact K9.out.2.2.2.2.2.1 | exact K9.out.2.2.2.2.2.2.1 | exact K9.out.2.2.2.2.2.2.2.1 | exact K9.out.2.2.2.2.2.2.2.2.1 | exact K9.out.2.2.2.2.2.2.2.2.2.1 | exact K9.out.2.2.2.2.2.2.2.2.2.2.1 | exact K9.out.2.2.2.2.2.2.2.2.2.2.2.1 | exact K9.out.2.2.2.2.2.2.2.2.2.2.2.2.1 | exact K9.out.2.2.2.2.2.2.2.2.2.2.2.2.2)
          (first
            | (go_at_call 20
               first
               | ((with_reducible refine (HLS.out _ [] HS9.out.drew).mono ?_)
                  rintro e w2 ⟨rfl, hq⟩
                  have hg : Grown wc.drew w2 := (by obtain ⟨m, rfl⟩ := hq; exact Grown.drewN _ m)
                  clear hq
                  have HS2 : Hid (Sat w2 ([] ++ (.blk cb (eO x) :: .blk pb (psO (.slice l0 S.list.length lc) nv av S.ow S.tx S.la) :: (hl ++ (ha ++ (H ++ F)))))) := Lib.hid (HS9.out.drew.grown hg)
                  have HS4 : Hid (Sat (w2.alloc zO) ([.blk w2.heap.size zO] ++ (.blk cb (eO x) :: .blk pb (psO (.slice l0 S.list.length lc) nv av S.ow S.tx S.la) :: (hl ++ (ha ++ (H ++ F)))))) := Lib.hid (HS2.out.new zO)
                  have K5 := Lib.hid (HC.out _ HS2.out)
                  have K6 := Lib.hid (HC.out _ HS4.out.tail))
               | ((with_reducible refine (HLS.out _ _ HS3.out).mono ?_)
                  rintro e w2 ⟨rfl, hq⟩
                  have hg : Grown (wc.alloc zO).drew w2 := (by obtain ⟨m, rfl⟩ := hq; exact Grown.drewN _ m)
                  clear hq
                  have HS2 : Hid (Sat w2 ([.blk wc.heap.size zO] ++ (.blk cb (eO x) :: .blk pb (psO (.slice l0 S.list.length lc) nv av S.ow S.tx S.la) :: (hl ++ (ha ++ (H ++ F)))))) := Lib.hid (HS3.out.grown hg)
                  have K5 := Lib.hid (HC.out _ HS2.out.tail)))
            | (go_at_call 19
               first
               | ((with_reducible refine (HTU.out w2).mono ?_)
                  rintro e w3 ⟨rfl, hb⟩
                  have HS5 := Lib.hid (HS2.out.monoB hb)
                  first
                  | (have K7 := Lib.hid (HC.out _ HS5.out); have K8 := Lib.hid (HC.out _ (HS5.out.new zO).tail); have K9 := Lib.hid (HC.out _ (HS5.out.new (eO y)).tail))
                  | (have K7 := Lib.hid (HC.out _ HS5.out.tail); have K9 := Lib.hid (HC.out _ (sat_put13 (x := zeroE) (y := y) HS5.out).tail); have ff := unfrozen_of HS5.out.h0; obtain ⟨z0, z1, z2, z3, z4, z5, z6, z7, z8, z9, z10, z11, z12⟩ := enAt_of (x := zeroE) HS5.out.h0))
               | ((with_reducible refine (HTU.out _).mono ?_)
                  rintro e w3 ⟨rfl, hb⟩
                  have HS5 := Lib.hid (HS4.out.monoB hb)
                  have K7 := Lib.hid (HC.out _ HS5.out.tail); have K9 := Lib.hid (HC.out _ (sat_put13 (x := zeroE) (y := y) HS5.out).tail); have ff := unfrozen_of HS5.out.h0; obtain ⟨z0, z1, z2, z3, z4, z5, z6, z7, z8, z9, z10, z11, z12⟩ := enAt_of (x := zeroE) HS5.out.h0)))
        all_goals
          first
          | (have FIN : Hid (Sat _ (.blk _ (eO y) :: .blk cb (eO x) :: .blk pb (psO (.slice l0 S.list.length lc) nv av S.ow S.tx S.la) :: (hl ++ (ha ++ (H ++ F))))) := Lib.hid (sat_put13 (x := zeroE) (y := y) HS5.out))
          | (have FIN := Lib.hid (HS5.out.new (eO y)))
          clear HS5 HS2 K1 K2 K3 K5 K7 K9 HC HTU HLS
          go_wp2_with fail
          go_meet
          exact ⟨_, rfl, rfl, FIN.out⟩
      case rest =>
        obtain ⟨yb, rfl, rfl, hs10⟩ := hcut
        clear K1 K2 K3 HS3 HS9 HLS HTU HC
        by_cases hc0 : c' = 0
        · subst hc0
          have hrs := HRS.out.1
          rw [if_pos rfl] at hrs
          have hye := (turnM_ok HRS.out.2.1).1
          have hyt : y.t.c = (c : Int) := by rw [hye]; show x.t.c = _; rw [HRS.out.2.2.1]; rfl
          have hyp : y.page = (n : Int) := by rw [hye]; exact HRS.out.2.2.2.1
          have hyl : y.lsn = lsn := by rw [hye]; rfl
          have hps : PsIs pb S (.blk yb (eO y) :: .blk cb (eO x) :: F) wc := by
            exact HMK2.out wc [.blk yb (eO y), .blk cb (eO x)] hs10
          have HAD := Lib.hid (add2_any y hps HSM.out.1 HSM.out.2.2.1 hc hyt (fun _ => ⟨n, HRS.out.2.2.2.2.2, hyp⟩) (by rw [hyl]; exact HRS.out.2.2.2.2.1))
          rw [hrs] at HAD
          obtain ⟨y0, y1, y2, y3, y4, y5, y6, y7, y8, y9, y10, y11, y12⟩ := enAt_of hs10.h0
          clear hrs HRS HSM HMK HMK2 hye hyt hyp hyl hps hs10
          go_wp2_with (go_at_call 21; refine (HAD.out).mono ?_; rintro e w11 ⟨rfl, hp11⟩; have FIN := Lib.hid (PsIs.part (G := F) hp11 (fun a => by simp only [cnt_cons]; omega)); clear hp11)
          go_ret
          exact ⟨rfl, FIN.out⟩
        · have hrs := HRS.out.1
          rw [if_neg hc0] at hrs
          have hb1 : (c' == 0) = false := beq_eq_false_iff_ne.2 hc0
          have e1 : false = rb := congrArg Prod.fst hrs
          have e2 : S = rS := congrArg Prod.snd hrs
          subst e1; subst e2
          have FIN := Lib.hid (HMK.out _ hs10.tail.tail)
          clear hrs HRS hs10 HSM HMK HMK2 hc0
          go_wp2_with fail
          go_ret
          exact ⟨rfl, FIN.out⟩
end Go.Proofs.YtficgjklagnbjaaGreat
namespace Go.Proofs.YtficgjklagnbjaaGreat
open Go Go.MapKept Go.RowKit Go.Proofs Go.Sort

/-- The entry that ends a transaction, of a kind. -/
def endK (k : Int) (t : Tx) (n : Int) : En := ⟨k, t, n + 1, n, 0, 0, false, ⟨#[]⟩, false, ⟨#[]⟩, 0⟩
def ownM (o : Nat → Int) (c : Nat) (i : Nat) : Nat → Int := fun j => if j < i ∧ o j = c then 0 else o j
/-- A client's transaction is at its end. -/
def endP1 (S : PS) (c : Nat) (k : Int) : PS := if begunM S c = true then (addP S (endK k (S.t c) (S.la c))).2 else S
def endP (S : PS) (c : Nat) (k : Int) : PS := { endP1 S c k with ow := ownM (endP1 S c k).ow c 4, tx := upd (endP1 S c k).tx c ((endP1 S c k).tx c + 1), la := upd (endP1 S c k).la c 0 }
theorem psO_ow {lv nv av : Value} {o o' t l : Nat → Int} (h : ∀ j, j < 4 → o j = o' j) : psO lv nv av o t l = psO lv nv av o' t l := by
  unfold psO psC
  rw [h 0 (by omega), h 1 (by omega), h 2 (by omega), h 3 (by omega)]
set_option maxRecDepth 100000 in
set_option maxHeartbeats 4000000 in
theorem end2_any {pb : Nat} {S : PS} {F : Heaplet} {w : World} {c : Nat} (k : Int) (h : PsIs pb S F w) (hs : Small S) (hk : 2 < k) (hl1 : S.list.length + 1 ≤ 10000 ∧ S.all.length + 1 ≤ 10000) (hc : c < 5) :
    Calls Tryz.prog 45 #[.pointer (some ⟨pb, 0, none⟩), .int .i64 (c : Int), kI k] w (Ret (.tuple #[]) (PsIs pb (endP S c k) F)) := by
  obtain ⟨S1, hS1⟩ : ∃ S1, endP1 S c k = S1 := ⟨_, rfl⟩
  have HE1 := Lib.hid hS1
  have hb := hs.1 c
  have hbt := hs.2.1 c
  have htx1 : S1.tx = S.tx := by
    rw [← hS1]; unfold endP1
    split
    · rw [(addP_end (by show ¬ k ≤ 2; omega) (Prod.ext rfl rfl : addP S (endK k (S.t c) (S.la c)) = ((addP S (endK k (S.t c) (S.la c))).1, (addP S (endK k (S.t c) (S.la c))).2))).2]; rfl
    · rfl
  have HTX1 := Lib.hid htx1
  have HBG := Lib.hid (begun_any h hs hc)
  obtain ⟨bg, hbg⟩ : ∃ bg, begunM S c = bg := ⟨_, rfl⟩
  rw [hbg] at HBG
  have HBQ := Lib.hid hbg
  have HP := Lib.hid h
  have HSM := Lib.hid (And.intro hs (And.intro hk (And.intro hl1 (And.intro hc (And.intro hb hbt)))))
  obtain ⟨lv, nv, av, vs, hl, ha, H, h1, h2, h3, h4, s⟩ := h
  obtain ⟨l0, lc, rfl⟩ := sl_form h1
  have c0 : (0 : Int) ≤ (c : Int) := by omega
  have c5 : (c : Int) < 5 := by omega
  have t0 : w.cell? ⟨pb, 0, none⟩ = some (.slice l0 S.list.length lc) := by rw [cell_of s.h0]; rfl
  have ln0 : (0 : Int) ≤ (S.list.length : Int) := by omega
  have HLE : Hid (bg = true → 0 < S.list.length) := Lib.hid (by
    rintro rfl
    rcases Nat.eq_zero_or_pos S.list.length with h0 | h0
    · unfold begunM at hbg
      rw [List.length_eq_zero_iff.1 h0] at hbg
      cases hbg
    · exact h0)
  clear s h1 h2 h3 h4 hs hk hl1 hb hbt hbg htx1 hS1
  go_enter Tryz.func45, Tryz.ntmps45
  go_upto_region 0 with (fail)
  go_cut [17] (fun v17 wx => v17 = .bool bg ∧ PsIs pb S F wx)
  case first =>
    by_cases h0 : 0 < S.list.length
    · have h0' : (0 : Int) < (S.list.length : Int) := by omega
      have hd : decide ((0 : Int) < (S.list.length : Int)) = true := decide_eq_true h0'
      go_wp2_with fail
      refine (HBG.out).mono ?_
      rintro e w2 ⟨rfl, hg⟩
      have FIN := Lib.hid (HP.out.below hg.below)
      clear hg
      go_wp2_with fail
      go_meet
      exact ⟨rfl, FIN.out⟩
    · have h1 : S.list.length = 0 := by omega
      obtain rfl : bg = false := by
        cases bg with
        | false => rfl
        | true => exact absurd (HLE.out rfl) h0
      have hd : decide ((0 : Int) < (S.list.length : Int)) = false := decide_eq_false (by omega)
      have FIN := HP
      have hd2 : (0 < S.list.length) = False := eq_false h0
      have hd3 : decide (0 < S.list.length) = false := decide_eq_false h0
      clear h1 h0
      go_wp2_with fail
      go_meet
      exact ⟨rfl, FIN.out⟩
  case rest =>
    obtain ⟨rfl, hp⟩ := hcut
    clear t0 HBG ln0
    have HP2 := Lib.hid hp
    clear hp HP
    go_upto_if 17 with (fail)
    go_cut [] (fun wx => PsIs pb S1 F wx)
    case first =>
      cases bg with
      | false =>
        have e1 : S = S1 := by rw [← HE1.out]; unfold endP1; rw [HBQ.out]; rfl
        subst e1
        clear HE1 HTX1 HSM
        go_wp2_with fail
        go_meet
        exact HP2.out
      | true =>
        have e1 : (addP S (endK k (S.t c) (S.la c))).2 = S1 := by rw [← HE1.out]; unfold endP1; rw [HBQ.out]; rfl
        obtain ⟨lv, nv, av, vs, hl, ha, H, h1, h2, h3, h4, s⟩ := HP2.out
        have BODY : Hid (∀ W, Sat W (.blk pb (psO lv nv av S.ow S.tx S.la) :: (hl ++ (ha ++ (H ++ F)))) → PsIs pb S F W) := Lib.hid (fun W hW => ⟨_, _, _, vs, hl, ha, H, h1, h2, h3, h4, hW⟩)
        have hcell : ∀ W, Sat W (.blk pb (psO lv nv av S.ow S.tx S.la) :: (hl ++ (ha ++ (H ++ F)))) → W.cell? ⟨pb, 12 + c, none⟩ = some (kI (S.la c)) := fun W hW => by rw [cell_of hW.h0]; exact psC_la hc
        have HC := Lib.hid hcell
        have HS := Lib.hid s
        have HTX : Hid (∀ W, Sat W (.blk pb (psO lv nv av S.ow S.tx S.la) :: (hl ++ (ha ++ (H ++ F)))) → Calls Tryz.prog 17 #[.pointer (some ⟨pb, 0, none⟩), .int .i64 (c : Int)] W (Pur (tV (S.t c)) W)) := Lib.hid (fun W hW => txn_any (BODY.out W hW) hc)
        have HAD : Hid (∀ W, Sat W (.blk pb (psO lv nv av S.ow S.tx S.la) :: (hl ++ (ha ++ (H ++ F)))) → Calls Tryz.prog 21 #[.pointer (some ⟨pb, 0, none⟩), .agg #[kI k, kI (c : Int), kI 1, kI (S.tx c), kI (S.la c + 1), kI (S.la c), kI 0, kI 0, .bool false, kS ⟨#[]⟩, .bool false, kS ⟨#[]⟩, kI 0]] W (fun e w' => (∃ b, e = .returned (.bool b)) ∧ PsIs pb S1 F w')) := Lib.hid (fun W hW => by
          have h0 := add2_any (endK k (S.t c) (S.la c)) (BODY.out W hW) HSM.out.1 HSM.out.2.2.1 hc rfl (fun h => absurd h (by show ¬ k ≤ 2; have := HSM.out.2.1; omega)) (by show -9223372036854775808 ≤ S.la c + 1 ∧ S.la c + 1 ≤ 9223372036854775807; have := HSM.out.2.2.2.2.1; omega)
          rw [e1] at h0
          refine Calls.mono h0 ?_
          rintro e w' ⟨rfl, hp⟩
          exact ⟨⟨_, rfl⟩, hp⟩)
        have hwr : wrap64 (S.la c + 1) = S.la c + 1 := IntWalk.wrap64_in _ (by have := HSM.out.2.2.2.2.1; omega)
        have hwr2 : IntKind.i64.wrap (S.la c + 1) = S.la c + 1 := IntWalk.i64_in _ (by have := HSM.out.2.2.2.2.1; omega)
        have k0 := hcell _ s
        rename_i wc _ _
        clear e1 s hcell h1 h2 h3 h4 BODY
        go_upto_region 1 with (fail)
        go_region_with (first
          | (go_at_call 17; refine (HTX.out _ (Sat.drew HS.out)).mono ?_; rintro e w2 ⟨rfl, hg⟩; have HS2 := Lib.hid (HS.out.drew.grown hg); have k2 := HC.out _ HS2.out; clear hg)
          | (go_at_call 21; refine (HAD.out _ HS2.out).mono ?_; rintro e w3 ⟨⟨b9, rfl⟩, hp9⟩; have FIN := Lib.hid hp9; clear hp9))
        all_goals
          clear HS HS2 HC HTX HAD
          go_wp2_with fail
          go_meet
          exact FIN.out
    case rest =>
      have HP3 := Lib.hid hcut
      obtain ⟨lv, nv, av, vs, hl, ha, H, h1, h2, h3, h4, s⟩ := hcut
      have HMK : Hid (∀ W o t l, Sat W (.blk pb (psO lv nv av o t l) :: (hl ++ (ha ++ (H ++ F)))) → PsIs pb { S1 with ow := o, tx := t, la := l } F W) := Lib.hid (fun W o t l hW => ⟨_, _, _, vs, hl, ha, H, h1, h2, h3, h4, hW⟩)
      have hbt := HSM.out.2.2.2.2.2
      have q1 : ∀ W o t l, Sat W (.blk pb (psO lv nv av o t l) :: (hl ++ (ha ++ (H ++ F)))) → W.cell? ⟨pb, 7 + c, none⟩ = some (kI (t c)) := fun W o t l hW => by rw [cell_of hW.h0]; exact psC_tx hc
      have q2 : ∀ W o t l, Sat W (.blk pb (psO lv nv av o t l) :: (hl ++ (ha ++ (H ++ F)))) → W.cell? ⟨pb, 12 + c, none⟩ = some (kI (l c)) := fun W o t l hW => by rw [cell_of hW.h0]; exact psC_la hc
      have m1 := q1 _ _ _ _ s
      rw [HTX1.out] at m1 s
      have ff := unfrozen_of s.h0
      have hwr : wrap64 (S.tx c + 1) = S.tx c + 1 := IntWalk.wrap64_in _ (by omega)
      have hwr2 : IntKind.i64.wrap (S.tx c + 1) = S.tx c + 1 := IntWalk.i64_in _ (by omega)
      have hs2 := (s.setCell (i := 7 + c) (kI (S.tx c + 1))).drew
      rw [psC_set_tx hc] at hs2
      have HS2 : Hid (∃ W, Sat W (.blk pb (psO lv nv av S1.ow (upd S.tx c (S.tx c + 1)) S1.la) :: (hl ++ (ha ++ (H ++ F))))) := Lib.hid ⟨_, hs2⟩
      have HS3 := Lib.hid hs2
      clear h1 h2 h3 h4 s hs2 q1 HP3 HP2 hbt
      go_upto_region 2 with (fail)
      go_still_tail 10, (by kernel_rfl)
      go_upto_region 3 with (fail)
      clear m1 ff hwr hwr2 HS2
      generalize (wc.setCell ⟨pb, 7 + c, none⟩ (kI (S.tx c + 1))).drew = W2 at *
      have m2 := q2 _ _ _ _ HS3.out
      have ff := unfrozen_of HS3.out.h0
      have hs4 := HS3.out.setCell (i := 12 + c) (kI 0)
      rw [psC_set_la hc] at hs4
      have HS4 := Lib.hid hs4
      clear hs4 q2 HS3
      go_upto_region 4 with (fail)
      clear m2 ff
      generalize W2.setCell ⟨pb, 12 + c, none⟩ (kI 0) = W3 at *
      go_wp2_with fail
      go_loopw [6] (fun v6 wr => ∃ (i : Nat) (o : Nat → Int), i ≤ 4 ∧ v6 = .int .i64 i ∧ (∀ j, j < 4 → o j = ownM S1.ow c i j) ∧ Sat wr (.blk pb (psO lv nv av o (upd S.tx c (S.tx c + 1)) (upd S1.la c 0)) :: (hl ++ (ha ++ (H ++ F))))) (fun v6 _ => 100 - (RowKit.intOf v6).toNat)
      case atStart => exact ⟨0, S1.ow, by omega, rfl, fun j _ => by unfold ownM; rw [if_neg (by omega)], HS4.out⟩
      case round =>
        clear HS4
        obtain ⟨i, o, hi, rfl, ho, hs⟩ := hrel
        have i0 : (0 : Int) ≤ (i : Int) := by omega
        by_cases hil : i < 4
        · have i1 : (i : Int) < 4 := by omega
          have m3 : wr.cell? ⟨pb, 3 + i, none⟩ = some (kI (o i)) := by rw [cell_of hs.h0]; exact psC_ow hil
          have ff := unfrozen_of hs.h0
          by_cases hoc : o i = (c : Int)
          · have hs5 := hs.setCell (i := 3 + i) (kI 0)
            rw [psC_set_ow hil] at hs5
            have hb : (o i == (c : Int)) = true := by rw [hoc]; simp
            have HO : Hid (∀ j, j < 4 → upd o i 0 j = ownM S1.ow c (i + 1) j) := Lib.hid (fun j hj => by
              have h0 := ho j hj
              have h1 := ho i hil
              unfold upd ownM at *
              rw [if_neg (by omega)] at h1
              by_cases e : j = i
              · subst e
                rw [if_pos rfl, if_pos ⟨by omega, by rw [← h1]; exact hoc⟩]
              · rw [if_neg e, h0]
                by_cases e2 : j < i ∧ S1.ow j = (c : Int)
                · rw [if_pos e2, if_pos ⟨by omega, e2.2⟩]
                · rw [if_neg e2, if_neg (by intro h; exact e2 ⟨by omega, h.2⟩)])
            have FIN := Lib.hid hs5
            clear hs hs5 ho hoc
            go_wp2_with fail
            exact ⟨⟨i + 1, upd o i 0, by omega, by simp, HO.out, FIN.out⟩, by simp only [RowKit.intOf]; omega⟩
          · have hb : (o i == (c : Int)) = false := beq_eq_false_iff_ne.2 hoc
            have HO : Hid (∀ j, j < 4 → o j = ownM S1.ow c (i + 1) j) := Lib.hid (fun j hj => by
              have h0 := ho j hj
              have h1 := ho i hil
              unfold ownM at *
              rw [if_neg (by omega)] at h1
              by_cases e : j = i
              · subst e
                rw [h1, if_neg (by rw [← h1]; intro h; exact hoc h.2)]
              · rw [h0]
                by_cases e2 : j < i ∧ S1.ow j = (c : Int)
                · rw [if_pos e2, if_pos ⟨by omega, e2.2⟩]
                · rw [if_neg e2, if_neg (by intro h; exact e2 ⟨by omega, h.2⟩)])
            have FIN := Lib.hid hs
            clear hs ho hoc
            go_wp2_with fail
            exact ⟨⟨i + 1, o, by omega, by simp, HO.out, FIN.out⟩, by simp only [RowKit.intOf]; omega⟩
        · obtain rfl : i = 4 := by omega
          have FIN : Hid (PsIs pb (endP S c k) F wr) := Lib.hid (by
            have h0 := psO_ow (lv := lv) (nv := nv) (av := av) (t := upd S.tx c (S.tx c + 1)) (l := upd S1.la c 0) ho
            rw [h0] at hs
            have h9 := HMK.out _ _ _ _ hs
            unfold endP
            rw [HE1.out, HTX1.out]
            exact h9)
          clear hs ho hil hi HMK HE1 HTX1 HSM HLE HBQ
          go_wp2_with fail
          refine bodyPost_end (results_none rfl _ _ _) rfl ?_
          exact ⟨rfl, FIN.out⟩
end Go.Proofs.YtficgjklagnbjaaGreat
namespace Go.Proofs.YtficgjklagnbjaaGreat
open Go Go.MapKept Go.RowKit Go.Proofs Go.Sort

structure Ac where
  kind : Int
  client : Int
  page : Int
  slot : Int
  data : ByteArray
abbrev acC (a : Ac) : List Value := [kI a.kind, kI a.client, kI a.page, kI a.slot, kS a.data]
abbrev acV (a : Ac) : Value := .agg #[kI a.kind, kI a.client, kI a.page, kI a.slot, kS a.data]
abbrev acO (a : Ac) : Obj := .cells #[kI a.kind, kI a.client, kI a.page, kI a.slot, kS a.data] 79
def Ac.c (a : Ac) : Nat := 1 + (umod a.client 4).toNat
def Ac.n (a : Ac) : Nat := (umod a.page 4).toNat
def Ac.k (a : Ac) : Nat := (umod a.slot 5).toNat
theorem Ac.c_bd (a : Ac) : 1 ≤ a.c ∧ a.c < 5 ∧ umod a.client 4 = ((umod a.client 4).toNat : Int) ∧ 1 + umod a.client 4 = (a.c : Int) := by
  have := umod_bd a.client 4 (by omega) (by omega)
  unfold Ac.c
  omega
theorem Ac.n_bd (a : Ac) : a.n < 4 ∧ umod a.page 4 = (a.n : Int) := by
  have := umod_bd a.page 4 (by omega) (by omega)
  unfold Ac.n
  omega
theorem Ac.k_bd (a : Ac) : a.k < 5 ∧ umod a.slot 5 = (a.k : Int) := by
  have := umod_bd a.slot 5 (by omega) (by omega)
  unfold Ac.k
  omega
/-- What a change would be. -/
def chgE (S : PS) (a : Ac) : En := ⟨1, S.t a.c, lsnM S a.c a.n, S.la a.c, a.n, a.k, (atM (pgAt S.now a.n) a.k).1, (atM (pgAt S.now a.n) a.k).2, !a.data.toList.isEmpty, a.data, 0⟩
/-- All of a client's changes are undone. -/
def rollP (c : Nat) : Nat → PS → PS
  | 0, S => S
  | f + 1, S => if (undoP S c).1 = true then rollP c f (undoP S c).2 else S
def doesP (S : PS) (a : Ac) : PS :=
  if a.kind = 1 then
    if S.ow a.n ≠ 0 ∧ S.ow a.n ≠ a.c then S
    else if goodM (chgE S a) = true ∧ (addP S (chgE S a)).1 = true then { (addP S (chgE S a)).2 with ow := upd (addP S (chgE S a)).2.ow a.n a.c } else S
  else if a.kind = 2 then (undoP S a.c).2
  else if a.kind = 3 then endP S a.c 3
  else if a.kind = 4 then endP (rollP a.c 10000 S) a.c 4
  else S
theorem undoP_no {S : PS} {c : Nat} (h : (undoP S c).1 = false) : (undoP S c).2 = S := by
  unfold undoP at h ⊢
  split
  · rfl
  · rename_i h1
    rw [if_neg h1] at h
    split
    · rename_i h2
      rw [if_pos h2] at h
      revert h
      generalize (turnM (backM S.list (S.t c) 0).1 (lsnM S c (backM S.list (S.t c) 0).1.page.toNat) (S.la c)).1 = y
      intro h
      unfold addP at h ⊢
      split
      · rename_i h3
        rw [if_pos h3] at h
        split
        · rename_i h4
          rw [if_pos h4] at h; cases h
        · rfl
      · rename_i h3
        rw [if_neg h3] at h; cases h
    · rfl
theorem undoP_yes {S : PS} {c : Nat} (h : (undoP S c).1 = true) : ∃ y nw, (undoP S c).2 = S.push y nw := by
  unfold undoP at h ⊢
  split
  · rename_i h1
    rw [if_pos h1] at h; cases h
  · rename_i h1
    rw [if_neg h1] at h
    split
    · rename_i h2
      rw [if_pos h2] at h
      revert h
      generalize (turnM (backM S.list (S.t c) 0).1 (lsnM S c (backM S.list (S.t c) 0).1.page.toNat) (S.la c)).1 = y
      intro h
      unfold addP at h ⊢
      split
      · rename_i h3
        rw [if_pos h3] at h
        split
        · exact ⟨_, _, rfl⟩
        · rename_i h4
          rw [if_neg h4] at h; cases h
      · exact ⟨_, _, rfl⟩
    · rename_i h2
      rw [if_neg h2] at h; cases h
end Go.Proofs.YtficgjklagnbjaaGreat
