/- Texts put together: Tx22. Conditions: none. -/
import Derived.Test.YtgocmnejlbfplaaGreatDoorTy31
namespace Go.Proofs.YtgocmnejlbfplaaGreatDoor
open Go Go.MapKept Go.RowKit Go.Proofs

attribute [local go_sem] Oper.semAt_some

/-- Behind an act. -/
def AftP (E G : Heaplet) (db ub bd : Nat) (twins : Int) (v9 v11 v15 v16 : Value) (wx : World) : Prop := ∃ s v o M c, v9 = ptrV s ∧ v11 = ptrV v ∧ v15 = .int .i64 c ∧ v16 = .int .i64 c ∧ (s.isSome = o.isSome ∧ v.isSome = o.isSome) ∧ TwoIs E s v db ub o M G wx ∧ PlOk bd M ∧ M.count = 24 ∧ ∀ S, o = some S → Fine 1 twins S
theorem MidIs.below {E : Heaplet} {s v : Option Nat} {db ub : Nat} {o' o : Option TS} {M' M : PM} {G : Heaplet} {w w' : World} (h : MidIs E s v db ub o' M' o M G w) (hb : Below w.heap.size w w') : MidIs E s v db ub o' M' o M G w' := by
  obtain ⟨A, h1, h2⟩ := h
  obtain ⟨B, h3, h4⟩ := h2.split
  exact ⟨A, h1, h3 _ _ (h4.monoB hb)⟩
/-- A store is opened on both sides. -/
theorem open_pair {E G : Heaplet} {db ub : Nat} {M1 : PM} {bd bd' : Nat} (hk : PlOk bd M1) (hb : bd + 2000 ≤ 100000) (hb' : bd + 1100 ≤ bd' ∧ bd' ≤ 100000) (hc : M1.count = 24) (twins pages : Int) : ∃ ro rc rm,
    (∀ W, TwoIs E none none db ub none M1 G W → Calls Tryz.prog 8 #[.pointer (some ⟨db, 0, none⟩), .int .i64 1, .int .i64 twins, .int .i64 pages] W (fun e w' => ∃ t, t.isSome = ro.isSome ∧ e = .returned (.tuple #[ptrV t, .int .i64 rc]) ∧ MidIs E t none db ub ro rm none M1 G w')) ∧
    (∀ W t, MidIs E t none db ub ro rm none M1 G W → Calls Tryz.prog 9 #[.pointer (some ⟨ub, 0, none⟩), .int .i64 1, .int .i64 twins, .int .i64 pages] W (fun e w' => ∃ t2, t2.isSome = ro.isSome ∧ e = .returned (.tuple #[ptrV t2, .int .i64 rc]) ∧ TwoIs E t t2 db ub ro rm G w')) ∧
    PlOk bd' rm ∧ rm.count = 24 ∧ ∀ S : TS, ro = some S → Fine 1 twins S := by
  obtain ⟨r0, hr0⟩ : ∃ r0, openP M1 1 twins pages = r0 := ⟨_, rfl⟩
  refine ⟨r0.1, r0.2.1, r0.2.2, fun W hW => ?_, fun W t hW => ?_, ?_, ?_, ?_⟩
  · have := two_open hW hk hb (by omega) 1 twins pages
    rw [hr0] at this
    exact this
  · have := mid_open hW hk hb (by omega) 1 twins pages (by rw [hr0]) (by rw [hr0])
    rw [hr0] at this
    exact this
  · rw [← hr0]; exact (openP_ok hk (by omega) 1 twins pages).mono hb'.1 hb'.2
  · rw [← hr0]; exact (openP_count _ _ _ _).trans hc
  · rw [← hr0]; exact fun S hS => openP_fine (by omega) hS
theorem isSome_none {t : Option Nat} {o : Option TS} (h : t.isSome = o.isSome) (ho : o = none) : t = none := by
  subst ho
  cases t with
  | none => rfl
  | some _ => cases h
theorem isSome_some {t : Option Nat} {o : Option TS} {S : TS} (h : t.isSome = o.isSome) (ho : o = some S) : ∃ b, t = some b := by
  subst ho
  cases t with
  | none => cases h
  | some b => exact ⟨b, rfl⟩
set_option maxRecDepth 100000 in
set_option maxHeartbeats 16000000 in
theorem exact_any {va : Value} {X : List Ax} {F : Heaplet} {w : World} (hv : AxAt F va X) (hs : Sat w F) (hl : X.length ≤ 9223372036854775807) (twins pages : Int) :
    Calls Tryz.prog 3 #[.int .i64 twins, .int .i64 pages, va] w (Ret (.bool true) (Below w.heap.size w)) := by
  obtain ⟨E, hE⟩ : ∃ E, allOf w = E := ⟨_, rfl⟩
  have sE : Sat w E := by rw [← hE]; exact sat_all w
  have hEF : ∀ W, Sat W E → Sat W F := fun W hW => by rw [← hE] at hW; exact hs.monoB hW.below
  have HB : Hid (∀ W, Sat W E → Below w.heap.size w W) := Lib.hid (fun W hW => by rw [← hE] at hW; exact hW.below)
  obtain ⟨PB, hPB⟩ : ∃ PB : World → Prop, Below w.heap.size w = PB := ⟨_, rfl⟩
  rw [hPB] at HB ⊢
  have hv2 : AxAt E va X := hv.mono hEF
  have HAW := Lib.hid (awake8 E w sE)
  have HGR0 : Hid (∀ W, Sat W E → Calls Tryz.prog 5 #[va] W (Ret (.bool (greatM (agOf X))) (Same W))) := Lib.hid (fun W hW => great_any va (agOf X) E W hW hv2.ag (by unfold agOf; rw [List.length_map]; exact hl))
  obtain ⟨a, cap, rfl, hc⟩ := hv2
  have HC := Lib.hid hc
  obtain ⟨gr, hgr⟩ : ∃ gr, greatM (agOf X) = gr := ⟨_, rfl⟩
  rw [hgr] at HGR0
  have HGT := Lib.hid hgr
  have HL := Lib.hid hl
  have hli : (X.length : Int) ≤ 9223372036854775807 := by omega
  clear hv hs hl hEF hc hgr sE hE hPB
  cases gr with
  | true =>
    go_enter Tryz.func3, Tryz.ntmps3
    go_wp2_with (first
      | (go_at_call 4; refine (HAW.out).mono ?_; rintro e w1 ⟨rfl, hs1⟩; have HS1 := Lib.hid hs1; clear hs1)
      | (go_at_call 5; refine (HGR0.out _ HS1.out).mono ?_; rintro e w2 ⟨rfl, rfl⟩))
    have HE := Lib.hid (HB.out _ HS1.out)
    go_ret
    exact ⟨rfl, HE.out⟩
  | false =>
    have HN1 : Hid (∀ W, Sat W E → Calls Tryz.prog 6 #[.int .i64 24] W (fun e w' => ∃ db A, e = .returned (.pointer (some ⟨db, 0, none⟩)) ∧ (∀ W' G, Sat W' (A ++ G) → PlateIs db (newM 24) G W') ∧ Sat w' (A ++ E))) := Lib.hid (fun W hW => by
      refine (plate_new E 24 W hW).mono ?_
      rintro e w' ⟨db, rfl, hp⟩
      obtain ⟨A, h1, h2⟩ := hp.split
      exact ⟨db, A, rfl, h1, h2⟩)
    have HN2 : Hid (∀ W (db : Nat) (A : Heaplet), (∀ W' G, Sat W' (A ++ G) → PlateIs db (newM 24) G W') → Sat W (A ++ E) → Calls Tryz.prog 7 #[.int .i64 24] W (fun e w' => ∃ ub, e = .returned (.pointer (some ⟨ub, 0, none⟩)) ∧ TwoIs E none none db ub none (newM 24) [] w')) := Lib.hid (fun W db A hA hW => by
      refine (RQ.new (A ++ E) 24 W hW).mono ?_
      rintro e w' ⟨ub, rfl, hq⟩
      obtain ⟨B, h1, h2⟩ := hq.split
      exact ⟨ub, rfl, A, B, fun W' G' hW' => hA W' G' hW', fun W' G' hW' => h1 W' _ hW', h2.part (fun a => by simp only [cnt_append, cnt_nil]; omega)⟩)
    have hk0 : PlOk 10 (newM 24) := plOk_new (by decide) 10 (by decide)
    have hc24 : (newM 24).count = 24 := by decide
    have HK0 := Lib.hid hk0
    obtain ⟨r0, hr0⟩ : ∃ r0, openP (newM 24) 1 twins pages = r0 := ⟨_, rfl⟩
    have HF0 : Hid (PlOk 2010 r0.2.2 ∧ r0.2.2.count = 24 ∧ ∀ S, r0.1 = some S → Fine 1 twins S) := Lib.hid (by
      rw [← hr0]
      refine ⟨(openP_ok hk0 (by decide) 1 twins pages).mono (by decide) (by decide), (openP_count _ _ _ _).trans hc24, fun S hS => openP_fine (by rw [hc24]; decide) hS⟩)
    have HO1 : Hid (∀ W (db ub : Nat), TwoIs E none none db ub none (newM 24) [] W → Calls Tryz.prog 8 #[.pointer (some ⟨db, 0, none⟩), .int .i64 1, .int .i64 twins, .int .i64 pages] W (fun e w' => ∃ t, t.isSome = r0.1.isSome ∧ e = .returned (.tuple #[ptrV t, .int .i64 r0.2.1]) ∧ MidIs E t none db ub r0.1 r0.2.2 none (newM 24) [] w')) := Lib.hid (fun W db ub hW => by
      have := two_open hW hk0 (by decide) (by rw [hc24]; decide) 1 twins pages
      rw [hr0] at this
      exact this)
    have HO2 : Hid (∀ W (db ub : Nat) t, MidIs E t none db ub r0.1 r0.2.2 none (newM 24) [] W → Calls Tryz.prog 9 #[.pointer (some ⟨ub, 0, none⟩), .int .i64 1, .int .i64 twins, .int .i64 pages] W (fun e w' => ∃ t2, t2.isSome = r0.1.isSome ∧ e = .returned (.tuple #[ptrV t2, .int .i64 r0.2.1]) ∧ TwoIs E t t2 db ub r0.1 r0.2.2 [] w')) := Lib.hid (fun W db ub t hW => by
      have := mid_open hW hk0 (by decide) (by rw [hc24]; decide) 1 twins pages (by rw [hr0]) (by rw [hr0])
      rw [hr0] at this
      exact this)
    clear hk0 hc24 hr0
    obtain ⟨ro, rc, rm⟩ := r0
    simp only at HF0 HO1 HO2
    go_enter Tryz.func3, Tryz.ntmps3
    go_upto_region 9 with (first
      | (go_at_call 4; refine (HAW.out).mono ?_; rintro e w1 ⟨rfl, hs1⟩; have HS1 := Lib.hid hs1; clear hs1)
      | (go_at_call 5; refine (HGR0.out _ HS1.out).mono ?_; rintro e w2 ⟨rfl, rfl⟩)
      | (go_at_call 6; refine (HN1.out _ HS1.out).mono ?_; rintro e w3 ⟨db, A3, rfl, hA3, hs3⟩; have HS3 := Lib.hid (And.intro hA3 hs3); clear hA3 hs3)
      | (go_at_call 7; refine (HN2.out _ db A3 HS3.out.1 HS3.out.2).mono ?_; rintro e w4 ⟨ub, rfl, hs4⟩; have HS4 := Lib.hid hs4; clear hs4)
      | (go_at_call 8; refine (HO1.out _ db ub HS4.out).mono ?_; rintro e w5 ⟨t5, ht5, rfl, hs5⟩; have HS5 := Lib.hid (And.intro ht5 hs5); clear ht5 hs5)
      | (go_at_call 9; refine (HO2.out _ db ub t5 HS5.out.2).mono ?_; rintro e w6 ⟨t6, ht6, rfl, hs6⟩; have HS6 := Lib.hid (And.intro ht6 hs6); clear ht6 hs6))
    clear HAW HGR0 HN1 HN2 HK0 HO1 HO2 HS1 HS3 HS4
    go_cut [51] (fun v51 wx => v51 = .bool false ∧ wx = w6)
    case first =>
      cases ro with
      | none =>
        obtain rfl := isSome_none HS5.out.1 rfl
        obtain rfl := isSome_none HS6.out.1 rfl
        clear HF0 HS5 HS6
        go_wp2_with fail
        go_meet
        exact ⟨rfl, rfl⟩
      | some S0 =>
        obtain ⟨b5, rfl⟩ := isSome_some HS5.out.1 rfl
        obtain ⟨b6, rfl⟩ := isSome_some HS6.out.1 rfl
        clear HF0 HS5 HS6
        go_wp2_with fail
        go_meet
        exact ⟨rfl, rfl⟩
    case rest =>
      obtain ⟨rfl, hww⟩ := hcut
      cases hww
      go_upto_block 0 with (fail)
      go_wp2_with fail
      go_loopw [9, 11, 13] (fun v9 v11 v13 wr => ∃ (i : Nat) (s v : Option Nat) (o : Option TS) (M : PM), i ≤ 40 ∧ v13 = .int .i64 (i : Int) ∧ v9 = ptrV s ∧ v11 = ptrV v ∧ (s.isSome = o.isSome ∧ v.isSome = o.isSome) ∧ TwoIs E s v db ub o M [] wr ∧ PlOk (2010 + 2000 * i) M ∧ M.count = 24 ∧ ∀ S, o = some S → Fine 1 twins S) (fun _ _ v13 _ => 100 - (RowKit.intOf v13).toNat)
      case atStart => exact ⟨0, t5, t6, ro, rm, by omega, rfl, rfl, rfl, ⟨HS5.out.1, HS6.out.1⟩, HS6.out.2, HF0.out.1, HF0.out.2.1, HF0.out.2.2⟩
      case round =>
        clear HF0 HS5 HS6
        obtain ⟨i, s, v, o, M, hi, rfl, rfl, rfl, ⟨hse, hve⟩, hs, hk, hcn, hfi⟩ := hrel
        have i0 : (0 : Int) ≤ (i : Int) := by omega
        have HE := Lib.hid (HB.out _ hs.env)
        cases o with
        | none =>
          obtain rfl := isSome_none hse rfl
          obtain rfl := isSome_none hve rfl
          clear hse hve hs hk hcn hfi hi
          by_cases h1 : (i : Int) < (X.length : Int)
          · by_cases h2 : (i : Int) < 40
            · go_wp2_with fail
              go_ret
              exact ⟨rfl, HE.out⟩
            · have h2' : ((i : Int) < 40) = False := eq_false h2
              clear h2
              go_wp2_with fail
              go_ret
              exact ⟨rfl, HE.out⟩
          · have h1' : ((i : Int) < (X.length : Int)) = False := eq_false h1
            clear h1
            go_wp2_with fail
            go_ret
            exact ⟨rfl, HE.out⟩
        | some S =>
          obtain ⟨sb, rfl⟩ := isSome_some hse rfl
          obtain ⟨vb, rfl⟩ := isSome_some hve rfl
          have hS := hfi S rfl
          clear hse hve hfi
          by_cases h1 : i < X.length
          · by_cases h2 : i < 40
            · have h1i : (i : Int) < (X.length : Int) := by omega
              have h2i : (i : Int) < 40 := by omega
              obtain ⟨x, hx⟩ : ∃ x, X[i]? = some x := ⟨_, List.getElem?_eq_getElem h1⟩
              obtain ⟨g, off, la, lc, fp, fc, rfl, hlv, his, ⟨hx1, hx2, hx3⟩, hu⟩ := HC.out i x hx
              obtain ⟨hg1, hg2⟩ := not_great HGT.out h2 hx
              obtain ⟨u0, u1, u2, u3, u4⟩ := hu _ hs.env
              have hfp : FitP x.ls := fun p hp => ⟨by have := (hg2 p hp).1; omega, fun y hy => by have := (hg2 p hp).2 y hy; omega, hx2 p hp⟩
              have hsec : ∀ W, Sat W E → Calls Tryz.prog 19 #[.agg (axC x la lc fp fc)] W (fun e w' => e = .returned (.string (secX x)) ∧ Below W.heap.size W w') := fun W hW => sectorX_any hlv hW hfp
              have hsz := secX_size x
              obtain ⟨sx, hsx⟩ : ∃ sx, secX x = sx := ⟨_, rfl⟩
              rw [hsx] at hsec hsz
              obtain ⟨kd, xn, xb, ls, fl, fa⟩ := x
              simp only at hlv his hx1 hx3 hg1 u0 u1 u2 u3 u4 hfp hsec
              have hs5 := hs.new (.cells #[kI kd, kI xn, .int .u8 (xb.toNat : Int), .slice la ls.length lc, .slice fp fl fc] 39)
              have HIL := Lib.hid h2
              have HSEC := Lib.hid (And.intro hsec hsz)
              have HLV := Lib.hid (And.intro hlv (And.intro hfp hg1))
              have HIS := Lib.hid (And.intro his (And.intro hx1 hx3))
              have HK := Lib.hid hk
              have HCN := Lib.hid hcn
              have HSF := Lib.hid hS
              have HS5 := Lib.hid hs5
              clear hlv his hx1 hx2 hx3 hu hg1 hg2 hfp hsec hsz hsx hs hs5 hk hcn hS h1 h2 hi hx
              go_upto_block 2 with (fail)
              clear u0 u1 u2 u3 u4
              generalize wr.alloc (.cells #[.int .i64 kd, .int .i64 xn, .int .u8 (xb.toNat : Int), .slice la ls.length lc, .slice fp fl fc] 39) = W5 at *
              generalize wr.heap.size = x5 at *
              have HCX : Hid (∀ W, Sat W [.blk x5 (.cells #[kI kd, kI xn, .int .u8 (xb.toNat : Int), .slice la ls.length lc, .slice fp fl fc] 39)] → W.cell? ⟨x5, 0, none⟩ = some (kI kd) ∧ W.cell? ⟨x5, 1, none⟩ = some (kI xn) ∧ W.cell? ⟨x5, 2, none⟩ = some (.int .u8 (xb.toNat : Int)) ∧ W.cell? ⟨x5, 3, none⟩ = some (.slice la ls.length lc) ∧ W.cell? ⟨x5, 4, none⟩ = some (.slice fp fl fc)) := Lib.hid (fun W hW => by
                have hb := Sat.h0 hW
                refine ⟨?_, ?_, ?_, ?_, ?_⟩ <;> (rw [cell_of hb]; rfl))
              generalize hgx : HItem.blk x5 (.cells #[kI kd, kI xn, .int .u8 (xb.toNat : Int), .slice la ls.length lc, .slice fp fl fc] 39) = gx at *
              have HBD := Lib.hid (show 2010 + 2000 * (i + 1) + 2000 ≤ 100000 + 2000 by have := HIL.out; omega)
              go_cut [9, 11, 15, 16] (fun v9 v11 v15 v16 wx => AftP E [gx] db ub (2010 + 2000 * (i + 1)) twins v9 v11 v15 v16 wx)
              case first =>
                obtain ⟨c0, c1, c2, c3, c4⟩ := HCX.out _ HS5.out.frame
                by_cases k1 : kd = 1
                · subst k1
                  obtain ⟨cw, S1, M1, hwt⟩ : ∃ cw S1 M1, writeT S M ls = (cw, S1, M1) := ⟨_, _, _, rfl⟩
                  have hb1 : 2010 + 2000 * i + 1000 ≤ 100000 := by have := HIL.out; omega
                  have HW1 := Lib.hid (two_write HS5.out HLV.out.1 HK.out hb1 (by have := HLV.out.2.2; omega) HLV.out.2.1 HSF.out)
                  have HW2 : Hid (∀ W, MidIs E (some sb) (some vb) db ub (some S1) M1 (some S) M [gx] W → Calls Tryz.prog 11 #[.pointer (some ⟨vb, 0, none⟩), .slice la ls.length lc] W (fun e w' => e = .returned (.int .i64 cw) ∧ TwoIs E (some sb) (some vb) db ub (some S1) M1 [gx] w')) := Lib.hid (fun W hW => by
                    have := mid_write (S := S) (M := M) (L := ls) (G := [gx]) (w := W) (db := db) (ub := ub) (t := some sb) (vb := vb) (by rw [hwt]; exact hW) HLV.out.1 HK.out hb1 (by have := HLV.out.2.2; omega) HLV.out.2.1 HSF.out
                    rw [hwt] at this
                    exact this)
                  rw [hwt] at HW1
                  have hk1 := writeT_ok (S := S) (L := ls) HK.out (by omega) (by have := HLV.out.2.2; omega) HSF.out.pg
                  have hc1 := writeT_count S M ls
                  have hf1 := writeT_fine (M := M) (L := ls) HSF.out
                  rw [hwt] at hk1 hc1 hf1
                  have HFF := Lib.hid (And.intro (PlOk.mono (b' := 2010 + 2000 * (i + 1)) hk1 (by omega) (by omega)) (And.intro (hc1.trans HCN.out) hf1))
                  clear hwt hk1 hc1 hf1 HS5 HSEC HIS c1 c2 c4
                  go_wp2_with (first
                    | (go_at_call 10; refine (HW1.out).mono ?_; rintro e w7 ⟨rfl, hm7⟩; obtain ⟨_, _, _, d3, _⟩ := HCX.out _ hm7.frame; have HM7 := Lib.hid (HW2.out _ hm7); clear hm7)
                    | (go_at_call 11; refine (HM7.out).mono ?_; rintro e w8 ⟨rfl, ht8⟩; have HT8 := Lib.hid ht8; clear ht8))
                  go_meet
                  exact ⟨some sb, some vb, some S1, M1, cw, rfl, rfl, rfl, rfl, ⟨rfl, rfl⟩, HT8.out, HFF.out.1, HFF.out.2.1, fun S' hS' => by cases hS'; exact HFF.out.2.2⟩
                have k1b : (kd == 1) = false := by rw [beq_eq_false_iff_ne]; exact k1
                by_cases k2 : kd = 2
                · subst k2
                  have hb1 : 2010 + 2000 * i + 1 + 2000 ≤ 100000 := by have := HIL.out; omega
                  have hko := HK.out.off (by omega)
                  have hkn := hko.onX (fateM fl fa)
                  have hq1 : (offM M).queue.length ≤ 1000000 := by have := hko.2.2; omega
                  have hD := HS5.out.drop
                  obtain ⟨ro, rc, rm, ho1, ho2, ho3⟩ := open_pair (E := E) (G := [gx]) (db := db) (ub := ub) (bd' := 2010 + 2000 * (i + 1)) hkn hb1 (by omega) (by rw [onM_count, offM_count]; exact HCN.out) twins pages
                  have HOF1 := Lib.hid (two_plate hD (fun F hF _ => off_any db M F _ hF (by have := HK.out.2.2; omega) (by have := HK.out.2.2; omega)))
                  have HOF2 : Hid (∀ W, MidIs E none none db ub none (offM M) none M [gx] W → Calls Tryz.prog 13 #[.pointer (some ⟨ub, 0, none⟩)] W (fun e w' => e = .returned (.tuple #[]) ∧ TwoIs E none none db ub none (offM M) [gx] w')) := Lib.hid (fun W hW => mid_plate hW (fun F hF _ => RQ.off hF HK.out))
                  have HON1 : Hid (∀ W, TwoIs E none none db ub none (offM M) [gx] W → Calls Tryz.prog 14 #[.pointer (some ⟨db, 0, none⟩), .slice fp fl fc] W (fun e w' => e = .returned (.tuple #[]) ∧ MidIs E none none db ub none (onM (offM M) (fateM fl fa)) none (offM M) [gx] w')) := Lib.hid (fun W hW => two_plate hW (fun F hF hE => on_at hF hq1 (HIS.out.1.mono hE) (by have := HIS.out.2.1; omega)))
                  have HON2 : Hid (∀ W, MidIs E none none db ub none (onM (offM M) (fateM fl fa)) none (offM M) [gx] W → Calls Tryz.prog 15 #[.pointer (some ⟨ub, 0, none⟩), .slice fp fl fc] W (fun e w' => e = .returned (.tuple #[]) ∧ TwoIs E none none db ub none (onM (offM M) (fateM fl fa)) [gx] w')) := Lib.hid (fun W hW => mid_plate hW (fun F hF hE => RQ.on hF hko (HIS.out.1.mono hE) (by have := HIS.out.2.1; omega)))
                  generalize onM (offM M) (fateM fl fa) = M2 at *
                  have HOP1 := Lib.hid ho1
                  have HOP2 := Lib.hid ho2
                  have HFF := Lib.hid ho3
                  clear hko hkn hq1 hD ho1 ho2 ho3 HS5 HSEC HLV HSF c1 c2 c3 c4 k1
                  go_wp2_with (first
                    | (go_at_call 12; refine (HOF1.out).mono ?_; rintro e w7 ⟨rfl, hm7⟩; have HM7 := Lib.hid hm7; clear hm7)
                    | (go_at_call 13; refine (HOF2.out _ HM7.out).mono ?_; rintro e w8 ⟨rfl, ht8⟩; obtain ⟨_, _, _, _, d4⟩ := HCX.out _ ht8.frame; have HT8 := Lib.hid ht8; clear ht8)
                    | (go_at_call 14; refine (HON1.out _ HT8.out).mono ?_; rintro e w9 ⟨rfl, hm9⟩; obtain ⟨_, _, _, _, f4⟩ := HCX.out _ hm9.frame; have HM9 := Lib.hid hm9; clear hm9)
                    | (go_at_call 15; refine (HON2.out _ HM9.out).mono ?_; rintro e w10 ⟨rfl, ht10⟩; have HT10 := Lib.hid ht10; clear ht10)
                    | (go_at_call 8; refine (HOP1.out _ HT10.out).mono ?_; rintro e w11 ⟨t5, ht5, rfl, hs5⟩; have HM11 := Lib.hid (And.intro ht5 hs5); clear ht5 hs5)
                    | (go_at_call 9; refine (HOP2.out _ t5 HM11.out.2).mono ?_; rintro e w12 ⟨t6, ht6, rfl, hs6⟩; have HT12 := Lib.hid (And.intro ht6 hs6); clear ht6 hs6))
                  go_meet
                  exact ⟨t5, t6, ro, rm, rc, rfl, rfl, rfl, rfl, ⟨HM11.out.1, HT12.out.1⟩, HT12.out.2, HFF.out.1, HFF.out.2.1, HFF.out.2.2⟩
                have k2b : (kd == 2) = false := by rw [beq_eq_false_iff_ne]; exact k2
                by_cases k3 : kd = 3
                · subst k3
                  have HR1 := Lib.hid (two_arm HS5.out xn)
                  have HR2 : Hid (∀ W, MidIs E (some sb) (some vb) db ub (some S) (armM M xn) (some S) M [gx] W → Calls Tryz.prog 17 #[.pointer (some ⟨ub, 0, none⟩), .int .i64 xn] W (fun e w' => e = .returned (.tuple #[]) ∧ TwoIs E (some sb) (some vb) db ub (some S) (armM M xn) [gx] w')) := Lib.hid (fun W hW => mid_arm xn hW)
                  have hk1 := (HK.out.armX (n := xn) HIS.out.2.2).mono (b' := 2010 + 2000 * (i + 1)) (by omega) (by have := HIL.out; omega)
                  have HFF := Lib.hid (And.intro hk1 (show (armM M xn).count = 24 from HCN.out))
                  generalize armM M xn = M2 at *
                  clear hk1 HS5 HSEC HLV HIS c2 c3 c4 k1 k2
                  go_wp2_with (first
                    | (go_at_call 16; refine (HR1.out).mono ?_; rintro e w7 ⟨rfl, hm7⟩; obtain ⟨_, d1, _, _, _⟩ := HCX.out _ hm7.frame; have HM7 := Lib.hid hm7; clear hm7)
                    | (go_at_call 17; refine (HR2.out _ HM7.out).mono ?_; rintro e w8 ⟨rfl, ht8⟩; have HT8 := Lib.hid ht8; clear ht8))
                  go_meet
                  exact ⟨some sb, some vb, some S, M2, 0, rfl, rfl, rfl, rfl, ⟨rfl, rfl⟩, HT8.out, HFF.out.1, HFF.out.2, fun S' hS' => by cases hS'; exact HSF.out⟩
                have k3b : (kd == 3) = false := by rw [beq_eq_false_iff_ne]; exact k3
                by_cases k4 : kd = 4
                · subst k4
                  have hb1 : 2010 + 2000 * i + 1 + 2000 ≤ 100000 := by have := HIL.out; omega
                  have hkw := HK.out.write (by omega) xn sx HSEC.out.2
                  have hcw := writeM_count M xn sx
                  have hD := HS5.out.drop
                  obtain ⟨cw, M1, hwm⟩ : ∃ cw M1, writeM M xn sx = (cw, M1) := ⟨_, _, rfl⟩
                  have HPW1 : Hid (∀ W, TwoIs E none none db ub none M [gx] W → Calls Tryz.prog 18 #[.pointer (some ⟨db, 0, none⟩), .int .i64 xn, .string sx] W (fun e w' => e = .returned (.int .i64 cw) ∧ MidIs E none none db ub none M1 none M [gx] w')) := Lib.hid (fun W hW => two_plate hW (fun F hF _ => by
                    have hkk := HK.out.2.2
                    have := write_any db M F xn sx W hF (by omega) (by omega) (by omega) (by omega)
                    rw [hwm] at this
                    exact this))
                  have HPW2 : Hid (∀ W, MidIs E none none db ub none M1 none M [gx] W → Calls Tryz.prog 20 #[.pointer (some ⟨ub, 0, none⟩), .int .i64 xn, .string sx] W (fun e w' => e = .returned (.int .i64 cw) ∧ TwoIs E none none db ub none M1 [gx] w')) := Lib.hid (fun W hW => mid_plate hW (fun F hF _ => by
                    have := RQ.write hF HK.out xn sx (by rw [HSEC.out.2]; omega)
                    rw [hwm] at this
                    exact this))
                  rw [hwm] at hkw hcw
                  obtain ⟨ro, rc, rm, ho1, ho2, ho3⟩ := open_pair (E := E) (G := [gx]) (db := db) (ub := ub) (bd' := 2010 + 2000 * (i + 1)) hkw hb1 (by omega) (hcw.trans HCN.out) twins pages
                  have HSX1 : Hid (∀ W, TwoIs E none none db ub none M [gx] W → Calls Tryz.prog 19 #[.agg #[kI 4, kI xn, .int .u8 (xb.toNat : Int), .slice la ls.length lc, .slice fp fl fc]] W (fun e w' => e = .returned (.string sx) ∧ TwoIs E none none db ub none M [gx] w')) := Lib.hid (fun W hW => by
                    refine (HSEC.out.1 W hW.env).mono ?_
                    rintro e w' ⟨rfl, hb⟩
                    exact ⟨rfl, hW.below hb⟩)
                  have HSX2 : Hid (∀ W, MidIs E none none db ub none M1 none M [gx] W → Calls Tryz.prog 19 #[.agg #[kI 4, kI xn, .int .u8 (xb.toNat : Int), .slice la ls.length lc, .slice fp fl fc]] W (fun e w' => e = .returned (.string sx) ∧ MidIs E none none db ub none M1 none M [gx] w')) := Lib.hid (fun W hW => by
                    refine (HSEC.out.1 W hW.env).mono ?_
                    rintro e w' ⟨rfl, hb⟩
                    exact ⟨rfl, hW.below hb⟩)
                  have HOP1 := Lib.hid ho1
                  have HOP2 := Lib.hid ho2
                  have HFF := Lib.hid ho3
                  have HD0 := Lib.hid hD
                  have HD1 : Hid (TwoIs E none none db ub none M [gx] W5.drew) := Lib.hid (hD.below (Grown.drewN W5 1).below)
                  have K1 := Lib.hid (HCX.out _ HD0.out.frame)
                  have K2 := Lib.hid (HCX.out _ HD1.out.frame)
                  clear hkw hcw hD hwm ho1 ho2 ho3 HS5 HLV HSF k1 k2 k3 c1 c2 c3 c4
                  go_upto_region 32 with (fail)
                  clear c0
                  go_cut [] (fun wx => MidIs E none none db ub none M1 none M [gx] wx)
                  case first =>
                    go_region_held3 (fun w' => w'.cell? ⟨x5, 0, none⟩ = some (kI 4) ∧ w'.cell? ⟨x5, 1, none⟩ = some (kI xn) ∧ w'.cell? ⟨x5, 2, none⟩ = some (.int .u8 (xb.toNat : Int)) ∧ w'.cell? ⟨x5, 3, none⟩ = some (.slice la ls.length lc) ∧ w'.cell? ⟨x5, 4, none⟩ = some (.slice fp fl fc))
                      (with_reducible first | exact K1.out | exact K2.out | exact K3.out | exact K4.out)
                      (first
                        | (go_at_call 19
                           with_reducible refine (HSX1.out _ HD1.out).mono ?_
                           rintro e w7 ⟨rfl, hs7⟩
                           have HT7 := Lib.hid hs7
                           have K3 := Lib.hid (HCX.out _ hs7.frame)
                           clear hs7)
                        | (go_at_call 18
                           with_reducible refine (HPW1.out _ HT7.out).mono ?_
                           rintro e w8 ⟨rfl, hs8⟩
                           have HM8 := Lib.hid hs8
                           have K4 := Lib.hid (HCX.out _ hs8.frame)
                           clear hs8))
                    all_goals
                      clear K1 K2 K3 K4
                      go_wp2_with fail
                      go_meet
                      exact HM8.out
                  case rest =>
                    have HM0 := Lib.hid hcut
                    have HM1 : Hid (MidIs E none none db ub none M1 none M [gx] wc.drew) := Lib.hid (hcut.below (Grown.drewN wc 1).below)
                    clear K1 K2 HD0 HD1
                    have K1 := Lib.hid (HCX.out _ HM0.out.frame)
                    have K2 := Lib.hid (HCX.out _ HM1.out.frame)
                    clear hcut
                    go_upto_region 33 with (fail)
                    go_cut [] (fun wx => TwoIs E none none db ub none M1 [gx] wx)
                    case first =>
                      go_region_held3 (fun w' => w'.cell? ⟨x5, 0, none⟩ = some (kI 4) ∧ w'.cell? ⟨x5, 1, none⟩ = some (kI xn) ∧ w'.cell? ⟨x5, 2, none⟩ = some (.int .u8 (xb.toNat : Int)) ∧ w'.cell? ⟨x5, 3, none⟩ = some (.slice la ls.length lc) ∧ w'.cell? ⟨x5, 4, none⟩ = some (.slice fp fl fc))
                        (with_reducible first | exact K1.out | exact K2.out | exact K3.out | exact K4.out)
                        (first
                          | (go_at_call 19
                             with_reducible refine (HSX2.out _ HM1.out).mono ?_
                             rintro e w7 ⟨rfl, hs7⟩
                             have HT7 := Lib.hid hs7
                             have K3 := Lib.hid (HCX.out _ hs7.frame)
                             clear hs7)
                          | (go_at_call 20
                             with_reducible refine (HPW2.out _ HT7.out).mono ?_
                             rintro e w8 ⟨rfl, hs8⟩
                             have HM8 := Lib.hid hs8
                             have K4 := Lib.hid (HCX.out _ hs8.frame)
                             clear hs8))
                      all_goals
                        clear K1 K2 K3 K4
                        go_wp2_with fail
                        go_meet
                        exact HM8.out
                    case rest =>
                      have HT10 := Lib.hid hcut
                      clear hcut K1 K2 HM0 HM1 HPW1 HPW2 HSX1 HSX2
                      go_wp2_with (first
                        | (go_at_call 8; refine (HOP1.out _ HT10.out).mono ?_; rintro e w11 ⟨t5, ht5, rfl, hs5⟩; have HM11 := Lib.hid (And.intro ht5 hs5); clear ht5 hs5)
                        | (go_at_call 9; refine (HOP2.out _ t5 HM11.out.2).mono ?_; rintro e w12 ⟨t6, ht6, rfl, hs6⟩; have HT12 := Lib.hid (And.intro ht6 hs6); clear ht6 hs6))
                      go_meet
                      exact ⟨t5, t6, ro, rm, rc, rfl, rfl, rfl, rfl, ⟨HM11.out.1, HT12.out.1⟩, HT12.out.2, HFF.out.1, HFF.out.2.1, HFF.out.2.2⟩
                have k4b : (kd == 4) = false := by rw [beq_eq_false_iff_ne]; exact k4
                have HFF := Lib.hid (HK.out.mono (b' := 2010 + 2000 * (i + 1)) (by omega) (by have := HIL.out; omega))
                clear HSEC HLV HIS c1 c2 c3 c4 k1 k2 k3 k4
                go_wp2_with fail
                go_meet
                exact ⟨some sb, some vb, some S, M, 0, rfl, rfl, rfl, rfl, ⟨rfl, rfl⟩, HS5.out, HFF.out, HCN.out, fun S' hS' => by cases hS'; exact HSF.out⟩
              case rest =>
                obtain ⟨s2, v2, o2, M2, c2, rfl, rfl, rfl, rfl, ⟨hse, hve⟩, hs2, hk2, hcn2, hfi2⟩ := hcut
                have HA1 := Lib.hid (two_acts hs2)
                have HA2 := Lib.hid (two_racts hs2)
                have HS2 := Lib.hid hs2
                have HF2 := Lib.hid (And.intro hk2 (And.intro hcn2 (And.intro hfi2 (And.intro hse hve))))
                clear hs2 hk2 hcn2 hfi2 HS5 HSEC HLV HIS HK HCN HSF hgx HCX
                generalize M2.acts = ac at *
                go_upto_region 36 with (fail)
                go_cut [164] (fun v164 wx => v164 = .bool false ∧ wx = wc)
                case first =>
                  cases o2 with
                  | none =>
                    obtain rfl := isSome_none hse rfl
                    obtain rfl := isSome_none hve rfl
                    go_wp2_with (first
                      | (go_at_call 21; refine (HA1.out).mono ?_; rintro e w7 ⟨rfl, rfl⟩)
                      | (go_at_call 22; refine (HA2.out).mono ?_; rintro e w8 ⟨rfl, rfl⟩))
                    go_meet
                    exact ⟨rfl, rfl⟩
                  | some S2 =>
                    obtain ⟨sb2, rfl⟩ := isSome_some hse rfl
                    obtain ⟨vb2, rfl⟩ := isSome_some hve rfl
                    go_wp2_with (first
                      | (go_at_call 21; refine (HA1.out).mono ?_; rintro e w7 ⟨rfl, rfl⟩)
                      | (go_at_call 22; refine (HA2.out).mono ?_; rintro e w8 ⟨rfl, rfl⟩))
                    go_meet
                    exact ⟨rfl, rfl⟩
                case rest =>
                  obtain ⟨rfl, hww⟩ := hcut
                  cases hww
                  clear HA1 HA2 hse hve
                  go_upto_block 3 with (fail)
                  go_wp2_with fail
                  go_loopw [17] (fun v17 wr2 => ∃ j : Nat, j ≤ 21 ∧ v17 = .int .i64 ((j : Int) - 1) ∧ TwoIs E s2 v2 db ub o2 M2 [gx] wr2) (fun v17 _ => 100 - (RowKit.intOf v17 + 1).toNat)
                  case atStart => exact ⟨0, by omega, rfl, HS2.out⟩
                  case round =>
                    clear HS2
                    obtain ⟨j, hj, rfl, hs2⟩ := hrel
                    obtain ⟨jn, hjn⟩ : ∃ jn : Int, (j : Int) - 1 = jn := ⟨_, rfl⟩
                    rw [hjn]
                    have HJ := Lib.hid (And.intro hj hjn)
                    have j0 : -1 ≤ jn := by omega
                    have j9 : jn ≤ 20 := by omega
                    by_cases hj20 : jn < 20
                    · have HRD := Lib.hid (two_read hs2 HF2.out.2.2.1 jn)
                      have hgq := readO_good (o := o2) (M := M2) HF2.out.2.2.1 jn
                      obtain ⟨q, c, hqc⟩ : ∃ q c, readO o2 M2 jn = (q, c) := ⟨_, _, rfl⟩
                      rw [hqc] at HRD hgq
                      simp only at HRD hgq
                      have hql := (good_bds hgq).1
                      have HRB : Hid (∀ W G', BIs E v2 ub o2 M2 G' W → Calls Tryz.prog 24 #[ptrV v2, .int .i64 jn] W (fun e w' => ∃ sv Z, e = .returned (.tuple #[pgV q.lsn sv, .int .i64 c]) ∧ Sat w' Z ∧ SlAt Z sv q.slots ∧ ∀ W, Sat W Z → BIs E v2 ub o2 M2 G' W)) := Lib.hid (fun W G' hW => by
                        have := B_read hW HF2.out.2.2.1 jn
                        rw [hqc] at this
                        exact this)
                      have HQL := Lib.hid hql
                      clear hs2 hj hjn hgq hqc hql
                      go_upto_region 43 with (first
                        | (go_at_call 23; refine (HRD.out).mono ?_; rintro e wa ⟨sva, ha, Aa, rfl, hAa, hba, hsla⟩; obtain ⟨aa, ac2, rfl, _⟩ := id hsla; have HA := Lib.hid (And.intro hAa hsla); have HBA := Lib.hid (hba.new (.cells #[kI q.lsn, .slice aa q.slots.length ac2] 48)); clear hAa hba hsla)
                        | (go_at_call 24; refine (HRB.out _ _ HBA.out).mono ?_; rintro e wb ⟨svb, Zb, rfl, hzb, hslb, hmb⟩; obtain ⟨ab, bc2, rfl, _⟩ := id hslb; have HZB := Lib.hid (And.intro hslb hmb); have HNB := Lib.hid (hzb.new (.cells #[kI q.lsn, .slice ab q.slots.length bc2] 48)); clear hzb hslb hmb))
                      have h18 := (HZB.out.2 _ HNB.out.tail).frame
                      obtain ⟨x0, x1, _⟩ := two_at h18
                      obtain ⟨y0, y1, _⟩ := two_at HNB.out
                      have HSM := Lib.hid (same_any (HA.out.2.mono (F' := .blk wb.heap.size (.cells #[kI q.lsn, .slice ab q.slots.length bc2] 48) :: Zb) (fun W hW => Sat.lft (F := [gx]) (HZB.out.2 W hW.tail).frame.tail.right)) (HZB.out.1.mono (fun W hW => hW.tail)) HNB.out HQL.out HQL.out true ⟨fun _ => rfl, fun _ => rfl⟩)
                      clear h18 HRD HRB
                      go_wp2_with (go_at_call 25; refine (HSM.out).mono ?_; rintro e wd ⟨rfl, hbd⟩; have HND := Lib.hid (HZB.out.2 _ (HNB.out.monoB hbd).tail); clear hbd)
                      have FIN : Hid (TwoIs E s2 v2 db ub o2 M2 [gx] wd) := Lib.hid ((BIs.part HND.out (G' := Aa ++ [gx]) (fun a => by simp only [cnt_cons, cnt_append, cnt_nil]; omega)).both HA.out.1)
                      exact ⟨⟨j + 1, by have := HJ.out; omega, by have := HJ.out; congr 1; omega, FIN.out⟩, by simp only [RowKit.intOf]; omega⟩
                    · have hj21 : ((jn : Int) < 20) = False := eq_false hj20
                      have FIN := Lib.hid (hs2.part (G' := []) (fun a => by simp only [cnt_nil]; omega))
                      clear hs2 hj hjn hj20
                      go_wp2_with fail
                      exact ⟨⟨i + 1, s2, v2, o2, M2, by have := HIL.out; omega, by simp, rfl, rfl, HF2.out.2.2.2, FIN.out, HF2.out.1, HF2.out.2.1, HF2.out.2.2.1⟩, by have := HIL.out; simp only [RowKit.intOf]; omega⟩
            · have h1i : (i : Int) < (X.length : Int) := by omega
              have h2' : ((i : Int) < 40) = False := eq_false (by omega)
              clear hs hk hcn hS hi h1 h2
              go_wp2_with fail
              go_ret
              exact ⟨rfl, HE.out⟩
          · have h1' : ((i : Int) < (X.length : Int)) = False := eq_false (by omega)
            clear hs hk hcn hS hi h1
            go_wp2_with fail
            go_ret
            exact ⟨rfl, HE.out⟩
end Go.Proofs.YtgocmnejlbfplaaGreatDoor
