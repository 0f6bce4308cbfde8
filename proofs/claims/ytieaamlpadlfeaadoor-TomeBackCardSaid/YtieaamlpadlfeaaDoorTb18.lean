/- TomeBack walked. Conditions: none. -/
import Derived.Test.YtieaamlpadlfeaaDoorTb16
import Derived.Test.YtieaamlpadlfeaaDoorTbS
import Derived.Test.YtieaamlpadlfeaaDoorTmL
import Derived.Test.YtieaamlpadlfeaaDoorTmArg
import Derived.Deep.DeepCutAuto
namespace Go.Proofs.YtieaamlpadlfeaaDoor
open Go Go.MapKept Go.RowKit Go.Proofs

attribute [local go_sem] Oper.semAt_some

theorem print_at {F : Heaplet} {w : World} {fv : Value} (hL : LibF F) (s : Sat w F) (x : StepM) (hft : FtAt F fv x.fates) (ho : StepOk x) (hf : x.fates.length ≤ 10000) (hd : x.call.data.length ≤ 10000) : Calls Tryd.prog 16 #[stepV x fv] w (PrintRet F (printS x)) := by
  obtain ⟨h1, h2, h3, h4, h5, h6, h7⟩ := ho
  have h := print_any hL s x hft h1 h2 h3 ⟨h7, hf⟩ h4 h5 h6 hd
  rw [← printP_res] at h
  exact h
theorem print_len {x : StepM} {l : Bs} (ho : StepOk x) (h : printS x = some l) : l.length ≤ 100 + 3 * x.call.data.length + 22 * x.fates.length := by
  rw [printP_res] at h
  split at h
  · cases h
    exact line_len ho.2.1 ho.2.2.1 ho.2.2.2.2.2.2 ho.2.2.2.2.1 ho.2.2.2.2.2.1
  · cases h
theorem parse_print {x : StepM} {l : Bs} (h : printS x = some l) : parseR (wordsL l) = some x := parseR_iff.2 (printS_iff.1 h)
theorem print_parse {x : StepM} {l : Bs} (h : parseR (wordsL l) = some x) : printS x = some l := printS_iff.2 (parseR_iff.1 h)
theorem lines_eq {x y : StepM} {l m : Bs} (h : printS x = some l) (k : printS y = some m) : (l == m) = decide (x = y) := by
  by_cases e : x = y
  · subst e
    rw [h] at k
    cases k
    simp
  · rw [decide_eq_false e, beq_eq_false_iff_ne]
    rintro rfl
    exact e (StepL.only (printS_iff.1 h) (printS_iff.1 k)).symm
theorem parse_ok {x : StepM} {l : Bs} (h : parseR (wordsL l) = some x) : StepOk x := by
  have h1 := parseR_iff.1 h
  revert h1
  generalize wordsL l = ws
  intro h1
  have z : I64 0 := by decide
  have i1 : I64 1 := by decide
  have i3 : I64 3 := by decide
  have i4 : I64 4 := by decide
  have i6 : I64 6 := by decide
  have i7 : I64 7 := by decide
  have sm : ∀ k : Nat, k ≤ 10 → I64 (k : Int) := fun k hk => ⟨by omega, by omega⟩
  have nf : ∀ f ∈ ([] : List Int), I64 f := fun f hf => by cases hf
  cases h1 with
  | call c x ws hc hx =>
    cases hx with
    | alone k hk => exact ⟨i1, hc, z, sm k (by omega), z, z, nf⟩
    | paged k p s hk hp hs => exact ⟨i1, hc, z, sm k (by omega), hp, hs, nf⟩
    | insert p d hp => exact ⟨i1, hc, z, i3, hp, z, nf⟩
    | update p s d hp hs => exact ⟨i1, hc, z, i4, hp, hs, nf⟩
    | back s hs => exact ⟨i1, hc, z, i7, z, hs, nf⟩
  | move k up c n hk hc hn => exact ⟨sm k (by omega), hc, hn, z, z, z, nf⟩
  | tick k c hk hc => exact ⟨sm k (by omega), hc, z, z, z, z, nf⟩
  | crash c n hc hn => exact ⟨i6, hc, hn, z, z, z, nf⟩
  | start c n fs hc hn hf => exact ⟨i7, hc, hn, z, z, z, hf⟩
  | bare k hk => exact ⟨sm k (by omega), z, z, z, z, z, nf⟩
set_option maxRecDepth 100000 in
theorem great_any {F : Heaplet} {w : World} {v : Value} (s : Sat w F) (x : StepM) (h : FtAt F v x.fates) : Calls Tryd.prog 15 #[stepV x v] w (Ret (.bool (decide (4096 < x.call.data.length ∨ 100 < x.fates.length))) (fun W => Sat W F)) := by
  obtain ⟨k, c, u, n, fs, ⟨ck, cp, cs, d⟩⟩ := x
  obtain ⟨a, cp', rfl, -⟩ := id h
  have s1 := s.new (stepO k c u n (.slice a fs.length cp') ck cp cs d)
  obtain ⟨x0, x1, x2, x3, x4, x5, x6, x7, x8⟩ := nine_of s1
  have HS := Lib.hid s1.tail
  clear s h s1
  by_cases h1 : 4096 < d.length
  · have k1 : (4096 : Int) < (d.length : Int) := by omega
    rw [decide_eq_true (.inl h1)]
    clear h1
    go_enter Tryd.func15, Tryd.ntmps15
    go_wp2_with fail
    go_ret
    exact ⟨rfl, HS.out⟩
  have k1 : ((4096 : Int) < (d.length : Int)) = False := eq_false (by omega)
  by_cases h2 : 100 < fs.length
  · have k2 : (100 : Int) < (fs.length : Int) := by omega
    rw [decide_eq_true (.inr h2)]
    clear h1 h2
    go_enter Tryd.func15, Tryd.ntmps15
    go_wp2_with fail
    go_ret
    exact ⟨rfl, HS.out⟩
  have k2 : ((100 : Int) < (fs.length : Int)) = False := eq_false (by omega)
  rw [decide_eq_false (fun h => h.elim h1 h2)]
  clear h1 h2
  go_enter Tryd.func15, Tryd.ntmps15
  go_wp2_with fail
  go_ret
  exact ⟨rfl, HS.out⟩
set_option maxRecDepth 100000 in
set_option maxHeartbeats 8000000 in
theorem back_walk {F : Heaplet} {w : World} {va vb : Value} (hL : LibF F) (s : Sat w F) (x y : StepM) (hx : FtAt F va x.fates) (hy : FtAt F vb y.fates) (hxo : StepOk x) (hyo : StepOk y) (l : Bs) : Calls Tryd.prog 5 #[stepV x va, stepV y vb, kL l] w (Ret (.bool true) (fun W => Sat W F)) := by
  obtain ⟨a1, c1, rfl, -⟩ := id hx
  obtain ⟨a2, c2, rfl, -⟩ := id hy
  have s2 := (s.new (stepO x.kind x.client x.up x.n (.slice a1 x.fates.length c1) x.call.kind x.call.page x.call.slot x.call.data)).new (stepO y.kind y.client y.up y.n (.slice a2 y.fates.length c2) y.call.kind y.call.page y.call.slot y.call.data)
  rw [World.size_alloc] at s2
  obtain ⟨A, hA⟩ : ∃ A, w.heap.size = A := ⟨_, rfl⟩
  rw [hA] at s2
  obtain ⟨G, hG⟩ : ∃ G, HItem.blk (A + 1) (stepO y.kind y.client y.up y.n (.slice a2 y.fates.length c2) y.call.kind y.call.page y.call.slot y.call.data) :: HItem.blk A (stepO x.kind x.client x.up x.n (.slice a1 x.fates.length c1) x.call.kind x.call.page x.call.slot x.call.data) :: F = G := ⟨_, rfl⟩
  rw [hG] at s2
  have hGF : ∀ W, Sat W G → Sat W F := fun W hW => by rw [← hG] at hW; exact hW.tail.tail
  have HGF := Lib.hid hGF
  have HLG : Hid (LibF G) := Lib.hid (hL.mono hGF)
  have HXC : Hid (∀ W, Sat W G → (W.cell? ⟨A, 0, none⟩ = some (kI x.kind) ∧ W.cell? ⟨A, 1, none⟩ = some (kI x.client) ∧ W.cell? ⟨A, 2, none⟩ = some (.bool x.up) ∧ W.cell? ⟨A, 3, none⟩ = some (kI x.n) ∧ W.cell? ⟨A, 4, none⟩ = some (.slice a1 x.fates.length c1) ∧ W.cell? ⟨A, 5, none⟩ = some (kI x.call.kind) ∧ W.cell? ⟨A, 6, none⟩ = some (kI x.call.page) ∧ W.cell? ⟨A, 7, none⟩ = some (kI x.call.slot) ∧ W.cell? ⟨A, 8, none⟩ = some (kL x.call.data)) ∧
      (W.cell? ⟨A + 1, 0, none⟩ = some (kI y.kind) ∧ W.cell? ⟨A + 1, 1, none⟩ = some (kI y.client) ∧ W.cell? ⟨A + 1, 2, none⟩ = some (.bool y.up) ∧ W.cell? ⟨A + 1, 3, none⟩ = some (kI y.n) ∧ W.cell? ⟨A + 1, 4, none⟩ = some (.slice a2 y.fates.length c2) ∧ W.cell? ⟨A + 1, 5, none⟩ = some (kI y.call.kind) ∧ W.cell? ⟨A + 1, 6, none⟩ = some (kI y.call.page) ∧ W.cell? ⟨A + 1, 7, none⟩ = some (kI y.call.slot) ∧ W.cell? ⟨A + 1, 8, none⟩ = some (kL y.call.data))) := Lib.hid (fun W hW => by
    rw [← hG] at hW
    exact ⟨nine_of hW.tail, nine_of hW⟩)
  have HFX := Lib.hid (hx.mono hGF)
  have HFY := Lib.hid (hy.mono hGF)
  have HXO := Lib.hid hxo
  have HYO := Lib.hid hyo
  have HAW := Lib.hid (awake_any HLG.out s2)
  have HGX : Hid (∀ W, Sat W G → Calls Tryd.prog 15 #[stepV x (.slice a1 x.fates.length c1)] W (Ret (.bool (decide (4096 < x.call.data.length ∨ 100 < x.fates.length))) (fun W => Sat W G))) := Lib.hid (fun W hW => great_any hW x HFX.out)
  have HGY : Hid (∀ W, Sat W G → Calls Tryd.prog 15 #[stepV y (.slice a2 y.fates.length c2)] W (Ret (.bool (decide (4096 < y.call.data.length ∨ 100 < y.fates.length))) (fun W => Sat W G))) := Lib.hid (fun W hW => great_any hW y HFY.out)
  obtain ⟨gx, hgx⟩ : ∃ gx, decide (4096 < x.call.data.length ∨ 100 < x.fates.length) = gx := ⟨_, rfl⟩
  obtain ⟨gy, hgy⟩ : ∃ gy, decide (4096 < y.call.data.length ∨ 100 < y.fates.length) = gy := ⟨_, rfl⟩
  rw [hgx] at HGX
  rw [hgy] at HGY
  have HGXD := Lib.hid hgx
  have HGYD := Lib.hid hgy
  clear hL s s2 hx hy hxo hyo hG hGF hgx hgy
  go_enter Tryd.func5, Tryd.ntmps5
  go_upto_region 3 with (go_at_call 7; refine (HAW.out).mono ?_; rintro e w1 ⟨rfl, h1⟩; have T1 := Lib.hid h1; obtain ⟨⟨x0, x1, x2, x3, x4, x5, x6, x7, x8⟩, y0, y1, y2, y3, y4, y5, y6, y7, y8⟩ := HXC.out _ h1; clear h1)
  cases gx with
  | true =>
    go_wp2_with (go_at_call 15; (with_reducible refine (HGX.out _ T1.out).mono ?_); rintro e w2 ⟨rfl, h2⟩; have T2 := Lib.hid h2; obtain ⟨-, z0, z1, z2, z3, z4, z5, z6, z7, z8⟩ := HXC.out _ h2; clear h2)
    go_ret
    exact ⟨rfl, HGF.out _ T2.out⟩
  | false =>
    cases gy with
    | true =>
      go_wp2_with (first | (go_at_call 15; (with_reducible refine (HGY.out _ T2.out).mono ?_); rintro e w3 ⟨rfl, h3⟩; have T3 := Lib.hid h3; clear h3) | (go_at_call 15; (with_reducible refine (HGX.out _ T1.out).mono ?_); rintro e w2 ⟨rfl, h2⟩; have T2 := Lib.hid h2; obtain ⟨-, z0, z1, z2, z3, z4, z5, z6, z7, z8⟩ := HXC.out _ h2; clear h2))
      go_ret
      exact ⟨rfl, HGF.out _ T3.out⟩
    | false =>
      by_cases hll : 8192 < l.length
      · have kl : (8192 : Int) < (l.length : Int) := by omega
        clear hll
        go_wp2_with (first | (go_at_call 15; (with_reducible refine (HGY.out _ T2.out).mono ?_); rintro e w3 ⟨rfl, h3⟩; have T3 := Lib.hid h3; clear h3) | (go_at_call 15; (with_reducible refine (HGX.out _ T1.out).mono ?_); rintro e w2 ⟨rfl, h2⟩; have T2 := Lib.hid h2; obtain ⟨-, z0, z1, z2, z3, z4, z5, z6, z7, z8⟩ := HXC.out _ h2; clear h2))
        go_ret
        exact ⟨rfl, HGF.out _ T3.out⟩
      have kl : ((8192 : Int) < (l.length : Int)) = False := eq_false (by omega)
      have HLL := Lib.hid hll
      have hgx := HGXD.out
      have hgy := HGYD.out
      rw [decide_eq_false_iff_not, not_or] at hgx hgy
      have HPX : Hid (∀ W, Sat W G → Calls Tryd.prog 16 #[stepV x (.slice a1 x.fates.length c1)] W (PrintRet G (printS x))) := Lib.hid (fun W hW => print_at HLG.out hW x HFX.out HXO.out (by omega) (by omega))
      have HPY : Hid (∀ W, Sat W G → Calls Tryd.prog 16 #[stepV y (.slice a2 y.fates.length c2)] W (PrintRet G (printS y))) := Lib.hid (fun W hW => print_at HLG.out hW y HFY.out HYO.out (by omega) (by omega))
      have hxl : ∀ lx, printS x = some lx → lx.length ≤ 900000 := fun lx h => by
        have := print_len HXO.out h
        omega
      have HXL := Lib.hid hxl
      have HN := Lib.hid (And.intro (show x.fates.length ≤ 1000000 by omega) (show y.fates.length ≤ 1000000 by omega))
      obtain ⟨ox, hox⟩ : ∃ ox, printS x = ox := ⟨_, rfl⟩
      obtain ⟨oy, hoy⟩ : ∃ oy, printS y = oy := ⟨_, rfl⟩
      rw [hox] at HPX HXL
      rw [hoy] at HPY
      have HOX := Lib.hid hox
      have HOY := Lib.hid hoy
      obtain ⟨ex, hex⟩ : ∃ ex : Int, (if ox.isSome then 0 else 1) = ex := ⟨_, rfl⟩
      obtain ⟨ey, hey⟩ : ∃ ey : Int, (if oy.isSome then 0 else 1) = ey := ⟨_, rfl⟩
      obtain ⟨lx, hlx⟩ : ∃ lx, ox.getD [] = lx := ⟨_, rfl⟩
      obtain ⟨ly, hly⟩ : ∃ ly, oy.getD [] = ly := ⟨_, rfl⟩
      unfold PrintRet at HPX HPY
      rw [hex, hlx] at HPX
      rw [hey, hly] at HPY
      obtain ⟨bx, hbx⟩ : ∃ bx, (ex == 0) = bx := ⟨_, rfl⟩
      have HEX := Lib.hid (And.intro hex (And.intro hlx hbx))
      have HEY := Lib.hid (And.intro hey hly)
      clear hll hgx hgy hxl hox hoy hex hey hlx hly HGXD HGYD
      go_upto_region 5 with (first | (go_at_call 15; (with_reducible refine (HGY.out _ T2.out).mono ?_); rintro e w3 ⟨rfl, h3⟩; have T3 := Lib.hid h3; clear h3) | (go_at_call 15; (with_reducible refine (HGX.out _ T1.out).mono ?_); rintro e w2 ⟨rfl, h2⟩; have T2 := Lib.hid h2; obtain ⟨-, z0, z1, z2, z3, z4, z5, z6, z7, z8⟩ := HXC.out _ h2; clear h2))
      obtain ⟨⟨x0, x1, x2, x3, x4, x5, x6, x7, x8⟩, -⟩ := HXC.out _ T3.out
      clear HGX HGY HAW z0 z1 z2 z3 z4 z5 z6 z7 z8 y0 y1 y2 y3 y4 y5 y6 y7 y8
      go_upto_if 39 with (first
        | (go_at_call 16; (with_reducible refine (HPX.out _ T3.out).mono ?_); rintro e w4 ⟨rfl, h4⟩; have T4 := Lib.hid h4; obtain ⟨-, z0, z1, z2, z3, z4, z5, z6, z7, z8⟩ := HXC.out _ h4; clear h4)
        | (go_at_call 16; (with_reducible refine (HPY.out _ T4.out).mono ?_); rintro e w5 ⟨rfl, h5⟩; have T5 := Lib.hid h5; clear h5))
      clear x0 x1 x2 x3 x4 x5 x6 x7 x8 z0 z1 z2 z3 z4 z5 z6 z7 z8 HPX HPY T1 T2 T3 T4
      go_cut [] (fun wx => Sat wx G)
      case first =>
        clear hbx
        cases ox with
        | none =>
          obtain ⟨rfl, rfl, hb⟩ := HEX.out
          obtain rfl : bx = false := hb.symm
          clear hb HEX HEY HOX HOY HXL
          go_wp2_with fail
          go_meet
          exact T5.out
        | some l0 =>
          obtain ⟨rfl, e0, hb⟩ := HEX.out
          obtain rfl : l0 = lx := e0
          obtain rfl : bx = true := hb.symm
          have hpr := parse_any HLG.out T5.out l0 (HXL.out l0 rfl)
          rw [parse_print HOX.out] at hpr
          have HPR := Lib.hid hpr
          clear hpr hb HEX HXL
          go_upto_region 9 with (go_at_call 8; refine (HPR.out).mono ?_; rintro e w6 h6; obtain ⟨v3, ph, rfl, hpf, h6⟩ := h6; obtain ⟨a3, c3, rfl, -⟩ := id hpf; have S6 := Lib.hid (h6.new (stepO x.kind x.client x.up x.n (.slice a3 x.fates.length c3) x.call.kind x.call.page x.call.slot x.call.data)); have HPF := Lib.hid hpf; clear h6 hpf)
          clear HPR
          have h := same_any S6.out x x (HPF.out.mono (fun W hW => hW.tail.lft)) (HFX.out.mono (fun W hW => hW.tail.right)) HN.out.1 HN.out.1
          rw [decide_eq_true rfl] at h
          have HS1 := Lib.hid h
          obtain ⟨b0, b1, b2, b3, b4, b5, b6, b7, b8⟩ := nine_of S6.out
          obtain ⟨⟨x0, x1, x2, x3, x4, x5, x6, x7, x8⟩, -⟩ := HXC.out _ S6.out.tail.right
          clear h
          generalize w6.alloc (stepO x.kind x.client x.up x.n (.slice a3 x.fates.length c3) x.call.kind x.call.page x.call.slot x.call.data) = W6 at *
          generalize w6.heap.size = b6' at *
          have A1 : True := trivial
          cases oy with
          | none =>
            obtain ⟨rfl, rfl⟩ := HEY.out
            clear HEY HOX HOY A1
            go_wp2_with (go_at_call 12; (with_reducible refine (HS1.out).mono ?_); rintro e w7 ⟨rfl, h7⟩; have S7 := Lib.hid h7.tail.right; clear h7)
            go_meet
            exact S7.out
          | some l1 =>
            obtain ⟨rfl, e1⟩ := HEY.out
            obtain rfl : l1 = ly := e1
            have hlq := lines_eq HOX.out HOY.out
            obtain ⟨q, hq⟩ : ∃ q, decide (x = y) = q := ⟨_, rfl⟩
            rw [hq] at hlq
            have HS2 : Hid (∀ W, Sat W G → Calls Tryd.prog 12 #[stepV x (.slice a1 x.fates.length c1), stepV y (.slice a2 y.fates.length c2)] W (Ret (.bool q) (fun W => Sat W G))) := Lib.hid (fun W hW => by
              have h := same_any hW x y HFX.out HFY.out HN.out.1 HN.out.2
              rw [hq] at h
              exact h)
            clear HEY HOX HOY A1 hq
            go_wp2_with (first
              | (go_at_call 12; (with_reducible refine (HS2.out _ S7.out).mono ?_); rintro e w8 ⟨rfl, h8⟩; have S8 := Lib.hid h8; clear h8)
              | (go_at_call 12; (with_reducible refine (HS1.out).mono ?_); rintro e w7 ⟨rfl, h7⟩; have S7 := Lib.hid h7.tail.right; obtain ⟨⟨d0, d1, d2, d3, d4, d5, d6, d7, d8⟩, f0, f1, f2, f3, f4, f5, f6, f7, f8⟩ := HXC.out _ h7.tail.right; clear h7))
            go_meet
            exact S8.out
      case rest =>
        have T := Lib.hid hcut
        clear hcut T5 HEX HEY HOX HOY HXL HN HXO HYO HFX HFY hbx HXC
        have hl : l.length ≤ 8192 := by have := HLL.out; omega
        have hpr := parse_any HLG.out T.out l (by omega)
        obtain ⟨PO, hPO⟩ : ∃ PO, parseR (wordsL l) = PO := ⟨_, rfl⟩
        rw [hPO] at hpr
        have HPR := Lib.hid hpr
        have HPO := Lib.hid hPO
        have HL2 := Lib.hid hl
        clear hpr hPO hl HLL
        cases PO with
        | none =>
          go_upto_region 13 with (go_at_call 8; refine (HPR.out).mono ?_; rintro e w6 h6; obtain ⟨rfl, h6⟩ := h6; have S6 := Lib.hid (h6.new zeroO); clear h6)
          clear HPR
          have h := same_any S6.out StepM.zero StepM.zero (FtAt.nil _ none 0) (FtAt.nil _ none 0) (by decide) (by decide)
          rw [decide_eq_true rfl] at h
          have HS1 : Hid (Calls Tryd.prog 12 #[.agg #[.int .i64 0, .int .i64 0, .bool false, .int .i64 0, .slice none 0 0, .int .i64 0, .int .i64 0, .int .i64 0, .string ⟨#[]⟩], .agg #[.int .i64 0, .int .i64 0, .bool false, .int .i64 0, .slice none 0 0, .int .i64 0, .int .i64 0, .int .i64 0, .string ⟨#[]⟩]] (w6.alloc zeroO) _) := Lib.hid h
          obtain ⟨b0, b1, b2, b3, b4, b5, b6, b7, b8⟩ := nine_of S6.out
          clear h
          go_wp2_with (go_at_call 12; refine (HS1.out).mono ?_; rintro e w7 ⟨rfl, h7⟩; have S7 := Lib.hid (HGF.out _ h7.tail); clear h7)
          go_ret
          exact ⟨rfl, S7.out⟩
        | some z =>
          have hzf := parse_fates HPO.out
          have hzd := parse_data HPO.out
          have hzl := HL2.out
          have HPZ : Hid (∀ (K : Heaplet) W v, LibF K → FtAt K v z.fates → Sat W K → Calls Tryd.prog 16 #[stepV z v] W (PrintRet K (some l))) := Lib.hid (fun K W v hK hv hW => by
            have h := print_at hK hW z hv (parse_ok HPO.out) (by omega) (by omega)
            rw [print_parse HPO.out] at h
            exact h)
          clear hzf hzd hzl HPO HL2
          go_upto_region 14 with (go_at_call 8; refine (HPR.out).mono ?_; rintro e w6 h6; obtain ⟨v3, ph, rfl, hpf, h6⟩ := h6; obtain ⟨a3, c3, rfl, -⟩ := id hpf; have S6 := Lib.hid (h6.new (stepO z.kind z.client z.up z.n (.slice a3 z.fates.length c3) z.call.kind z.call.page z.call.slot z.call.data)); have HPF := Lib.hid hpf; clear h6 hpf)
          clear HPR
          obtain ⟨b0, b1, b2, b3, b4, b5, b6, b7, b8⟩ := nine_of S6.out
          have HP2 := Lib.hid (HPZ.out _ _ _ (HLG.out.mono (fun W hW => hW.tail.right)) (HPF.out.mono (fun W hW => hW.tail.lft)) S6.out)
          clear HPZ
          go_wp2_with (go_at_call 16; (with_reducible refine (HP2.out).mono ?_); rintro e w7 ⟨rfl, h7⟩; have S7 := Lib.hid (HGF.out _ h7.tail.right); clear h7)
          go_ret
          exact ⟨rfl, S7.out⟩
theorem back_law {W : World} {x y : StepM} {va vb : Value} (hv : VarsAt W) (h1 : FtAt (allOf W) va x.fates ∧ StepOk x) (h2 : FtAt (allOf W) vb y.fates ∧ StepOk y) (c : ByteArray) : Calls Tryd.prog 5 #[stepV x va, stepV y vb, .string c] W (Ret (.bool true) (Below W.heap.size W)) := by
  have h : Calls Tryd.prog 5 #[stepV x va, stepV y vb, .string ⟨c.data.toList.toArray⟩] W (Ret (.bool true) (fun W' => Sat W' (allOf W))) := back_walk (libF_all hv) (sat_all W) x y h1.1 h2.1 h1.2 h2.2 c.data.toList
  rw [ba_mk c] at h
  exact h.mono (fun e w' h => ⟨h.1, h.2.below⟩)
end Go.Proofs.YtieaamlpadlfeaaDoor
