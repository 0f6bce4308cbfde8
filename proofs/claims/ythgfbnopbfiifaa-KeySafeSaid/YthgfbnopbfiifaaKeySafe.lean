/- KeySafe walked: nobody else holds what somebody holds as an X. Conditions: none. -/
import Derived.Test.YthgfbnopbfiifaaKey15
import Derived.Test.YthgfbnopbfiifaaKeyS
import Derived.Test.YthgfbnopbfiifaaArgs14
import Derived.Deep.CutBlock
namespace Go.Proofs.Ythgfbnopbfiifaa
open Go Go.MapKept Go.RowKit Go.Proofs Go.Sort

/-- An act. -/
def actM (K : KtM) (kind c p : Int) (x : Bool) : KtM := if kind = 1 then (askM K c p x).2 else if kind = 2 then (freeM K c p x).2 else if kind = 3 then (busyM K c p).2 else if kind = 4 then leaveM K c false else if kind = 5 then leaveM K c true else K
theorem act_ok {K : KtM} (h : KOk K) (hw : K.ws = []) (kind c : Int) {p : Int} (x : Bool) (hp : 0 ≤ p ∧ p < 8) : KOk (actM K kind c p x) ∧ KSaid (actM K kind c p x) := by
  unfold actM
  split
  · exact ask_ok h hw x hp
  · split
    · exact free_ok h hw c p x
    · split
      · exact busy_ok h hw c p
      · split
        · exact leave_ok h hw c false
        · split
          · exact leave_ok h hw c true
          · exact ⟨h, fun y hy => by rw [hw] at hy; cases hy⟩
/-- One page counted up to client c. -/
def CntI (T : TabM) (q c so xs : Int) : Prop := ((∀ c, holdsM T c q = 0 ∨ holdsM T c q = 1) ∧ xs = 0 ∧ 0 ≤ so ∧ so ≤ c) ∨ ∃ c0, holdsM T c0 q = 2 ∧ (∀ c, c ≠ c0 → holdsM T c q = 0) ∧ so = xs ∧ xs = (if 1 ≤ c0 ∧ c0 < c then 1 else 0)
theorem cnt_start {K : KtM} (h : KOk K) (q : Int) : CntI K.tab q 1 0 0 := by
  rcases page_ok h q with h1 | ⟨c0, h1, h2⟩
  · exact .inl ⟨h1, rfl, by omega, by omega⟩
  · exact .inr ⟨c0, h1, h2, rfl, by rw [if_neg (by omega)]⟩
theorem cnt_step {T : TabM} {q c so xs : Int} (h : CntI T q c so xs) (hc : 1 ≤ c) : CntI T q (c + 1) (so + if 0 < holdsM T c q then 1 else 0) (xs + if holdsM T c q = 2 then 1 else 0) := by
  rcases h with ⟨h1, h2, h3, h4⟩ | ⟨c0, h1, h2, h3, h4⟩
  · refine .inl ⟨h1, ?_, ?_, ?_⟩
    · rw [if_neg (by rcases h1 c with e | e <;> omega)]; omega
    · split <;> omega
    · split <;> omega
  · refine .inr ⟨c0, h1, h2, ?_, ?_⟩
    · by_cases e : c = c0
      · subst e; rw [h1, h3]; rfl
      · rw [h2 c e, h3]; rfl
    · by_cases e : c = c0
      · subst e
        rw [h1, if_pos rfl, h4, if_neg (by omega), if_pos (by omega)]; rfl
      · rw [h2 c e, if_neg (by omega), h4]
        by_cases e2 : 1 ≤ c0 ∧ c0 < c
        · rw [if_pos e2, if_pos (by omega)]; rfl
        · rw [if_neg e2, if_neg (by omega)]; rfl
theorem cnt_end {T : TabM} {q c so xs : Int} (h : CntI T q c so xs) : (xs = 0) ∨ (xs = 1 ∧ so = 1) := by
  rcases h with ⟨_, h2, _⟩ | ⟨c0, _, _, h3, h4⟩
  · exact .inl h2
  · by_cases e : 1 ≤ c0 ∧ c0 < c
    · rw [if_pos e] at h4; exact .inr ⟨h4, by omega⟩
    · rw [if_neg e] at h4; exact .inl h4
theorem cnt_bd {T : TabM} {q c so xs : Int} (h : CntI T q c so xs) (hc : 1 ≤ c) : 0 ≤ so ∧ so ≤ c ∧ 0 ≤ xs ∧ xs ≤ 1 := by
  rcases h with ⟨_, h2, h3, h4⟩ | ⟨c0, _, _, h3, h4⟩
  · omega
  · by_cases e : 1 ≤ c0 ∧ c0 < c
    · rw [if_pos e] at h4; omega
    · rw [if_neg e] at h4; omega
theorem holds_bd (T : TabM) (c q : Int) : holdsM T c q = 0 ∨ holdsM T c q = 1 ∨ holdsM T c q = 2 := by
  unfold holdsM
  cases holdOf T c q with
  | none => exact .inl rfl
  | some d => cases h : d.x <;> simp [h]
theorem wsl_len {v : Value} {ws : List Wd} {h : Heaplet} (hv : WSl v ws h) : ws.length ≤ maxLen := by
  rcases hv.2 with ⟨_, e0, _⟩ | ⟨g, cap, cur, _, hc, hm, _⟩
  · omega
  · exact Nat.le_trans hc hm
theorem KtIs.drop1 {b : Nat} {K : KtM} {x : HItem} {F : Heaplet} {w : World} (h : KtIs b K (x :: F) w) : KtIs b K F w := KtIs.weaken (D := [x]) h
theorem KtIs.new {b : Nat} {K : KtM} {F : Heaplet} {w : World} (h : KtIs b K F w) (o : Obj) : KtIs b K (.blk w.heap.size o :: F) (w.alloc o) := by
  obtain ⟨A, s, back⟩ := h.split
  exact back ((s.new o).perm List.perm_middle.symm)
set_option maxRecDepth 100000 in
set_option maxHeartbeats 16000000 in
theorem safe_walk (p : Option Addr) (len cap : Nat) (V0 V1 V2 : Nat → Int) (V3 : Nat → Bool) (W : World) (ha : Acts14 W p len V0 V1 V2 V3) :
    Calls Try.prog 3 #[.slice p len cap] W fun e W' => e = .returned (.bool true) ∧ Below W.heap.size W W' := by
  have Ha := Lib.hid ha
  have hlen := ha.1
  clear ha
  go_enter Try.func3, Try.ntmps3
  go_wp2_with fail
  refine (awake14 (allOf W) W (sat_all W)).mono ?_
  rintro e w0 ⟨rfl, hs⟩
  have HS0 := Lib.hid hs
  clear hs
  go_wp2_with fail
  refine (key_new (allOf W) w0 HS0.out).mono ?_
  rintro e w1 ⟨b, rfl, hL⟩
  have H0 := Lib.hid hL
  clear hL HS0
  go_wp2_with fail
  go_loopw [4] (fun v4 wr => ∃ (k : Nat) (T : TabM), k ≤ len ∧ k ≤ 150 ∧ v4 = .int .i64 k ∧ KOk ⟨T, []⟩ ∧ KtIs b ⟨T, []⟩ (allOf W) wr) (fun v4 _ => 200 - (RowKit.intOf v4).toNat)
  case atStart => exact ⟨0, [], by omega, by omega, rfl, ⟨by simp, by simp, fun p l hl => by simp [getL] at hl, fun p l hl => by simp [getL] at hl⟩, H0.out⟩
  case round =>
    obtain ⟨k, T, hk1, hk2, rfl, hok, hK⟩ := hrel
    clear H0
    have j0 : (0 : Int) ≤ (k : Int) := by omega
    by_cases hlt : k < len ∧ k < 150
    · obtain ⟨hlt1, hlt2⟩ := hlt
      obtain ⟨ba, off, rfl, hba, ⟨hA, hA0, hA1⟩, ⟨hB, hB0, hB1⟩, ⟨hC, hC0, hC1⟩, hD⟩ := (Ha.out).2 k hlt1
      have c0 : wr.cell? ⟨ba, off + k * 4, none⟩ = some (kI (V0 k)) := (hK.frame.cellOld (a := ⟨ba, off + k * 4, none⟩) hba).trans hA
      have c1 : wr.cell? ⟨ba, off + k * 4 + 1, none⟩ = some (kI (V1 k)) := (hK.frame.cellOld (a := ⟨ba, off + k * 4 + 1, none⟩) hba).trans hB
      have c2 : wr.cell? ⟨ba, off + k * 4 + 2, none⟩ = some (kI (V2 k)) := (hK.frame.cellOld (a := ⟨ba, off + k * 4 + 2, none⟩) hba).trans hC
      have c3 : wr.cell? ⟨ba, off + k * 4 + 3, none⟩ = some (.bool (V3 k)) := (hK.frame.cellOld (a := ⟨ba, off + k * 4 + 3, none⟩) hba).trans hD
      generalize V0 k = kind at *
      generalize V1 k = cl at *
      generalize V2 k = v2 at *
      generalize V3 k = x at *
      obtain ⟨q, hq, q0, q1⟩ : ∃ q, wrap64 ((IntKind.u64.wrap v2).tmod 8) = q ∧ 0 ≤ q ∧ q < 8 := ⟨_, rfl, umod_bd v2 8 (by omega) (by omega)⟩
      have HN := Lib.hid (hK.new (.cells #[kI kind, kI cl, kI v2, .bool x] 27))
      have HOK := Lib.hid hok
      have HQ := Lib.hid hq
      clear hA hB hC hD hok hK hq
      go_upto_region 8 with (fail)
      generalize wr.alloc (.cells #[.int .i64 kind, .int .i64 cl, .int .i64 v2, .bool x] 27) = W1 at *
      generalize wr.heap.size = xb at *
      clear c0 c1 c2 c3
      have n0 : W1.cell? ⟨xb, 0, none⟩ = some (kI kind) := by rw [cell_of HN.out.frame.h0]; rfl
      have n1 : W1.cell? ⟨xb, 1, none⟩ = some (kI cl) := by rw [cell_of HN.out.frame.h0]; rfl
      have n2 : W1.cell? ⟨xb, 2, none⟩ = some (kI v2) := by rw [cell_of HN.out.frame.h0]; rfl
      have n3 : W1.cell? ⟨xb, 3, none⟩ = some (.bool x) := by rw [cell_of HN.out.frame.h0]; rfl
      go_upto_block 2 with (fail)
      rw [HQ.out]
      clear HQ
      have HN2 := HN.out
      have hf := HOK.out.fit
      have hr : ∀ q ∈ (⟨T, []⟩ : KtM).tab, 0 ≤ q.1 ∧ q.1 < 1024 := fun q hq => by have := HOK.out.rng q hq; omega
      have hl : (⟨T, []⟩ : KtM).tab.length ≤ 1100 := by have := HOK.out.len; omega
      have HF := Lib.hid (And.intro hf (And.intro hr hl))
      have hak := act_ok HOK.out rfl kind cl x ⟨q0, q1⟩
      have HAK := Lib.hid hak
      clear HN2 hf hr hl hak
      go_cut [] (fun wx => KtIs b (actM ⟨T, []⟩ kind cl q x) (.blk xb (.cells #[kI kind, kI cl, kI v2, .bool x] 27) :: allOf W) wx)
      case first =>
        clear HAK
        by_cases k1 : kind = 1
        · have b1 : (kind == 1) = true := by simpa using k1
          have eact : actM ⟨T, []⟩ kind cl q x = (askM ⟨T, []⟩ cl q x).2 := by unfold actM; simp [k1]
          have EACT := Lib.hid eact
          have HC := Lib.hid (ask_any HN.out cl q x (fun l hl => HF.out.1 q l hl) (by simp))
          clear k1 eact HN HF HOK
          go_wp2_with fail
          refine (HC.out).mono ?_
          rintro e w5 ⟨rfl, h5⟩
          have FIN : Hid (KtIs b (actM ⟨T, []⟩ kind cl q x) (.blk xb (.cells #[kI kind, kI cl, kI v2, .bool x] 27) :: allOf W) w5) := Lib.hid (by rw [EACT.out]; exact h5)
          clear h5 HC EACT
          go_wp2_with fail
          go_meet
          exact FIN.out
        · have b1 : (kind == 1) = false := by simpa using k1
          by_cases k2 : kind = 2
          · have b2 : (kind == 2) = true := by simpa using k2
            have eact : actM ⟨T, []⟩ kind cl q x = (freeM ⟨T, []⟩ cl q x).2 := by unfold actM; simp [k2]
            have EACT := Lib.hid eact
            have HC := Lib.hid (free_any HN.out cl q x (fun l hl => HF.out.1 q l hl) (by simp))
            clear k2 eact HN HF HOK k1
            go_wp2_with fail
            refine (HC.out).mono ?_
            rintro e w5 ⟨rfl, h5⟩
            have FIN : Hid (KtIs b (actM ⟨T, []⟩ kind cl q x) (.blk xb (.cells #[kI kind, kI cl, kI v2, .bool x] 27) :: allOf W) w5) := Lib.hid (by rw [EACT.out]; exact h5)
            clear h5 HC EACT
            go_wp2_with fail
            go_meet
            exact FIN.out
          · have b2 : (kind == 2) = false := by simpa using k2
            by_cases k3 : kind = 3
            · have b3 : (kind == 3) = true := by simpa using k3
              have eact : actM ⟨T, []⟩ kind cl q x = (busyM ⟨T, []⟩ cl q).2 := by unfold actM; simp [k3]
              have EACT := Lib.hid eact
              have HC := Lib.hid (busy_any HN.out cl q)
              clear k3 eact HN HF HOK k1 k2
              go_wp2_with fail
              refine (HC.out).mono ?_
              rintro e w5 ⟨rfl, h5⟩
              have FIN : Hid (KtIs b (actM ⟨T, []⟩ kind cl q x) (.blk xb (.cells #[kI kind, kI cl, kI v2, .bool x] 27) :: allOf W) w5) := Lib.hid (by rw [EACT.out]; exact h5)
              clear h5 HC EACT
              go_wp2_with fail
              go_meet
              exact FIN.out
            · have b3 : (kind == 3) = false := by simpa using k3
              by_cases k4 : kind = 4
              · have b4 : (kind == 4) = true := by simpa using k4
                have eact : actM ⟨T, []⟩ kind cl q x = leaveM ⟨T, []⟩ cl false := by unfold actM; simp [k4]
                have EACT := Lib.hid eact
                have HC := Lib.hid (cancel_any HN.out cl HF.out.1 HF.out.2.1 (by simp) HF.out.2.2)
                clear k4 eact HN HF HOK k1 k2 k3
                go_wp2_with fail
                refine (HC.out).mono ?_
                rintro e w5 ⟨rfl, h5⟩
                have FIN : Hid (KtIs b (actM ⟨T, []⟩ kind cl q x) (.blk xb (.cells #[kI kind, kI cl, kI v2, .bool x] 27) :: allOf W) w5) := Lib.hid (by rw [EACT.out]; exact h5)
                clear h5 HC EACT
                go_wp2_with fail
                go_meet
                exact FIN.out
              · have b4 : (kind == 4) = false := by simpa using k4
                by_cases k5 : kind = 5
                · have b5 : (kind == 5) = true := by simpa using k5
                  have eact : actM ⟨T, []⟩ kind cl q x = leaveM ⟨T, []⟩ cl true := by unfold actM; simp [k5]
                  have EACT := Lib.hid eact
                  have HC := Lib.hid (gone_any HN.out cl HF.out.1 HF.out.2.1 (by simp) HF.out.2.2)
                  clear k5 eact HN HF HOK k1 k2 k3 k4
                  go_wp2_with fail
                  refine (HC.out).mono ?_
                  rintro e w5 ⟨rfl, h5⟩
                  have FIN : Hid (KtIs b (actM ⟨T, []⟩ kind cl q x) (.blk xb (.cells #[kI kind, kI cl, kI v2, .bool x] 27) :: allOf W) w5) := Lib.hid (by rw [EACT.out]; exact h5)
                  clear h5 HC EACT
                  go_wp2_with fail
                  go_meet
                  exact FIN.out
                · have b5 : (kind == 5) = false := by simpa using k5
                  have eact : actM ⟨T, []⟩ kind cl q x = ⟨T, []⟩ := by unfold actM; simp [k1, k2, k3, k4, k5]
                  have FIN : Hid (KtIs b (actM ⟨T, []⟩ kind cl q x) (.blk xb (.cells #[kI kind, kI cl, kI v2, .bool x] 27) :: allOf W) W1) := Lib.hid (by rw [eact]; exact HN.out)
                  clear k1 k2 k3 k4 k5 eact HN HF HOK
                  go_wp2_with fail
                  go_meet
                  exact FIN.out
      case rest =>
        clear HN HF HOK n0 n1 n2 n3
        obtain ⟨K1, hK1⟩ : ∃ K1, actM ⟨T, []⟩ kind cl q x = K1 := ⟨_, rfl⟩
        rw [hK1] at hcut HAK
        clear hK1
        have HC := Lib.hid hcut
        clear hcut
        go_wp2_with fail
        refine (take_any HC.out).mono ?_
        rintro e w6 ⟨v7, hh, rfl, hv7, h6⟩
        obtain ⟨a7, c7, rfl⟩ := sl_form hv7
        have HV := Lib.hid hv7
        have H6 := Lib.hid h6
        have hwl : (K1.ws.length : Int) ≤ 9223372036854775807 := by have := wsl_len hv7; unfold maxLen at this; omega
        clear hv7 h6 HC
        go_wp2_with fail
        go_loopw [8, 9] (fun v8 _ wy => ∃ j : Nat, j ≤ K1.ws.length ∧ v8 = .int .i64 j ∧ KtIs b ⟨K1.tab, []⟩ (hh ++ (.blk xb (.cells #[kI kind, kI cl, kI v2, .bool x] 27) :: allOf W)) wy) (fun v8 _ _ => K1.ws.length - (RowKit.intOf v8).toNat)
        case atStart => exact ⟨0, by omega, rfl, H6.out⟩
        case round =>
          clear H6
          obtain ⟨j, hj, rfl, hk⟩ := hrel
          have jj0 : (0 : Int) ≤ (j : Int) := by omega
          by_cases hjl : j < K1.ws.length
          · have j1 : (j : Int) < (K1.ws.length : Int) := by omega
            obtain ⟨y, hy⟩ : ∃ y, K1.ws[j]? = some y := ⟨_, List.getElem?_eq_getElem hjl⟩
            obtain ⟨g, rfl, u0, u1, u2, u3⟩ := wd_at HV.out hk.frame hy rfl
            obtain ⟨f1, f2, f3⟩ := word_ok HAK.out.2 (List.mem_of_getElem? hy)
            obtain ⟨yk, yc, yp, yx⟩ := y
            simp only at u0 u1 u2 u3 f1 f2 f3
            obtain ⟨hv, hhv⟩ : ∃ hv, holdsM K1.tab yc yp = hv := ⟨_, rfl⟩
            rw [hhv] at f1 f2 f3
            have hq : ∀ n, Calls Try.prog 15 #[.pointer (some ⟨b, 0, none⟩), .int .i64 yc, .int .i64 yp] (wr.drewN n) fun e w'' => e = .returned (.int .i64 hv) ∧ ∃ m, w'' = wr.drewN m := fun n => Calls.quiet_of_same ((holds_any (hk.grown (Grown.drewN wr n)) yc yp).mono fun _ _ h => ⟨by rw [← hhv]; exact h.1, h.2.symm⟩)
            have HQ := Lib.hid hq
            have HK := Lib.hid hk
            have HFX := Lib.hid (And.intro f1 (And.intro f2 f3))
            clear hy hk hhv hq f1 f2 f3
            go_upto_region 24 with (fail)
            go_quiet ((go_at_call 15; with_reducible exact HQ.out _))
            have HK2 := Lib.hid (HK.out.grown (Grown.drewN _ nq))
            have u0' : (wr.drewN nq).cell? ⟨g, j * 4, none⟩ = some (.bool yk) := by simpa using u0
            have u3' : (wr.drewN nq).cell? ⟨g, j * 4 + 3, none⟩ = some (.bool yx) := by simpa using u3
            clear u0 u1 u2 u3 HK HQ
            generalize wr.drewN nq = W9 at *
            go_upto_region 25 with (fail)
            go_cut [133] (fun v133 wx => v133 = .bool false ∧ wx = W9)
            case first =>
              obtain ⟨f1, f2, f3⟩ := HFX.out
              have hall : (hv = 1 ∧ yk = true ∧ yx = true) ∨ (hv = 1 ∧ yk = false ∧ yx = false) ∨ (hv = 2 ∧ yk = true) ∨ (hv = 2 ∧ yk = false ∧ yx = true) := by
                rcases f1 with rfl | rfl
                · cases yk with
                  | true =>
                    cases yx with
                    | true => exact .inl ⟨rfl, rfl, rfl⟩
                    | false => exact absurd (f2 rfl rfl) (by decide)
                  | false => exact .inr (.inl ⟨rfl, rfl, f3 rfl⟩)
                · cases yk with
                  | true => exact .inr (.inr (.inl ⟨rfl, rfl⟩))
                  | false => exact .inr (.inr (.inr ⟨rfl, rfl, f3 rfl⟩))
              clear f1 f2 f3 HFX
              rcases hall with ⟨rfl, rfl, rfl⟩ | ⟨rfl, rfl, rfl⟩ | ⟨rfl, rfl⟩ | ⟨rfl, rfl, rfl⟩
              case' inr.inr.inl => cases yx
              all_goals
                go_wp2_with fail
                go_meet
                exact ⟨rfl, rfl⟩
            case rest =>
              obtain ⟨rfl, rfl⟩ := hcut
              clear u0' u3' HFX
              go_wp2_with fail
              exact ⟨⟨j + 1, by omega, by simp, HK2.out⟩, by simp only [RowKit.intOf]; omega⟩
          · obtain rfl : j = K1.ws.length := by omega
            have HK := Lib.hid hk
            clear hk hj hjl jj0
            go_wp2_with fail
            go_loopw [10, 11, 12, 13] (fun v10 _ _ _ wr => ∃ n : Nat, n ≤ 8 ∧ v10 = .int .i64 n ∧ KtIs b ⟨K1.tab, []⟩ (hh ++ (.blk xb (.cells #[kI kind, kI cl, kI v2, .bool x] 27) :: allOf W)) wr) (fun v10 _ _ _ _ => 20 - (RowKit.intOf v10).toNat)
            case atStart => exact ⟨0, by omega, rfl, HK.out⟩
            case round =>
              clear HK
              obtain ⟨n, hn, rfl, hk⟩ := hrel
              have HK := Lib.hid hk
              clear hk
              have n0 : (0 : Int) ≤ (n : Int) := by omega
              by_cases hn8 : n < 8
              · have n8 : (n : Int) < 8 := by omega
                have hcs := cnt_start HAK.out.1 (n : Int)
                have HCS := Lib.hid hcs
                clear hcs
                go_upto_block 7 with (fail)
                go_cut [11, 12, 13] (fun v11 v12 _ wx => ∃ so xs : Int, v11 = .int .i64 so ∧ v12 = .int .i64 xs ∧ ((xs = 0) ∨ (xs = 1 ∧ so = 1)) ∧ KtIs b ⟨K1.tab, []⟩ (hh ++ (.blk xb (.cells #[kI kind, kI cl, kI v2, .bool x] 27) :: allOf W)) wx)
                case first =>
                  go_wp2_with fail
                  go_loopw [11, 12, 13] (fun v11 v12 v13 wr => ∃ so xs c : Int, v11 = .int .i64 so ∧ v12 = .int .i64 xs ∧ v13 = .int .i64 c ∧ 1 ≤ c ∧ c ≤ 9 ∧ CntI K1.tab n c so xs ∧ KtIs b ⟨K1.tab, []⟩ (hh ++ (.blk xb (.cells #[kI kind, kI cl, kI v2, .bool x] 27) :: allOf W)) wr) (fun _ _ v13 _ => 20 - (RowKit.intOf v13).toNat)
                  case atStart => exact ⟨0, 0, 1, rfl, rfl, rfl, by omega, by omega, HCS.out, HK.out⟩
                  case round =>
                    clear HCS HK
                    obtain ⟨so, xs, c, rfl, rfl, rfl, hc1, hc9, hcnt, hk⟩ := hrel
                    obtain ⟨d1, d2, d3, d4⟩ := cnt_bd hcnt hc1
                    by_cases hc8 : c ≤ 8
                    · have hst := cnt_step hcnt hc1
                      obtain ⟨hv, hhv⟩ : ∃ hv, holdsM K1.tab c n = hv := ⟨_, rfl⟩
                      have hvb := holds_bd K1.tab c n
                      rw [hhv] at hst hvb
                      have hq := holds_any hk c n
                      rw [show holdsM (KtM.mk K1.tab []).tab c n = hv from hhv] at hq
                      have HQ := Lib.hid hq
                      have HK := Lib.hid hk
                      have HST := Lib.hid hst
                      clear hcnt hst hhv hq hk
                      rcases hvb with rfl | rfl | rfl
                      all_goals
                        go_wp2_with fail
                        refine (HQ.out).mono ?_
                        rintro e w9 ⟨rfl, rfl⟩
                        go_wp2_with fail
                        refine (HQ.out).mono ?_
                        rintro e w9 ⟨rfl, rfl⟩
                        go_wp2_with fail
                        exact ⟨⟨_, _, c + 1, rfl, rfl, by simp, by omega, by omega, by have := HST.out; simpa using this, HK.out⟩, by simp only [RowKit.intOf]; omega⟩
                    · have e : c = 9 := by omega
                      have hend := cnt_end hcnt
                      have HK := Lib.hid (And.intro hend hk)
                      clear hcnt hk hend
                      have hc8' : (c ≤ 8) = False := eq_false hc8
                      clear hc8
                      go_wp2_with fail
                      go_meet
                      exact ⟨so, xs, rfl, rfl, HK.out.1, HK.out.2⟩
                case rest =>
                  clear HCS HK
                  obtain ⟨so, xs, rfl, rfl, hxs, hk⟩ := hcut
                  have HK := Lib.hid hk
                  clear hk
                  rcases hxs with rfl | ⟨rfl, rfl⟩
                  all_goals
                    go_wp2_with fail
                    exact ⟨⟨n + 1, by omega, by simp, HK.out⟩, by simp only [RowKit.intOf]; omega⟩
              · obtain rfl : n = 8 := by omega
                have HK2 := Lib.hid (HK.out.weaken.drop1)
                clear HK hn8
                go_wp2_with fail
                exact ⟨⟨k + 1, K1.tab, by omega, by omega, by simp, HAK.out.1.take, HK2.out⟩, by simp only [RowKit.intOf]; omega⟩
    · have HK := Lib.hid hK.frame
      clear hok hK
      rcases Nat.lt_or_ge k len with h1 | h1
      · obtain rfl : k = 150 := by omega
        clear hlt
        go_wp2_with fail
        go_ret
        exact ⟨rfl, HK.out.below⟩
      · obtain rfl : k = len := by omega
        clear hlt h1
        go_wp2_with fail
        go_ret
        exact ⟨rfl, HK.out.below⟩
end Go.Proofs.Ythgfbnopbfiifaa
