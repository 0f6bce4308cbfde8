/- Rows of records: two rows in order merged in place. Conditions: none. -/
import Derived.Test.YtficgjklagnbjaaGreatSt4
namespace Go.Proofs.YtficgjklagnbjaaGreat
open Go Go.MapKept Go.RowKit Go.Proofs Go.Shelf Go.Sort St

attribute [local go_sem] Oper.semAt_some

/-- One on its way through a row. -/
structure MvAt (X C : List Rw) (x : Rw) (T R : List Rw) (j : Nat) : Prop where
  p : ∃ P Q, C = P ++ Q ∧ j = X.length + P.length ∧ R = X ++ (P ++ (x :: (Q ++ T)))
theorem MvAt.right {X C T R : List Rw} {x : Rw} {j : Nat} (h : MvAt X C x T R j) (hj : j < X.length + C.length) : ∃ z, R[j]? = some x ∧ R[j + 1]? = some z ∧ MvAt X C x T (swq R j (j + 1)) (j + 1) := by
  obtain ⟨P, Q, rfl, rfl, rfl⟩ := h
  cases Q with
  | nil => simp at hj
  | cons q Q =>
    have e1 : X ++ (P ++ (x :: ((q :: Q) ++ T))) = (X ++ P) ++ x :: (([] : List Rw) ++ q :: (Q ++ T)) := by simp
    have e2 : X.length + P.length = (X ++ P).length := by simp
    have e3 : (X ++ P).length + 1 = (X ++ P).length + 1 + ([] : List Rw).length := rfl
    rw [e1, e2]
    refine ⟨q, by simp, ?_, ?_⟩
    · rw [List.getElem?_append_right (by omega), show (X ++ P).length + 1 - (X ++ P).length = 1 by omega]; rfl
    · rw [e3, swq_at]
      exact ⟨P ++ [q], Q, by simp, by simp; omega, by simp⟩
theorem MvAt.left {X C T R : List Rw} {x : Rw} {j : Nat} (h : MvAt X C x T R (j + 1)) (hj : X.length ≤ j) : ∃ z, R[j + 1]? = some x ∧ R[j]? = some z ∧ MvAt X C x T (swq R (j + 1) j) j := by
  obtain ⟨P, Q, hC, hj2, rfl⟩ := h
  have hP : P ≠ [] := by intro e; subst e; simp at hj2; omega
  obtain ⟨P', z, rfl⟩ : ∃ P' z, P = P' ++ [z] := ⟨P.dropLast, P.getLast hP, (List.dropLast_concat_getLast hP).symm⟩
  have e0 : j = (X ++ P').length := by simp at hj2 ⊢; omega
  have e2 : X ++ ((P' ++ [z]) ++ (x :: (Q ++ T))) = (X ++ P') ++ z :: (([] : List Rw) ++ x :: (Q ++ T)) := by simp
  have e3 : (X ++ P').length + 1 = (X ++ P').length + 1 + ([] : List Rw).length := rfl
  rw [e2, e0]
  refine ⟨z, ?_, by simp, ?_⟩
  · rw [List.getElem?_append_right (by omega), show (X ++ P').length + 1 - (X ++ P').length = 1 by omega]; rfl
  · rw [e3, swq_back]
    exact ⟨P', z :: Q, by rw [hC]; simp, by simp, by simp⟩
/-- The middle of two. -/
theorem mid_at {i j k : Nat} (_ : k = (i + j) / 2) (hi : i + j ≤ 1000000) : wrap64 ((i : Int) + (j : Int)) = ((i + j : Nat) : Int) ∧ IntKind.i64.wrap ((i : Int) + (j : Int)) = ((i + j : Nat) : Int) ∧ IntKind.u64.wrap ((i + j : Nat) : Int) = ((i + j : Nat) : Int) ∧ IntKind.u64.wrap ((i : Int) + (j : Int)) = ((i + j : Nat) : Int) := by
  refine ⟨by rw [IntWalk.wrap64_in _ (by omega)]; omega, by rw [IntWalk.i64_in _ (by omega)]; omega, by rw [IntKind.wrap_u64]; omega, by rw [IntKind.wrap_u64]; omega⟩
theorem mid_k {i j k : Nat} (hh : k = (i + j) / 2) : ((i : Int) + (j : Int)) / 2 = (k : Int) := by omega
set_option maxRecDepth 100000 in
set_option maxHeartbeats 8000000 in
/-- One merged into a row behind it. -/
theorem sym_one {X B Y : List Rw} {x : Rw} {h G : Heaplet} {w : World} {g cap a m b N : Nat} (hv : RwSl (.slice (some ⟨g, 0, none⟩) N cap) (X ++ (x :: (B ++ Y))) h) (s : Sat w (h ++ G)) (ha : X.length = a) (hm : a + 1 = m) (hb : m + B.length = b) (hN : b + Y.length = N) (hl : N ≤ 100000) (hB : B.Pairwise (Le rk)) :
    Calls Tryz.prog 93 #[.slice (some ⟨g, 0, none⟩) N cap, .int .i64 (a : Int), .int .i64 (m : Int), .int .i64 (b : Int), rcF] w (SwRet g N cap G fun R' => ∃ C, R' = X ++ (C ++ Y) ∧ C.length = 1 + B.length ∧ Mg rk rs [x] B C) := by
  have HS := Lib.hid (And.intro hv s)
  have HH := Lib.hid (And.intro ha (And.intro hb hB))
  have hN9 : (N : Int) ≤ 100000 := by omega
  have hbN : b ≤ N := by omega
  have hmb : m ≤ b := by omega
  have hm6 : m ≤ 1000000 := by omega
  have a0 : (0 : Int) ≤ (a : Int) := by omega
  have a1 : (a : Int) < (N : Int) := by omega
  have e1 : 1 + a = m := by omega
  clear hv s ha hb hB hN
  obtain ⟨d1, d2⟩ := dif_at e1 hm6
  go_enter Tryz.func93, Tryz.ntmps93
  go_upto_block 0 with (fail)
  clear d1 d2 e1
  go_cut [10] (fun v10 wx => ∃ i : Nat, v10 = .int .i64 (i : Int) ∧ m ≤ i ∧ i ≤ b ∧ (∀ y ∈ B.take (i - m), rk y ≤ rk x - 1) ∧ (∀ y ∈ B.drop (i - m), rk x ≤ rk y) ∧ Sat wx (h ++ G))
  case first =>
    go_wp2_with fail
    go_loopw [10, 11] (fun v10 v11 wr => ∃ i j : Nat, v10 = .int .i64 (i : Int) ∧ v11 = .int .i64 (j : Int) ∧ m ≤ i ∧ i ≤ j ∧ j ≤ b ∧ (∀ y ∈ B.take (i - m), rk y ≤ rk x - 1) ∧ (∀ y ∈ B.drop (j - m), rk x ≤ rk y) ∧ Sat wr (h ++ G)) (fun v10 v11 _ => (RowKit.intOf v11).toNat - (RowKit.intOf v10).toNat)
    case atStart => exact ⟨m, b, rfl, rfl, Nat.le_refl _, hmb, Nat.le_refl _, (fun y hy => by rw [Nat.sub_self] at hy; simp at hy), (fun y hy => by rw [List.drop_eq_nil_of_le (by have := HH.out; omega)] at hy; cases hy), HS.out.2⟩
    case round =>
      obtain ⟨i, j, rfl, rfl, hmi, hij, hjb, hlo, hhi, hs⟩ := hrel
      by_cases hlt : i < j
      · have l1 : (i : Int) < (j : Int) := by omega
        obtain ⟨k, hk⟩ : ∃ k, k = (i + j) / 2 := ⟨_, rfl⟩
        have hij6 : i + j ≤ 1000000 := by omega
        have hki : i ≤ k ∧ k < j := by omega
        obtain ⟨ha, hb, hB⟩ := HH.out
        obtain ⟨y, hy⟩ : ∃ y, B[k - m]? = some y := ⟨_, List.getElem?_eq_getElem (by omega)⟩
        have hxR : (X ++ (x :: (B ++ Y)))[a]? = some x := by rw [← ha]; simp
        have hyR : (X ++ (x :: (B ++ Y)))[k]? = some y := by
          rw [List.getElem?_append_right (by omega), show k - X.length = (k - m) + 1 by omega, List.getElem?_cons_succ, List.getElem?_append_left (List.getElem?_eq_some_iff.1 hy).1]
          exact hy
        have hcell : ∀ W, Sat W (h ++ G) → W.cell? ⟨g, k * 3, none⟩ = some (kI y.1) ∧ W.cell? ⟨g, k * 3 + 1, none⟩ = some (kI y.2.1) ∧ W.cell? ⟨g, k * 3 + 2, none⟩ = some (kS y.2.2) ∧ W.cell? ⟨g, a * 3, none⟩ = some (kI x.1) ∧ W.cell? ⟨g, a * 3 + 1, none⟩ = some (kI x.2.1) ∧ W.cell? ⟨g, a * 3 + 2, none⟩ = some (kS x.2.2) := fun W hW => by
          obtain ⟨_, y0, y1, y2⟩ := rw_old HS.out.1 hW hyR
          obtain ⟨_, x0, x1, x2⟩ := rw_old HS.out.1 hW hxR
          exact ⟨y0, y1, y2, x0, x1, x2⟩
        have HC := Lib.hid hcell
        have K1 := Lib.hid (hcell _ hs)
        have K2 := Lib.hid (hcell _ hs.drew)
        have HSD := Lib.hid hs.drew
        have HLO : Hid (rk y < rk x → ∀ z ∈ B.take (k + 1 - m), rk z ≤ rk x - 1) := Lib.hid (fun hlt => by
          rw [show k + 1 - m = (k - m) + 1 by omega]
          exact le_take hB hy (by omega))
        have HHI : Hid (rk x ≤ rk y → ∀ z ∈ B.drop (k - m), rk x ≤ rk z) := Lib.hid (fun hge => ge_drop hB hy hge)
        have HIJ := Lib.hid (And.intro hmi (And.intro hjb (And.intro hki (And.intro hlo hhi))))
        have p0 : (0 : Int) ≤ (k : Int) := by omega
        have p1 : (k : Int) < (N : Int) := by omega
        obtain ⟨k1, hk1⟩ : ∃ k1, k + 1 = k1 := ⟨_, rfl⟩
        have hk6 : k1 ≤ 1000000 := by omega
        clear ha hb hB hy hxR hyR hcell hs hmi hjb hki hlo hhi hij hlt
        obtain ⟨s1, s2, s3, s4⟩ := mid_at hk hij6
        go_upto_region 5 with (fail)
        clear s1 s2 s3 s4
        rw [mid_k hk]
        clear hk
        go_region_held3 (fun w' => w'.cell? ⟨g, k * 3, none⟩ = some (kI y.1) ∧ w'.cell? ⟨g, k * 3 + 1, none⟩ = some (kI y.2.1) ∧ w'.cell? ⟨g, k * 3 + 2, none⟩ = some (kS y.2.2) ∧ w'.cell? ⟨g, a * 3, none⟩ = some (kI x.1) ∧ w'.cell? ⟨g, a * 3 + 1, none⟩ = some (kI x.2.1) ∧ w'.cell? ⟨g, a * 3 + 2, none⟩ = some (kS x.2.2))
          (with_reducible first | exact K1.out | exact K2.out | exact K3.out)
          (first
            | (go_at_call 41
               refine (rcmp_any y x _).mono ?_
               rintro e w4 ⟨rfl, hb⟩
               have HS4 := Lib.hid (HSD.out.monoB hb)
               have K3 := Lib.hid (HC.out _ HS4.out)))
        all_goals
          clear K1 K2 K3 HC HSD hb
          by_cases hc : cmpI y.1 x.1 < 0
          · have FIN := Lib.hid (And.intro (HLO.out (cmpI_lt.1 hc)) HS4.out)
            clear HLO HHI HS4
            obtain ⟨s1, s2⟩ := inc_at hk1 hk6
            go_wp2_with fail
            clear s1 s2
            obtain ⟨r1, r2, r3, r4, r5⟩ := HIJ.out
            exact ⟨⟨k1, j, rfl, rfl, by omega, by omega, r2, by rw [← hk1]; exact FIN.out.1, r5, FIN.out.2⟩, by simp only [RowKit.intOf]; omega⟩
          · have FIN := Lib.hid (And.intro (HHI.out (by have h9 : ¬ rk y < rk x := fun h => hc (cmpI_lt.2 h); omega)) HS4.out)
            have HCF := Lib.hid hc
            clear HLO HHI HS4 hc
            go_wp2_with fail
            all_goals first
              | (exfalso; rename_i hh; exact absurd hh HCF.out)
              | (obtain ⟨r1, r2, r3, r4, r5⟩ := HIJ.out
                 exact ⟨⟨i, k, rfl, rfl, r1, by omega, by omega, r4, FIN.out.1, FIN.out.2⟩, by simp only [RowKit.intOf]; omega⟩)
      · obtain rfl : i = j := by omega
        have l1 : ((i : Int) < (i : Int)) = False := eq_false (by omega)
        have FIN := Lib.hid (And.intro hmi (And.intro hjb (And.intro hlo (And.intro hhi hs))))
        clear hmi hjb hlo hhi hs
        go_wp2_with fail
        go_meet
        exact ⟨i, rfl, FIN.out⟩
  case rest =>
    obtain ⟨i, rfl, hmi, hib, hlo, hhi, hs⟩ := hcut
    obtain ⟨ha, hb, hB⟩ := HH.out
    obtain ⟨B1, hB1⟩ : ∃ B1, B.take (i - m) = B1 := ⟨_, rfl⟩
    obtain ⟨B2, hB2⟩ : ∃ B2, B.drop (i - m) = B2 := ⟨_, rfl⟩
    have hBB : B = B1 ++ B2 := by rw [← hB1, ← hB2, List.take_append_drop]
    have hl1 : B1.length = i - m := by rw [← hB1, List.length_take]; omega
    rw [hB1] at hlo
    rw [hB2] at hhi
    have HMG : Hid (Mg rk rs [x] B (B1 ++ (x :: B2))) := Lib.hid (by
      rw [hBB]
      exact Mg.one (by rw [← hBB]; exact hB) (fun y hy => by have := hlo y hy; omega) hhi)
    have HCL : Hid ((B1 ++ (x :: B2)).length = 1 + B.length) := Lib.hid (by rw [hBB]; simp; omega)
    have HR0 : Hid (∃ R h, MvAt X B1 x (B2 ++ Y) R a ∧ R.length = N ∧ RwSl (.slice (some ⟨g, 0, none⟩) N cap) R h ∧ Sat wc (h ++ G)) := Lib.hid ⟨X ++ (x :: (B ++ Y)), h, ⟨[], B1, rfl, by simp [ha], by rw [hBB]; simp⟩, by
      obtain ⟨_, _, el⟩ := sl_form HS.out.1
      cases el
      rfl, HS.out.1, hs⟩
    obtain ⟨i1, hi1⟩ : ∃ i1, i1 + 1 = i := ⟨i - 1, by omega⟩
    have hii : i1 = X.length + B1.length := by omega
    have hi6 : i ≤ 1000000 := by omega
    have hiN : i1 < N := by omega
    have hai : a ≤ i1 := by omega
    clear hlo hhi hs hBB hB1 hB2 hl1 hB hb
    have HA := Lib.hid ha
    have HII := Lib.hid hii
    clear ha hii
    go_wp2_with fail
    go_loopw [13] (fun v13 wr => ∃ (k : Nat) (R : List Rw) (h : Heaplet), v13 = .int .i64 (k : Int) ∧ a ≤ k ∧ k ≤ i1 ∧ MvAt X B1 x (B2 ++ Y) R k ∧ R.length = N ∧ RwSl (.slice (some ⟨g, 0, none⟩) N cap) R h ∧ Sat wr (h ++ G)) (fun v13 _ => 200000 - (RowKit.intOf v13).toNat)
    case atStart =>
      obtain ⟨R, h, r1, r2, r3, r4⟩ := HR0.out
      exact ⟨a, R, h, rfl, Nat.le_refl _, hai, r1, r2, r3, r4⟩
    case round =>
      clear HR0
      obtain ⟨k, R, h, rfl, hak, hki, hmv, hRl, hv, hs⟩ := hrel
      by_cases hlt : k < i1
      · obtain ⟨z, hx, hz, hsw⟩ := hmv.right (by have := HII.out; omega)
        obtain ⟨k1, hk1⟩ : ∃ k1, k + 1 = k1 := ⟨_, rfl⟩
        rw [hk1] at hz hsw
        have l1 : (k : Int) < (i1 : Int) := by omega
        have k0 : (0 : Int) ≤ (k : Int) := by omega
        have k2 : (k : Int) < (N : Int) := by omega
        have k3 : (0 : Int) ≤ (k1 : Int) := by omega
        have k4 : (k1 : Int) < (N : Int) := by omega
        have k6 : k1 ≤ 1000000 := by omega
        obtain ⟨ff, x0, x1, x2⟩ := rw_old hv hs hx
        obtain ⟨_, y0, y1, y2⟩ := rw_old hv hs hz
        obtain ⟨z0, z1, z2, t0, t1, t2⟩ := rw_mid hv hs hx hz
        obtain ⟨h', hv', hs'⟩ := rw_swap hv hs hx hz
        have hs' := hs'.drew
        have FIN := Lib.hid (And.intro hsw (And.intro (show (swq R k k1).length = N by rw [swq_len]; exact hRl) (And.intro hv' hs')))
        have HKK := Lib.hid (show a ≤ k1 ∧ k1 ≤ i1 ∧ k < k1 ∧ k1 ≤ 100000 by omega)
        clear hmv hRl hv hs hx hz hsw hv' hs' hlt hki hak
        obtain ⟨s1, s2⟩ := inc_at hk1 k6
        obtain ⟨d1, d2⟩ := dec_at hi1 hi6
        go_upto_region 11 with (fail)
        go_region_law (fail)
        all_goals
          clear ff x0 x1 x2 y0 y1 y2 t0 t1 t2
          go_wp2_with fail
          clear s1 s2 d1 d2
          exact ⟨⟨k1, swq R k k1, h', rfl, HKK.out.1, HKK.out.2.1, FIN.out.1, FIN.out.2.1, FIN.out.2.2.1, FIN.out.2.2.2⟩, by have := HKK.out; simp only [RowKit.intOf]; omega⟩
      · have l1 : ((k : Int) < (i1 : Int)) = False := eq_false (by omega)
        obtain ⟨P, Q, e1, e2, e3⟩ := hmv
        have hQ : Q = [] := List.eq_nil_of_length_eq_zero (by have hii := HII.out; rw [e1, List.length_append] at hii; omega)
        rw [hQ, List.append_nil] at e1
        have hR : R = X ++ ((B1 ++ (x :: B2)) ++ Y) := by rw [e3, hQ, e1]; simp
        have FIN := Lib.hid (And.intro hR (And.intro hv hs))
        clear hR e1 e2 e3 hQ hv hs hRl hlt hki hak
        obtain ⟨d1, d2⟩ := dec_at hi1 hi6
        go_wp2_with fail
        refine bodyPost_ret (results_none rfl _ _ _) rfl ?_
        exact ⟨_, h, rfl, ⟨B1 ++ (x :: B2), FIN.out.1, HCL.out, HMG.out⟩, FIN.out.2.1, FIN.out.2.2⟩
end Go.Proofs.YtficgjklagnbjaaGreat
