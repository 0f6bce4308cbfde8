/- Rows of records: a row in order, and one behind it, merged in place. Conditions: none. -/
import Derived.Test.YtficgjklagnbjaaGreatSt5
namespace Go.Proofs.YtficgjklagnbjaaGreat
open Go Go.MapKept Go.RowKit Go.Proofs Go.Shelf Go.Sort St

attribute [local go_sem] Oper.semAt_some

set_option maxRecDepth 100000 in
set_option maxHeartbeats 8000000 in
/-- One merged into a row ahead of it. -/
theorem sym_last {X A Y : List Rw} {y : Rw} {h G : Heaplet} {w : World} {g cap a m b N : Nat} (hv : RwSl (.slice (some ⟨g, 0, none⟩) N cap) (X ++ (A ++ (y :: Y))) h) (s : Sat w (h ++ G)) (ha : X.length = a) (hm : a + A.length = m) (hb : m + 1 = b) (hN : b + Y.length = N) (hl : N ≤ 100000) (hA : A.Pairwise (Le rk)) (hA2 : 2 ≤ A.length) :
    Calls Tryz.prog 93 #[.slice (some ⟨g, 0, none⟩) N cap, .int .i64 (a : Int), .int .i64 (m : Int), .int .i64 (b : Int), rcF] w (SwRet g N cap G fun R' => ∃ C, R' = X ++ (C ++ Y) ∧ C.length = A.length + 1 ∧ Mg rk rs A [y] C) := by
  have HS := Lib.hid (And.intro hv s)
  have HH := Lib.hid (And.intro ha (And.intro hm hA))
  have hN9 : (N : Int) ≤ 100000 := by omega
  have hmN : m < N := by omega
  have ham : a ≤ m := by omega
  have hm6 : m ≤ 1000000 := by omega
  have hb6 : b ≤ 1000000 := by omega
  have a0 : (0 : Int) ≤ (m : Int) := by omega
  have a1 : (m : Int) < (N : Int) := by omega
  obtain ⟨n1, hn1⟩ : ∃ n1, A.length = n1 := ⟨_, rfl⟩
  have e1 : n1 + a = m := by omega
  have e2 : 1 + m = b := by omega
  have n2 : ((n1 : Int) == 1) = false := by rw [beq_eq_false_iff_ne]; omega
  have n3 : ((n1 : Int) = 1) = False := eq_false (by omega)
  have n4 : (n1 = 1) = False := eq_false (by omega)
  have HN1 := Lib.hid hn1
  clear hv s ha hm hA hN hA2 hn1 hb
  obtain ⟨d1, d2⟩ := dif_at e1 hm6
  obtain ⟨d3, d4⟩ := dif_at e2 hb6
  go_enter Tryz.func93, Tryz.ntmps93
  go_upto_block 4 with (fail)
  clear d1 d2 d3 d4 e1 e2 n2 n3 n4
  go_cut [14] (fun v14 wx => ∃ i : Nat, v14 = .int .i64 (i : Int) ∧ a ≤ i ∧ i ≤ m ∧ (∀ z ∈ A.take (i - a), rk z ≤ rk y) ∧ (∀ z ∈ A.drop (i - a), rk y + 1 ≤ rk z) ∧ Sat wx (h ++ G))
  case first =>
    go_wp2_with fail
    go_loopw [14, 15] (fun v14 v15 wr => ∃ i j : Nat, v14 = .int .i64 (i : Int) ∧ v15 = .int .i64 (j : Int) ∧ a ≤ i ∧ i ≤ j ∧ j ≤ m ∧ (∀ z ∈ A.take (i - a), rk z ≤ rk y) ∧ (∀ z ∈ A.drop (j - a), rk y + 1 ≤ rk z) ∧ Sat wr (h ++ G)) (fun v14 v15 _ => (RowKit.intOf v15).toNat - (RowKit.intOf v14).toNat)
    case atStart => exact ⟨a, m, rfl, rfl, Nat.le_refl _, ham, Nat.le_refl _, (fun y hy => by rw [Nat.sub_self] at hy; simp at hy), (fun y hy => by rw [List.drop_eq_nil_of_le (by have := HH.out; omega)] at hy; cases hy), HS.out.2⟩
    case round =>
      obtain ⟨i, j, rfl, rfl, hmi, hij, hjb, hlo, hhi, hs⟩ := hrel
      by_cases hlt : i < j
      · have l1 : (i : Int) < (j : Int) := by omega
        obtain ⟨k, hk⟩ : ∃ k, k = (i + j) / 2 := ⟨_, rfl⟩
        have hij6 : i + j ≤ 1000000 := by omega
        have hki : i ≤ k ∧ k < j := by omega
        obtain ⟨ha, hb, hA⟩ := HH.out
        obtain ⟨z, hz⟩ : ∃ z, A[k - a]? = some z := ⟨_, List.getElem?_eq_getElem (by omega)⟩
        have hyR : (X ++ (A ++ (y :: Y)))[m]? = some y := by
          rw [List.getElem?_append_right (by omega), List.getElem?_append_right (by omega), show m - X.length - A.length = 0 by omega]; rfl
        have hzR : (X ++ (A ++ (y :: Y)))[k]? = some z := by
          rw [List.getElem?_append_right (by omega), List.getElem?_append_left (by omega), ha]
          exact hz
        have hcell : ∀ W, Sat W (h ++ G) → W.cell? ⟨g, m * 3, none⟩ = some (kI y.1) ∧ W.cell? ⟨g, m * 3 + 1, none⟩ = some (kI y.2.1) ∧ W.cell? ⟨g, m * 3 + 2, none⟩ = some (kS y.2.2) ∧ W.cell? ⟨g, k * 3, none⟩ = some (kI z.1) ∧ W.cell? ⟨g, k * 3 + 1, none⟩ = some (kI z.2.1) ∧ W.cell? ⟨g, k * 3 + 2, none⟩ = some (kS z.2.2) := fun W hW => by
          obtain ⟨_, y0, y1, y2⟩ := rw_old HS.out.1 hW hyR
          obtain ⟨_, x0, x1, x2⟩ := rw_old HS.out.1 hW hzR
          exact ⟨y0, y1, y2, x0, x1, x2⟩
        have HC := Lib.hid hcell
        have K1 := Lib.hid (hcell _ hs)
        have K2 := Lib.hid (hcell _ hs.drew)
        have HSD := Lib.hid hs.drew
        have HLO : Hid (rk z ≤ rk y → ∀ u ∈ A.take (k + 1 - a), rk u ≤ rk y) := Lib.hid (fun hlt => by
          rw [show k + 1 - a = (k - a) + 1 by omega]
          exact le_take hA hz hlt)
        have HHI : Hid (rk y < rk z → ∀ u ∈ A.drop (k - a), rk y + 1 ≤ rk u) := Lib.hid (fun hge => ge_drop hA hz (by omega))
        have HIJ := Lib.hid (And.intro hmi (And.intro hjb (And.intro hki (And.intro hlo hhi))))
        have p0 : (0 : Int) ≤ (k : Int) := by omega
        have p1 : (k : Int) < (N : Int) := by omega
        obtain ⟨k1, hk1⟩ : ∃ k1, k + 1 = k1 := ⟨_, rfl⟩
        have hk6 : k1 ≤ 1000000 := by omega
        clear ha hb hA hz hyR hzR hcell hs hmi hjb hki hlo hhi hij hlt
        obtain ⟨s1, s2, s3, s4⟩ := mid_at hk hij6
        go_upto_region 17 with (fail)
        clear s1 s2 s3 s4
        rw [mid_k hk]
        clear hk
        go_region_held3 (fun w' => w'.cell? ⟨g, m * 3, none⟩ = some (kI y.1) ∧ w'.cell? ⟨g, m * 3 + 1, none⟩ = some (kI y.2.1) ∧ w'.cell? ⟨g, m * 3 + 2, none⟩ = some (kS y.2.2) ∧ w'.cell? ⟨g, k * 3, none⟩ = some (kI z.1) ∧ w'.cell? ⟨g, k * 3 + 1, none⟩ = some (kI z.2.1) ∧ w'.cell? ⟨g, k * 3 + 2, none⟩ = some (kS z.2.2))
          (with_reducible first | exact K1.out | exact K2.out | exact K3.out)
          (first
            | (go_at_call 41
               refine (rcmp_any y z _).mono ?_
               rintro e w4 ⟨rfl, hb⟩
               have HS4 := Lib.hid (HSD.out.monoB hb)
               have K3 := Lib.hid (HC.out _ HS4.out)))
        all_goals
          clear K1 K2 K3 HC HSD hb
          by_cases hc : cmpI y.1 z.1 < 0
          · have FIN := Lib.hid (And.intro (HHI.out (cmpI_lt.1 hc)) HS4.out)
            have HCF := Lib.hid hc
            clear HLO HHI HS4 hc
            go_wp2_with fail
            all_goals first
              | (exfalso; rename_i hh; rw [decide_eq_true HCF.out] at hh; exact absurd hh (by decide))
              | (obtain ⟨r1, r2, r3, r4, r5⟩ := HIJ.out
                 exact ⟨⟨i, k, rfl, rfl, r1, by omega, by omega, r4, FIN.out.1, FIN.out.2⟩, by simp only [RowKit.intOf]; omega⟩)
          · have FIN := Lib.hid (And.intro (HLO.out (by have h9 : ¬ rk y < rk z := fun h => hc (cmpI_lt.2 h); omega)) HS4.out)
            have HCF := Lib.hid hc
            clear HLO HHI HS4 hc
            obtain ⟨s1, s2⟩ := inc_at hk1 hk6
            go_wp2_with fail
            all_goals clear s1 s2
            all_goals first
              | (exfalso; rename_i hh; rw [decide_eq_false HCF.out] at hh; exact absurd hh (by decide))
              | (obtain ⟨r1, r2, r3, r4, r5⟩ := HIJ.out
                 exact ⟨⟨k1, j, rfl, rfl, by omega, by omega, r2, by rw [← hk1]; exact FIN.out.1, r5, FIN.out.2⟩, by simp only [RowKit.intOf]; omega⟩)
      · obtain rfl : i = j := by omega
        have l1 : ((i : Int) < (i : Int)) = False := eq_false (by omega)
        have FIN := Lib.hid (And.intro hmi (And.intro hjb (And.intro hlo (And.intro hhi hs))))
        clear hmi hjb hlo hhi hs
        go_wp2_with fail
        go_meet
        exact ⟨i, rfl, FIN.out⟩
  case rest =>
    obtain ⟨i, rfl, hai, him, hlo, hhi, hs⟩ := hcut
    obtain ⟨ha, hm, hA⟩ := HH.out
    have HMG : Hid (∀ P Q, A = P ++ Q → P.length = i - a → Mg rk rs A [y] (P ++ (y :: Q))) := Lib.hid (fun P Q e hp => by
      have e1 : A.take (i - a) = P := by rw [e, ← hp, List.take_left]
      have e2 : A.drop (i - a) = Q := by rw [e, ← hp, List.drop_left]
      rw [e1] at hlo
      rw [e2] at hhi
      have := Mg.last (k := rk) (s := rs) (A1 := P) (A2 := Q) (y := y) (by rw [← e]; exact hA) hlo (fun u hu => by have := hhi u hu; omega)
      rw [← e] at this
      exact this)
    have HR0 : Hid (∃ R h, MvAt X A y Y R m ∧ R.length = N ∧ RwSl (.slice (some ⟨g, 0, none⟩) N cap) R h ∧ Sat wc (h ++ G)) := Lib.hid ⟨X ++ (A ++ (y :: Y)), h, ⟨A, [], by simp, by omega, rfl⟩, by
      obtain ⟨_, _, el⟩ := sl_form HS.out.1
      cases el
      rfl, HS.out.1, hs⟩
    have HA := Lib.hid (And.intro ha hm)
    clear hlo hhi hs ha hm hA HH
    go_wp2_with fail
    go_loopw [17] (fun v17 wr => ∃ (k : Nat) (R : List Rw) (h : Heaplet), v17 = .int .i64 (k : Int) ∧ i ≤ k ∧ k ≤ m ∧ MvAt X A y Y R k ∧ R.length = N ∧ RwSl (.slice (some ⟨g, 0, none⟩) N cap) R h ∧ Sat wr (h ++ G)) (fun v17 _ => (RowKit.intOf v17).toNat)
    case atStart =>
      obtain ⟨R, h, r1, r2, r3, r4⟩ := HR0.out
      exact ⟨m, R, h, rfl, him, Nat.le_refl _, r1, r2, r3, r4⟩
    case round =>
      clear HR0
      obtain ⟨k, R, h, rfl, hik, hkm, hmv, hRl, hv, hs⟩ := hrel
      by_cases hlt : i < k
      · obtain ⟨k1, hk1⟩ : ∃ k1, k1 + 1 = k := ⟨k - 1, by omega⟩
        rw [← hk1] at hmv
        obtain ⟨z, hx, hz, hsw⟩ := hmv.left (by have := HA.out; omega)
        rw [hk1] at hx hsw
        have l1 : (i : Int) < (k : Int) := by omega
        have k0 : (0 : Int) ≤ (k : Int) := by omega
        have k2 : (k : Int) < (N : Int) := by omega
        have k3 : (0 : Int) ≤ (k1 : Int) := by omega
        have k4 : (k1 : Int) < (N : Int) := by omega
        have k6 : k ≤ 1000000 := by omega
        obtain ⟨ff, x0, x1, x2⟩ := rw_old hv hs hx
        obtain ⟨_, y0, y1, y2⟩ := rw_old hv hs hz
        obtain ⟨z0, z1, z2, t0, t1, t2⟩ := rw_mid hv hs hx hz
        obtain ⟨h', hv', hs'⟩ := rw_swap hv hs hx hz
        have hs' := hs'.drew
        have FIN := Lib.hid (And.intro hsw (And.intro (show (swq R k k1).length = N by rw [swq_len]; exact hRl) (And.intro hv' hs')))
        have HKK := Lib.hid (show i ≤ k1 ∧ k1 ≤ m ∧ k1 < k by omega)
        clear hmv hRl hv hs hx hz hsw hv' hs' hlt hkm hik
        obtain ⟨d1, d2⟩ := dec_at hk1 k6
        go_upto_region 23 with (fail)
        go_region_law (fail)
        all_goals
          clear ff x0 x1 x2 y0 y1 y2 t0 t1 t2
          go_wp2_with fail
          clear d1 d2
          exact ⟨⟨k1, swq R k k1, h', rfl, HKK.out.1, HKK.out.2.1, FIN.out.1, FIN.out.2.1, FIN.out.2.2.1, FIN.out.2.2.2⟩, by have := HKK.out; simp only [RowKit.intOf]; omega⟩
      · have l1 : ((i : Int) < (k : Int)) = False := eq_false (by omega)
        obtain ⟨P, Q, e1, e2, e3⟩ := hmv
        have hPl : P.length = i - a := by have := HA.out; omega
        have hR : R = X ++ ((P ++ (y :: Q)) ++ Y) := by rw [e3]; simp
        have hCl : (P ++ (y :: Q)).length = A.length + 1 := by rw [e1]; simp; omega
        have FIN := Lib.hid (And.intro hR (And.intro hv (And.intro hs (And.intro (HMG.out P Q e1 hPl) hCl))))
        clear hR e1 e2 e3 hv hs hRl hlt hkm hik hPl hCl HMG
        go_wp2_with fail
        refine bodyPost_ret (results_none rfl _ _ _) rfl ?_
        exact ⟨_, h, rfl, ⟨P ++ (y :: Q), FIN.out.1, FIN.out.2.2.2.2, FIN.out.2.2.2.1⟩, FIN.out.2.1, FIN.out.2.2.1⟩
end Go.Proofs.YtficgjklagnbjaaGreat
