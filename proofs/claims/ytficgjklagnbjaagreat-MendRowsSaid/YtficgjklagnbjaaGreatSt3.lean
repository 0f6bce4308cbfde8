/- Rows of records: a range swapped, blocks turned about, put in order by insertion. Conditions: none. -/
import Derived.Test.YtficgjklagnbjaaGreatSt2
namespace Go.Proofs.YtficgjklagnbjaaGreat
open Go Go.MapKept Go.RowKit Go.Proofs Go.Shelf Go.Sort St

attribute [local go_sem] Oper.semAt_some

theorem sum_at {a i p : Nat} (h : a + i = p) (hp : p ≤ 1000000) : wrap64 ((a : Int) + (i : Int)) = (p : Int) ∧ IntKind.i64.wrap ((a : Int) + (i : Int)) = (p : Int) :=
  ⟨by rw [IntWalk.wrap64_in _ (by omega)]; omega, by rw [IntWalk.i64_in _ (by omega)]; omega⟩
theorem dif_at {a i p : Nat} (h : p + i = a) (hp : a ≤ 1000000) : wrap64 ((a : Int) - (i : Int)) = (p : Int) ∧ IntKind.i64.wrap ((a : Int) - (i : Int)) = (p : Int) :=
  ⟨by rw [IntWalk.wrap64_in _ (by omega)]; omega, by rw [IntWalk.i64_in _ (by omega)]; omega⟩
set_option maxRecDepth 100000 in
set_option maxHeartbeats 4000000 in
theorem swr_any {R : List Rw} {h G : Heaplet} {w : World} {g cap a b n : Nat} (f : Value) (hv : RwSl (.slice (some ⟨g, 0, none⟩) R.length cap) R h) (s : Sat w (h ++ G)) (ha : a + n ≤ R.length) (hb : b + n ≤ R.length) (hl : R.length ≤ 100000) :
    Calls Tryz.prog 119 #[.slice (some ⟨g, 0, none⟩) R.length cap, .int .i64 (a : Int), .int .i64 (b : Int), .int .i64 (n : Int), f] w (SwRet g R.length cap G fun R' => R' = swR R a b n) := by
  obtain ⟨N, hN⟩ : ∃ N, R.length = N := ⟨_, rfl⟩
  rw [hN] at hv ha hb hl ⊢
  have HS := Lib.hid (And.intro hv s)
  have HN := Lib.hid hN
  have hN9 : (N : Int) ≤ 100000 := by omega
  clear hv s hN
  go_enter Tryz.func119, Tryz.ntmps119
  go_wp2_with fail
  go_loopw [10] (fun v10 wr => ∃ (i : Nat) (h : Heaplet), i ≤ n ∧ v10 = .int .i64 i ∧ RwSl (.slice (some ⟨g, 0, none⟩) N cap) (swR R a b i) h ∧ Sat wr (h ++ G)) (fun v10 _ => 200000 - (RowKit.intOf v10).toNat)
  case atStart => exact ⟨0, h, by omega, rfl, HS.out.1, HS.out.2⟩
  case round =>
    clear HS
    obtain ⟨i, h, hi, rfl, hv, hs⟩ := hrel
    have i0 : (0 : Int) ≤ (i : Int) := by omega
    by_cases hil : i < n
    · have i1 : (i : Int) < (n : Int) := by omega
      obtain ⟨p, hp⟩ : ∃ p, a + i = p := ⟨_, rfl⟩
      obtain ⟨q, hq⟩ : ∃ q, b + i = q := ⟨_, rfl⟩
      have hpl : p < (swR R a b i).length := by rw [swR_len, HN.out]; omega
      have hql : q < (swR R a b i).length := by rw [swR_len, HN.out]; omega
      obtain ⟨x, hx⟩ : ∃ x, (swR R a b i)[p]? = some x := ⟨_, List.getElem?_eq_getElem hpl⟩
      obtain ⟨y, hy⟩ : ∃ y, (swR R a b i)[q]? = some y := ⟨_, List.getElem?_eq_getElem hql⟩
      have p0 : (0 : Int) ≤ (p : Int) := by omega
      have p1 : (p : Int) < (N : Int) := by omega
      have q0 : (0 : Int) ≤ (q : Int) := by omega
      have q1 : (q : Int) < (N : Int) := by omega
      have hp6 : p ≤ 1000000 := by omega
      have hq6 : q ≤ 1000000 := by omega
      obtain ⟨s1, s2⟩ := sum_at hp hp6
      obtain ⟨s3, s4⟩ := sum_at hq hq6
      obtain ⟨ff, x0, x1, x2⟩ := rw_old hv hs hx
      obtain ⟨_, y0, y1, y2⟩ := rw_old hv hs hy
      obtain ⟨z0, z1, z2, t0, t1, t2⟩ := rw_mid hv hs hx hy
      obtain ⟨h', hv', hs'⟩ := rw_swap hv hs hx hy
      have hs' := hs'.drew
      have e : swq (swR R a b i) p q = swR R a b (i + 1) := by rw [← hp, ← hq]; rfl
      rw [e] at hv'
      have FIN := Lib.hid (And.intro hv' hs')
      clear hv hs hx hy hv' hs' e hpl hql hp hq hp6 hq6
      go_upto_region 3 with (fail)
      go_region_law (fail)
      all_goals
        go_wp2_with fail
        exact ⟨⟨i + 1, h', by omega, by simp, FIN.out.1, FIN.out.2⟩, by simp only [RowKit.intOf]; omega⟩
    · obtain rfl : i = n := by omega
      have i1 : ((i : Int) < (i : Int)) = False := eq_false (by omega)
      have FIN := Lib.hid (And.intro hv hs)
      clear hv hs
      go_wp2_with fail
      refine bodyPost_end (results_none rfl _ _ _) rfl ?_
      exact ⟨_, h, rfl, rfl, FIN.out.1, FIN.out.2⟩
set_option maxRecDepth 100000 in
set_option maxHeartbeats 4000000 in
/-- Two blocks turned about. -/
theorem rot_any {X U V Y : List Rw} {h G : Heaplet} {w : World} {g cap a m b : Nat} (f : Value) (hv : RwSl (.slice (some ⟨g, 0, none⟩) (X ++ (U ++ (V ++ Y))).length cap) (X ++ (U ++ (V ++ Y))) h) (s : Sat w (h ++ G)) (ha : X.length = a) (hm : X.length + U.length = m) (hb : X.length + U.length + V.length = b) (hu : 0 < U.length) (hvl : 0 < V.length) (hl : (X ++ (U ++ (V ++ Y))).length ≤ 100000) :
    Calls Tryz.prog 99 #[.slice (some ⟨g, 0, none⟩) (X ++ (U ++ (V ++ Y))).length cap, .int .i64 (a : Int), .int .i64 (m : Int), .int .i64 (b : Int), f] w (SwRet g (X ++ (U ++ (V ++ Y))).length cap G fun R' => R' = X ++ (V ++ (U ++ Y))) := by
  obtain ⟨N, hN⟩ : ∃ N, (X ++ (U ++ (V ++ Y))).length = N := ⟨_, rfl⟩
  obtain ⟨i, hi⟩ : ∃ i, U.length = i := ⟨_, rfl⟩
  obtain ⟨j, hj⟩ : ∃ j, V.length = j := ⟨_, rfl⟩
  have hNN : X.length + (U.length + (V.length + Y.length)) = N := by rw [← hN]; simp
  rw [hN] at hv hl ⊢
  obtain ⟨T, hT⟩ : ∃ T, X ++ (V ++ (U ++ Y)) = T := ⟨_, rfl⟩
  rw [hT]
  have hb6 : b ≤ 1000000 := by omega
  have hm6 : m ≤ 1000000 := by omega
  have HST : Hid (∃ X' U' V' Y' h, X'.length + i = m ∧ U'.length = i ∧ V'.length = j ∧ X' ++ (V' ++ (U' ++ Y')) = T ∧ X'.length + (U'.length + (V'.length + Y'.length)) = N ∧ RwSl (.slice (some ⟨g, 0, none⟩) N cap) (X' ++ (U' ++ (V' ++ Y'))) h ∧ Sat w (h ++ G)) := Lib.hid ⟨X, U, V, Y, h, by omega, hi, hj, hT, hNN, hv, s⟩
  have hi0 : 0 < i := by omega
  have hj0 : 0 < j := by omega
  have hij : i + j ≤ 100000 := by omega
  have e1 : i + a = m := by omega
  have e2 : j + m = b := by omega
  clear hv s hN hT hNN hu hvl ha hm hb hi hj
  obtain ⟨d1, d2⟩ := dif_at e1 hm6
  obtain ⟨d3, d4⟩ := dif_at e2 hb6
  go_enter Tryz.func99, Tryz.ntmps99
  go_wp2_with fail
  clear d1 d2 d3 d4 e1 e2
  go_loopw [10, 11] (fun v10 v11 wr => ∃ (i j : Nat) (X' U' V' Y' : List Rw) (h : Heaplet), v10 = .int .i64 i ∧ v11 = .int .i64 j ∧ 0 < i ∧ 0 < j ∧ i + j ≤ 100000 ∧ X'.length + i = m ∧ U'.length = i ∧ V'.length = j ∧ X' ++ (V' ++ (U' ++ Y')) = T ∧ X'.length + (U'.length + (V'.length + Y'.length)) = N ∧ RwSl (.slice (some ⟨g, 0, none⟩) N cap) (X' ++ (U' ++ (V' ++ Y'))) h ∧ Sat wr (h ++ G)) (fun v10 v11 _ => (RowKit.intOf v10).toNat + (RowKit.intOf v11).toNat)
  case atStart =>
    obtain ⟨X', U', V', Y', h, q1, q2, q3, q4, q5, q6, q7⟩ := HST.out
    exact ⟨i, j, X', U', V', Y', h, rfl, rfl, hi0, hj0, hij, q1, q2, q3, q4, q5, q6, q7⟩
  case round =>
    clear HST hi0 hj0 hij
    obtain ⟨i, j, X', U', V', Y', h, rfl, rfl, hi0, hj0, hij, q1, q2, q3, q4, q5, q6, q7⟩ := hrel
    have HV := Lib.hid q6
    have HS := Lib.hid q7
    have HT := Lib.hid q4
    clear q4 q6 q7
    rcases Nat.lt_trichotomy i j with hlt | heq | hgt
    · have hne : (i : Int) ≠ (j : Int) := by omega
      have hb1 : ((i : Int) != (j : Int)) = true := by rw [bne_iff_ne]; exact hne
      have hb2 : ((j : Int) < (i : Int)) = False := eq_false (by omega)
      obtain ⟨V1, V2, rfl, hv1, hv2⟩ : ∃ V1 V2, V' = V1 ++ V2 ∧ V1.length = j - i ∧ V2.length = i := ⟨V'.take (j - i), V'.drop (j - i), (List.take_append_drop _ _).symm, by rw [List.length_take]; omega, by rw [List.length_drop]; omega⟩
      obtain ⟨xa, hxa⟩ : ∃ xa, X'.length = xa := ⟨_, rfl⟩
      obtain ⟨mb, hmb⟩ : ∃ mb, xa + i + (j - i) = mb := ⟨_, rfl⟩
      obtain ⟨mj, hmj⟩ : ∃ mj, m + j = mj := ⟨_, rfl⟩
      obtain ⟨ji, hji⟩ : ∃ ji, ji + i = j := ⟨j - i, by omega⟩
      rw [List.length_append] at q5
      have e1 : i + xa = m := by omega
      have e1' : xa + i = m := by omega
      have e2 : mb + i = mj := by omega
      have hmj6 : mj ≤ 1000000 := by omega
      have hj6 : j ≤ 1000000 := by omega
      have hR : X' ++ (U' ++ ((V1 ++ V2) ++ Y')) = X' ++ (U' ++ (V1 ++ (V2 ++ Y'))) := by simp
      have hRl : (X' ++ (U' ++ (V1 ++ (V2 ++ Y')))).length = N := by simp; omega
      have hsw := swr_any (a := xa) (b := mb) (n := i) f (show RwSl (.slice (some ⟨g, 0, none⟩) (X' ++ (U' ++ (V1 ++ (V2 ++ Y')))).length cap) _ h by rw [hRl, ← hR]; exact HV.out) HS.out (by rw [hRl]; omega) (by rw [hRl]; omega) (by omega)
      rw [hRl] at hsw
      have HSW := Lib.hid hsw
      have hbl := swR_blocks U' V2 X' V1 Y' (by omega)
      rw [q2, hv1, hxa, hmb] at hbl
      have HBL := Lib.hid hbl
      have HL := Lib.hid (And.intro hv1 (And.intro hv2 (And.intro q1 (And.intro q2 (And.intro q5 hxa)))))
      have hjip : 0 < ji := by omega
      have hji2 : i + ji ≤ 100000 := by omega
      have hmeas : i + ji < i + j := by omega
      clear hR hRl hsw hbl hv1 hv2 q1 q2 q3 q5 hxa hmb
      obtain ⟨d1, d2⟩ := dif_at e1' hm6
      obtain ⟨d3, d4⟩ := sum_at hmj hmj6
      obtain ⟨d5, d6⟩ := dif_at e2 hmj6
      obtain ⟨d7, d8⟩ := dif_at hji hj6
      go_wp2_with (go_at_call 119; refine (HSW.out).mono ?_; rintro e w4 ⟨R', h', rfl, rfl, hv', hs'⟩; have FIN := Lib.hid (And.intro hv' hs'); clear hv' hs')
      have FI2 : Hid (X'.length + i = m ∧ V2.length = i ∧ V1.length = ji ∧ X' ++ (V1 ++ (V2 ++ (U' ++ Y'))) = T ∧ X'.length + (V2.length + (V1.length + (U' ++ Y').length)) = N) := Lib.hid (by
        obtain ⟨l1, l2, l3, l4, l5, l6⟩ := HL.out
        clear d1 d2 d3 d4 d5 d6 d7 d8
        refine ⟨l3, l2, by omega, ?_, by rw [List.length_append]; omega⟩
        rw [← HT.out]; simp)
      have FI3 := Lib.hid (And.intro hi0 (And.intro hjip (And.intro hji2 hmeas)))
      have FI4 := Lib.hid (And.intro (HBL.out ▸ FIN.out.1) FIN.out.2)
      clear d1 d2 d3 d4 d5 d6 d7 d8
      exact ⟨⟨i, ji, X', V2, V1, U' ++ Y', h', rfl, rfl, FI3.out.1, FI3.out.2.1, FI3.out.2.2.1, FI2.out.1, FI2.out.2.1, FI2.out.2.2.1, FI2.out.2.2.2.1, FI2.out.2.2.2.2, FI4.out.1, FI4.out.2⟩, by have := FI3.out.2.2.2; simp only [RowKit.intOf]; omega⟩
    · obtain rfl := heq
      obtain ⟨xa, hxa⟩ : ∃ xa, X'.length = xa := ⟨_, rfl⟩
      have e1 : xa + i = m := by omega
      have hRl : (X' ++ (U' ++ (([] : List Rw) ++ (V' ++ Y')))).length = N := by simp; omega
      have hsw := swr_any (a := xa) (b := m) (n := i) f (show RwSl (.slice (some ⟨g, 0, none⟩) (X' ++ (U' ++ (([] : List Rw) ++ (V' ++ Y')))).length cap) _ h by rw [hRl]; exact HV.out) HS.out (by rw [hRl]; omega) (by rw [hRl]; omega) (by omega)
      rw [hRl] at hsw
      have HSW := Lib.hid hsw
      have hbl := swR_blocks U' V' X' [] Y' (by omega)
      rw [q2, hxa, List.length_nil, Nat.add_zero, e1] at hbl
      have HBL : Hid (swR (X' ++ (U' ++ (([] : List Rw) ++ (V' ++ Y')))) xa m i = T) := Lib.hid (hbl.trans HT.out)
      have hb1 : ((i : Int) != (i : Int)) = false := by simp
      clear hRl hsw hbl q1 q2 q3 q5 hxa HT
      obtain ⟨d1, d2⟩ := dif_at e1 hm6
      go_wp2_with (go_at_call 119; refine (HSW.out).mono ?_; rintro e w4 ⟨R', h', rfl, rfl, hv', hs'⟩; have FIN := Lib.hid (And.intro hv' hs'); clear hv' hs')
      refine bodyPost_end (results_none rfl _ _ _) rfl ?_
      exact ⟨_, h', rfl, HBL.out, FIN.out.1, FIN.out.2⟩
    · have hne : (i : Int) ≠ (j : Int) := by omega
      have hb1 : ((i : Int) != (j : Int)) = true := by rw [bne_iff_ne]; exact hne
      have hb2 : (j : Int) < (i : Int) := by omega
      obtain ⟨U1, U2, rfl, hv1, hv2⟩ : ∃ U1 U2, U' = U1 ++ U2 ∧ U1.length = j ∧ U2.length = i - j := ⟨U'.take j, U'.drop j, (List.take_append_drop _ _).symm, by rw [List.length_take]; omega, by rw [List.length_drop]; omega⟩
      obtain ⟨xa, hxa⟩ : ∃ xa, X'.length = xa := ⟨_, rfl⟩
      obtain ⟨ij, hji⟩ : ∃ ij, ij + j = i := ⟨i - j, by omega⟩
      rw [List.length_append] at q5
      have e1' : xa + i = m := by omega
      have e3 : xa + j + ij = m := by omega
      have hi6 : i ≤ 1000000 := by omega
      have hR : X' ++ ((U1 ++ U2) ++ (V' ++ Y')) = X' ++ (U1 ++ (U2 ++ (V' ++ Y'))) := by simp
      have hRl : (X' ++ (U1 ++ (U2 ++ (V' ++ Y')))).length = N := by simp; omega
      have hsw := swr_any (a := xa) (b := m) (n := j) f (show RwSl (.slice (some ⟨g, 0, none⟩) (X' ++ (U1 ++ (U2 ++ (V' ++ Y')))).length cap) _ h by rw [hRl, ← hR]; exact HV.out) HS.out (by rw [hRl]; omega) (by rw [hRl]; omega) (by omega)
      rw [hRl] at hsw
      have HSW := Lib.hid hsw
      have hbl := swR_blocks U1 V' X' U2 Y' (by omega)
      rw [hv1, show U2.length = ij by omega, hxa, e3] at hbl
      have HBL := Lib.hid hbl
      have HL := Lib.hid (And.intro hv1 (And.intro (show U2.length = ij by omega) (And.intro q1 (And.intro q3 (And.intro q5 hxa)))))
      have hjip : 0 < ij := by omega
      have hji2 : ij + j ≤ 100000 := by omega
      have hmeas : ij + j < i + j := by omega
      clear hR hRl hsw hbl hv1 hv2 q1 q2 q3 q5 hxa
      obtain ⟨d1, d2⟩ := dif_at e1' hm6
      obtain ⟨d7, d8⟩ := dif_at hji hi6
      go_wp2_with (go_at_call 119; refine (HSW.out).mono ?_; rintro e w4 ⟨R', h', rfl, rfl, hv', hs'⟩; have FIN := Lib.hid (And.intro hv' hs'); clear hv' hs')
      have FI2 : Hid ((X' ++ V').length + ij = m ∧ U2.length = ij ∧ U1.length = j ∧ (X' ++ V') ++ (U1 ++ (U2 ++ Y')) = T ∧ (X' ++ V').length + (U2.length + (U1.length + Y'.length)) = N) := Lib.hid (by
        obtain ⟨l1, l2, l3, l4, l5, l6⟩ := HL.out
        clear d1 d2 d7 d8
        refine ⟨by rw [List.length_append]; omega, l2, l1, ?_, by rw [List.length_append]; omega⟩
        rw [← HT.out]; simp)
      have FI3 := Lib.hid (And.intro hj0 (And.intro hjip (And.intro hji2 hmeas)))
      have FI4 : Hid (RwSl (.slice (some ⟨g, 0, none⟩) N cap) ((X' ++ V') ++ (U2 ++ (U1 ++ Y'))) h' ∧ Sat w4 (h' ++ G)) := Lib.hid (And.intro (by rw [List.append_assoc, ← HBL.out]; exact FIN.out.1) FIN.out.2)
      clear d1 d2 d7 d8
      exact ⟨⟨ij, j, X' ++ V', U2, U1, Y', h', rfl, rfl, FI3.out.2.1, FI3.out.1, FI3.out.2.2.1, FI2.out.1, FI2.out.2.1, FI2.out.2.2.1, FI2.out.2.2.2.1, FI2.out.2.2.2.2, FI4.out.1, FI4.out.2⟩, by have := FI3.out.2.2.2; simp only [RowKit.intOf]; omega⟩
end Go.Proofs.YtficgjklagnbjaaGreat
