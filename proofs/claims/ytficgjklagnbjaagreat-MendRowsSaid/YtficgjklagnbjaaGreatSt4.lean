/- Rows of records put in order by insertion. Conditions: none. -/
import Derived.Test.YtficgjklagnbjaaGreatSt3
namespace Go.Proofs.YtficgjklagnbjaaGreat
open Go Go.MapKept Go.RowKit Go.Proofs Go.Shelf Go.Sort St

attribute [local go_sem] Oper.semAt_some

abbrev rk (r : Rw) : Int := r.1
abbrev rs (r : Rw) : Int := r.2.1
abbrev rcF : Value := .func (.func 41) #[] #[]
theorem swq_back (X M Y : List Rw) (x z : Rw) : swq (X ++ z :: (M ++ x :: Y)) (X.length + 1 + M.length) X.length = X ++ x :: (M ++ z :: Y) := by
  have h1 : (X ++ z :: (M ++ x :: Y))[X.length]? = some z := by simp
  have h2 : (X ++ z :: (M ++ x :: Y))[X.length + 1 + M.length]? = some x := by
    rw [List.getElem?_append_right (by omega), show X.length + 1 + M.length - X.length = M.length + 1 by omega, List.getElem?_cons_succ, List.getElem?_append_right (Nat.le_refl _)]
    simp
  unfold swq
  rw [h1, h2]
  simp only
  rw [List.set_append_right _ _ (by omega), show X.length + 1 + M.length - X.length = M.length + 1 by omega, List.set_cons_succ, List.set_append_right _ _ (Nat.le_refl _), Nat.sub_self, List.set_cons_zero, List.set_append_right _ _ (Nat.le_refl _), Nat.sub_self, List.set_cons_zero]
/-- Where an insertion stands. -/
structure InsAt (X C : List Rw) (x : Rw) (T : List Rw) (R : List Rw) (j : Nat) : Prop where
  p : ∃ P Q, C = P ++ Q ∧ j = X.length + P.length ∧ R = X ++ (P ++ (x :: (Q ++ T))) ∧ ∀ z ∈ Q, rk x < rk z
theorem InsAt.start (X C : List Rw) (x : Rw) (T : List Rw) : InsAt X C x T (X ++ (C ++ (x :: T))) (X.length + C.length) := ⟨⟨C, [], by simp, rfl, rfl, fun z hz => by cases hz⟩⟩
/-- A step to the left: what stands there; what a change of places leaves; what an end leaves. -/
theorem InsAt.left {X C T R : List Rw} {x : Rw} {j : Nat} (h : InsAt X C x T R j) (hj : X.length < j) : ∃ z, R[j]? = some x ∧ R[j - 1]? = some z ∧ (rk x < rk z → InsAt X C x T (swq R j (j - 1)) (j - 1)) ∧ (C.Pairwise (Le rk) → ¬ rk x < rk z → ∃ P Q, C = P ++ Q ∧ R = X ++ (P ++ (x :: (Q ++ T))) ∧ (∀ y ∈ Q, rk x < rk y) ∧ ∀ y ∈ P, rk y ≤ rk x) := by
  obtain ⟨P, Q, hC, rfl, rfl, hQ⟩ := h
  have hP : P ≠ [] := by intro e; subst e; simp at hj
  obtain ⟨P', z, rfl⟩ : ∃ P' z, P = P' ++ [z] := ⟨P.dropLast, P.getLast hP, (List.dropLast_concat_getLast hP).symm⟩
  have e1 : X.length + (P' ++ [z]).length = (X ++ P').length + 1 + ([] : List Rw).length := by simp; omega
  have e2 : X ++ ((P' ++ [z]) ++ (x :: (Q ++ T))) = (X ++ P') ++ z :: (([] : List Rw) ++ x :: (Q ++ T)) := by simp
  have e3 : (X ++ P').length + 1 + ([] : List Rw).length - 1 = (X ++ P').length := by simp
  rw [e1, e2, e3]
  refine ⟨z, ?_, by simp, fun hlt => ?_, fun hs hlt => ?_⟩
  · rw [List.getElem?_append_right (by simp)]
    simp
  · rw [swq_back]
    refine ⟨P', z :: Q, by rw [hC]; simp, by simp, by simp, fun y hy => ?_⟩
    rcases List.mem_cons.1 hy with rfl | hy
    · exact hlt
    · exact hQ y hy
  · refine ⟨P' ++ [z], Q, hC, by simp, hQ, fun y hy => ?_⟩
    rw [hC, List.pairwise_append] at hs
    rcases List.mem_append.1 hy with hy | hy
    · have := (List.pairwise_append.1 hs.1).2.2 y hy z (by simp)
      omega
    · rw [List.mem_singleton.1 hy]; omega
theorem InsAt.stop {X C T R : List Rw} {x : Rw} {j : Nat} (h : InsAt X C x T R j) (hj : ¬ X.length < j) : ∃ P Q, C = P ++ Q ∧ R = X ++ (P ++ (x :: (Q ++ T))) ∧ (∀ y ∈ Q, rk x < rk y) ∧ ∀ y ∈ P, rk y ≤ rk x := by
  obtain ⟨P, Q, hC, rfl, rfl, hQ⟩ := h
  have hP : P = [] := List.eq_nil_of_length_eq_zero (by omega)
  subst hP
  exact ⟨[], Q, hC, rfl, hQ, fun y hy => by cases hy⟩
theorem InsAt.done {X A C T R : List Rw} {x : Rw} (hs : C.Pairwise (Le rk)) (hd : Sd rk rs A C) (h : ∃ P Q, C = P ++ Q ∧ R = X ++ (P ++ (x :: (Q ++ T))) ∧ (∀ y ∈ Q, rk x < rk y) ∧ ∀ y ∈ P, rk y ≤ rk x) : ∃ C', R = X ++ (C' ++ T) ∧ C'.length = C.length + 1 ∧ C'.Pairwise (Le rk) ∧ Sd rk rs (A ++ [x]) C' := by
  obtain ⟨P, Q, rfl, rfl, hQ, hP⟩ := h
  obtain ⟨h1, h2⟩ := hd.ins hs hP hQ
  exact ⟨P ++ (x :: Q), by simp, by simp; omega, h2, h1⟩
theorem inc_at {a p : Nat} (h : a + 1 = p) (hp : p ≤ 1000000) : wrap64 ((a : Int) + 1) = (p : Int) ∧ IntKind.i64.wrap ((a : Int) + 1) = (p : Int) :=
  ⟨by rw [IntWalk.wrap64_in _ (by omega)]; omega, by rw [IntWalk.i64_in _ (by omega)]; omega⟩
theorem dec_at {a p : Nat} (h : p + 1 = a) (hp : a ≤ 1000000) : wrap64 ((a : Int) - 1) = (p : Int) ∧ IntKind.i64.wrap ((a : Int) - 1) = (p : Int) :=
  ⟨by rw [IntWalk.wrap64_in _ (by omega)]; omega, by rw [IntWalk.i64_in _ (by omega)]; omega⟩
set_option maxRecDepth 100000 in
set_option maxHeartbeats 8000000 in
theorem ins_any {X A Y : List Rw} {h G : Heaplet} {w : World} {g cap a b : Nat} (hv : RwSl (.slice (some ⟨g, 0, none⟩) (X ++ (A ++ Y)).length cap) (X ++ (A ++ Y)) h) (s : Sat w (h ++ G)) (ha : X.length = a) (hb : X.length + A.length = b) (hl : (X ++ (A ++ Y)).length ≤ 100000) :
    Calls Tryz.prog 92 #[.slice (some ⟨g, 0, none⟩) (X ++ (A ++ Y)).length cap, .int .i64 (a : Int), .int .i64 (b : Int), rcF] w (SwRet g (X ++ (A ++ Y)).length cap G fun R' => ∃ C, R' = X ++ (C ++ Y) ∧ C.length = A.length ∧ C.Pairwise (Le rk) ∧ Sd rk rs A C) := by
  obtain ⟨N, hN⟩ : ∃ N, (X ++ (A ++ Y)).length = N := ⟨_, rfl⟩
  have hNN : a + (A.length + Y.length) = N := by rw [← hN, ← ha]; simp
  rw [hN] at hv hl ⊢
  have HST : Hid (∃ C h, C.length = min 1 A.length ∧ C.Pairwise (Le rk) ∧ Sd rk rs (A.take 1) C ∧ RwSl (.slice (some ⟨g, 0, none⟩) N cap) (X ++ (C ++ (A.drop 1 ++ Y))) h ∧ Sat w (h ++ G)) := Lib.hid ⟨A.take 1, h, by rw [List.length_take], by
      cases A with
      | nil => simp
      | cons z r => simp, Sd.refl _, by rw [← List.append_assoc (A.take 1), List.take_append_drop]; exact hv, s⟩
  have a6 : a + 1 ≤ 1000000 := by omega
  have hN9 : (N : Int) ≤ 100000 := by omega
  obtain ⟨a1, ha1⟩ : ∃ a1, a + 1 = a1 := ⟨_, rfl⟩
  have ha6 : a1 ≤ 1000000 := by omega
  clear hv s hN
  obtain ⟨s1, s2⟩ := inc_at ha1 ha6
  go_enter Tryz.func92, Tryz.ntmps92
  go_wp2_with fail
  clear s1 s2
  go_loopw [8] (fun v8 wr => ∃ (i : Nat) (C : List Rw) (h : Heaplet), v8 = .int .i64 (i : Int) ∧ a + 1 ≤ i ∧ i ≤ max b (a + 1) ∧ C.length = min (i - a) A.length ∧ C.Pairwise (Le rk) ∧ Sd rk rs (A.take (i - a)) C ∧ RwSl (.slice (some ⟨g, 0, none⟩) N cap) (X ++ (C ++ (A.drop (i - a) ++ Y))) h ∧ Sat wr (h ++ G)) (fun v8 _ => 200000 - (RowKit.intOf v8).toNat)
  case atStart =>
    obtain ⟨C, h, q1, q2, q3, q4, q5⟩ := HST.out
    have e : a1 - a = 1 := by omega
    exact ⟨a1, C, h, rfl, by omega, by omega, by rw [e]; exact q1, q2, by rw [e]; exact q3, by rw [e]; exact q4, q5⟩
  case round =>
    clear HST ha1 ha6
    obtain ⟨i, C, h, rfl, hi1, hi2, hCl, hCs, hCd, hv, hs⟩ := hrel
    by_cases hib : i < b
    · have i1 : (i : Int) < (b : Int) := by omega
      obtain ⟨m, hm⟩ : ∃ m, i - a = m := ⟨_, rfl⟩
      rw [hm] at hCl hCd hv
      obtain ⟨x, hx⟩ : ∃ x, A[m]? = some x := ⟨_, List.getElem?_eq_getElem (by omega)⟩
      have hdr : A.drop m = x :: A.drop (m + 1) := by
        have := List.getElem?_eq_some_iff.1 hx
        rw [List.drop_eq_getElem_cons this.1, this.2]
      have htk : A.take (m + 1) = A.take m ++ [x] := by rw [List.take_add_one, hx]; rfl
      rw [hdr] at hv
      obtain ⟨T, hT⟩ : ∃ T, A.drop (m + 1) ++ Y = T := ⟨_, rfl⟩
      have hv2 : RwSl (.slice (some ⟨g, 0, none⟩) N cap) (X ++ (C ++ (x :: T))) h := by rw [← hT]; exact hv
      have hTl : X.length + C.length + 1 + T.length = N := by rw [← hT, List.length_append, List.length_drop, hCl]; omega
      have HIN : Hid (∃ R h, InsAt X C x T R i ∧ R.length = N ∧ RwSl (.slice (some ⟨g, 0, none⟩) N cap) R h ∧ Sat wr (h ++ G)) := Lib.hid ⟨_, h, by
        have := InsAt.start X C x T
        rw [show X.length + C.length = i by omega] at this
        exact this, by simp; omega, hv2, hs⟩
      have HDN : Hid (∀ R, (∃ P Q, C = P ++ Q ∧ R = X ++ (P ++ (x :: (Q ++ T))) ∧ (∀ y ∈ Q, rk x < rk y) ∧ ∀ y ∈ P, rk y ≤ rk x) → ∃ C', R = X ++ (C' ++ (A.drop (i + 1 - a) ++ Y)) ∧ C'.length = min (i + 1 - a) A.length ∧ C'.Pairwise (Le rk) ∧ Sd rk rs (A.take (i + 1 - a)) C') := Lib.hid (fun R hR => by
        obtain ⟨C', r1, r2, r3, r4⟩ := InsAt.done hCs hCd hR
        rw [show i + 1 - a = m + 1 by omega, htk, hT]
        exact ⟨C', r1, by omega, r3, r4⟩)
      have HCS := Lib.hid hCs
      obtain ⟨i2, hi22⟩ : ∃ i2, i + 1 = i2 := ⟨_, rfl⟩
      have hi6 : i2 ≤ 1000000 := by omega
      have hi7 : i ≤ 100000 := by omega
      have hii : a + 1 ≤ i2 ∧ i2 ≤ max b (a + 1) := by omega
      have ha0 : X.length = a := ha
      clear hx hdr htk hv hv2 hs hCs hCd hCl hm hTl hT hi2
      go_wp2_with fail
      go_loopw [9] (fun v9 wr => ∃ (j : Nat) (R : List Rw) (h : Heaplet), v9 = .int .i64 (j : Int) ∧ j ≤ 100000 ∧ a ≤ j ∧ j < N ∧ InsAt X C x T R j ∧ R.length = N ∧ RwSl (.slice (some ⟨g, 0, none⟩) N cap) R h ∧ Sat wr (h ++ G)) (fun v9 _ => (RowKit.intOf v9).toNat)
      case atStart =>
        obtain ⟨R, h, r1, r2, r3, r4⟩ := HIN.out
        exact ⟨i, R, h, rfl, hi7, by omega, by omega, r1, r2, r3, r4⟩
      case round =>
        clear HIN
        obtain ⟨j, R, h, rfl, hj6, haj, hjN, hin, hRl, hv, hs⟩ := hrel
        by_cases hja : a < j
        · obtain ⟨z, hx, hz, hsw, hst⟩ := hin.left (by omega)
          obtain ⟨p, hp⟩ : ∃ p, p + 1 = j := ⟨j - 1, by omega⟩
          rw [show j - 1 = p by omega] at hz hsw
          have p0 : (0 : Int) ≤ (p : Int) := by omega
          have p1 : (p : Int) < (N : Int) := by omega
          have j0 : (0 : Int) ≤ (j : Int) := by omega
          have j1 : (j : Int) < (N : Int) := by omega
          have j2 : (a : Int) < (j : Int) := by omega
          have hcell : ∀ W, Sat W (h ++ G) → W.cell? ⟨g, j * 3, none⟩ = some (kI x.1) ∧ W.cell? ⟨g, j * 3 + 1, none⟩ = some (kI x.2.1) ∧ W.cell? ⟨g, j * 3 + 2, none⟩ = some (kS x.2.2) ∧ W.cell? ⟨g, p * 3, none⟩ = some (kI z.1) ∧ W.cell? ⟨g, p * 3 + 1, none⟩ = some (kI z.2.1) ∧ W.cell? ⟨g, p * 3 + 2, none⟩ = some (kS z.2.2) := fun W hW => by
            obtain ⟨_, x0, x1, x2⟩ := rw_old hv hW hx
            obtain ⟨_, y0, y1, y2⟩ := rw_old hv hW hz
            exact ⟨x0, x1, x2, y0, y1, y2⟩
          have HC := Lib.hid hcell
          have K1 := Lib.hid (hcell _ hs)
          have K2 := Lib.hid (hcell _ hs.drew)
          have HSD := Lib.hid hs.drew
          have HQ := Lib.hid (And.intro hv (And.intro hx (And.intro hz (And.intro hsw (And.intro hst hRl)))))
          have hpm : p ≤ 100000 ∧ a ≤ p ∧ p < N ∧ p < j := by omega
          have HPM := Lib.hid hpm
          have hj66 : j ≤ 1000000 := by omega
          clear hin hv hs hx hz hsw hst hcell haj hjN hj6 hja hpm hRl
          obtain ⟨d1, d2⟩ := dec_at hp hj66
          go_upto_region 4 with (fail)
          go_region_held3 (fun w' => w'.cell? ⟨g, j * 3, none⟩ = some (kI x.1) ∧ w'.cell? ⟨g, j * 3 + 1, none⟩ = some (kI x.2.1) ∧ w'.cell? ⟨g, j * 3 + 2, none⟩ = some (kS x.2.2) ∧ w'.cell? ⟨g, p * 3, none⟩ = some (kI z.1) ∧ w'.cell? ⟨g, p * 3 + 1, none⟩ = some (kI z.2.1) ∧ w'.cell? ⟨g, p * 3 + 2, none⟩ = some (kS z.2.2))
            (with_reducible first | exact K1.out | exact K2.out | exact K3.out)
            (first
              | (go_at_call 41
                 refine (rcmp_any x z _).mono ?_
                 rintro e w4 ⟨rfl, hb⟩
                 have HS4 := Lib.hid (HSD.out.monoB hb)
                 have K3 := Lib.hid (HC.out _ HS4.out)))
          all_goals
            clear K1 K2 K3 HC HSD hb
            by_cases hc : cmpI x.1 z.1 < 0
            · have hlt : rk x < rk z := cmpI_lt.1 hc
              obtain ⟨hv, hx, hz, hsw, _, hRl⟩ := HQ.out
              obtain ⟨ff, x0, x1, x2⟩ := rw_old hv HS4.out hx
              obtain ⟨_, y0, y1, y2⟩ := rw_old hv HS4.out hz
              obtain ⟨z0, z1, z2, t0, t1, t2⟩ := rw_mid hv HS4.out hx hz
              obtain ⟨h', hv', hs'⟩ := rw_swap hv HS4.out hx hz
              have hs' := hs'.drew
              have FIN := Lib.hid (And.intro (hsw hlt) (And.intro (show (swq R j p).length = N by rw [swq_len]; exact hRl) (And.intro hv' hs')))
              clear hv hx hz hsw hRl hv' hs' HQ HS4 hlt
              go_upto_region 6 with (fail)
              go_region_law (fail)
              all_goals
                clear ff x0 x1 x2 y0 y1 y2 t0 t1 t2
                go_wp2_with fail
                clear d1 d2
                exact ⟨⟨p, swq R j p, h', rfl, HPM.out.1, HPM.out.2.1, HPM.out.2.2.1, FIN.out.1, FIN.out.2.1, FIN.out.2.2.1, FIN.out.2.2.2⟩, by have := HPM.out.2.2.2; simp only [RowKit.intOf]; omega⟩
            · have hlt : ¬ rk x < rk z := fun h => hc (cmpI_lt.2 h)
              obtain ⟨hv, hx, hz, _, hst, hRl⟩ := HQ.out
              obtain ⟨C', r1, r2, r3, r4⟩ := HDN.out R (hst HCS.out (by omega))
              have FIN := Lib.hid (And.intro r2 (And.intro r3 (And.intro r4 (And.intro (r1 ▸ hv) HS4.out))))
              have HCF := Lib.hid hc
              clear hv hx hz hst hRl r1 r2 r3 r4 HQ HS4 hlt hc d1 d2
              obtain ⟨s1, s2⟩ := inc_at hi22 hi6
              go_wp2_with fail
              all_goals clear s1 s2
              all_goals first
                | (exfalso; rename_i hh; exact absurd hh HCF.out)
                | exact ⟨⟨i2, C', h, rfl, hii.1, hii.2, by rw [← hi22]; exact FIN.out.1, FIN.out.2.1, by rw [← hi22]; exact FIN.out.2.2.1, by rw [← hi22]; exact FIN.out.2.2.2.1, FIN.out.2.2.2.2⟩, by simp only [RowKit.intOf]; omega⟩
        · have j2 : ((a : Int) < (j : Int)) = False := eq_false (by omega)
          obtain ⟨C', r1, r2, r3, r4⟩ := HDN.out R (hin.stop (by omega))
          have FIN := Lib.hid (And.intro r2 (And.intro r3 (And.intro r4 (r1 ▸ hv))))
          have HSN : Hid (∀ nd, Sat (wr.drewN nd) (h ++ G)) := Lib.hid (fun nd => hs.grown (Grown.drewN wr nd))
          have himp : a + 1 ≤ i2 ∧ i2 ≤ max b (a + 1) := hii
          clear hin hv hs r1 r2 r3 r4 hja hRl
          go_upto_region 4 with (fail)
          go_quiet (fail)
          obtain ⟨s1, s2⟩ := inc_at hi22 hi6
          go_wp2_with fail
          clear s1 s2
          exact ⟨⟨i2, C', h, rfl, hii.1, hii.2, by rw [← hi22]; exact FIN.out.1, FIN.out.2.1, by rw [← hi22]; exact FIN.out.2.2.1, by rw [← hi22]; exact FIN.out.2.2.2, HSN.out _⟩, by simp only [RowKit.intOf]; omega⟩
    · have i1 : ((i : Int) < (b : Int)) = False := eq_false (by omega)
      have e1 : min (i - a) A.length = A.length := by omega
      have e2 : A.take (i - a) = A := List.take_of_length_le (by omega)
      have e3 : A.drop (i - a) = [] := List.drop_eq_nil_of_le (by omega)
      rw [e1] at hCl
      rw [e2] at hCd
      rw [e3, List.nil_append] at hv
      have FIN := Lib.hid (And.intro hCl (And.intro hCs (And.intro hCd (And.intro hv hs))))
      clear hCl hCs hCd hv hs e1 e2 e3
      go_wp2_with fail
      refine bodyPost_end (results_none rfl _ _ _) rfl ?_
      exact ⟨_, h, rfl, ⟨C, rfl, FIN.out.1, FIN.out.2.1, FIN.out.2.2.1⟩, FIN.out.2.2.2.1, FIN.out.2.2.2.2⟩
end Go.Proofs.YtficgjklagnbjaaGreat
