/- Rows of records: two rows in order merged in place, by halves. Conditions: none. -/
import Derived.Test.YtficgjklagnbjaaGreatSt6
namespace Go.Proofs.YtficgjklagnbjaaGreat
open Go Go.MapKept Go.RowKit Go.Proofs Go.Shelf Go.Sort St

attribute [local go_sem] Oper.semAt_some

/-- Where two rows in order are parted so that halves can be merged. -/
theorem sym_cut {X A B Y : List Rw} {a m b mid n s0 r0 i : Nat} (ha : X.length = a) (hm : a + A.length = m) (hb : m + B.length = b) (hmid : mid = (a + b) / 2) (hn : n = mid + m) (h0 : (mid < m ∧ s0 + b = n ∧ r0 = mid) ∨ (m ≤ mid ∧ s0 = a ∧ r0 = m)) (hA : A.Pairwise (Le rk)) (hB : B.Pairwise (Le rk))
    (hi : s0 ≤ i ∧ i ≤ r0) (hlo : i = s0 ∨ ∃ x y, (X ++ (A ++ (B ++ Y)))[i - 1]? = some x ∧ (X ++ (A ++ (B ++ Y)))[n - i]? = some y ∧ rk x ≤ rk y) (hhi : i = r0 ∨ ∃ x y, (X ++ (A ++ (B ++ Y)))[i]? = some x ∧ (X ++ (A ++ (B ++ Y)))[n - 1 - i]? = some y ∧ rk y < rk x) :
    ∃ A1 A2 B1 B2, A = A1 ++ A2 ∧ B = B1 ++ B2 ∧ a + A1.length = i ∧ m + B1.length + i = n ∧ a + A1.length + B1.length = mid ∧ (∀ x ∈ A1, ∀ y ∈ B2, rk x ≤ rk y) ∧ ∀ x ∈ A2, ∀ y ∈ B1, rk y < rk x := by
  have hia : a ≤ i := by clear hlo hhi; omega
  have him : i ≤ m := by clear hlo hhi; omega
  have hen : m + i ≤ n := by clear hlo hhi; omega
  have heb : n ≤ b + i := by clear hlo hhi; omega
  have gA : ∀ c x, a ≤ c → c < m → (X ++ (A ++ (B ++ Y)))[c]? = some x → A[c - a]? = some x := fun c x h1 h2 h => by
    clear hlo hhi
    rw [List.getElem?_append_right (by omega), List.getElem?_append_left (by omega), ha] at h
    exact h
  have gB : ∀ c x, m ≤ c → c < b → (X ++ (A ++ (B ++ Y)))[c]? = some x → B[c - m]? = some x := fun c x h1 h2 h => by
    clear hlo hhi
    rw [List.getElem?_append_right (by omega), List.getElem?_append_right (by omega), List.getElem?_append_left (by omega)] at h
    rw [← h]; congr 1; omega
  refine ⟨A.take (i - a), A.drop (i - a), B.take (n - i - m), B.drop (n - i - m), (List.take_append_drop _ _).symm, (List.take_append_drop _ _).symm, by clear hlo hhi; rw [List.length_take]; omega, by clear hlo hhi; rw [List.length_take]; omega, by clear hlo hhi; rw [List.length_take, List.length_take]; omega, ?_, ?_⟩
  · clear hhi
    by_cases e1 : i = a
    · intro x hx; rw [e1, Nat.sub_self] at hx; simp at hx
    · by_cases e2 : n - i = b
      · clear hlo; intro x _ y hy; rw [List.drop_eq_nil_of_le (by omega)] at hy; cases hy
      · rcases hlo with e | ⟨x0, y0, hx, hy, hle⟩
        · exfalso; omega
        · have h1 := le_take hA (gA _ _ (by omega) (by omega) hx) (Int.le_refl (rk x0))
          have h2 := ge_drop hB (gB _ _ (by omega) (by omega) hy) (Int.le_refl (rk y0))
          rw [show i - 1 - a + 1 = i - a by omega] at h1
          intro x hx y hy
          have := h1 x hx
          have := h2 y hy
          omega
  · clear hlo
    by_cases e1 : i = m
    · clear hhi; intro x hx; rw [List.drop_eq_nil_of_le (by omega)] at hx; cases hx
    · by_cases e2 : n - i = m
      · intro x _ y hy; rw [e2, Nat.sub_self] at hy; simp at hy
      · rcases hhi with e | ⟨x0, y0, hx, hy, hlt⟩
        · exfalso; omega
        · have h1 := ge_drop hA (gA _ _ (by omega) (by omega) hx) (Int.le_refl (rk x0))
          have h2 := le_take hB (gB _ _ (by omega) (by omega) hy) (Int.le_refl (rk y0))
          rw [show n - 1 - i - m + 1 = n - i - m by omega] at h2
          intro x hx y hy
          have := h1 x hx
          have := h2 y hy
          omega
theorem k_at {k : Nat} (h : k ≤ 1000000) : wrap64 (k : Int) = (k : Int) := IntWalk.wrap64_in _ (by omega)
set_option maxRecDepth 100000 in
set_option maxHeartbeats 16000000 in
theorem sym_any : ∀ (d : Nat) {X A B Y : List Rw} {h G : Heaplet} {w : World} {g cap a m b N : Nat}, A.length + B.length ≤ d → RwSl (.slice (some ⟨g, 0, none⟩) N cap) (X ++ (A ++ (B ++ Y))) h → Sat w (h ++ G) → X.length = a → a + A.length = m → m + B.length = b → b + Y.length = N → N ≤ 100000 → A.Pairwise (Le rk) → B.Pairwise (Le rk) → 0 < A.length → 0 < B.length →
    Calls Tryz.prog 93 #[.slice (some ⟨g, 0, none⟩) N cap, .int .i64 (a : Int), .int .i64 (m : Int), .int .i64 (b : Int), rcF] w (SwRet g N cap G fun R' => ∃ C, R' = X ++ (C ++ Y) ∧ C.length = A.length + B.length ∧ Mg rk rs A B C) := by
  intro d
  induction d with
  | zero => intro X A B Y h G w g cap a m b N h1 _ _ _ _ _ _ _ _ _ h2 _; omega
  | succ d ih =>
  intro X A B Y h G w g cap a m b N hd hv s ha hm hb hN hl hA hB hA0 hB0
  by_cases hA1 : A.length = 1
  · obtain ⟨x, rfl⟩ := List.length_eq_one_iff.1 hA1
    refine (sym_one (x := x) (by simpa using hv) s ha (by simpa using hm) hb hN hl hB).mono ?_
    rintro e w' ⟨R, h', e1, ⟨C, c1, c2, c3⟩, e2, e3⟩
    exact ⟨R, h', e1, ⟨C, c1, by simpa using c2, c3⟩, e2, e3⟩
  by_cases hB1 : B.length = 1
  · obtain ⟨y, rfl⟩ := List.length_eq_one_iff.1 hB1
    refine (sym_last (y := y) (by simpa using hv) s ha hm (by simpa using hb) hN hl hA (by omega)).mono ?_
    rintro e w' ⟨R, h', e1, ⟨C, c1, c2, c3⟩, e2, e3⟩
    exact ⟨R, h', e1, ⟨C, c1, by simpa using c2, c3⟩, e2, e3⟩
  obtain ⟨R, hR⟩ : ∃ R, X ++ (A ++ (B ++ Y)) = R := ⟨_, rfl⟩
  have hRl : R.length = N := by rw [← hR]; simp; omega
  obtain ⟨n1, hn1⟩ : ∃ n1, A.length = n1 := ⟨_, rfl⟩
  obtain ⟨n2, hn2⟩ : ∃ n2, B.length = n2 := ⟨_, rfl⟩
  obtain ⟨mid, hmid⟩ : ∃ mid, mid = (a + b) / 2 := ⟨_, rfl⟩
  obtain ⟨n, hn⟩ : ∃ n, mid + m = n := ⟨_, rfl⟩
  obtain ⟨p, hp⟩ : ∃ p, p + 1 = n := ⟨n - 1, by omega⟩
  have hab6 : a + b ≤ 1000000 := by omega
  have hm6 : m ≤ 1000000 := by omega
  have hb6 : b ≤ 1000000 := by omega
  have hn6 : n ≤ 1000000 := by omega
  have e1 : n1 + a = m := by omega
  have e2 : n2 + m = b := by omega
  have q1 : ((n1 : Int) == 1) = false := by rw [beq_eq_false_iff_ne]; omega
  have q2 : ((n1 : Int) = 1) = False := eq_false (by omega)
  have q3 : (n1 = 1) = False := eq_false (by omega)
  have q4 : ((n2 : Int) == 1) = false := by rw [beq_eq_false_iff_ne]; omega
  have q5 : ((n2 : Int) = 1) = False := eq_false (by omega)
  have q6 : (n2 = 1) = False := eq_false (by omega)
  have hN9 : (N : Int) ≤ 100000 := by omega
  have HS := Lib.hid (And.intro (hR ▸ hv) s)
  have HP := Lib.hid (show X.length = a ∧ a + A.length = m ∧ m + B.length = b ∧ b + Y.length = N ∧ N ≤ 100000 ∧ A.Pairwise (Le rk) ∧ B.Pairwise (Le rk) ∧ A.length + B.length ≤ d + 1 ∧ 0 < A.length ∧ 0 < B.length ∧ X ++ (A ++ (B ++ Y)) = R ∧ R.length = N from ⟨ha, hm, hb, hN, hl, hA, hB, hd, hA0, hB0, hR, hRl⟩)
  have HM := Lib.hid (show mid = (a + b) / 2 ∧ mid + m = n ∧ p + 1 = n from ⟨hmid, hn, hp⟩)
  have HIH : Hid (∀ (X A B Y : List Rw) (h G : Heaplet) (w : World) (g cap a m b N : Nat), A.length + B.length ≤ d → RwSl (.slice (some ⟨g, 0, none⟩) N cap) (X ++ (A ++ (B ++ Y))) h → Sat w (h ++ G) → X.length = a → a + A.length = m → m + B.length = b → b + Y.length = N → N ≤ 100000 → A.Pairwise (Le rk) → B.Pairwise (Le rk) → 0 < A.length → 0 < B.length →
    Calls Tryz.prog 93 #[.slice (some ⟨g, 0, none⟩) N cap, .int .i64 (a : Int), .int .i64 (m : Int), .int .i64 (b : Int), rcF] w (SwRet g N cap G fun R' => ∃ C, R' = X ++ (C ++ Y) ∧ C.length = A.length + B.length ∧ Mg rk rs A B C)) := Lib.hid (fun X A B Y h G w g cap a m b N => ih)
  clear hv s ha hm hb hN hl hA hB hA0 hB0 hA1 hB1 hR hRl hn1 hn2 ih hd
  obtain ⟨d1, d2⟩ := dif_at e1 hm6
  obtain ⟨d3, d4⟩ := dif_at e2 hb6
  go_enter Tryz.func93, Tryz.ntmps93
  go_upto_region 24 with (fail)
  clear d1 d2 d3 d4 e1 e2 q1 q2 q3 q4 q5 q6
  obtain ⟨s1, s2, s3, s4⟩ := mid_at hmid hab6
  go_upto_region 25 with (fail)
  clear s1 s2 s3 s4
  rw [mid_k hmid]
  clear hmid
  obtain ⟨s1, s2⟩ := sum_at hn hn6
  go_upto_if 140 with (fail)
  clear s1 s2
  go_cut [20, 21] (fun v20 v21 wx => ∃ s0 r0 : Nat, v20 = .int .i64 (s0 : Int) ∧ v21 = .int .i64 (r0 : Int) ∧ ((mid < m ∧ s0 + b = n ∧ r0 = mid) ∨ (m ≤ mid ∧ s0 = a ∧ r0 = m)) ∧ wx = w)
  case first =>
    by_cases hmm : mid < m
    · obtain ⟨s0, hs0⟩ : ∃ s0, s0 + b = n := ⟨n - b, by have := HM.out; have := HP.out; omega⟩
      have l1 : (mid : Int) < (m : Int) := by omega
      have FIN := Lib.hid (And.intro hmm hs0)
      clear hn hp
      obtain ⟨d1, d2⟩ := dif_at hs0 hn6
      go_wp2_with fail
      go_meet
      exact ⟨s0, mid, rfl, rfl, .inl ⟨FIN.out.1, FIN.out.2, rfl⟩, rfl⟩
    · have l1 : ((mid : Int) < (m : Int)) = False := eq_false (by omega)
      have FIN := Lib.hid (show m ≤ mid by omega)
      clear hn hp
      go_wp2_with fail
      go_meet
      exact ⟨a, m, rfl, rfl, .inr ⟨FIN.out, rfl, rfl⟩, rfl⟩
  case rest =>
    obtain ⟨s0, r0, rfl, rfl, h0, rfl⟩ := hcut
    have HZ := Lib.hid h0
    have hsr : s0 ≤ r0 := by have := HM.out; have := HP.out; omega
    clear h0
    obtain ⟨d1, d2⟩ := dec_at hp hn6
    go_upto_block 8 with (fail)
    clear d1 d2
    go_cut [20] (fun v20 wx => ∃ i : Nat, v20 = .int .i64 (i : Int) ∧ s0 ≤ i ∧ i ≤ r0 ∧ (i = s0 ∨ ∃ x y, R[i - 1]? = some x ∧ R[n - i]? = some y ∧ rk x ≤ rk y) ∧ (i = r0 ∨ ∃ x y, R[i]? = some x ∧ R[n - 1 - i]? = some y ∧ rk y < rk x) ∧ Sat wx (h ++ G))
    case first =>
      go_wp2_with fail
      go_loopw [20, 21] (fun v20 v21 wr => ∃ i j : Nat, v20 = .int .i64 (i : Int) ∧ v21 = .int .i64 (j : Int) ∧ s0 ≤ i ∧ i ≤ j ∧ j ≤ r0 ∧ (i = s0 ∨ ∃ x y, R[i - 1]? = some x ∧ R[n - i]? = some y ∧ rk x ≤ rk y) ∧ (j = r0 ∨ ∃ x y, R[j]? = some x ∧ R[n - 1 - j]? = some y ∧ rk y < rk x) ∧ Sat wr (h ++ G)) (fun v20 v21 _ => (RowKit.intOf v21).toNat - (RowKit.intOf v20).toNat)
      case atStart => exact ⟨s0, r0, rfl, rfl, Nat.le_refl _, hsr, Nat.le_refl _, .inl rfl, .inl rfl, HS.out.2⟩
      case round =>
        obtain ⟨i, j, rfl, rfl, hmi, hij, hjb, hlo, hhi, hs⟩ := hrel
        have HLH := Lib.hid (And.intro hlo hhi)
        clear hlo hhi
        by_cases hlt : i < j
        · have l1 : (i : Int) < (j : Int) := by omega
          obtain ⟨k, hk⟩ : ∃ k, k = (i + j) / 2 := ⟨_, rfl⟩
          have hij6 : i + j ≤ 1000000 := by have := HZ.out; have := HM.out; have := HP.out; omega
          have hki : i ≤ k ∧ k < j := by omega
          obtain ⟨q, hq⟩ : ∃ q, q + k = p := ⟨p - k, by have := HZ.out; have := HM.out; have := HP.out; omega⟩
          have hkN : k < N := by have := HZ.out; have := HM.out; have := HP.out; omega
          have hqN : q < N := by have := HZ.out; have := HM.out; have := HP.out; omega
          obtain ⟨x, hx⟩ : ∃ x, R[k]? = some x := ⟨_, List.getElem?_eq_getElem (by have := HP.out; omega)⟩
          obtain ⟨y, hy⟩ : ∃ y, R[q]? = some y := ⟨_, List.getElem?_eq_getElem (by have := HP.out; omega)⟩
          have hcell : ∀ W, Sat W (h ++ G) → W.cell? ⟨g, q * 3, none⟩ = some (kI y.1) ∧ W.cell? ⟨g, q * 3 + 1, none⟩ = some (kI y.2.1) ∧ W.cell? ⟨g, q * 3 + 2, none⟩ = some (kS y.2.2) ∧ W.cell? ⟨g, k * 3, none⟩ = some (kI x.1) ∧ W.cell? ⟨g, k * 3 + 1, none⟩ = some (kI x.2.1) ∧ W.cell? ⟨g, k * 3 + 2, none⟩ = some (kS x.2.2) := fun W hW => by
            obtain ⟨_, y0, y1, y2⟩ := rw_old HS.out.1 hW hy
            obtain ⟨_, x0, x1, x2⟩ := rw_old HS.out.1 hW hx
            exact ⟨y0, y1, y2, x0, x1, x2⟩
          have HC := Lib.hid hcell
          have K1 := Lib.hid (hcell _ hs)
          have K2 := Lib.hid (hcell _ hs.drew)
          have HSD := Lib.hid hs.drew
          obtain ⟨k1, hk1⟩ : ∃ k1, k + 1 = k1 := ⟨_, rfl⟩
          have HLO : Hid (rk x ≤ rk y → k1 = s0 ∨ ∃ x y, R[k1 - 1]? = some x ∧ R[n - k1]? = some y ∧ rk x ≤ rk y) := Lib.hid (fun hle => .inr ⟨x, y, by rw [show k1 - 1 = k by omega]; exact hx, by rw [show n - k1 = q by omega]; exact hy, hle⟩)
          have HHI : Hid (rk y < rk x → k = r0 ∨ ∃ x y, R[k]? = some x ∧ R[n - 1 - k]? = some y ∧ rk y < rk x) := Lib.hid (fun hlt => .inr ⟨x, y, hx, by rw [show n - 1 - k = q by omega]; exact hy, hlt⟩)
          have HIJ := Lib.hid (And.intro hmi (And.intro hjb hki))
          have p0 : (0 : Int) ≤ (k : Int) := by omega
          have p1 : (k : Int) < (N : Int) := by omega
          have p2 : (0 : Int) ≤ (q : Int) := by omega
          have p3 : (q : Int) < (N : Int) := by omega
          have hk6 : k1 ≤ 1000000 := by omega
          have hp6 : p ≤ 1000000 := by omega
          have hk7 : k ≤ 1000000 := by omega
          clear hx hy hcell hs hmi hjb hki hij hlt hkN hqN
          obtain ⟨s1, s2, s3, s4⟩ := mid_at hk hij6
          go_upto_region 35 with (fail)
          clear s1 s2 s3 s4
          rw [mid_k hk, k_at hk7]
          clear hk
          obtain ⟨d1, d2⟩ := dif_at hq hp6
          go_region_held3 (fun w' => w'.cell? ⟨g, q * 3, none⟩ = some (kI y.1) ∧ w'.cell? ⟨g, q * 3 + 1, none⟩ = some (kI y.2.1) ∧ w'.cell? ⟨g, q * 3 + 2, none⟩ = some (kS y.2.2) ∧ w'.cell? ⟨g, k * 3, none⟩ = some (kI x.1) ∧ w'.cell? ⟨g, k * 3 + 1, none⟩ = some (kI x.2.1) ∧ w'.cell? ⟨g, k * 3 + 2, none⟩ = some (kS x.2.2))
            (with_reducible first | exact K1.out | exact K2.out | exact K3.out)
            (first
              | (go_at_call 41
                 refine (rcmp_any y x _).mono ?_
                 rintro e w4 ⟨rfl, hb⟩
                 have HS4 := Lib.hid (HSD.out.monoB hb)
                 have K3 := Lib.hid (HC.out _ HS4.out)))
          all_goals
            clear K1 K2 K3 HC HSD hb d1 d2
            by_cases hc : cmpI y.1 x.1 < 0
            · have FIN := Lib.hid (And.intro (HHI.out (cmpI_lt.1 hc)) HS4.out)
              have HCF := Lib.hid hc
              clear HLO HHI HS4 hc
              go_wp2_with fail
              all_goals first
                | (exfalso; rename_i hh; rw [decide_eq_true HCF.out] at hh; exact absurd hh (by decide))
                | (obtain ⟨r1, r2, r3⟩ := HIJ.out
                   exact ⟨⟨i, k, rfl, rfl, r1, by omega, by omega, HLH.out.1, FIN.out.1, FIN.out.2⟩, by simp only [RowKit.intOf]; omega⟩)
            · have FIN := Lib.hid (And.intro (HLO.out (by have h9 : ¬ rk y < rk x := fun h => hc (cmpI_lt.2 h); omega)) HS4.out)
              have HCF := Lib.hid hc
              clear HLO HHI HS4 hc
              obtain ⟨s1, s2⟩ := inc_at hk1 hk6
              go_wp2_with fail
              all_goals clear s1 s2
              all_goals first
                | (exfalso; rename_i hh; rw [decide_eq_false HCF.out] at hh; exact absurd hh (by decide))
                | (obtain ⟨r1, r2, r3⟩ := HIJ.out
                   exact ⟨⟨k1, j, rfl, rfl, by omega, by omega, r2, FIN.out.1, HLH.out.2, FIN.out.2⟩, by simp only [RowKit.intOf]; omega⟩)
        · obtain rfl : i = j := by omega
          have l1 : ((i : Int) < (i : Int)) = False := eq_false (by omega)
          have FIN := Lib.hid (And.intro hmi (And.intro hjb (And.intro HLH.out.1 (And.intro HLH.out.2 hs))))
          clear hmi hjb hs HLH
          go_wp2_with fail
          go_meet
          exact ⟨i, rfl, FIN.out⟩
    case rest =>
      obtain ⟨i, rfl, hi1, hi2, hlo, hhi, hs⟩ := hcut
      obtain ⟨ha, hm, hb, hN, hl, hA, hB, hd, hA0, hB0, hR, hRl⟩ := HP.out
      have h0 := HZ.out
      obtain ⟨hmid, hn', hp'⟩ := HM.out
      obtain ⟨A1, A2, B1, B2, eA, eB, l1, l2, l3, hab, hba⟩ := sym_cut ha hm hb hmid hn'.symm h0 hA hB ⟨hi1, hi2⟩ (by rw [hR]; exact hlo) (by rw [hR]; exact hhi)
      obtain ⟨e, he⟩ : ∃ e, e + i = n := ⟨m + B1.length, by omega⟩
      have l2' : m + B1.length = e := by clear hlo hhi hab hba; omega
      have hAl : A1.length + A2.length = A.length := by rw [eA]; simp
      have hBl : B1.length + B2.length = B.length := by rw [eB]; simp
      have HQ := Lib.hid (show A = A1 ++ A2 ∧ B = B1 ++ B2 ∧ a + A1.length = i ∧ m + B1.length = e ∧ a + A1.length + B1.length = mid ∧ (∀ x ∈ A1, ∀ y ∈ B2, rk x ≤ rk y) ∧ (∀ x ∈ A2, ∀ y ∈ B1, rk y < rk x) ∧ A1.length + A2.length = A.length ∧ B1.length + B2.length = B.length from ⟨eA, eB, l1, l2', l3, hab, hba, hAl, hBl⟩)
      have hsplit : R = (X ++ A1) ++ (A2 ++ (B1 ++ (B2 ++ Y))) := by rw [← hR, eA, eB]; simp
      have HS2 := Lib.hid (And.intro (hsplit ▸ HS.out.1) hs)
      have hN2 : ((X ++ A1) ++ (A2 ++ (B1 ++ (B2 ++ Y)))).length = N := by rw [← hsplit]; exact hRl
      have HNL := Lib.hid hN2
      clear ha hm hb hN hA hB hd hA0 hB0 hR hRl h0 hmid hn' hp' eA eB l1 l2 l3 hab hba l2' hAl hBl hsplit hN2 hlo hhi hs hi1 hi2 HS hp hsr
      obtain ⟨d1, d2⟩ := dif_at he hn6
      go_upto_region 39 with (fail)
      clear d1 d2 hn
      go_cut [185] from 178 to 185 (fun v185 wx => v185 = .bool (decide (i < m) && decide (m < e)) ∧ wx = wc)
      case first =>
        by_cases h1 : i < m
        · by_cases h2 : m < e
          · have l1 : (i : Int) < (m : Int) := by omega
            have l2 : (m : Int) < (e : Int) := by omega
            go_wp2_with fail
            go_meet
            exact ⟨by rw [decide_eq_true h1, decide_eq_true h2]; rfl, rfl⟩
          · have l1 : (i : Int) < (m : Int) := by omega
            have l2 : ((m : Int) < (e : Int)) = False := eq_false (by omega)
            go_wp2_with fail
            go_meet
            exact ⟨by rw [decide_eq_true h1, decide_eq_false h2]; rfl, rfl⟩
        · have l1 : ((i : Int) < (m : Int)) = False := eq_false (by omega)
          go_wp2_with fail
          go_meet
          exact ⟨by rw [decide_eq_false h1]; rfl, rfl⟩
      case rest =>
      obtain ⟨rfl, rfl⟩ := hcut
      go_upto_if 185 with (fail)
      go_cut [] (fun wx => ∃ h', RwSl (.slice (some ⟨g, 0, none⟩) N cap) ((X ++ A1) ++ (B1 ++ (A2 ++ (B2 ++ Y)))) h' ∧ Sat wx (h' ++ G))
      case first =>
        cases hd : (decide (i < m) && decide (m < e)) with
        | true =>
          rw [Bool.and_eq_true, decide_eq_true_eq, decide_eq_true_eq] at hd
          have HRT : Hid (Calls Tryz.prog 99 #[.slice (some ⟨g, 0, none⟩) N cap, .int .i64 (i : Int), .int .i64 (m : Int), .int .i64 (e : Int), rcF] wc (SwRet g N cap G fun R' => R' = (X ++ A1) ++ (B1 ++ (A2 ++ (B2 ++ Y))))) := Lib.hid (by
            obtain ⟨eA, eB, l1, l2, l3, _, _, hAl, hBl⟩ := HQ.out
            have hX := HP.out.1
            have hm := HP.out.2.1
            have := rot_any (X := X ++ A1) (U := A2) (V := B1) (Y := B2 ++ Y) (a := i) (m := m) (b := e) rcF (by rw [HNL.out]; exact HS2.out.1) HS2.out.2 (by rw [List.length_append]; omega) (by rw [List.length_append]; omega) (by rw [List.length_append]; omega) (by omega) (by omega) (by rw [HNL.out]; exact hl)
            rw [HNL.out] at this
            exact this)
          clear hd HS2
          go_wp2_with (go_at_call 99; refine (HRT.out).mono ?_; rintro e w4 ⟨R', h', rfl, rfl, hv', hs'⟩; have FIN := Lib.hid (And.intro hv' hs'); clear hv' hs')
          go_meet
          exact ⟨h', FIN.out⟩
        | false =>
          have FIN : Hid (∃ h', RwSl (.slice (some ⟨g, 0, none⟩) N cap) ((X ++ A1) ++ (B1 ++ (A2 ++ (B2 ++ Y)))) h' ∧ Sat wc (h' ++ G)) := Lib.hid (by
            refine ⟨h, ?_, HS2.out.2⟩
            obtain ⟨eA, eB, l1, l2, l3, _, _, hAl, hBl⟩ := HQ.out
            have hm := HP.out.2.1
            rw [Bool.and_eq_false_iff, decide_eq_false_iff_not, decide_eq_false_iff_not] at hd
            have hE : A2 = [] ∨ B1 = [] := by
              rcases hd with hd | hd
              · exact .inl (List.eq_nil_of_length_eq_zero (by omega))
              · exact .inr (List.eq_nil_of_length_eq_zero (by omega))
            have h9 := HS2.out.1
            rcases hE with hE | hE
            · subst hE; exact h9
            · subst hE; exact h9)
          clear hd HS2
          go_wp2_with fail
          go_meet
          exact FIN.out
      case rest =>
      obtain ⟨h1, hv1, hs1⟩ := hcut
      have HS3 := Lib.hid (And.intro hv1 hs1)
      clear hv1 hs1 HS2 HNL
      go_upto_region 41 with (fail)
      go_cut [199] from 192 to 199 (fun v199 wx => v199 = .bool (decide (a < i) && decide (i < mid)) ∧ Sat wx (h1 ++ G))
      case first =>
        have HS4 := Lib.hid HS3.out.2
        by_cases h1 : a < i
        · by_cases h2 : i < mid
          · have l1 : (a : Int) < (i : Int) := by omega
            have l2 : (i : Int) < (mid : Int) := by omega
            go_wp2_with fail
            go_meet
            exact ⟨by rw [decide_eq_true h1, decide_eq_true h2]; rfl, HS4.out⟩
          · have l1 : (a : Int) < (i : Int) := by omega
            have l2 : ((i : Int) < (mid : Int)) = False := eq_false (by omega)
            go_wp2_with fail
            go_meet
            exact ⟨by rw [decide_eq_true h1, decide_eq_false h2]; rfl, HS4.out⟩
        · have l1 : ((a : Int) < (i : Int)) = False := eq_false (by omega)
          go_wp2_with fail
          go_meet
          exact ⟨by rw [decide_eq_false h1]; rfl, HS4.out⟩
      case rest =>
      obtain ⟨rfl, hs1⟩ := hcut
      have HS4 := Lib.hid (And.intro HS3.out.1 hs1)
      clear HS3 hs1
      go_upto_if 199 with (fail)
      go_cut [] (fun wx => ∃ C1 h', C1.length = A1.length + B1.length ∧ Mg rk rs A1 B1 C1 ∧ RwSl (.slice (some ⟨g, 0, none⟩) N cap) (X ++ (C1 ++ (A2 ++ (B2 ++ Y)))) h' ∧ Sat wx (h' ++ G))
      case first =>
        cases hd : (decide (a < i) && decide (i < mid)) with
        | true =>
          rw [Bool.and_eq_true, decide_eq_true_eq, decide_eq_true_eq] at hd
          have HRT := Lib.hid (HIH.out X A1 B1 (A2 ++ (B2 ++ Y)) h1 G wc g cap a i mid N (by have := HQ.out; have := HP.out; have := HM.out; omega) (by have h9 := HS4.out.1; rw [List.append_assoc] at h9; exact h9) HS4.out.2 HP.out.1 HQ.out.2.2.1 (by have := HQ.out; omega) (by have := HQ.out; have := HP.out; have := HM.out; rw [List.length_append, List.length_append]; omega) hl (by have h9 := HP.out.2.2.2.2.2.1; rw [HQ.out.1] at h9; exact (List.pairwise_append.1 h9).1) (by have h9 := HP.out.2.2.2.2.2.2.1; rw [HQ.out.2.1] at h9; exact (List.pairwise_append.1 h9).1) (by have := HQ.out; omega) (by have := HQ.out; omega))
          clear hd HS4
          go_wp2_with (go_at_call 93; refine (HRT.out).mono ?_; rintro e w4 ⟨R', h', rfl, ⟨C1, rfl, c2, c3⟩, hv', hs'⟩; have FIN := Lib.hid (And.intro c2 (And.intro c3 (And.intro hv' hs'))); clear hv' hs' c2 c3)
          go_meet
          exact ⟨C1, h', FIN.out⟩
        | false =>
          have FIN : Hid (∃ C1 h', C1.length = A1.length + B1.length ∧ Mg rk rs A1 B1 C1 ∧ RwSl (.slice (some ⟨g, 0, none⟩) N cap) (X ++ (C1 ++ (A2 ++ (B2 ++ Y)))) h' ∧ Sat wc (h' ++ G)) := Lib.hid (by
            obtain ⟨eA, eB, l1, l2, l3, _, _, hAl, hBl⟩ := HQ.out
            have hA := HP.out.2.2.2.2.2.1
            have hB := HP.out.2.2.2.2.2.2.1
            rw [eA] at hA
            rw [eB] at hB
            rw [Bool.and_eq_false_iff, decide_eq_false_iff_not, decide_eq_false_iff_not] at hd
            have hE : A1 = [] ∨ B1 = [] := by
              rcases hd with hd | hd
              · exact .inl (List.eq_nil_of_length_eq_zero (by omega))
              · exact .inr (List.eq_nil_of_length_eq_zero (by omega))
            refine ⟨A1 ++ B1, h1, List.length_append, ?_, ?_, HS4.out.2⟩
            · rcases hE with hE | hE
              · subst hE; exact Mg.right (List.pairwise_append.1 hB).1
              · subst hE; rw [List.append_nil]; exact Mg.left (List.pairwise_append.1 hA).1
            · have h9 := HS4.out.1
              simp only [List.append_assoc] at h9 ⊢
              exact h9)
          clear hd HS4
          go_wp2_with fail
          go_meet
          exact FIN.out
      case rest =>
      obtain ⟨C1, h2, c1, c2, hv2, hs2⟩ := hcut
      have HS5 := Lib.hid (And.intro hv2 hs2)
      have HC1 := Lib.hid (And.intro c1 c2)
      clear hv2 hs2 HS4 c1 c2
      go_upto_region 43 with (fail)
      go_cut [213] from 206 to 213 (fun v213 wx => v213 = .bool (decide (mid < e) && decide (e < b)) ∧ Sat wx (h2 ++ G))
      case first =>
        have HS6 := Lib.hid HS5.out.2
        by_cases h1 : mid < e
        · by_cases h2 : e < b
          · have l1 : (mid : Int) < (e : Int) := by omega
            have l2 : (e : Int) < (b : Int) := by omega
            go_wp2_with fail
            go_meet
            exact ⟨by rw [decide_eq_true h1, decide_eq_true h2]; rfl, HS6.out⟩
          · have l1 : (mid : Int) < (e : Int) := by omega
            have l2 : ((e : Int) < (b : Int)) = False := eq_false (by omega)
            go_wp2_with fail
            go_meet
            exact ⟨by rw [decide_eq_true h1, decide_eq_false h2]; rfl, HS6.out⟩
        · have l1 : ((mid : Int) < (e : Int)) = False := eq_false (by omega)
          go_wp2_with fail
          go_meet
          exact ⟨by rw [decide_eq_false h1]; rfl, HS6.out⟩
      case rest =>
      obtain ⟨rfl, hs2⟩ := hcut
      have HS6 := Lib.hid (And.intro HS5.out.1 hs2)
      clear HS5 hs2
      have HEND : Hid (∀ (C2 : List Rw), Mg rk rs A2 B2 C2 → C2.length = A2.length + B2.length → Mg rk rs A B (C1 ++ C2) ∧ (C1 ++ C2).length = A.length + B.length) := Lib.hid (fun C2 h9 h10 => by
        obtain ⟨eA, eB, _, _, _, hab, hba, hAl, hBl⟩ := HQ.out
        have hA := HP.out.2.2.2.2.2.1
        have hB := HP.out.2.2.2.2.2.2.1
        have hc1 := HC1.out
        refine ⟨?_, by rw [List.length_append]; omega⟩
        rw [eA] at hA ⊢
        rw [eB] at hB ⊢
        exact Mg.two hc1.2 h9 hA hB hab hba)
      cases hd : (decide (mid < e) && decide (e < b)) with
      | true =>
        rw [Bool.and_eq_true, decide_eq_true_eq, decide_eq_true_eq] at hd
        have HRT := Lib.hid (HIH.out (X ++ C1) A2 B2 Y h2 G wc g cap mid e b N (by have := HQ.out; have := HP.out; have := HM.out; omega) (by have h9 := HS6.out.1; rw [← List.append_assoc] at h9; exact h9) HS6.out.2 (by have := HQ.out; have := HP.out; have := HC1.out; rw [List.length_append]; omega) (by have := HQ.out; have := HP.out; omega) (by have := HQ.out; have := HP.out; omega) HP.out.2.2.2.1 hl (by have h9 := HP.out.2.2.2.2.2.1; rw [HQ.out.1] at h9; exact (List.pairwise_append.1 h9).2.1) (by have h9 := HP.out.2.2.2.2.2.2.1; rw [HQ.out.2.1] at h9; exact (List.pairwise_append.1 h9).2.1) (by have := HQ.out; have := HP.out; omega) (by have := HQ.out; have := HP.out; omega))
        clear hd HS6
        go_wp2_with (go_at_call 93; refine (HRT.out).mono ?_; rintro e w4 ⟨R', h', rfl, ⟨C2, rfl, c2, c3⟩, hv', hs'⟩; have FIN := Lib.hid (And.intro c2 (And.intro c3 (And.intro hv' hs'))); clear hv' hs' c2 c3)
        refine bodyPost_end (results_none rfl _ _ _) rfl ?_
        exact ⟨_, h', rfl, ⟨C1 ++ C2, by simp, (HEND.out C2 FIN.out.2.1 FIN.out.1).2, (HEND.out C2 FIN.out.2.1 FIN.out.1).1⟩, FIN.out.2.2.1, FIN.out.2.2.2⟩
      | false =>
        have FIN : Hid (Mg rk rs A B (C1 ++ (A2 ++ B2)) ∧ (C1 ++ (A2 ++ B2)).length = A.length + B.length ∧ RwSl (.slice (some ⟨g, 0, none⟩) N cap) (X ++ ((C1 ++ (A2 ++ B2)) ++ Y)) h2 ∧ Sat wc (h2 ++ G)) := Lib.hid (by
          obtain ⟨eA, eB, l1, l2, l3, _, _, hAl, hBl⟩ := HQ.out
          have hA := HP.out.2.2.2.2.2.1
          have hB := HP.out.2.2.2.2.2.2.1
          have hp := HP.out
          rw [eA] at hA
          rw [eB] at hB
          rw [Bool.and_eq_false_iff, decide_eq_false_iff_not, decide_eq_false_iff_not] at hd
          have hE : A2 = [] ∨ B2 = [] := by
            rcases hd with hd | hd
            · exact .inl (List.eq_nil_of_length_eq_zero (by omega))
            · exact .inr (List.eq_nil_of_length_eq_zero (by omega))
          have hmg : Mg rk rs A2 B2 (A2 ++ B2) := by
            rcases hE with hE | hE
            · subst hE; exact Mg.right (List.pairwise_append.1 hB).2.1
            · subst hE; rw [List.append_nil]; exact Mg.left (List.pairwise_append.1 hA).2.1
          refine ⟨(HEND.out _ hmg List.length_append).1, (HEND.out _ hmg List.length_append).2, ?_, HS6.out.2⟩
          have h9 := HS6.out.1
          simp only [List.append_assoc] at h9 ⊢
          exact h9)
        clear hd HS6
        go_wp2_with fail
        refine bodyPost_end (results_none rfl _ _ _) rfl ?_
        exact ⟨_, h2, rfl, ⟨C1 ++ (A2 ++ B2), rfl, FIN.out.2.1, FIN.out.1⟩, FIN.out.2.2.1, FIN.out.2.2.2⟩
end Go.Proofs.YtficgjklagnbjaaGreat
