/- Rows of records put in order, stable. Conditions: none. -/
import Derived.Test.YtficgjklagnbjaaGreatSt7
namespace Go.Proofs.YtficgjklagnbjaaGreat
open Go Go.MapKept Go.RowKit Go.Proofs Go.Shelf Go.Sort St

attribute [local go_sem] Oper.semAt_some

theorem dbl_at {a p : Nat} (h : 2 * a = p) (hp : p ≤ 1000000) : wrap64 (2 * (a : Int)) = (p : Int) ∧ IntKind.i64.wrap (2 * (a : Int)) = (p : Int) :=
  ⟨by rw [IntWalk.wrap64_in _ (by omega)]; omega, by rw [IntWalk.i64_in _ (by omega)]; omega⟩
theorem dbl2_at {a p : Nat} (h : 2 * a = p) (hp : p ≤ 1000000) : wrap64 ((a : Int) * 2) = (p : Int) ∧ IntKind.i64.wrap ((a : Int) * 2) = (p : Int) :=
  ⟨by rw [IntWalk.wrap64_in _ (by omega)]; omega, by rw [IntWalk.i64_in _ (by omega)]; omega⟩
theorem t20 {a p : Nat} (h : a + 20 = p) (hp : p ≤ 1000000) : wrap64 ((a : Int) + 20) = (p : Int) ∧ IntKind.i64.wrap ((a : Int) + 20) = (p : Int) :=
  ⟨by rw [IntWalk.wrap64_in _ (by omega)]; omega, by rw [IntWalk.i64_in _ (by omega)]; omega⟩
/-- A row in memory, in blocks in order. -/
def BkSt (g cap N : Nat) (G : Heaplet) (R : List Rw) (bs m : Nat) (w : World) : Prop := ∃ R' h, R'.length = N ∧ Blk rk bs m R' ∧ Sd rk rs R R' ∧ RwSl (.slice (some ⟨g, 0, none⟩) N cap) R' h ∧ Sat w (h ++ G)
/-- Insertion in one more block. -/
theorem BkSt.ins {g cap N : Nat} {G : Heaplet} {R : List Rw} {w : World} {t a b : Nat} (h : BkSt g cap N G R 20 (t * 20) w) (ha : a = t * 20) (hb : a ≤ b) (hb2 : b ≤ a + 20) (hbN : b ≤ N) (hl : N ≤ 100000) :
    Calls Tryz.prog 92 #[.slice (some ⟨g, 0, none⟩) N cap, .int .i64 (a : Int), .int .i64 (b : Int), rcF] w (fun e w' => e = .returned (.tuple #[]) ∧ BkSt g cap N G R 20 b w') := by
  obtain ⟨R', h, h1, h2, h3, h4, h5⟩ := h
  obtain ⟨X, A, Y, rfl, hX, hA⟩ := parts R' hb (by omega)
  have := ins_any (X := X) (A := A) (Y := Y) (a := a) (b := b) (by rw [h1]; exact h4) h5 hX (by omega) (by rw [h1]; exact hl)
  rw [h1] at this
  refine this.mono ?_
  rintro e w' ⟨R2, h', e1, ⟨C, rfl, c1, c2, c3⟩, e2, e3⟩
  refine ⟨e1, _, h', ?_, ?_, h3.trans (c3.seg X Y), e2, e3⟩
  · simp only [List.length_append] at h1 ⊢; omega
  · have := Blk.step (t := t) (bs := 20) (by omega) c1 (by omega) c2 h2
    rw [show t * 20 + C.length = b by omega] at this
    exact this
/-- Two rows of sorted blocks. -/
def MgSt (g cap N : Nat) (G : Heaplet) (R : List Rw) (bs m : Nat) (w : World) : Prop := ∃ R' h, R'.length = N ∧ Blk rk (2 * bs) m R' ∧ Blk rk bs N R' ∧ Sd rk rs R R' ∧ RwSl (.slice (some ⟨g, 0, none⟩) N cap) R' h ∧ Sat w (h ++ G)
theorem MgSt.start {g cap N : Nat} {G : Heaplet} {R : List Rw} {bs : Nat} {w : World} (h : BkSt g cap N G R bs N w) : MgSt g cap N G R bs 0 w := by
  obtain ⟨R', h, h1, h2, h3⟩ := h
  exact ⟨R', h, h1, Blk.zero _ _, h2, h3⟩
set_option maxRecDepth 100000 in
theorem MgSt.full {g cap N : Nat} {G : Heaplet} {R : List Rw} {bs t a m b : Nat} {w : World} (h : MgSt g cap N G R bs a w) (ha : a = t * (2 * bs)) (hm : a + bs = m) (hb : m + bs = b) (hbN : b ≤ N) (hbs : 0 < bs) (hl : N ≤ 100000) :
    Calls Tryz.prog 93 #[.slice (some ⟨g, 0, none⟩) N cap, .int .i64 (a : Int), .int .i64 (m : Int), .int .i64 (b : Int), rcF] w (fun e w' => e = .returned (.tuple #[]) ∧ MgSt g cap N G R bs b w') := by
  obtain ⟨R', h, h1, h2, h3, h4, h5, h6⟩ := h
  obtain ⟨X, A, T, hR, hX, hA⟩ := parts R' (a := a) (b := m) (by omega) (by omega)
  have hTl : X.length + (A.length + T.length) = N := by rw [← h1, hR, List.length_append, List.length_append]
  obtain ⟨B', Y, hT, hB⟩ : ∃ B' Y, T = B' ++ Y ∧ B'.length = bs := ⟨T.take bs, T.drop bs, (List.take_append_drop _ _).symm, by rw [List.length_take]; omega⟩
  rw [hT] at hR
  rw [hT, List.length_append] at hTl
  have hYl : b + Y.length = N := by omega
  have e2 : t * (2 * bs) = (2 * t) * bs := by rw [Nat.mul_left_comm, Nat.mul_assoc]
  have hsA : A.Pairwise (Le rk) := Blk.seg (q := 2 * t) (bs := bs) (n := N) (X := X) (Y := B' ++ Y) (by omega) (by omega) (by omega) (by rw [← hR]; exact h3)
  have hsB : B'.Pairwise (Le rk) := Blk.seg (q := 2 * t + 1) (bs := bs) (n := N) (X := X ++ A) (Y := Y) (by have e3 : (2 * t + 1) * bs = (2 * t) * bs + bs := Nat.succ_mul _ _; rw [List.length_append]; omega) (by omega) (by rw [List.length_append]; omega) (by rw [List.append_assoc, ← hR]; exact h3)
  have hC := sym_any (A.length + B'.length) (X := X) (A := A) (B := B') (Y := Y) (m := m) (b := b) (Nat.le_refl _) (by rw [← hR]; exact h5) h6 hX (by omega) (by omega) hYl hl hsA hsB (by omega) (by omega)
  refine hC.mono ?_
  rintro e w' ⟨R2, h', e1, ⟨C, rfl, c1, c2⟩, e3, e4⟩
  have hR2 : R' = X ++ ((A ++ B') ++ Y) := by rw [hR]; simp
  rw [hR2] at h1 h2 h3 h4
  have hcl : C.length = (A ++ B').length := by rw [List.length_append]; omega
  refine ⟨e1, _, h', ?_, ?_, ?_, h4.trans (c2.sd.seg X Y), e3, e4⟩
  · simp only [List.length_append] at h1 hcl ⊢; omega
  · have := Blk.step (t := t) (bs := 2 * bs) (X := X) (A := A ++ B') (C := C) (Y := Y) (by omega) hcl (by omega) c2.srt (by rw [← ha]; exact h2)
    rw [show t * (2 * bs) + C.length = b by omega] at this
    exact this
  · exact Blk.keep (t := t) (by omega) hcl (by omega) c2.srt h3
set_option maxRecDepth 100000 in
theorem MgSt.part {g cap N : Nat} {G : Heaplet} {R : List Rw} {bs t a m : Nat} {w : World} (h : MgSt g cap N G R bs a w) (ha : a = t * (2 * bs)) (hm : a + bs = m) (hmN : m < N) (hN : N < m + bs) (hbs : 0 < bs) (hl : N ≤ 100000) :
    Calls Tryz.prog 93 #[.slice (some ⟨g, 0, none⟩) N cap, .int .i64 (a : Int), .int .i64 (m : Int), .int .i64 (N : Int), rcF] w (fun e w' => e = .returned (.tuple #[]) ∧ BkSt g cap N G R (2 * bs) N w') := by
  obtain ⟨R', h, h1, h2, h3, h4, h5, h6⟩ := h
  obtain ⟨X, A, B, hR, hX, hA⟩ := parts R' (a := a) (b := m) (by omega) (by omega)
  have hTl : X.length + (A.length + B.length) = N := by rw [← h1, hR, List.length_append, List.length_append]
  have hBl : m + B.length = N := by omega
  have e2 : t * (2 * bs) = (2 * t) * bs := by rw [Nat.mul_left_comm, Nat.mul_assoc]
  have hsA : A.Pairwise (Le rk) := Blk.seg (q := 2 * t) (bs := bs) (n := N) (X := X) (Y := B) (by omega) (by omega) (by omega) (by rw [← hR]; exact h3)
  have hsB : B.Pairwise (Le rk) := Blk.seg (q := 2 * t + 1) (bs := bs) (n := N) (X := X ++ A) (Y := []) (by have e3 : (2 * t + 1) * bs = (2 * t) * bs + bs := Nat.succ_mul _ _; rw [List.length_append]; omega) (by omega) (by rw [List.length_append]; omega) (by rw [List.append_nil, List.append_assoc, ← hR]; exact h3)
  have hC := sym_any (A.length + B.length) (X := X) (A := A) (B := B) (Y := []) (m := m) (b := N) (Nat.le_refl _) (by rw [List.append_nil, ← hR]; exact h5) h6 hX (by omega) hBl (by simp) hl hsA hsB (by omega) (by omega)
  refine hC.mono ?_
  rintro e w' ⟨R2, h', e1, ⟨C, rfl, c1, c2⟩, e3, e4⟩
  have hR2 : R' = X ++ ((A ++ B) ++ []) := by rw [hR]; simp
  rw [hR2] at h1 h2 h4
  have hcl : C.length = (A ++ B).length := by rw [List.length_append]; omega
  refine ⟨e1, _, h', ?_, ?_, h4.trans (c2.sd.seg X []), e3, e4⟩
  · simp only [List.length_append] at h1 hcl ⊢; omega
  · have := Blk.step (t := t) (bs := 2 * bs) (X := X) (A := A ++ B) (C := C) (Y := []) (by omega) hcl (by omega) c2.srt (by rw [← ha]; exact h2)
    rw [show t * (2 * bs) + C.length = N by omega] at this
    exact this
theorem MgSt.none {g cap N : Nat} {G : Heaplet} {R : List Rw} {bs t a m : Nat} {w : World} (h : MgSt g cap N G R bs a w) (ha : a = t * (2 * bs)) (hm : a + bs = m) (hmN : N ≤ m) : BkSt g cap N G R (2 * bs) N w := by
  obtain ⟨R', h, h1, h2, h3, h4⟩ := h
  exact ⟨R', h, h1, Blk.rest (t := t) (by rw [← ha]; exact h2) h3 (by omega), h4⟩
set_option maxRecDepth 100000 in
set_option maxHeartbeats 8000000 in
theorem stable_any {R : List Rw} {h G : Heaplet} {w : World} {g cap N : Nat} (hv : RwSl (.slice (some ⟨g, 0, none⟩) N cap) R h) (s : Sat w (h ++ G)) (hN : R.length = N) (hl : N ≤ 100000) :
    Calls Tryz.prog 75 #[.slice (some ⟨g, 0, none⟩) N cap, .int .i64 (N : Int), rcF] w (SwRet g N cap G fun R' => R'.Pairwise (Le rk) ∧ Sd rk rs R R' ∧ R'.length = N) := by
  have HS : Hid (BkSt g cap N G R 20 0 w) := Lib.hid ⟨R, h, hN, Blk.zero _ _, Sd.refl R, hv, s⟩
  clear hv s hN
  go_enter Tryz.func75, Tryz.ntmps75
  go_upto_block 0 with (fail)
  go_cut [7, 8] (fun v7 v8 wx => ∃ t a : Nat, v7 = .int .i64 (a : Int) ∧ a = t * 20 ∧ a ≤ N ∧ N < a + 20 ∧ BkSt g cap N G R 20 (t * 20) wx)
  case first =>
    go_wp2_with fail
    go_loopw [7, 8] (fun v7 v8 wr => ∃ t a b : Nat, v7 = .int .i64 (a : Int) ∧ v8 = .int .i64 (b : Int) ∧ a = t * 20 ∧ a + 20 = b ∧ a ≤ N ∧ BkSt g cap N G R 20 (t * 20) wr) (fun _ v8 _ => 400000 - (RowKit.intOf v8).toNat)
    case atStart => exact ⟨0, 0, 20, rfl, rfl, rfl, rfl, Nat.zero_le _, by rw [Nat.zero_mul]; exact HS.out⟩
    case round =>
      obtain ⟨t, a, b, rfl, rfl, ha, hb, haN, hst⟩ := hrel
      by_cases hbN : b ≤ N
      · have l1 : (b : Int) ≤ (N : Int) := by omega
        have HIN := Lib.hid (hst.ins (a := a) (b := b) ha (by omega) (by omega) hbN hl)
        obtain ⟨b2, hb2⟩ : ∃ b2, b + 20 = b2 := ⟨_, rfl⟩
        have hb6 : b2 ≤ 1000000 := by omega
        have HB2 := Lib.hid (show b = (t + 1) * 20 ∧ b ≤ N ∧ b < b2 ∧ b2 ≤ 200000 by omega)
        clear hst ha hb haN hbN
        obtain ⟨s1, s2⟩ := t20 hb2 hb6
        go_wp2_with (go_at_call 92; refine (HIN.out).mono ?_; rintro e w4 ⟨rfl, hst⟩; have FIN := Lib.hid hst; clear hst)
        clear s1 s2
        exact ⟨⟨t + 1, b, b2, rfl, rfl, HB2.out.1, hb2, HB2.out.2.1, by rw [← HB2.out.1]; exact FIN.out⟩, by have := HB2.out; simp only [RowKit.intOf]; omega⟩
      · have l1 : ((b : Int) ≤ (N : Int)) = False := eq_false (by omega)
        have FIN := Lib.hid (And.intro ha (And.intro haN (And.intro (show N < a + 20 by omega) hst)))
        clear ha hb haN hbN hst
        go_wp2_with fail
        go_meet
        exact ⟨t, a, rfl, FIN.out⟩
  case rest =>
    obtain ⟨t, a, rfl, ha, haN, hNa, hst⟩ := hcut
    have HIN := Lib.hid (hst.ins (a := a) (b := N) ha haN (by omega) (Nat.le_refl _) hl)
    clear hst ha haN hNa HS
    go_upto_block 2 with (go_at_call 92; refine (HIN.out).mono ?_; rintro e w4 ⟨rfl, hst⟩; have HST := Lib.hid hst; clear hst)
    clear HIN
    go_wp2_with fail
    go_loopw [6] (fun v6 wr => ∃ bs : Nat, v6 = .int .i64 (bs : Int) ∧ 0 < bs ∧ bs ≤ 200000 ∧ BkSt g cap N G R bs N wr) (fun v6 _ => 400000 - (RowKit.intOf v6).toNat)
    case atStart => exact ⟨20, rfl, by omega, by omega, HST.out⟩
    case round =>
      clear HST
      obtain ⟨bs, rfl, hbs, hb2, hst⟩ := hrel
      by_cases hlt : bs < N
      · have l1 : (bs : Int) < (N : Int) := by omega
        have HST := Lib.hid (MgSt.start hst)
        obtain ⟨b2, hbb⟩ : ∃ b2, 2 * bs = b2 := ⟨_, rfl⟩
        have hb6 : b2 ≤ 1000000 := by omega
        clear hst
        obtain ⟨s1, s2⟩ := dbl_at hbb hb6
        go_upto_block 4 with (fail)
        clear s1 s2
        go_cut [7] (fun v7 wx => ∃ t a : Nat, v7 = .int .i64 (a : Int) ∧ a = t * (2 * bs) ∧ a ≤ N ∧ N < a + b2 ∧ MgSt g cap N G R bs a wx)
        case first =>
          go_wp2_with fail
          go_loopw [7, 8] (fun v7 v8 wr => ∃ t a b : Nat, v7 = .int .i64 (a : Int) ∧ v8 = .int .i64 (b : Int) ∧ a = t * (2 * bs) ∧ a + b2 = b ∧ a ≤ N ∧ MgSt g cap N G R bs a wr) (fun _ v8 _ => 900000 - (RowKit.intOf v8).toNat)
          case atStart => exact ⟨0, 0, b2, rfl, rfl, by rw [Nat.zero_mul], by omega, Nat.zero_le _, HST.out⟩
          case round =>
            obtain ⟨t, a, b, rfl, rfl, ha, hb, haN, hst⟩ := hrel
            by_cases hbN : b ≤ N
            · have l2 : (b : Int) ≤ (N : Int) := by omega
              obtain ⟨m, hm⟩ : ∃ m, a + bs = m := ⟨_, rfl⟩
              obtain ⟨b3, hb3⟩ : ∃ b3, b + b2 = b3 := ⟨_, rfl⟩
              have HIN := Lib.hid (MgSt.full (t := t) hst ha hm (by omega) hbN hbs hl)
              have hm6 : m ≤ 1000000 := by omega
              have hb36 : b3 ≤ 1000000 := by omega
              have e5 : (t + 1) * (2 * bs) = t * (2 * bs) + 2 * bs := Nat.succ_mul _ _
              have HB2 := Lib.hid (show b = (t + 1) * (2 * bs) ∧ b ≤ N ∧ b < b3 ∧ b3 ≤ 500000 by omega)
              clear hst ha hb haN hbN e5
              obtain ⟨s1, s2⟩ := sum_at hm hm6
              obtain ⟨s3, s4⟩ := dbl_at hbb hb6
              obtain ⟨s5, s6⟩ := sum_at hb3 hb36
              go_wp2_with (go_at_call 93; refine (HIN.out).mono ?_; rintro e w4 ⟨rfl, hst⟩; have FIN := Lib.hid hst; clear hst)
              clear s1 s2 s3 s4 s5 s6
              exact ⟨⟨t + 1, b, b3, rfl, rfl, HB2.out.1, hb3, HB2.out.2.1, FIN.out⟩, by have := HB2.out; simp only [RowKit.intOf]; omega⟩
            · have l2 : ((b : Int) ≤ (N : Int)) = False := eq_false (by omega)
              have FIN := Lib.hid (And.intro ha (And.intro haN (And.intro (show N < a + b2 by omega) hst)))
              clear ha hb haN hbN hst
              go_wp2_with fail
              go_meet
              exact ⟨t, a, rfl, FIN.out⟩
        case rest =>
          obtain ⟨t, a, rfl, ha, haN, hNa, hst⟩ := hcut
          obtain ⟨m, hm⟩ : ∃ m, a + bs = m := ⟨_, rfl⟩
          have hm6 : m ≤ 1000000 := by omega
          have HB2 := Lib.hid (show 0 < b2 ∧ b2 ≤ 200000 ∧ bs < b2 by omega)
          by_cases hmN : m < N
          · have l2 : (m : Int) < (N : Int) := by omega
            have HIN := Lib.hid (MgSt.part (t := t) hst ha hm hmN (by omega) hbs hl)
            rw [hbb] at HIN
            clear hst ha haN hNa HST
            obtain ⟨s1, s2⟩ := sum_at hm hm6
            obtain ⟨s3, s4⟩ := dbl2_at hbb hb6
            go_wp2_with (go_at_call 93; refine (HIN.out).mono ?_; rintro e w4 ⟨rfl, hst⟩; have FIN := Lib.hid hst; clear hst)
            clear s1 s2 s3 s4
            exact ⟨⟨b2, rfl, HB2.out.1, HB2.out.2.1, FIN.out⟩, by have := HB2.out; simp only [RowKit.intOf]; omega⟩
          · have l2 : ((m : Int) < (N : Int)) = False := eq_false (by omega)
            have FIN := Lib.hid (MgSt.none (t := t) hst ha hm (by omega))
            rw [hbb] at FIN
            clear hst ha haN hNa HST
            obtain ⟨s1, s2⟩ := sum_at hm hm6
            obtain ⟨s3, s4⟩ := dbl2_at hbb hb6
            go_wp2_with fail
            clear s1 s2 s3 s4
            exact ⟨⟨b2, rfl, HB2.out.1, HB2.out.2.1, FIN.out⟩, by have := HB2.out; simp only [RowKit.intOf]; omega⟩
      · have l1 : ((bs : Int) < (N : Int)) = False := eq_false (by omega)
        obtain ⟨R', h', h1, h2, h3, h4, h5⟩ := hst
        have FIN := Lib.hid (And.intro (And.intro (h2.all h1 (by omega)) (And.intro h3 h1)) (And.intro h4 h5))
        clear h1 h2 h3 h4 h5
        go_wp2_with fail
        refine bodyPost_end (results_none rfl _ _ _) rfl ?_
        exact ⟨R', h', rfl, FIN.out.1, FIN.out.2⟩
theorem sortS_any {R : List Rw} {h G : Heaplet} {w : World} {g cap N : Nat} (hv : RwSl (.slice (some ⟨g, 0, none⟩) N cap) R h) (s : Sat w (h ++ G)) (hN : R.length = N) (hl : N ≤ 100000) :
    Calls Tryz.prog 40 #[.slice (some ⟨g, 0, none⟩) N cap, rcF] w (SwRet g N cap G fun R' => R'.Pairwise (Le rk) ∧ Sd rk rs R R' ∧ R'.length = N) := by
  have HI := Lib.hid (stable_any hv s hN hl)
  clear hv s hN hl
  go_enter Tryz.func40, Tryz.ntmps40
  go_wp2_with (go_at_call 75; refine (HI.out).mono ?_; rintro e w4 ⟨R', h', rfl, hp, hv, hs⟩; have FIN := Lib.hid (And.intro hp (And.intro hv hs)); clear hp hv hs)
  refine bodyPost_end (results_none rfl _ _ _) rfl ?_
  exact ⟨R', h', rfl, FIN.out.1, FIN.out.2.1, FIN.out.2.2⟩
end Go.Proofs.YtficgjklagnbjaaGreat
