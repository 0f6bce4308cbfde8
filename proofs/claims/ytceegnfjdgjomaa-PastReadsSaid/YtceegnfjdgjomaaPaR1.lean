/- The document's Known, slot, Less, Good walked. Conditions: none. -/
import Derived.Test.YtceegnfjdgjomaaPaVw
import Derived.Test.YtceegnfjdgjomaaPaLess
namespace Go.Proofs.Ytceegnfjdgjomaa
open Go Go.MapKept Go.RowKit Go.Proofs Go.Sort Go.Shelf

set_option maxRecDepth 100000 in
set_option maxHeartbeats 4000000 in
theorem knownR_any (t : Tx) (w : World) : Calls Try.prog 45 #[tV t] w (Pur (.bool (knownM t)) w) := by
  unfold Pur
  have hs := (sat_all w).new (.cells #[kI t.c, kI t.e, kI t.n] 23)
  have c0 : (w.alloc (.cells #[kI t.c, kI t.e, kI t.n] 23)).cell? ⟨w.heap.size, 0, none⟩ = some (kI t.c) := by rw [cell_of hs.h0]; rfl
  have c1 : (w.alloc (.cells #[kI t.c, kI t.e, kI t.n] 23)).cell? ⟨w.heap.size, 1, none⟩ = some (kI t.e) := by rw [cell_of hs.h0]; rfl
  have c2 : (w.alloc (.cells #[kI t.c, kI t.e, kI t.n] 23)).cell? ⟨w.heap.size, 2, none⟩ = some (kI t.n) := by rw [cell_of hs.h0]; rfl
  have HG := Lib.hid (Grown.alloc w (.cells #[kI t.c, kI t.e, kI t.n] 23))
  clear hs
  have hc : (1 ≤ t.c ∧ t.c ≤ 8 ∧ 1 ≤ t.e ∧ t.e ≤ 1073741824 ∧ 1 ≤ t.n ∧ t.n ≤ 1073741824) ∨ (¬ 1 ≤ t.c) ∨ (1 ≤ t.c ∧ ¬ t.c ≤ 8) ∨ (1 ≤ t.c ∧ t.c ≤ 8 ∧ ¬ 1 ≤ t.e) ∨ (1 ≤ t.c ∧ t.c ≤ 8 ∧ 1 ≤ t.e ∧ ¬ t.e ≤ 1073741824) ∨
      (1 ≤ t.c ∧ t.c ≤ 8 ∧ 1 ≤ t.e ∧ t.e ≤ 1073741824 ∧ ¬ 1 ≤ t.n) ∨ (1 ≤ t.c ∧ t.c ≤ 8 ∧ 1 ≤ t.e ∧ t.e ≤ 1073741824 ∧ 1 ≤ t.n ∧ ¬ t.n ≤ 1073741824) := by omega
  rcases hc with ⟨h1, h2, h3, h4, h5, h6⟩ | h1 | ⟨h1, h2⟩ | ⟨h1, h2, h3⟩ | ⟨h1, h2, h3, h4⟩ | ⟨h1, h2, h3, h4, h5⟩ | ⟨h1, h2, h3, h4, h5, h6⟩
  · have e : knownM t = true := by simp [knownM, withinM, h1, h2, h3, h4, h5, h6]
    rw [e]
    clear e
    go_enter Try.func45, Try.ntmps45
    go_wp2_with fail
    go_ret
    exact ⟨rfl, HG.out⟩
  all_goals
    have e : knownM t = false := by simp [knownM, withinM]; omega
    rw [e]
    clear e
    first
    | have q := (eq_false h6)
    | have q := (eq_false h5)
    | have q := (eq_false h4)
    | have q := (eq_false h3)
    | have q := (eq_false h2)
    | have q := (eq_false h1)
    go_enter Try.func45, Try.ntmps45
    go_wp2_with fail
    go_ret
    exact ⟨rfl, HG.out⟩
set_option maxRecDepth 100000 in
theorem slotR_any (u : Bool) (d : ByteArray) (w : World) : Calls Try.prog 46 #[.agg #[.bool u, kS d]] w (Pur (.bool (slotM u d)) w) := by
  unfold slotM Pur
  by_cases h1 : (d.size : Int) ≤ 200
  · cases u <;> cases h2 : (d.toList == [])
    all_goals
      go_enter Try.func46, Try.ntmps46
      go_wp2_with fail
      go_ret
      exact ⟨by simp [h1], Grown.alloc w _⟩
  · have h1' : ((d.size : Int) ≤ 200) = False := by simpa using h1
    go_enter Try.func46, Try.ntmps46
    go_wp2_with fail
    go_ret
    exact ⟨by simp [h1], Grown.alloc w _⟩
set_option maxRecDepth 100000 in
set_option maxHeartbeats 4000000 in
theorem lessR_any (a b : Tx) (w : World) : Calls Try.prog 35 #[tV a, tV b] w (Pur (.bool (lessM a b)) w) := by
  unfold Pur
  have hs := ((sat_all w).new (.cells #[kI a.c, kI a.e, kI a.n] 23)).new (.cells #[kI b.c, kI b.e, kI b.n] 23)
  rw [World.size_alloc] at hs
  have HG := Lib.hid ((Grown.alloc w (.cells #[kI a.c, kI a.e, kI a.n] 23)).trans (Grown.alloc _ (.cells #[kI b.c, kI b.e, kI b.n] 23)))
  have c0 : ((w.alloc (.cells #[kI a.c, kI a.e, kI a.n] 23)).alloc (.cells #[kI b.c, kI b.e, kI b.n] 23)).cell? ⟨w.heap.size, 0, none⟩ = some (kI a.c) := by rw [cell_of hs.h1]; rfl
  have c1 : ((w.alloc (.cells #[kI a.c, kI a.e, kI a.n] 23)).alloc (.cells #[kI b.c, kI b.e, kI b.n] 23)).cell? ⟨w.heap.size, 1, none⟩ = some (kI a.e) := by rw [cell_of hs.h1]; rfl
  have c2 : ((w.alloc (.cells #[kI a.c, kI a.e, kI a.n] 23)).alloc (.cells #[kI b.c, kI b.e, kI b.n] 23)).cell? ⟨w.heap.size, 2, none⟩ = some (kI a.n) := by rw [cell_of hs.h1]; rfl
  have d0 : ((w.alloc (.cells #[kI a.c, kI a.e, kI a.n] 23)).alloc (.cells #[kI b.c, kI b.e, kI b.n] 23)).cell? ⟨w.heap.size + 1, 0, none⟩ = some (kI b.c) := by rw [cell_of hs.h0]; rfl
  have d1 : ((w.alloc (.cells #[kI a.c, kI a.e, kI a.n] 23)).alloc (.cells #[kI b.c, kI b.e, kI b.n] 23)).cell? ⟨w.heap.size + 1, 1, none⟩ = some (kI b.e) := by rw [cell_of hs.h0]; rfl
  have d2 : ((w.alloc (.cells #[kI a.c, kI a.e, kI a.n] 23)).alloc (.cells #[kI b.c, kI b.e, kI b.n] 23)).cell? ⟨w.heap.size + 1, 2, none⟩ = some (kI b.n) := by rw [cell_of hs.h0]; rfl
  clear hs
  have hiff : lessM a b = true ↔ LtT a b := by unfold lessM; rw [decide_eq_true_iff]; exact cmpT_neg a b
  obtain ⟨r, hr⟩ : ∃ r, lessM a b = r := ⟨_, rfl⟩
  rw [hr] at hiff ⊢
  unfold LtT at hiff
  clear hr
  have HI := Lib.hid hiff
  clear hiff
  by_cases h1 : (a.c != b.c) = true
  · have hr : r = decide (a.c < b.c) := by
      have := HI.out
      have h1' : a.c ≠ b.c := by simpa using h1
      rw [Bool.eq_iff_iff, this, decide_eq_true_iff]; omega
    have HR := Lib.hid hr
    clear hr
    go_enter Try.func35, Try.ntmps35
    go_wp2_with fail
    go_ret
    exact ⟨by rw [HR.out]; rfl, HG.out⟩
  · have h1 : (a.c != b.c) = false := by simpa using h1
    by_cases h2 : (a.e != b.e) = true
    · have hr : r = decide (a.e < b.e) := by
        have := HI.out
        have h1' : a.c = b.c := by simpa using h1
        have h2' : a.e ≠ b.e := by simpa using h2
        rw [Bool.eq_iff_iff, this, decide_eq_true_iff]; omega
      have HR := Lib.hid hr
      clear hr
      go_enter Try.func35, Try.ntmps35
      go_wp2_with fail
      go_ret
      exact ⟨by rw [HR.out]; rfl, HG.out⟩
    · have h2 : (a.e != b.e) = false := by simpa using h2
      have hr : r = decide (a.n < b.n) := by
        have := HI.out
        have h1' : a.c = b.c := by simpa using h1
        have h2' : a.e = b.e := by simpa using h2
        rw [Bool.eq_iff_iff, this, decide_eq_true_iff]; omega
      have HR := Lib.hid hr
      clear hr
      go_enter Try.func35, Try.ntmps35
      go_wp2_with fail
      go_ret
      exact ⟨by rw [HR.out]; rfl, HG.out⟩
set_option maxRecDepth 100000 in
theorem eq_sl0 (u : Bool) (d : ByteArray) (w : World) : (binOp .eql 41 (.agg #[.bool u, kS d]) (.agg #[.bool false, kS ⟨#[]⟩])).run Try.prog w = .ok (.bool (!u && d.toList == [])) w := by
  simp [go_sem]
  repeat' split
  all_goals
    simp_all
set_option maxRecDepth 100000 in
set_option maxHeartbeats 8000000 in
theorem goodR_any (x : En) (w : World) : Calls Try.prog 33 #[eV x] w (Pur (.bool (goodM x)) w) := by
  unfold Pur
  have HE : Hid (EnAt (w.alloc (eO x)) w.heap.size x) := Lib.hid (enAt_new w x)
  have HG : Hid (Grown w (w.alloc (eO x))) := Lib.hid (Grown.alloc w _)
  obtain ⟨res, hres0⟩ : ∃ res, goodM x = res := ⟨_, rfl⟩
  rw [hres0]
  have HRES := Lib.hid hres0
  clear hres0
  go_enter Try.func33, Try.ntmps33
  go_upto_region 1 with (fail)
  generalize w.alloc (.cells #[kI x.kind, kI x.t.c, kI x.t.e, kI x.t.n, kI x.lsn, kI x.prev, kI x.page, kI x.slot, .bool x.wu, kS x.wd, .bool x.iu, kS x.idt, kI x.next] 43) = W1 at *
  generalize w.heap.size = g at *
  obtain ⟨hm, hhm⟩ : ∃ hm, headM x = hm := ⟨_, rfl⟩
  have HHM := Lib.hid hhm
  clear hhm
  go_cut [29] from 4 to 29 (fun v wx => v = .bool (!hm) ∧ EnAt wx g x ∧ Grown w wx)
  case first =>
    obtain ⟨e0, e1, e2, e3, e4, e5, _, _, _, _, _, _, _⟩ := HE.out
    go_wp2_with fail
    refine (knownR_any x.t _).mono ?_
    rintro e w2 ⟨rfl, hg2⟩
    obtain ⟨f0, f1, f2, f3, f4, f5, _, _, _, _, _, _, _⟩ := HE.out.grown hg2
    have HE2 := Lib.hid (HE.out.grown hg2)
    have HG2 := Lib.hid (HG.out.trans hg2)
    clear hg2 e0 e1 e2 e3 e4 e5
    have hhm := HHM.out
    unfold headM at hhm
    cases hk : knownM x.t with
    | false =>
      rw [hk, Bool.false_and, Bool.false_and] at hhm
      subst hhm
      clear hk
      go_wp2_with fail
      go_meet
      exact ⟨rfl, HE2.out, HG2.out⟩
    | true =>
      rw [hk, Bool.true_and] at hhm
      clear hk
      have hc : (1 ≤ x.lsn ∧ x.lsn ≤ 1099511627776 ∧ 0 ≤ x.prev ∧ x.prev < x.lsn) ∨ (x.lsn < 1) ∨ (1 ≤ x.lsn ∧ 1099511627776 < x.lsn) ∨ (1 ≤ x.lsn ∧ x.lsn ≤ 1099511627776 ∧ x.prev < 0) ∨ (1 ≤ x.lsn ∧ x.lsn ≤ 1099511627776 ∧ 0 ≤ x.prev ∧ x.lsn ≤ x.prev) := by omega
      rcases hc with ⟨h1, h2, h3, h4⟩ | h1 | ⟨h1, h2⟩ | ⟨h1, h2, h3⟩ | ⟨h1, h2, h3, h4⟩
      · have e : hm = true := by rw [← hhm]; simp [withinM]; omega
        subst e
        clear hhm
        go_wp2_with fail
        go_meet
        exact ⟨by first | rfl | (simp; omega), HE2.out, HG2.out⟩
      all_goals
        have e : hm = false := by rw [← hhm]; simp [withinM]; omega
        subst e
        clear hhm
        go_wp2_with fail
        go_meet
        exact ⟨by first | rfl | (simp; omega), HE2.out, HG2.out⟩
  case rest =>
    clear HE HG
    obtain ⟨rfl, he, hg⟩ := hcut
    have HE := Lib.hid he
    have HG := Lib.hid hg
    clear he hg
    cases hm with
    | false =>
      have e : res = false := by rw [← HRES.out]; unfold goodM; rw [HHM.out]; rfl
      subst e
      go_wp2_with fail
      go_ret
      exact ⟨rfl, HG.out⟩
    | true =>
      have hres : res = (if x.kind = 1 then changeM x && x.next == 0 else if x.kind = 2 then changeM x && withinM x.next 0 x.prev else if x.kind = 3 ∨ x.kind = 4 then bareM x else false) := by rw [← HRES.out]; unfold goodM; rw [HHM.out]; simp
      have hp0 : 0 ≤ x.prev := by
        have h := HHM.out
        unfold headM withinM at h
        simp at h
        omega
      have hkc : ((x.kind == 1) = true ∨ ((x.kind == 1) = false ∧ (x.kind == 2) = true)) ∨ ((x.kind == 1) = false ∧ (x.kind == 2) = false ∧ ((x.kind == 3) = true ∨ ((x.kind == 3) = false ∧ (x.kind == 4) = true))) ∨ ((x.kind == 1) = false ∧ (x.kind == 2) = false ∧ (x.kind == 3) = false ∧ (x.kind == 4) = false) := by
        cases (x.kind == 1) <;> cases (x.kind == 2) <;> cases (x.kind == 3) <;> cases (x.kind == 4) <;> simp
      rcases hkc with hkc | ⟨k1, k2, hkc⟩ | ⟨k1, k2, k3, k4⟩
      · obtain ⟨cb, hcb⟩ : ∃ cb, changeM x = cb := ⟨_, rfl⟩
        rw [hcb] at hres
        have hk12 : (x.kind = 1 ∧ (x.kind == 1) = true ∧ (x.kind == 2) = false) ∨ (x.kind = 2 ∧ (x.kind == 1) = false ∧ (x.kind == 2) = true) := by
          rcases hkc with h | ⟨h, h2⟩
          · have : x.kind = 1 := by simpa using h
            exact .inl ⟨this, h, by rw [this]; rfl⟩
          · have : x.kind = 2 := by simpa using h2
            exact .inr ⟨this, h, h2⟩
        have HCB := Lib.hid hcb
        clear hkc hcb
        have hres2 : (x.kind = 1 → (cb && x.next == 0) = res) ∧ (x.kind = 2 → (cb && withinM x.next 0 x.prev) = res) := by
          constructor
          · intro h; rw [hres, if_pos h]
          · intro h; rw [hres, if_neg (by omega), if_pos h]
        have HR := Lib.hid hres2
        clear hres hres2
        obtain ⟨e0, e1, e2, e3, e4, e5, e6, e7, e8, e9, e10, e11, e12⟩ := HE.out
        rcases hk12 with ⟨hk, k1, k2⟩ | ⟨hk, k1, k2⟩
        all_goals
          have HK := Lib.hid hk
          clear hk
          go_upto_region 6 with (fail)
          go_cut [64] from 35 to 64 (fun v wx => v = .bool (!cb) ∧ EnAt wx g x ∧ Grown w wx)
          case first =>
            have hcb := HCB.out
            unfold changeM at hcb
            have hc : (0 ≤ x.page ∧ x.page ≤ 1023 ∧ 0 ≤ x.slot ∧ x.slot ≤ 31) ∨ (x.page < 0) ∨ (0 ≤ x.page ∧ 1023 < x.page) ∨ (0 ≤ x.page ∧ x.page ≤ 1023 ∧ x.slot < 0) ∨ (0 ≤ x.page ∧ x.page ≤ 1023 ∧ 0 ≤ x.slot ∧ 31 < x.slot) := by omega
            rcases hc with ⟨h1, h2, h3, h4⟩ | h1 | ⟨h1, h2⟩ | ⟨h1, h2, h3⟩ | ⟨h1, h2, h3, h4⟩
            · have e : (slotM x.wu x.wd && slotM x.iu x.idt) = cb := by rw [← hcb]; simp [withinM, h1, h2, h3, h4]
              have q1 : (x.page < 0) = False := eq_false (by omega)
              have q2 : (1023 < x.page) = False := eq_false (by omega)
              have q3 : (x.slot < 0) = False := eq_false (by omega)
              have q4 : (31 < x.slot) = False := eq_false (by omega)
              clear h1 h2 h3 h4
              have hS := Lib.hid (fun w => slotR_any x.wu x.wd w)
              have hT := Lib.hid (fun w => slotR_any x.iu x.idt w)
              obtain ⟨sa, hsa⟩ : ∃ sa, slotM x.wu x.wd = sa := ⟨_, rfl⟩
              obtain ⟨sb, hsb⟩ : ∃ sb, slotM x.iu x.idt = sb := ⟨_, rfl⟩
              rw [hsa] at hS e
              rw [hsb] at hT e
              clear hcb hsa hsb
              cases sa with
              | false =>
                rw [Bool.false_and] at e
                subst e
                go_wp2_with fail
                refine (hS.out _).mono ?_
                rintro e w2 ⟨rfl, hg2⟩
                have FIN := Lib.hid (And.intro (HE.out.grown hg2) (HG.out.trans hg2))
                clear hg2
                go_wp2_with fail
                go_meet
                exact ⟨rfl, FIN.out.1, FIN.out.2⟩
              | true =>
                rw [Bool.true_and] at e
                subst e
                go_wp2_with fail
                refine (hS.out _).mono ?_
                rintro e w2 ⟨rfl, hg2⟩
                have HE2 := Lib.hid (HE.out.grown hg2)
                have HG2 := Lib.hid (HG.out.trans hg2)
                clear hg2 e0 e1 e2 e3 e4 e5 e6 e7 e8 e9 e10 e11 e12
                obtain ⟨e0, e1, e2, e3, e4, e5, e6, e7, e8, e9, e10, e11, e12⟩ := HE2.out
                go_wp2_with fail
                refine (hT.out _).mono ?_
                rintro e w3 ⟨rfl, hg3⟩
                have FIN := Lib.hid (And.intro (HE2.out.grown hg3) (HG2.out.trans hg3))
                clear hg3
                go_wp2_with fail
                go_meet
                exact ⟨rfl, FIN.out.1, FIN.out.2⟩
            all_goals
              have e : cb = false := by rw [← hcb]; simp [withinM]; omega
              subst e
              clear hcb
              go_wp2_with fail
              go_meet
              exact ⟨rfl, HE.out, HG.out⟩
          case rest =>
            clear HE HG e0 e1 e2 e3 e4 e5 e6 e7 e8 e9 e10 e11 e12
            obtain ⟨rfl, he, hg⟩ := hcut
            obtain ⟨e0, e1, e2, e3, e4, e5, e6, e7, e8, e9, e10, e11, e12⟩ := he
            have HG := Lib.hid hg
            clear hg
            cases cb with
            | false =>
              have e : res = false := by
                have h := HR.out
                first
                | rw [← h.1 HK.out]; rfl
                | rw [← h.2 HK.out]; rfl
              subst e
              go_wp2_with fail
              go_ret
              exact ⟨rfl, HG.out⟩
            | true =>
              cases hn : (x.next == 0) with
              | true =>
                have hn0 : x.next = 0 := by simpa using hn
                have e : res = true := by
                  have h := HR.out
                  first
                  | (rw [← h.1 HK.out]; simp [hn0]; done)
                  | (rw [← h.2 HK.out]; simp [hn0, withinM, hp0]; done)
                subst e
                clear hn0
                go_wp2_with fail
                go_ret
                exact ⟨rfl, HG.out⟩
              | false =>
                have hn0 : x.next ≠ 0 := by simpa using hn
                have h1 := HR.out.1
                have h2 := HR.out.2
                first
                | (have e : res = false := by
                     rw [← h1 HK.out]; simp [hn0]
                   subst e
                   clear h1 h2 hn0
                   go_wp2_with fail
                   go_ret
                   exact ⟨rfl, HG.out⟩)
                | (have hv := h2 HK.out
                   clear h1 h2
                   have hc : (0 < x.next ∧ x.next ≤ x.prev) ∨ (0 < x.next ∧ ¬ x.next ≤ x.prev) ∨ (¬ 0 < x.next) := by omega
                   rcases hc with ⟨g1, g2⟩ | ⟨g1, g2⟩ | g1
                   · have e : res = true := by rw [← hv]; simp [withinM]; omega
                     subst e
                     clear hv hn0
                     go_wp2_with fail
                     go_ret
                     exact ⟨rfl, HG.out⟩
                   all_goals
                     have e : res = false := by rw [← hv]; simp [withinM]; omega
                     subst e
                     clear hv hn0
                     go_wp2_with fail
                     go_ret
                     exact ⟨rfl, HG.out⟩)
      · have hn1 : ¬ x.kind = 1 := by simpa using k1
        have hn2 : ¬ x.kind = 2 := by simpa using k2
        have hn3 : x.kind = 3 ∨ x.kind = 4 := by
          rcases hkc with h | h
          · exact .inl (by simpa using h)
          · exact .inr (by simpa using h.2)
        rw [if_neg hn1, if_neg hn2, if_pos hn3] at hres
        clear hn1 hn2 hn3 hp0
        obtain ⟨b1, hb1⟩ : ∃ b, (x.page == 0) = b := ⟨_, rfl⟩
        obtain ⟨b2, hb2⟩ : ∃ b, (x.slot == 0) = b := ⟨_, rfl⟩
        obtain ⟨b3, hb3⟩ : ∃ b, (x.next == 0) = b := ⟨_, rfl⟩
        obtain ⟨b4, hb4⟩ : ∃ b, (!x.wu && x.wd.toList == []) = b := ⟨_, rfl⟩
        obtain ⟨b5, hb5⟩ : ∃ b, (!x.iu && x.idt.toList == []) = b := ⟨_, rfl⟩
        have hbm : bareM x = (b1 && b2 && b3 && b4 && b5) := by
          rw [← hb1, ← hb2, ← hb3, ← hb4, ← hb5]
          unfold bareM
          cases (x.page == 0) <;> cases (x.slot == 0) <;> cases x.wu <;> cases (x.wd.toList == []) <;> cases x.iu <;> cases (x.idt.toList == []) <;> cases (x.next == 0) <;> rfl
        rw [hbm] at hres
        subst hres
        clear hbm
        have hq4 := fun w => eq_sl0 x.wu x.wd w
        have hq5 := fun w => eq_sl0 x.iu x.idt w
        rw [hb4] at hq4
        rw [hb5] at hq5
        clear hb4 hb5
        have HE2 := Lib.hid (HE.out.grown (Grown.alloc wc (.cells #[.bool false, kS ⟨#[]⟩] 41)))
        have HG2 := Lib.hid (HG.out.trans (Grown.alloc _ (.cells #[.bool false, kS ⟨#[]⟩] 41)))
        have hs := (sat_all wc).new (.cells #[.bool false, kS ⟨#[]⟩] 41)
        have c0 : (wc.alloc (.cells #[.bool false, kS ⟨#[]⟩] 41)).cell? ⟨wc.heap.size, 0, none⟩ = some (.bool false) := by rw [cell_of hs.h0]; rfl
        have c1 : (wc.alloc (.cells #[.bool false, kS ⟨#[]⟩] 41)).cell? ⟨wc.heap.size, 1, none⟩ = some (kS ⟨#[]⟩) := by rw [cell_of hs.h0]; rfl
        clear hs
        obtain ⟨e0, e1, e2, e3, e4, e5, e6, e7, e8, e9, e10, e11, e12⟩ := HE.out
        rcases hkc with k3 | ⟨k3, k4⟩
        all_goals
          go_upto_region 12 with (fail)
          generalize wc.alloc (.cells #[.bool false, kS ⟨#[]⟩] 41) = W2 at *
          generalize wc.heap.size = g2 at *
          clear e0 e1 e2 e3 e4 e5 e6 e7 e8 e9 e10 e11 e12
          obtain ⟨e0, e1, e2, e3, e4, e5, e6, e7, e8, e9, e10, e11, e12⟩ := HE2.out
          cases b1 with
          | false =>
            go_wp2_with fail
            go_ret
            exact ⟨by simp, HG2.out⟩
          | true =>
            cases b2 with
            | false =>
              go_wp2_with fail
              go_ret
              exact ⟨by simp, HG2.out⟩
            | true =>
              cases b3 with
              | false =>
                go_wp2_with fail
                go_ret
                exact ⟨by simp, HG2.out⟩
              | true =>
                cases b4
                all_goals
                  go_wp2_with fail
                  go_ret
                  exact ⟨by simp, HG2.out⟩
      · have hn1 : ¬ x.kind = 1 := by simpa using k1
        have hn2 : ¬ x.kind = 2 := by simpa using k2
        have hn3 : ¬ x.kind = 3 := by simpa using k3
        have hn4 : ¬ x.kind = 4 := by simpa using k4
        rw [if_neg hn1, if_neg hn2, if_neg (by omega)] at hres
        subst hres
        obtain ⟨e0, e1, e2, e3, e4, e5, e6, e7, e8, e9, e10, e11, e12⟩ := HE.out
        clear hn1 hn2 hn3 hn4
        go_wp2_with fail
        go_ret
        exact ⟨rfl, HG.out⟩
end Go.Proofs.Ytceegnfjdgjomaa
