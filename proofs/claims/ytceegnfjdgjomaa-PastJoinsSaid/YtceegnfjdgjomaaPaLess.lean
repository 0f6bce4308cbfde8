/- PastLess: names stand in one order. Conditions: none. -/
import Derived.Test.YtceegnfjdgjomaaPa14
namespace Go.Proofs.Ytceegnfjdgjomaa
open Go Go.MapKept Go.RowKit Go.Proofs Go.Sort Go.Shelf

/-- Whether a name stands ahead, as Less tells. -/
def lessM (a b : Tx) : Bool := decide (cmpT a b < 0)
theorem less_call (a b : Tx) {r : Bool} (hr : lessM a b = r) (w : World) : Calls Try.prog 9 #[tV a, tV b] w fun e w' => e = .returned (.bool r) ∧ ∃ q os, w' = grow (w.drewN q) os := by
  subst hr
  exact less_any a b w
theorem lessM_yes {a b : Tx} (h : LtT a b) : lessM a b = true := by unfold lessM; rw [decide_eq_true_iff]; exact (cmpT_neg a b).2 h
theorem lessM_no {a b : Tx} (h : ¬ LtT a b) : lessM a b = false := by
  unfold lessM
  rw [decide_eq_false_iff_not]
  exact fun k => h ((cmpT_neg a b).1 k)
set_option maxRecDepth 100000 in
set_option maxHeartbeats 8000000 in
theorem less_walk (a b c : Tx) (Wi : World) : Calls Try.prog 3 #[tV a, tV b, tV c] Wi (Ret (.bool true) (RowKit.Below Wi.heap.size Wi)) := by
  have hs := (((sat_all Wi).new (.cells #[kI a.c, kI a.e, kI a.n] 23)).new (.cells #[kI b.c, kI b.e, kI b.n] 23)).new (.cells #[kI c.c, kI c.e, kI c.n] 23)
  rw [World.size_alloc, World.size_alloc] at hs
  obtain ⟨H0, hH0⟩ : ∃ H0, HItem.blk (Wi.heap.size + 1 + 1) (.cells #[kI c.c, kI c.e, kI c.n] 23) :: .blk (Wi.heap.size + 1) (.cells #[kI b.c, kI b.e, kI b.n] 23) :: .blk Wi.heap.size (.cells #[kI a.c, kI a.e, kI a.n] 23) :: allOf Wi = H0 := ⟨_, rfl⟩
  rw [hH0] at hs
  have hcell : ∀ W, Sat W H0 → W.cell? ⟨Wi.heap.size, 0, none⟩ = some (kI a.c) ∧ W.cell? ⟨Wi.heap.size, 1, none⟩ = some (kI a.e) ∧ W.cell? ⟨Wi.heap.size, 2, none⟩ = some (kI a.n) ∧ W.cell? ⟨Wi.heap.size + 1, 0, none⟩ = some (kI b.c) ∧ W.cell? ⟨Wi.heap.size + 1, 1, none⟩ = some (kI b.e) ∧ W.cell? ⟨Wi.heap.size + 1, 2, none⟩ = some (kI b.n) ∧
      W.cell? ⟨Wi.heap.size + 1 + 1, 0, none⟩ = some (kI c.c) ∧ W.cell? ⟨Wi.heap.size + 1 + 1, 1, none⟩ = some (kI c.e) ∧ W.cell? ⟨Wi.heap.size + 1 + 1, 2, none⟩ = some (kI c.n) := by
    intro W hW
    rw [← hH0] at hW
    exact ⟨by rw [cell_of hW.h2]; rfl, by rw [cell_of hW.h2]; rfl, by rw [cell_of hW.h2]; rfl, by rw [cell_of hW.h1]; rfl, by rw [cell_of hW.h1]; rfl, by rw [cell_of hW.h1]; rfl, by rw [cell_of hW.h0]; rfl, by rw [cell_of hW.h0]; rfl, by rw [cell_of hW.h0]; rfl⟩
  have hbel : ∀ W, Sat W H0 → RowKit.Below Wi.heap.size Wi W := by
    intro W hW
    rw [← hH0] at hW
    exact hW.tail.tail.tail.below
  have HCELL := Lib.hid hcell
  have HBEL := Lib.hid hbel
  have HS := Lib.hid hs
  have HAW := Lib.hid (fun W hW => awake_any H0 W hW)
  clear hH0 hs hcell hbel
  go_enter Try.func3, Try.ntmps3
  go_upto_region 1 with (fail)
  generalize ((Wi.alloc (.cells #[kI a.c, kI a.e, kI a.n] 23)).alloc (.cells #[kI b.c, kI b.e, kI b.n] 23)).alloc (.cells #[kI c.c, kI c.e, kI c.n] 23) = W0 at *
  generalize Wi.heap.size = g at *
  go_wp2_with fail
  refine (HAW.out _ HS.out).mono ?_
  rintro e w1 ⟨rfl, hs1⟩
  have HS1 := Lib.hid hs1
  clear hs1 HAW HS
  go_upto_region 3 with (fail)
  have k0 : ∀ n os, (grow (w1.drewN n) os).cell? ⟨g, 0, none⟩ = some (kI a.c) := fun n os => (HCELL.out _ (HS1.out.grown ⟨n, os, rfl⟩)).1
  have k1 : ∀ n os, (grow (w1.drewN n) os).cell? ⟨g, 1, none⟩ = some (kI a.e) := fun n os => (HCELL.out _ (HS1.out.grown ⟨n, os, rfl⟩)).2.1
  have k2 : ∀ n os, (grow (w1.drewN n) os).cell? ⟨g, 2, none⟩ = some (kI a.n) := fun n os => (HCELL.out _ (HS1.out.grown ⟨n, os, rfl⟩)).2.2.1
  have k3 : ∀ n os, (grow (w1.drewN n) os).cell? ⟨g + 1, 0, none⟩ = some (kI b.c) := fun n os => (HCELL.out _ (HS1.out.grown ⟨n, os, rfl⟩)).2.2.2.1
  have k4 : ∀ n os, (grow (w1.drewN n) os).cell? ⟨g + 1, 1, none⟩ = some (kI b.e) := fun n os => (HCELL.out _ (HS1.out.grown ⟨n, os, rfl⟩)).2.2.2.2.1
  have k5 : ∀ n os, (grow (w1.drewN n) os).cell? ⟨g + 1, 2, none⟩ = some (kI b.n) := fun n os => (HCELL.out _ (HS1.out.grown ⟨n, os, rfl⟩)).2.2.2.2.2.1
  have HSG : Hid (∀ n os, Sat (grow (w1.drewN n) os) H0) := Lib.hid (fun n os => HS1.out.grown ⟨n, os, rfl⟩)
  have Haa := Lib.hid (fun w => less_call a a (lessM_no (ltT_irr a)) w)
  have fin5 : ∀ r : Bool, lessM a b = r → (r = true → lessM b c = false ∨ (lessM b c = true ∧ lessM a c = true)) := by
    intro r hr hr1
    by_cases h : LtT b c
    · refine .inr ⟨lessM_yes h, lessM_yes (ltT_trans ?_ h)⟩
      rw [hr1] at hr
      by_cases hab : LtT a b
      · exact hab
      · rw [lessM_no hab] at hr; cases hr
    · exact .inl (lessM_no h)
  have HF5 := Lib.hid fin5
  have heqt := eq_tx a b
  have mixed : Try.prog.follows .mixedOrders = true := by kernel_rfl
  have hcase : (decide (a = b) = true ∧ lessM a b = false ∧ lessM b a = false) ∨ (decide (a = b) = false ∧ lessM a b = true ∧ lessM b a = false) ∨ (decide (a = b) = false ∧ lessM a b = false ∧ lessM b a = true) := by
    by_cases h1 : LtT a b
    · exact .inr (.inl ⟨by rw [decide_eq_false_iff_not]; intro e; subst e; exact ltT_irr a h1, lessM_yes h1, lessM_no (ltT_asymm h1)⟩)
    · by_cases h2 : LtT b a
      · exact .inr (.inr ⟨by rw [decide_eq_false_iff_not]; intro e; subst e; exact ltT_irr a h2, lessM_no h1, lessM_yes h2⟩)
      · exact .inl ⟨by rw [decide_eq_true_iff]; exact ltT_tri h1 h2, lessM_no h1, lessM_no h2⟩
  clear fin5
  rcases hcase with ⟨he, hab, hba⟩ | ⟨he, hab, hba⟩ | ⟨he, hab, hba⟩
  · rw [he] at heqt
    have Hab := Lib.hid (fun w => less_call a b hab w)
    have Hba := Lib.hid (fun w => less_call b a hba w)
    clear he hab hba HF5
    go_quiet_grown (first | with_reducible exact Calls.grown_of (Haa.out _) | with_reducible exact Calls.grown_of (Hab.out _) | with_reducible exact Calls.grown_of (Hba.out _))
    have HS5 := Lib.hid (HSG.out nq osq)
    clear k0 k1 k2 k3 k4 k5 HSG HS1
    generalize grow (w1.drewN nq) osq = W5 at *
    obtain ⟨m0, m1, m2, m3, m4, m5, m6, m7, m8⟩ := HCELL.out _ HS5.out
    go_wp2_with (go_at_call 9; refine (Hab.out _).mono ?_; rintro e w6 ⟨rfl, q, os, rfl⟩)
    go_ret
    exact ⟨rfl, HBEL.out _ (HS5.out.grown ⟨q, os, rfl⟩)⟩
  · rw [he] at heqt
    have Hab := Lib.hid (fun w => less_call a b hab w)
    have Hba := Lib.hid (fun w => less_call b a hba w)
    have hf5 := HF5.out true hab rfl
    have HF := Lib.hid hf5
    clear he hab hba HF5 hf5
    go_quiet_grown (first | with_reducible exact Calls.grown_of (Haa.out _) | with_reducible exact Calls.grown_of (Hab.out _) | with_reducible exact Calls.grown_of (Hba.out _))
    have HS5 := Lib.hid (HSG.out nq osq)
    clear k0 k1 k2 k3 k4 k5 HSG HS1
    generalize grow (w1.drewN nq) osq = W5 at *
    obtain ⟨m0, m1, m2, m3, m4, m5, m6, m7, m8⟩ := HCELL.out _ HS5.out
    go_wp2_with fail
    refine (Hab.out _).mono ?_
    rintro e w6 ⟨rfl, q, os, rfl⟩
    have HS6 := Lib.hid (HS5.out.grown ⟨q, os, rfl⟩)
    clear m0 m1 m2 m3 m4 m5 m6 m7 m8
    generalize grow (W5.drewN q) os = W6 at *
    obtain ⟨m0, m1, m2, m3, m4, m5, m6, m7, m8⟩ := HCELL.out _ HS6.out
    rcases HF.out with hbc | ⟨hbc, hac⟩
    · have Hbc := Lib.hid (fun w => less_call b c hbc w)
      clear hbc HF
      go_wp2_with fail
      refine (Hbc.out _).mono ?_
      rintro e w7 ⟨rfl, q, os, rfl⟩
      have HS7 := Lib.hid (HS6.out.grown ⟨q, os, rfl⟩)
      clear m0 m1 m2 m3 m4 m5 m6 m7 m8
      generalize grow (W6.drewN q) os = W7 at *
      obtain ⟨m0, m1, m2, m3, m4, m5, m6, m7, m8⟩ := HCELL.out _ HS7.out
      go_wp2_with fail
      go_ret
      exact ⟨rfl, HBEL.out _ HS7.out⟩
    · have Hbc := Lib.hid (fun w => less_call b c hbc w)
      have Hac := Lib.hid (fun w => less_call a c hac w)
      clear hbc hac HF
      go_wp2_with fail
      refine (Hbc.out _).mono ?_
      rintro e w7 ⟨rfl, q, os, rfl⟩
      have HS7 := Lib.hid (HS6.out.grown ⟨q, os, rfl⟩)
      clear m0 m1 m2 m3 m4 m5 m6 m7 m8
      generalize grow (W6.drewN q) os = W7 at *
      obtain ⟨m0, m1, m2, m3, m4, m5, m6, m7, m8⟩ := HCELL.out _ HS7.out
      go_wp2_with fail
      refine (Hac.out _).mono ?_
      rintro e w8 ⟨rfl, q, os, rfl⟩
      have HS8 := Lib.hid (HS7.out.grown ⟨q, os, rfl⟩)
      go_wp2_with fail
      go_ret
      exact ⟨rfl, HBEL.out _ HS8.out⟩
  · rw [he] at heqt
    have Hab := Lib.hid (fun w => less_call a b hab w)
    have Hba := Lib.hid (fun w => less_call b a hba w)
    clear he hab hba HF5
    go_quiet_grown (first | with_reducible exact Calls.grown_of (Haa.out _) | with_reducible exact Calls.grown_of (Hab.out _) | with_reducible exact Calls.grown_of (Hba.out _))
    have HS5 := Lib.hid (HSG.out nq osq)
    clear k0 k1 k2 k3 k4 k5 HSG HS1
    generalize grow (w1.drewN nq) osq = W5 at *
    obtain ⟨m0, m1, m2, m3, m4, m5, m6, m7, m8⟩ := HCELL.out _ HS5.out
    go_wp2_with (go_at_call 9; refine (Hab.out _).mono ?_; rintro e w6 ⟨rfl, q, os, rfl⟩)
    go_ret
    exact ⟨rfl, HBEL.out _ (HS5.out.grown ⟨q, os, rfl⟩)⟩
end Go.Proofs.Ytceegnfjdgjomaa
