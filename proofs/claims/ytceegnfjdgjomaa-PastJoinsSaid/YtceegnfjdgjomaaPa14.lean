/- The answers that the document fixes by number: awake walked. Conditions: none. -/
import Derived.Test.YtceegnfjdgjomaaPa13
import Derived.Test.YtceegnfjdgjomaaPa14M
namespace Go.Proofs.Ytceegnfjdgjomaa
open Go Go.MapKept Go.RowKit Go.Proofs Go.Sort Go.Shelf

abbrev awO : Obj := .cells #[kI 1, kI 1, kI 1, kI 1, kI 1, kI 0, kI 5, kI 0, .bool false, kS ⟨#[]⟩, .bool false, kS ⟨#[]⟩, kI 0, kI 1, kI 1, kI 1, kI 2, kI 2, kI 0, kI 3, kI 0, .bool false, kS ⟨#[]⟩, .bool false, kS ⟨#[]⟩, kI 0, kI 3, kI 1, kI 1, kI 1, kI 3, kI 1, kI 0, kI 0, .bool false, kS ⟨#[]⟩, .bool false, kS ⟨#[]⟩, kI 0] 43
theorem aw_sl (g : Nat) : EnSl (.slice (some ⟨g, 0, none⟩) 3 3) awL [.blk g awO] :=
  ⟨rfl, .inr ⟨g, 3, _, rfl, Nat.le_refl _, by unfold maxLen; omega, rfl, rfl, rfl⟩⟩
set_option maxRecDepth 100000 in
set_option maxHeartbeats 4000000 in
theorem awake_any (F : Heaplet) (w : World) (hs : Sat w F) : Calls Try.prog 8 #[] w (Ret (.bool true) (fun w' => Sat w' F)) := by
  have HS := Lib.hid hs
  clear hs
  go_enter Try.func8, Try.ntmps8
  go_wp2_with fail
  refine (txn_any 1 _).mono ?_
  rintro e w1 ⟨rfl, hg1⟩
  have HS1 := Lib.hid (HS.out.grown hg1)
  clear hg1
  go_wp2_with fail
  refine (txn_any 2 _).mono ?_
  rintro e w2 ⟨rfl, hg2⟩
  have HS2 := Lib.hid (HS1.out.grown hg2)
  clear hg2 HS1
  go_wp2_with fail
  refine (txn_any 1 _).mono ?_
  rintro e w3 ⟨rfl, hg3⟩
  have HS3 := Lib.hid ((HS2.out.grown hg3).new awO)
  clear hg3 HS2
  go_upto_region 2 with (fail)
  generalize w3.alloc awO = W1 at *
  generalize w3.heap.size = g at *
  have HRd := Lib.hid (Read_any (.slice (some ⟨g, 0, none⟩) 3 3) awL 10 _ W1 HS3.out (ens_in (aw_sl g) F) (by decide) aw_fit)
  go_wp2_with fail
  refine HRd.out.mono ?_
  rintro e w4 ⟨v', h, rfl, hvw, hs4⟩
  rw [aw_read] at hvw
  obtain ⟨lv, dv, pv, lh, dh, ph, rfl, hlv, hdv, hpv, rfl⟩ := hvw
  obtain ⟨g1, c1, rfl⟩ : ∃ g c, lv = .slice (some ⟨g, 0, none⟩) 1 c := sl_some hlv (by decide)
  obtain ⟨g2, c2, rfl⟩ : ∃ g c, dv = .slice (some ⟨g, 0, none⟩) 1 c := sl_some hdv (by decide)
  obtain ⟨g3, c3, rfl⟩ : ∃ g c, pv = .slice (some ⟨g, 0, none⟩) 2 c := sl_some hpv (by decide)
  have HS5 := Lib.hid (hs4.new (vwO (.slice (some ⟨g1, 0, none⟩) 1 c1) (.slice (some ⟨g2, 0, none⟩) 1 c2) (.slice (some ⟨g3, 0, none⟩) 2 c3)))
  clear hs4 HRd
  go_upto_region 3 with (fail)
  generalize w4.alloc (vwO (.slice (some ⟨g1, 0, none⟩) 1 c1) (.slice (some ⟨g2, 0, none⟩) 1 c2) (.slice (some ⟨g3, 0, none⟩) 2 c3)) = W5 at *
  generalize w4.heap.size = vb at *
  obtain ⟨H0, hH0⟩ : ∃ H0, HItem.blk vb (vwO (.slice (some ⟨g1, 0, none⟩) 1 c1) (.slice (some ⟨g2, 0, none⟩) 1 c2) (.slice (some ⟨g3, 0, none⟩) 2 c3)) :: (lh ++ (dh ++ ph) ++ (.blk g awO :: F)) = H0 := ⟨_, rfl⟩
  have hF0 : ∀ W, Sat W H0 → Sat W F := fun W hW => by rw [← hH0] at hW; exact hW.tail.right.tail
  have hE0 : EnsIn H0 (.slice (some ⟨g, 0, none⟩) 3 3) awL := (ens_in (aw_sl g) F).mono (fun W hW => by rw [← hH0] at hW; exact hW.tail.right)
  have hcell : ∀ W, Sat W H0 → W.cell? ⟨vb, 0, none⟩ = some (.slice (some ⟨g1, 0, none⟩) 1 c1) ∧ W.cell? ⟨vb, 1, none⟩ = some (.slice (some ⟨g2, 0, none⟩) 1 c2) ∧ W.cell? ⟨vb, 2, none⟩ = some (.slice (some ⟨g3, 0, none⟩) 2 c3) ∧ W.cell? ⟨g1, 0, none⟩ = some (kI 1) ∧ W.cell? ⟨g1, 1, none⟩ = some (kI 1) ∧ W.cell? ⟨g1, 2, none⟩ = some (kI 2) ∧ W.cell? ⟨g1, 3, none⟩ = some (kI 2) ∧ W.cell? ⟨g2, 0, none⟩ = some (kI 1) ∧ W.cell? ⟨g2, 1, none⟩ = some (kI 1) ∧ W.cell? ⟨g2, 2, none⟩ = some (kI 1) ∧ W.cell? ⟨g3, 0, none⟩ = some (kI 3) ∧ W.cell? ⟨g3, 1, none⟩ = some (kI 11) := by
    intro W hW
    rw [← hH0] at hW
    have hl := hW.tail
    rw [List.append_assoc, List.append_assoc] at hl
    obtain ⟨a', cap', e, hc1⟩ := sl_cells lC_len hlv hl
    cases e
    obtain ⟨a', cap', e, hc2⟩ := sl_cells tC_len hdv hl.right
    cases e
    obtain ⟨a', cap', e, hc3⟩ := sl_cells pC_len hpv hl.right.right
    cases e
    obtain ⟨_, e, _, k1⟩ := hc1 0 _ rfl
    cases e
    obtain ⟨_, e, _, k2⟩ := hc2 0 _ rfl
    cases e
    obtain ⟨_, e, _, k3⟩ := hc3 0 _ rfl
    cases e
    exact ⟨by rw [cell_of hW.h0]; rfl, by rw [cell_of hW.h0]; rfl, by rw [cell_of hW.h0]; rfl, k1 0 _ rfl, k1 1 _ rfl, k1 2 _ rfl, k1 3 _ rfl, k2 0 _ rfl, k2 1 _ rfl, k2 2 _ rfl, k3 0 _ rfl, k3 1 _ rfl⟩
  rw [hH0] at HS5
  have HQ := Lib.hid HS5.out.drew
  have HC := Lib.hid (hcell _ HQ.out)
  have HCELL := Lib.hid hcell
  have HE0 := Lib.hid hE0
  have HF0 := Lib.hid hF0
  have heq1 : ∀ W, (binOp .eql 36 (.agg #[kI 1, kI 1, kI 2, kI 2]) (.agg #[kI 1, kI 1, kI 2, kI 2])).run Try.prog W = .ok (.bool true) W := fun W => by simp [go_sem]
  have heq2 : ∀ W, (binOp .eql 23 (.agg #[kI 1, kI 1, kI 1]) (.agg #[kI 1, kI 1, kI 1])).run Try.prog W = .ok (.bool true) W := fun W => by simp [go_sem]
  have heq3 : ∀ W, (binOp .eql 38 (.agg #[kI 3, kI 11]) (.agg #[kI 3, kI 11])).run Try.prog W = .ok (.bool true) W := fun W => by simp [go_sem]
  clear hH0 hcell hE0 hF0 hlv hdv hpv HS3
  go_region_held3 (fun w' => w'.cell? ⟨vb, 0, none⟩ = some (.slice (some ⟨g1, 0, none⟩) 1 c1) ∧ w'.cell? ⟨vb, 1, none⟩ = some (.slice (some ⟨g2, 0, none⟩) 1 c2) ∧ w'.cell? ⟨vb, 2, none⟩ = some (.slice (some ⟨g3, 0, none⟩) 2 c3) ∧ w'.cell? ⟨g1, 0, none⟩ = some (kI 1) ∧ w'.cell? ⟨g1, 1, none⟩ = some (kI 1) ∧ w'.cell? ⟨g1, 2, none⟩ = some (kI 2) ∧ w'.cell? ⟨g1, 3, none⟩ = some (kI 2) ∧ w'.cell? ⟨g2, 0, none⟩ = some (kI 1) ∧ w'.cell? ⟨g2, 1, none⟩ = some (kI 1) ∧ w'.cell? ⟨g2, 2, none⟩ = some (kI 1) ∧ w'.cell? ⟨g3, 0, none⟩ = some (kI 3) ∧ w'.cell? ⟨g3, 1, none⟩ = some (kI 11))
    (first | exact HC.out)
    (first
      | (go_at_call 19; refine (txn_any _ _).mono ?_; rintro e w6 ⟨rfl, hg6⟩; have HQ := Lib.hid (HQ.out.grown hg6); have HC := Lib.hid (HCELL.out _ HQ.out))
      | (go_at_call 14; refine (Needed_any _ awL 10 _ _ HQ.out HE0.out (by decide) aw_fit).mono ?_; rintro e w6 ⟨rfl, hq6⟩; have HQ := Lib.hid hq6; have HC := Lib.hid (HCELL.out _ HQ.out); rw [aw_needed])
      | (go_at_call 13; refine (Of_any _ awL awT1 _ _ HQ.out HE0.out (by decide) aw_fit).mono ?_; rintro e w6 ⟨v6, h6, rfl, hv6, hq6⟩; have HQ := Lib.hid hq6.right; have HC := Lib.hid (HCELL.out _ HQ.out); obtain ⟨a6, c6, rfl⟩ := sl_form hv6; rw [aw_of])
      | (go_at_call 9; refine (less_any awT1 awT2 _).mono ?_; rintro e w6 ⟨rfl, hg6⟩; have HQ := Lib.hid (HQ.out.grown hg6); have HC := Lib.hid (HCELL.out _ HQ.out); rw [show decide (cmpT awT1 awT2 < 0) = true from by decide]))
  all_goals
    go_wp2_with fail
    go_ret
    exact ⟨rfl, HF0.out _ HQ.out⟩
end Go.Proofs.Ytceegnfjdgjomaa
