/- TomePrints walked. Conditions: none. -/
import Derived.Test.YtieaamlpadlfeaaGreatDoorTc13
import Derived.Test.YtieaamlpadlfeaaGreatDoorTmL
import Derived.Test.YtieaamlpadlfeaaGreatDoorTmArg
namespace Go.Proofs.YtieaamlpadlfeaaGreatDoor
open Go Go.MapKept Go.RowKit Go.Proofs

attribute [local go_sem] Oper.semAt_some

set_option maxRecDepth 100000 in
set_option maxHeartbeats 4000000 in
theorem prints_walk {F : Heaplet} {w : World} {va : Value} (hL : LibF F) (s : Sat w F) (x : StepM) (hx : FtAt F va x.fates) (hxo : StepOk x) (l : Bs) : Calls Tryz.prog 3 #[stepV x va, kL l] w (Ret (.bool true) (fun W => Sat W F)) := by
  obtain ⟨a1, c1, rfl, -⟩ := id hx
  have s2 := s.new (stepO x.kind x.client x.up x.n (.slice a1 x.fates.length c1) x.call.kind x.call.page x.call.slot x.call.data)
  obtain ⟨A, hA⟩ : ∃ A, w.heap.size = A := ⟨_, rfl⟩
  rw [hA] at s2
  obtain ⟨G, hG⟩ : ∃ G, HItem.blk A (stepO x.kind x.client x.up x.n (.slice a1 x.fates.length c1) x.call.kind x.call.page x.call.slot x.call.data) :: F = G := ⟨_, rfl⟩
  rw [hG] at s2
  have hGF : ∀ W, Sat W G → Sat W F := fun W hW => by rw [← hG] at hW; exact hW.tail
  have HGF := Lib.hid hGF
  have HLG : Hid (LibF G) := Lib.hid (hL.mono hGF)
  have HXC : Hid (∀ W, Sat W G → W.cell? ⟨A, 0, none⟩ = some (kI x.kind) ∧ W.cell? ⟨A, 1, none⟩ = some (kI x.client) ∧ W.cell? ⟨A, 2, none⟩ = some (.bool x.up) ∧ W.cell? ⟨A, 3, none⟩ = some (kI x.n) ∧ W.cell? ⟨A, 4, none⟩ = some (.slice a1 x.fates.length c1) ∧ W.cell? ⟨A, 5, none⟩ = some (kI x.call.kind) ∧ W.cell? ⟨A, 6, none⟩ = some (kI x.call.page) ∧ W.cell? ⟨A, 7, none⟩ = some (kI x.call.slot) ∧ W.cell? ⟨A, 8, none⟩ = some (kL x.call.data)) := Lib.hid (fun W hW => by
    rw [← hG] at hW
    exact nine_of hW)
  have HFX := Lib.hid (hx.mono hGF)
  have HAW := Lib.hid (awake_any HLG.out s2)
  have HGX : Hid (∀ W, Sat W G → Calls Tryz.prog 5 #[stepV x (.slice a1 x.fates.length c1)] W (Ret (.bool (decide (4096 < x.call.data.length ∨ 100 < x.fates.length))) (fun W => Sat W G))) := Lib.hid (fun W hW => great_any hW x HFX.out)
  obtain ⟨gx, hgx⟩ : ∃ gx, decide (4096 < x.call.data.length ∨ 100 < x.fates.length) = gx := ⟨_, rfl⟩
  rw [hgx] at HGX
  have HXO := Lib.hid hxo
  clear hL s s2 hx hxo hG hGF
  cases gx with
  | true =>
    clear hgx
    go_enter Tryz.func3, Tryz.ntmps3
    go_wp2_with (first
      | (go_at_call 5; (with_reducible refine (HGX.out _ T1.out).mono ?_); rintro e w2 ⟨rfl, h2⟩; have T2 := Lib.hid h2; clear h2)
      | (go_at_call 4; refine (HAW.out).mono ?_; rintro e w1 ⟨rfl, h1⟩; have T1 := Lib.hid h1; obtain ⟨x0, x1, x2, x3, x4, x5, x6, x7, x8⟩ := HXC.out _ h1; clear h1))
    go_ret
    exact ⟨rfl, HGF.out _ T2.out⟩
  | false =>
    have hg := of_decide_eq_false hgx
    by_cases hll : 8192 < l.length
    · have kl : (8192 : Int) < (l.length : Int) := by omega
      clear hll hg hgx
      go_enter Tryz.func3, Tryz.ntmps3
      go_wp2_with (first
        | (go_at_call 5; (with_reducible refine (HGX.out _ T1.out).mono ?_); rintro e w2 ⟨rfl, h2⟩; have T2 := Lib.hid h2; clear h2)
        | (go_at_call 4; refine (HAW.out).mono ?_; rintro e w1 ⟨rfl, h1⟩; have T1 := Lib.hid h1; obtain ⟨x0, x1, x2, x3, x4, x5, x6, x7, x8⟩ := HXC.out _ h1; clear h1))
      go_ret
      exact ⟨rfl, HGF.out _ T2.out⟩
    have kl : ((8192 : Int) < (l.length : Int)) = False := eq_false (by omega)
    have hfb : x.fates.length ≤ 10000 := by omega
    have hdb : x.call.data.length ≤ 10000 := by omega
    obtain ⟨o, ho⟩ : ∃ o, printS x = o := ⟨_, rfl⟩
    have HP1 : Hid (∀ W, Sat W G → Calls Tryz.prog 6 #[stepV x (.slice a1 x.fates.length c1)] W (PrintRet G o)) := Lib.hid (fun W hW => by
      rw [← ho]
      exact print_at HLG.out hW x HFX.out HXO.out hfb hdb)
    have HP2 : Hid (∀ W, Sat W G → Calls Tryz.prog 7 #[stepV x (.slice a1 x.fates.length c1)] W (PrintRet G o)) := Lib.hid (fun W hW => by
      rw [← ho]
      exact rprint_any hW x HFX.out HXO.out hfb hdb)
    obtain ⟨wl, hwl⟩ : ∃ wl, wordL l = wl := ⟨_, rfl⟩
    have HW1 : Hid (∀ W, Sat W G → Calls Tryz.prog 8 #[kL l] W (Ret (kL wl) (fun W => Sat W G))) := Lib.hid (fun W hW => by rw [← hwl]; exact word_at hW l (by omega))
    have HW2 : Hid (∀ W, Sat W G → Calls Tryz.prog 9 #[kL l] W (Ret (kL wl) (fun W => Sat W G))) := Lib.hid (fun W hW => by rw [← hwl]; exact refWord_any hW l (by omega))
    clear ho hwl hfb hdb hll hg hgx
    go_enter Tryz.func3, Tryz.ntmps3
    go_upto_region 7 with (first
      | (go_at_call 7; (with_reducible refine (HP2.out _ T3.out).mono ?_); rintro e w4 ⟨rfl, h4⟩; have T4 := Lib.hid h4; clear h4)
      | (go_at_call 6; (with_reducible refine (HP1.out _ T2.out).mono ?_); rintro e w3 ⟨rfl, h3⟩; have T3 := Lib.hid h3; obtain ⟨z0, z1, z2, z3, z4, z5, z6, z7, z8⟩ := HXC.out _ h3; clear h3)
      | (go_at_call 5; (with_reducible refine (HGX.out _ T1.out).mono ?_); rintro e w2 ⟨rfl, h2⟩; have T2 := Lib.hid h2; obtain ⟨y0, y1, y2, y3, y4, y5, y6, y7, y8⟩ := HXC.out _ h2; clear h2)
      | (go_at_call 4; refine (HAW.out).mono ?_; rintro e w1 ⟨rfl, h1⟩; have T1 := Lib.hid h1; obtain ⟨x0, x1, x2, x3, x4, x5, x6, x7, x8⟩ := HXC.out _ h1; clear h1))
    go_wp2_with (first
      | (go_at_call 9; (with_reducible refine (HW2.out _ T5.out).mono ?_); rintro e w6 ⟨rfl, h6⟩; have T6 := Lib.hid h6; clear h6)
      | (go_at_call 8; (with_reducible refine (HW1.out _ T4.out).mono ?_); rintro e w5 ⟨rfl, h5⟩; have T5 := Lib.hid h5; clear h5))
    all_goals
      go_ret
      exact ⟨rfl, HGF.out _ T6.out⟩
theorem prints_law {W : World} {x : StepM} {va : Value} (hv : VarsAt W) (h1 : FtAt (allOf W) va x.fates ∧ StepOk x) (c : ByteArray) : Calls Tryz.prog 3 #[stepV x va, .string c] W (Ret (.bool true) (Below W.heap.size W)) := by
  have h : Calls Tryz.prog 3 #[stepV x va, .string ⟨c.data.toList.toArray⟩] W (Ret (.bool true) (fun W' => Sat W' (allOf W))) := prints_walk (libF_all hv) (sat_all W) x h1.1 h1.2 c.data.toList
  rw [ba_mk c] at h
  exact h.mono (fun e w' h => ⟨h.1, h.2.below⟩)
end Go.Proofs.YtieaamlpadlfeaaGreatDoor
