/- The answers that the document fixes by number: awake walked. Conditions: none. -/
import Derived.Test.YtieaamlpadlfeaaGreatDoorTb15
import Derived.Test.YtieaamlpadlfeaaGreatDoorTb12
namespace Go.Proofs.YtieaamlpadlfeaaGreatDoor
open Go Go.MapKept Go.RowKit Go.Proofs

attribute [local go_sem] Oper.semAt_some

theorem FtAt.two (g : Nat) (a b : Int) (T : TypeId) (z : Nat × Nat) : FtAt [.blk g (.cells #[kI a, kI b] T z)] (.slice (some ⟨g, 0, none⟩) 2 2) [a, b] := by
  refine ⟨_, 2, rfl, fun i f h => ⟨g, 0, rfl, fun w hw => ?_⟩⟩
  match i, h with
  | 0, h => cases h; rw [cell_of hw.h0]; rfl
  | 1, h => cases h; rw [cell_of hw.h0]; rfl
set_option maxRecDepth 100000 in
set_option maxHeartbeats 4000000 in
theorem awake_any {F : Heaplet} {w : World} (hL : LibF F) (s : Sat w F) : Calls Tryz.prog 4 #[] w (Ret (.bool true) (fun W => Sat W F)) := by
  have HL := Lib.hid hL
  have hpA := parse_any hL s lineA (by decide)
  have eA : parseR (wordsL lineA) = some ⟨1, 2, false, 0, [], ⟨3, 3, 0, [97, 32, 98]⟩⟩ := parse_A
  rw [eA] at hpA
  have HPA := Lib.hid hpA
  have HB1 : Hid (∀ (G : Heaplet) W g, LibF G → Sat W (.blk g (.cells #[kI 1, kI 2] 3) :: G) → Calls Tryz.prog 6 #[.agg #[.int .i64 7, .int .i64 0, .bool false, .int .i64 0, .slice (some ⟨g, 0, none⟩) 2 2, .int .i64 0, .int .i64 0, .int .i64 0, .string ⟨#[]⟩]] W (PrintRet (.blk g (.cells #[kI 1, kI 2] 3) :: G) (some lineB))) := Lib.hid (fun G W g hG hW => by
    rw [← print_B]
    exact print_any (hG.mono (fun W hW => hW.tail)) hW stepB ((FtAt.two g 1 2 3 _).mono (fun w hw => Sat.lft (h := [_]) hw)) (by decide) (by decide) (by decide) ⟨by decide, by decide⟩ (by decide) (by decide) (by decide) (by decide))
  have HC1 : Hid (∀ (G : Heaplet) W, LibF G → Sat W G → Calls Tryz.prog 11 #[kL textC] W (ScriptRet G 0 stepsC 1)) := Lib.hid (fun G W hG hW => by
    have h := script_any hG hW textC (by decide)
    rw [script_C] at h
    exact h)
  have HW1 : Hid (∀ (G : Heaplet) W, Sat W G → Calls Tryz.prog 8 #[kL []] W (Ret (kL [37]) (fun W => Sat W G))) := Lib.hid (fun G W hW => word_at hW [] (by decide))
  have hec : ∀ W, (binOp .eql 24 (callV ⟨3, 3, 0, [97, 32, 98]⟩) (callV ⟨3, 3, 0, [97, 32, 98]⟩)).run Tryz.prog W = .ok (.bool true) W := fun W => by rw [eq_call, decide_eq_true rfl]
  clear hL s hpA eA
  go_enter Tryz.func4, Tryz.ntmps4
  go_upto_region 2 with (go_at_call 10; refine (HPA.out).mono ?_; rintro e w1 ⟨v1, h1, rfl, hf1, s1⟩; obtain ⟨a1, c1, rfl, -⟩ := id hf1; have S1 := Lib.hid (s1.new (stepO 1 2 false 0 (.slice a1 0 c1) 3 3 0 [97, 32, 98])); obtain ⟨y0, y1, y2, y3, y4, y5, y6, y7, y8⟩ := nine_of S1.out; clear s1 hf1)
  clear y0 y1 y2 y3 y4 y5 y6 y7 y8
  generalize w1.alloc (stepO 1 2 false 0 (.slice a1 0 c1) 3 3 0 [97, 32, 98]) = W1 at *
  generalize w1.heap.size = g1 at *
  have HL1 : Hid (LibF (.blk g1 (stepO 1 2 false 0 (.slice a1 0 c1) 3 3 0 [97, 32, 98]) :: (h1 ++ F))) := Lib.hid (HL.out.mono (fun W hW => hW.tail.right))
  have HPR := Lib.hid (HB1.out _ _ _ HL1.out (S1.out.new (.cells #[kI 1, kI 2] 3)))
  clear HB1
  go_upto_region 4 with (first
    | (go_at_call 11; refine (HC1.out _ _ (HL1.out.mono (fun W hW => hW.tail)) S2.out).mono ?_; rintro e w3 ⟨v3, h3, rfl, hst, s3⟩; obtain ⟨a3, c3, rfl, -⟩ := hst; have S3 := Lib.hid s3; clear s3)
    | (go_at_call 6; refine (HPR.out).mono ?_; rintro e w2 ⟨rfl, s2⟩; have S2 := Lib.hid s2; clear s2))
  obtain ⟨y0, y1, y2, y3, y4, y5, y6, y7, y8⟩ := nine_of S3.out.right.tail
  have HWD := Lib.hid (HW1.out _ _ S3.out)
  clear HC1 HPR HW1 S2
  go_wp2_with (go_at_call 8; refine (HWD.out).mono ?_; rintro e w4 ⟨rfl, s4⟩; have S4 := Lib.hid s4.right.tail.tail.right; clear s4)
  go_ret
  exact ⟨rfl, S4.out⟩
end Go.Proofs.YtieaamlpadlfeaaGreatDoor
