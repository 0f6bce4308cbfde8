/- TomeReads walked. Conditions: none. -/
import Derived.Test.YtieaamlpadlfeaaDoorTb16
import Derived.Test.YtieaamlpadlfeaaDoorTbS
import Derived.Test.YtieaamlpadlfeaaDoorTc9
import Derived.Test.YtieaamlpadlfeaaDoorTmL
import Derived.Deep.RegionWith
namespace Go.Proofs.YtieaamlpadlfeaaDoor
open Go Go.MapKept Go.RowKit Go.Proofs

attribute [local go_sem] Oper.semAt_some

set_option maxRecDepth 100000 in
set_option maxHeartbeats 4000000 in
theorem reads_walk {F : Heaplet} {w : World} (hL : LibF F) (s : Sat w F) (x y : Bs) : Calls Tryd.prog 3 #[kL x, kL y] w (Ret (.bool true) (fun W => Sat W F)) := by
  have HA := Lib.hid (awake_any hL s)
  have HL := Lib.hid hL
  clear s hL
  by_cases hx : x.length ≤ 8192
  · have kx : ((8192 : Int) < (x.length : Int)) = False := eq_false (by omega)
    by_cases hy : y.length ≤ 8192
    · have ky : ((8192 : Int) < (y.length : Int)) = False := eq_false (by omega)
      obtain ⟨o, ho⟩ : ∃ o, parseR (wordsL x) = o := ⟨_, rfl⟩
      have HBD : Hid (∀ z, o = some z → z.fates.length ≤ 1000000) := Lib.hid (fun z hz => by
        have := parse_fates (ho.trans hz)
        omega)
      have HP : Hid (∀ W, Sat W F → Calls Tryd.prog 8 #[kL x] W (ParseRet F o)) := Lib.hid (fun W hW => by rw [← ho]; exact parse_any HL.out hW x (by omega))
      have HQ : Hid (∀ W K, Sat W K → Calls Tryd.prog 9 #[kL x] W (ParseRet K o)) := Lib.hid (fun W K hW => by rw [← ho]; exact refparse_any hW x (by omega))
      obtain ⟨ts, hts⟩ : ∃ ts, (textS y).getD [] = ts := ⟨_, rfl⟩
      obtain ⟨tc, htc⟩ : ∃ tc : Int, (if (textS y).isSome then 0 else 4) = tc := ⟨_, rfl⟩
      have HT : Hid (∀ W K, LibF K → Sat W K → Calls Tryd.prog 10 #[kL y] W (Ret (.tuple #[kL ts, .int .i64 tc]) (fun W => Sat W K))) := Lib.hid (fun W K hK hW => by rw [← hts, ← htc]; exact text_any hK hW y (by omega))
      have HU : Hid (∀ W K, Sat W K → Calls Tryd.prog 11 #[kL y] W (Ret (.tuple #[kL ts, .int .i64 tc]) (fun W => Sat W K))) := Lib.hid (fun W K hW => by rw [← hts, ← htc]; exact refText_any hW y (by omega))
      clear hx hy ho hts htc
      go_enter Tryd.func3, Tryd.ntmps3
      go_upto_region 6 with (first
        | (go_at_call 8; refine (HP.out _ T1.out).mono ?_; intro e w2 h2; obtain ⟨y1, c1, v1, p1, rfl, hf1, hs2, hd1, hb1⟩ := parse_one HBD.out h2; obtain ⟨a1, n1, rfl, -⟩ := id hf1; have S2 := Lib.hid (hs2.new (stepO y1.kind y1.client y1.up y1.n (.slice a1 y1.fates.length n1) y1.call.kind y1.call.page y1.call.slot y1.call.data)); have HF1 := Lib.hid hf1; have HD1 := Lib.hid (And.intro hd1 hb1); clear h2 hs2 hf1 hd1 hb1)
        | (go_at_call 7; refine (HA.out).mono ?_; rintro e w1 ⟨rfl, h1⟩; have T1 := Lib.hid h1; clear h1))
      clear HP HA T1
      generalize w2.heap.size = A at *
      generalize w2.alloc (stepO y1.kind y1.client y1.up y1.n (.slice a1 y1.fates.length n1) y1.call.kind y1.call.page y1.call.slot y1.call.data) = W2 at *
      obtain ⟨x0, x1, x2, x3, x4, x5, x6, x7, x8⟩ := nine_of S2.out
      go_upto_region 7 with (go_at_call 9; refine (HQ.out _ _ S2.out).mono ?_; intro e w3 h3; obtain ⟨y2, c2, v2, p2, rfl, hf2, hs3, hd2, hb2⟩ := parse_one HBD.out h3; obtain ⟨a2, n2, rfl, -⟩ := id hf2; have S3 := Lib.hid (hs3.new (stepO y2.kind y2.client y2.up y2.n (.slice a2 y2.fates.length n2) y2.call.kind y2.call.page y2.call.slot y2.call.data)); have HF2 := Lib.hid hf2; have HD2 := Lib.hid hd2; clear h3 hs3 hf2 hd2 hb2)
      clear HQ S2 x0 x1 x2 x3 x4 x5 x6 x7 x8
      obtain ⟨rfl, rfl⟩ : y2 = y1 ∧ c2 = c1 := by
        rcases HD1.out.1 with ⟨h1, h2⟩ | ⟨h1, h2, h3⟩ <;> rcases HD2.out with ⟨h4, h5⟩ | ⟨h4, h5, h6⟩
        · rw [h2] at h5
          exact ⟨(Option.some.inj h5).symm, h4.trans h1.symm⟩
        · rw [h2] at h5
          cases h5
        · rw [h2] at h5
          cases h5
        · exact ⟨h6.trans h3.symm, h4.trans h1.symm⟩
      generalize w3.heap.size = B at *
      generalize w3.alloc (stepO y2.kind y2.client y2.up y2.n (.slice a2 y2.fates.length n2) y2.call.kind y2.call.page y2.call.slot y2.call.data) = W3 at *
      obtain ⟨K, hK⟩ : ∃ K, HItem.blk B (stepO y2.kind y2.client y2.up y2.n (.slice a2 y2.fates.length n2) y2.call.kind y2.call.page y2.call.slot y2.call.data) :: (p2 ++ (.blk A (stepO y2.kind y2.client y2.up y2.n (.slice a1 y2.fates.length n1) y2.call.kind y2.call.page y2.call.slot y2.call.data) :: (p1 ++ F))) = K := ⟨_, rfl⟩
      have HLK : Hid (LibF K) := Lib.hid (HL.out.mono (fun W hW => by rw [← hK] at hW; exact hW.tail.right.tail.right))
      have HKF : Hid (∀ W, Sat W K → Sat W F) := Lib.hid (fun W hW => by rw [← hK] at hW; exact hW.tail.right.tail.right)
      have HF1' : Hid (FtAt K (.slice a1 y2.fates.length n1) y2.fates) := Lib.hid (HF1.out.mono (fun W hW => by rw [← hK] at hW; exact hW.tail.right.tail.lft))
      have HF2' : Hid (FtAt K (.slice a2 y2.fates.length n2) y2.fates) := Lib.hid (HF2.out.mono (fun W hW => by rw [← hK] at hW; exact hW.tail.lft))
      have S4 : Hid (Sat W3 K) := Lib.hid (by rw [← hK]; exact S3.out)
      have HC : Hid (∀ W, Sat W K → (W.cell? ⟨A, 0, none⟩ = some (kI y2.kind) ∧ W.cell? ⟨A, 1, none⟩ = some (kI y2.client) ∧ W.cell? ⟨A, 2, none⟩ = some (.bool y2.up) ∧ W.cell? ⟨A, 3, none⟩ = some (kI y2.n) ∧ W.cell? ⟨A, 4, none⟩ = some (.slice a1 y2.fates.length n1) ∧ W.cell? ⟨A, 5, none⟩ = some (kI y2.call.kind) ∧ W.cell? ⟨A, 6, none⟩ = some (kI y2.call.page) ∧ W.cell? ⟨A, 7, none⟩ = some (kI y2.call.slot) ∧ W.cell? ⟨A, 8, none⟩ = some (kL y2.call.data)) ∧
          (W.cell? ⟨B, 0, none⟩ = some (kI y2.kind) ∧ W.cell? ⟨B, 1, none⟩ = some (kI y2.client) ∧ W.cell? ⟨B, 2, none⟩ = some (.bool y2.up) ∧ W.cell? ⟨B, 3, none⟩ = some (kI y2.n) ∧ W.cell? ⟨B, 4, none⟩ = some (.slice a2 y2.fates.length n2) ∧ W.cell? ⟨B, 5, none⟩ = some (kI y2.call.kind) ∧ W.cell? ⟨B, 6, none⟩ = some (kI y2.call.page) ∧ W.cell? ⟨B, 7, none⟩ = some (kI y2.call.slot) ∧ W.cell? ⟨B, 8, none⟩ = some (kL y2.call.data))) := Lib.hid (fun W hW => by
        rw [← hK] at hW
        exact ⟨nine_of hW.tail.right, nine_of hW⟩)
      clear hK HF1 HF2 S3
      have HSM : Hid (∀ W, Sat W K → Calls Tryd.prog 12 #[stepV y2 (.slice a1 y2.fates.length n1), stepV y2 (.slice a2 y2.fates.length n2)] W (Ret (.bool true) (fun W => Sat W K))) := Lib.hid (fun W hW => by
        have h := same_any hW y2 y2 HF1'.out HF2'.out HD1.out.2 HD1.out.2
        rw [decide_eq_true rfl] at h
        exact h)
      clear HD1 HD2 HF1' HF2'
      go_upto_region 9 with (first
        | (go_at_call 11; refine (HU.out _ _ S5.out).mono ?_; rintro e w6 ⟨rfl, h6⟩; have S6 := Lib.hid h6; obtain ⟨⟨x0, x1, x2, x3, x4, x5, x6, x7, x8⟩, z0, z1, z2, z3, z4, z5, z6, z7, z8⟩ := HC.out _ h6; clear h6)
        | (go_at_call 10; refine (HT.out _ _ HLK.out S4.out).mono ?_; rintro e w5 ⟨rfl, h5⟩; have S5 := Lib.hid h5; clear h5))
      clear HT HU
      go_wp2_with (go_at_call 12; (with_reducible refine (HSM.out _ S6.out).mono ?_); rintro e w7 ⟨rfl, h7⟩; have S7 := Lib.hid (HKF.out _ h7); clear h7)
      go_ret
      exact ⟨rfl, S7.out⟩
    · have ky : (8192 : Int) < (y.length : Int) := by omega
      clear hx hy
      go_enter Tryd.func3, Tryd.ntmps3
      go_wp2_with (go_at_call 7; refine (HA.out).mono ?_; rintro e w1 ⟨rfl, h1⟩; have T1 := Lib.hid h1; clear h1)
      go_ret
      exact ⟨rfl, T1.out⟩
  · have kx : (8192 : Int) < (x.length : Int) := by omega
    clear hx
    go_enter Tryd.func3, Tryd.ntmps3
    go_wp2_with (go_at_call 7; refine (HA.out).mono ?_; rintro e w1 ⟨rfl, h1⟩; have T1 := Lib.hid h1; clear h1)
    go_ret
    exact ⟨rfl, T1.out⟩
theorem reads_law {W : World} (hv : VarsAt W) (a b : ByteArray) : Calls Tryd.prog 3 #[.string a, .string b] W (Ret (.bool true) (Below W.heap.size W)) := by
  have h : Calls Tryd.prog 3 #[.string ⟨a.data.toList.toArray⟩, .string ⟨b.data.toList.toArray⟩] W (Ret (.bool true) (fun W' => Sat W' (allOf W))) := reads_walk (libF_all hv) (sat_all W) a.data.toList b.data.toList
  rw [ba_mk a, ba_mk b] at h
  exact h.mono (fun e w' h => ⟨h.1, h.2.below⟩)
end Go.Proofs.YtieaamlpadlfeaaDoor
