/- The document's numbers: Number walked. Conditions: none. -/
import Derived.Test.YtieaamlpadlfeaaGreatDoorTc1
import Derived.Deep.QuietTactic
import Derived.Lib.ItoaLen
namespace Go.Proofs.YtieaamlpadlfeaaGreatDoor
open Go Go.MapKept Go.RowKit Go.Proofs

attribute [local go_sem] Oper.semAt_some

theorem ba_app (a b : Bs) : ((⟨a.toArray⟩ : ByteArray) ++ ⟨b.toArray⟩) = ⟨(a ++ b).toArray⟩ := by
  have h := ba_mk ((⟨a.toArray⟩ : ByteArray) ++ ⟨b.toArray⟩)
  rw [ByteArray.data_append, Array.toList_append] at h
  exact h.symm
theorem itoa_min : Lib.itoa (-9223372036854775808) = [45, 57, 50, 50, 51, 51, 55, 50, 48, 51, 54, 56, 53, 52, 55, 55, 53, 56, 48, 56] := by
  simp [Lib.itoa, Lib.decDigits]
set_option maxRecDepth 100000 in
theorem ten_at (n : Nat) (h : n < 10) (W : World) : (Instr.slice 9 (.string ⟨#[48, 49, 50, 51, 52, 53, 54, 55, 56, 57]⟩) (some (.int .i64 (n : Int))) (some (.int .i64 ((n : Int) + 1))) none).run Tryz.prog W = .ok (kL [UInt8.ofNat (48 + n)]) W := by
  have h2 : n = 0 ∨ n = 1 ∨ n = 2 ∨ n = 3 ∨ n = 4 ∨ n = 5 ∨ n = 6 ∨ n = 7 ∨ n = 8 ∨ n = 9 := by omega
  rcases h2 with rfl | rfl | rfl | rfl | rfl | rfl | rfl | rfl | rfl | rfl <;> rfl
/-- What a number is as digits: nothing else happens. -/
def QL (l : Bs) (W : World) (e : Ending) (w' : World) : Prop := e = .returned (kL l) ∧ ∃ m, w' = W.drewN m
set_option maxRecDepth 100000 in
set_option maxHeartbeats 4000000 in
theorem rNumber_all (k : Nat) : ∀ (n : Int), I64 n → (n.toNat + (if n < 0 then n.natAbs + 1 else 0)) < k → ∀ W, Calls Tryz.prog 34 #[.int .i64 n] W (QL (Lib.itoa n) W) := by
  induction k with
  | zero => intro n _ h; omega
  | succ k ih =>
    intro n hn hk W
    have hn1 : -9223372036854775808 ≤ n := hn.1
    have hn2 : n ≤ 9223372036854775807 := hn.2
    by_cases hmin : n = -9223372036854775808
    · have e : Lib.itoa n = [45, 57, 50, 50, 51, 51, 55, 50, 48, 51, 54, 56, 53, 52, 55, 55, 53, 56, 48, 56] := by rw [hmin]; exact itoa_min
      have k0 : (n == -9223372036854775808) = true := beq_iff_eq.2 hmin
      rw [e]
      clear hk ih hn hmin e hn1 hn2
      go_enter Tryz.func34, Tryz.ntmps34
      go_wp2_with fail
      go_ret
      exact ⟨rfl, 0, rfl⟩
    have k0 : (n == -9223372036854775808) = false := beq_eq_false_iff_ne.2 hmin
    by_cases hneg : n < 0
    · have HR := Lib.hid (ih (-n) ⟨by omega, by omega⟩ (by rw [if_pos hneg] at hk; rw [if_neg (by omega)]; omega) W)
      have e : Lib.itoa n = 45 :: Lib.itoa (-n) := itoa_neg hneg
      rw [e]
      obtain ⟨L, hL⟩ : ∃ L, Lib.itoa (-n) = L := ⟨_, rfl⟩
      have hl9 : (L.length : Int) ≤ 8388608 := by rw [← hL]; have := Lib.itoa_length_le (-n) (by omega) (by omega); omega
      have hsz : ((⟨L.toArray⟩ : ByteArray).size : Int) ≤ 8388608 := by rw [size_bs]; exact hl9
      rw [hL] at HR ⊢
      have hw1 : IntKind.i64.wrap (-n) = -n := (IntWalk.i64_left _).trans (IntWalk.wrap64_in _ (by omega))
      have hw2 : wrap64 (-n) = -n := IntWalk.wrap64_in _ (by omega)
      clear hk ih hn e hmin hL
      go_enter Tryz.func34, Tryz.ntmps34
      go_wp2_with (go_at_call 34; refine Calls.mono HR.out ?_; intro e w2 h2; obtain ⟨rfl, h3⟩ := h2; obtain ⟨m2, rfl⟩ := h3)
      go_ret
      exact ⟨congrArg (fun q => Ending.returned (.string q)) (ba_app [45] L), m2, rfl⟩
    by_cases h10 : n < 10
    · obtain ⟨m, rfl⟩ : ∃ m : Nat, n = (m : Int) := ⟨n.toNat, by omega⟩
      have e : Lib.itoa (m : Int) = [UInt8.ofNat (48 + m)] := itoa_dig m (by omega)
      rw [e]
      have hd := ten_at m (by omega) W
      generalize UInt8.ofNat (48 + m) = dg at hd ⊢
      have k1 : ((m : Int) < 0) = False := eq_false hneg
      clear hk ih hn e hmin hneg
      go_enter Tryz.func34, Tryz.ntmps34
      go_wp2_with fail
      go_ret
      exact ⟨rfl, 0, rfl⟩
    · obtain ⟨m, rfl⟩ : ∃ m : Nat, n = (m : Int) := ⟨n.toNat, by omega⟩
      have e : Lib.itoa (m : Int) = Lib.itoa ((m : Int) / 10) ++ [UInt8.ofNat (48 + m % 10)] := by
        rw [itoa_more (by omega)]
        congr 3
      have HR := Lib.hid (fun W => ih ((m : Int) / 10) ⟨by omega, by omega⟩ (by rw [if_neg (by omega)] at hk ⊢; omega) W)
      have hd := fun W => ten_at (m % 10) (by omega) W
      rw [show (((m % 10 : Nat)) : Int) = (m : Int) % 10 by omega] at hd
      rw [e]
      generalize UInt8.ofNat (48 + m % 10) = dg at hd ⊢
      obtain ⟨L, hL⟩ : ∃ L, Lib.itoa ((m : Int) / 10) = L := ⟨_, rfl⟩
      have hl9 : (L.length : Int) ≤ 8388608 := by rw [← hL]; have := Lib.itoa_length_le ((m : Int) / 10) (by omega) (by omega); omega
      have hsz : ((⟨L.toArray⟩ : ByteArray).size : Int) ≤ 8388608 := by rw [size_bs]; exact hl9
      rw [hL] at HR ⊢
      have HQ : Hid (∀ q, Calls Tryz.prog 34 #[.int .i64 ((m : Int) / 10)] (W.drewN q) fun e w'' => e = .returned (kL L) ∧ ∃ k, w'' = W.drewN k) := Lib.hid (fun q => (HR.out (W.drewN q)).mono (by
        rintro e w' ⟨rfl, k, rfl⟩
        exact ⟨rfl, q + k, World.drewN_drewN _ _ _⟩))
      clear hL HR
      have k1 : ((m : Int) < 0) = False := eq_false hneg
      have k2 : ((m : Int) < 10) = False := eq_false h10
      have r0 : Int.tmod (m : Int) 10 = (m : Int) % 10 := rfl
      have r1 : Int.tdiv (m : Int) 10 = (m : Int) / 10 := rfl
      have r2 : (0 : Int) ≤ (m : Int) % 10 := by omega
      have r3 : (m : Int) % 10 ≤ 9 := by omega
      have m0 : (0 : Int) ≤ (m : Int) := by omega
      clear hk ih hn e hmin hneg h10
      go_enter Tryz.func34, Tryz.ntmps34
      go_upto_region 7 with (fail)
      go_quiet ((go_at_call 34; with_reducible exact HQ.out _))
      go_wp2_with fail
      go_ret
      exact ⟨congrArg (fun q => Ending.returned (.string q)) (ba_app L [dg]), _, rfl⟩
end Go.Proofs.YtieaamlpadlfeaaGreatDoor
