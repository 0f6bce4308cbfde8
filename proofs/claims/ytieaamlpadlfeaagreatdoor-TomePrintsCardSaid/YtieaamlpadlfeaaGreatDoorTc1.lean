/- The document's words and texts: value, hex, Word walked. Conditions: none. -/
import Derived.Test.YtieaamlpadlfeaaGreatDoorTb6
import Derived.Test.YtieaamlpadlfeaaGreatDoorTo7
import Derived.Deep.RegionHeld3
namespace Go.Proofs.YtieaamlpadlfeaaGreatDoor
open Go Go.MapKept Go.RowKit Go.Proofs

attribute [local go_sem] Oper.semAt_some

theorem rvalue_any (c : UInt8) (w : World) : Calls Tryz.prog 65 #[.int .u8 (c.toNat : Int)] w (Ret (.int .i64 (valR c)) (Same w)) := by
  have hc := c.toNat_lt
  unfold valR
  by_cases h1 : 48 ≤ c.toNat
  · have k1 : (48 : Int) ≤ (c.toNat : Int) := by omega
    by_cases h2 : c.toNat ≤ 57
    · have k2 : (c.toNat : Int) ≤ 57 := by omega
      rw [if_pos ⟨h1, h2⟩]
      clear h1 h2
      go_enter Tryz.func65, Tryz.ntmps65
      go_wp2_with fail
      go_ret
      exact ⟨rfl, rfl⟩
    · have k2 : ((c.toNat : Int) ≤ 57) = False := eq_false (by omega)
      rw [if_neg (fun h => h2 h.2)]
      by_cases h3 : 65 ≤ c.toNat
      · have k3 : (65 : Int) ≤ (c.toNat : Int) := by omega
        by_cases h4 : c.toNat ≤ 70
        · have k4 : (c.toNat : Int) ≤ 70 := by omega
          rw [if_pos ⟨h3, h4⟩, show (c.toNat : Int) - 55 = (c.toNat : Int) - 65 + 10 by omega]
          clear h1 h2 h3 h4
          go_enter Tryz.func65, Tryz.ntmps65
          go_wp2_with fail
          go_ret
          exact ⟨rfl, rfl⟩
        · have k4 : ((c.toNat : Int) ≤ 70) = False := eq_false (by omega)
          rw [if_neg (fun h => h4 h.2)]
          clear h1 h2 h3 h4
          go_enter Tryz.func65, Tryz.ntmps65
          go_wp2_with fail
          go_ret
          exact ⟨rfl, rfl⟩
      · have k3 : ((65 : Int) ≤ (c.toNat : Int)) = False := eq_false (by omega)
        rw [if_neg (fun h => h3 h.1)]
        clear h1 h2 h3
        go_enter Tryz.func65, Tryz.ntmps65
        go_wp2_with fail
        go_ret
        exact ⟨rfl, rfl⟩
  · have k1 : ((48 : Int) ≤ (c.toNat : Int)) = False := eq_false (by omega)
    have k3 : ((65 : Int) ≤ (c.toNat : Int)) = False := eq_false (by omega)
    rw [if_neg (fun h => h1 h.1), if_neg (fun h => by omega)]
    clear h1
    go_enter Tryz.func65, Tryz.ntmps65
    go_wp2_with fail
    go_ret
    exact ⟨rfl, rfl⟩
theorem digs_at : ∀ m, m < 16 → ∀ (h : m < (⟨#[48, 49, 50, 51, 52, 53, 54, 55, 56, 57, 65, 66, 67, 68, 69, 70]⟩ : ByteArray).size), (⟨#[48, 49, 50, 51, 52, 53, 54, 55, 56, 57, 65, 66, 67, 68, 69, 70]⟩ : ByteArray)[m]'h = hexB m := by decide +kernel
theorem hex_any (n : Nat) (w : World) : Calls Tryz.prog 22 #[.int .u8 (n : Int)] w (Ret (byV (hexB (n % 16))) (Same w)) := by
  obtain ⟨m, hm⟩ : ∃ m, n % 16 = m := ⟨_, rfl⟩
  have hm2 : m < 16 := by omega
  rw [hm]
  have r0 : Int.tmod (n : Int) 16 = (m : Int) := by rw [← hm]; rfl
  have m0 : (0 : Int) ≤ (m : Int) := by omega
  have m1 : (m : Int) < 16 := by omega
  have hd := digs_at m hm2
  clear hm
  go_enter Tryz.func22, Tryz.ntmps22
  go_wp2_with fail
  go_ret
  exact ⟨rfl, rfl⟩
end Go.Proofs.YtieaamlpadlfeaaGreatDoor
