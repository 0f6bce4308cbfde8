/- Entries and names: isSlot, plain, txn, Or, compare, Less walked. Conditions: none. -/
import Derived.Test.YtceegnfjdgjomaaPa1
namespace Go.Proofs.Ytceegnfjdgjomaa
open Go Go.MapKept Go.RowKit Go.Proofs Go.Sort

set_option maxRecDepth 100000 in
theorem isSlot_any (u : Bool) (d : ByteArray) (w : World) : Calls Try.prog 31 #[.agg #[.bool u, kS d]] w (Pur (.bool (slotM u d)) w) := by
  unfold slotM Pur
  by_cases h1 : (d.size : Int) ≤ 200
  · cases u <;> cases h2 : (d.toList == [])
    all_goals
      go_enter Try.func31, Try.ntmps31
      go_wp2_with fail
      go_ret
      exact ⟨by simp [h1], Grown.alloc w _⟩
  · have h1' : ((d.size : Int) ≤ 200) = False := by simpa using h1
    go_enter Try.func31, Try.ntmps31
    go_wp2_with fail
    go_ret
    exact ⟨by simp [h1], Grown.alloc w _⟩
set_option maxRecDepth 100000 in
theorem txn_any (n : Int) (w : World) : Calls Try.prog 19 #[.int .i64 n] w (Pur (tV ⟨1, 1, n⟩) w) := by
  unfold Pur
  have hs := (sat_all w).new (.cells #[kI 1, kI 1, kI n] 23)
  have c0 : (w.alloc (.cells #[kI 1, kI 1, kI n] 23)).cell? ⟨w.heap.size, 0, none⟩ = some (kI 1) := by rw [cell_of hs.h0]; rfl
  have c1 : (w.alloc (.cells #[kI 1, kI 1, kI n] 23)).cell? ⟨w.heap.size, 1, none⟩ = some (kI 1) := by rw [cell_of hs.h0]; rfl
  have c2 : (w.alloc (.cells #[kI 1, kI 1, kI n] 23)).cell? ⟨w.heap.size, 2, none⟩ = some (kI n) := by rw [cell_of hs.h0]; rfl
  go_enter Try.func19, Try.ntmps19
  go_wp2_with fail
  refine bodyPost_ret ?_ rfl ⟨rfl, Grown.alloc w _⟩
  simp [results, Try.results19, go_sem, c0, c1, c2]
/-- The first that isn't zero. -/
def or3 (a b c : Int) : Int := if a ≠ 0 then a else if b ≠ 0 then b else c
set_option maxRecDepth 100000 in
theorem or3_any (g : Nat) (a b c : Int) (L cap : Nat) (hL : L = 3) (w : World) (h0 : w.cell? ⟨g, 0, none⟩ = some (kI a)) (h1 : w.cell? ⟨g, 1, none⟩ = some (kI b)) (h2 : w.cell? ⟨g, 2, none⟩ = some (kI c)) :
    Calls Try.prog 36 #[.slice (some ⟨g, 0, none⟩) L cap] w (Ret (.int .i64 (or3 a b c)) (Same w)) := by
  have HL := Lib.hid hL
  clear hL
  go_enter Try.func36, Try.ntmps36
  go_wp2_with fail
  go_loopw [8] (fun v wr => ∃ r : Nat, r ≤ 3 ∧ v = .int .i64 r ∧ wr = w ∧ (0 < r → a = 0) ∧ (1 < r → b = 0) ∧ (2 < r → c = 0)) (fun v _ => 10 - (RowKit.intOf v).toNat)
  case atStart => exact ⟨0, by omega, rfl, rfl, by omega, by omega, by omega⟩
  case round =>
    obtain ⟨r, hr, rfl, rfl, ha, hb, hc⟩ := hrel
    have hL := HL.out
    by_cases r3 : r = 3
    · subst r3
      have hlt : ¬ ((3 : Int) < (L : Int)) := by omega
      have hlt2 : (L : Int) = 3 := by omega
      clear hL
      obtain rfl := ha (by omega)
      obtain rfl := hb (by omega)
      obtain rfl := hc (by omega)
      clear ha hb hc
      go_wp2_with fail
      go_ret
      exact ⟨by simp [or3], rfl⟩
    · have hlt : r = 0 ∨ r = 1 ∨ r = 2 := by omega
      have k0 : (0 : Int) < (L : Int) := by omega
      have k1 : (1 : Int) < (L : Int) := by omega
      have k2 : (2 : Int) < (L : Int) := by omega
      have m0 : 0 < L := by omega
      have m1 : 1 < L := by omega
      have m2 : 2 < L := by omega
      clear hL r3
      rcases hlt with rfl | rfl | rfl
      · by_cases hz : a = 0
        · have hzb : (a != 0) = false := by simpa using hz
          clear ha hb hc
          go_wp2_with fail
          go_roundw
          case rel => exact ⟨1, by omega, rfl, (by first | rfl | trivial), fun _ => hz, by omega, by omega⟩
          case measure => simp [RowKit.intOf]
        · have hzb : (a != 0) = true := by simpa using hz
          clear ha hb hc
          go_wp2_with fail
          go_ret
          exact ⟨by simp [or3, hz], rfl⟩
      · have ha := ha (by omega)
        by_cases hz : b = 0
        · have hzb : (b != 0) = false := by simpa using hz
          clear hb hc
          go_wp2_with fail
          go_roundw
          case rel => exact ⟨2, by omega, rfl, (by first | rfl | trivial), fun _ => ha, fun _ => hz, by omega⟩
          case measure => simp [RowKit.intOf]
        · have hzb : (b != 0) = true := by simpa using hz
          clear hb hc
          go_wp2_with fail
          go_ret
          exact ⟨by simp [or3, hz, ha], rfl⟩
      · have ha := ha (by omega)
        have hb := hb (by omega)
        by_cases hz : c = 0
        · have hzb : (c != 0) = false := by simpa using hz
          clear hc
          go_wp2_with fail
          go_roundw
          case rel => exact ⟨3, by omega, rfl, (by first | rfl | trivial), fun _ => ha, fun _ => hb, fun _ => hz⟩
          case measure => simp [RowKit.intOf]
        · have hzb : (c != 0) = true := by simpa using hz
          clear hc
          go_wp2_with fail
          go_ret
          exact ⟨by simp [or3, ha, hb], rfl⟩
end Go.Proofs.Ytceegnfjdgjomaa
