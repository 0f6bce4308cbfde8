/- A sector of one byte. Conditions: none. -/
import Derived.Test.YtjkpghhbpcjjiaaPlate8
import Derived.Laws.IdiomStrings
namespace Go.Proofs.Ytjkpghhbpcjjiaa
open Go Go.MapKept Go.RowKit Go.Proofs

/-- A sector of one byte. -/
def fillB (c : UInt8) : ByteArray := ⟨(List.replicate 256 c).toArray⟩
/-- The first k cells are written. -/
def fillC (c : UInt8) (k : Nat) : Array Value := ((List.replicate k (Value.int .u8 (c.toNat : Int))) ++ List.replicate (256 - k) (Value.int .u8 0)).toArray
theorem fillC_step (c : UInt8) (k : Nat) (h : k < 256) : (fillC c k).setIfInBounds k (Value.int .u8 (c.toNat : Int)) = fillC c (k + 1) := by
  unfold fillC
  rw [List.setIfInBounds_toArray]
  congr 1
  rw [List.set_append, List.length_replicate, if_neg (by omega), Nat.sub_self]
  obtain ⟨r, hr⟩ : ∃ r, 256 - k = r + 1 := ⟨256 - k - 1, by omega⟩
  rw [hr, List.replicate_succ, List.set_cons_zero, show 256 - (k + 1) = r from by omega, List.replicate_succ', List.append_assoc]
  rfl
theorem fillC_get (c : UInt8) (k j : Nat) (h : k < 256) (hj : j < 256) : ∃ v, (fillC c k)[j]? = some v := by
  have : (fillC c k).size = 256 := by unfold fillC; simp; omega
  exact ⟨_, Array.getElem?_eq_getElem (by omega)⟩
theorem addr_add (g j : Nat) : (⟨g, 0, none⟩ : Addr).add j = ⟨g, j, none⟩ := by unfold Addr.add; split <;> simp_all
theorem fillC_full (c : UInt8) (j : Nat) (hj : j < 256) : (fillC c 256)[j]? = some (Value.int .u8 (c.toNat : Int)) := by
  unfold fillC
  rw [List.getElem?_toArray, List.getElem?_append_left (by rw [List.length_replicate]; exact hj), List.getElem?_replicate, if_pos hj]
set_option maxHeartbeats 800000 in
theorem filled_any (c : UInt8) (w : World) : Calls Try.prog 14 #[.int .u8 (c.toNat : Int)] w (fun e w' => e = .returned (.string (fillB c)) ∧ Below w.heap.size w w') := by
  have hmk : ∀ w, (Instr.makeSlice 38 (.int .i64 256) (.int .i64 256)).run Try.prog w = .ok (.slice (some ⟨w.heap.size, 0, none⟩) 256 256) (w.alloc (.cells (fillC c 0) 5)) := fun _ => by
    unfold fillC
    kernel_rfl
  have s0 := (sat_all w).new (.cells (fillC c 0) 5)
  have HS := Lib.hid s0
  have hc0 : (0 : Int) ≤ (c.toNat : Int) := by omega
  have hc1 : (c.toNat : Int) < 256 := by have := c.toNat_lt; omega
  clear s0
  go_enter Try.func14, Try.ntmps14
  go_wp2_with fail
  go_loopw [4] (fun i wr => ∃ k : Nat, k ≤ 256 ∧ i = .int .i64 k ∧ Sat wr (.blk w.heap.size (.cells (fillC c k) 5) :: allOf w)) (fun i _ => 256 - (intOf i).toNat)
  case atStart => exact ⟨0, by omega, rfl, HS.out⟩
  case round =>
    obtain ⟨k, hk, rfl, hs⟩ := hrel
    clear hmk
    by_cases hlt : k < 256
    · obtain ⟨v, hv⟩ := fillC_get c k k hlt hlt
      have ck : wr.cell? ⟨w.heap.size, k, none⟩ = some v := by rw [cell_of hs.h0]; exact hv
      have fk : wr.frozen? ⟨w.heap.size, k, none⟩ = false := unfrozen_of hs.h0 k
      have hs2 := hs.setCell (i := k) (Value.int .u8 (c.toNat : Int))
      rw [fillC_step c k hlt] at hs2
      have HS2 := Lib.hid hs2
      have hk0 : (0 : Int) ≤ (k : Int) := by omega
      have hk1 : (k : Int) < 256 := by omega
      clear hs hs2 hv
      go_wp2_with fail
      exact ⟨⟨k + 1, by omega, by simp, HS2.out⟩, by simp only [intOf]; omega⟩
    · have hke : k = 256 := by omega
      subst hke
      have hcv := run_convert_bytes_back (P := Try.prog) wr 38 9 5 ⟨w.heap.size, 0, none⟩ 256 (List.replicate 256 c) Try.underlying38 Try.underlying5 Try.underlying9 (fun j hj => by
        rw [addr_add, cell_of hs.h0]
        rw [List.length_replicate] at hj
        rw [List.getElem_replicate]
        exact fillC_full c j hj)
      rw [List.length_replicate] at hcv
      change _ = Result.ok (Value.string (fillB c)) wr at hcv
      have hb := hs.tail.below
      have HB := Lib.hid hb
      clear hs hb
      go_wp2_with fail
      go_ret
      exact ⟨rfl, HB.out⟩
end Go.Proofs.Ytjkpghhbpcjjiaa
