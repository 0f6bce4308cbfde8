/- Numbers as bytes, the highest first: high.Put walked. Conditions: none. -/
import Derived.Test.YtgocmnejlbfplaaDoorPg4t
import Derived.Laws.IdiomStrings
namespace Go.Proofs.YtgocmnejlbfplaaDoor
open Go Go.MapKept Go.RowKit Go.Proofs

/-- The bytes of a number, the highest first. -/
def beL (k n : Nat) : List UInt8 := (List.range k).map fun j => UInt8.ofNat (n / 256 ^ (k - 1 - j))
theorem beL_8 (n : Nat) : beL 8 n = be8 n := by simp [beL, be8, List.range_succ]
theorem beL_4 (n : Nat) : beL 4 n = be4 n := by simp [beL, be4, List.range_succ]
theorem beL_len (k n : Nat) : (beL k n).length = k := by simp [beL]
/-- The last i cells are written. -/
def pC (k n i : Nat) : Array Value := ((List.range k).map fun j => Value.int .u8 (if k - i ≤ j then ((n / 256 ^ (k - 1 - j) % 256 : Nat) : Int) else 0)).toArray
theorem pC_size (k n i : Nat) : (pC k n i).size = k := by simp [pC]
theorem pC_at {k n i j : Nat} (h : j < k) : (pC k n i)[j]? = some (Value.int .u8 (if k - i ≤ j then ((n / 256 ^ (k - 1 - j) % 256 : Nat) : Int) else 0)) := by
  unfold pC
  rw [List.getElem?_toArray, List.getElem?_map, List.getElem?_range h]
  rfl
theorem pC_step {k n i : Nat} (h : i < k) : (pC k n i).setIfInBounds (k - 1 - i) (Value.int .u8 ((n / 256 ^ i % 256 : Nat) : Int)) = pC k n (i + 1) := by
  apply Array.ext_getElem?
  intro j
  by_cases hj : j < k
  · by_cases he : j = k - 1 - i
    · subst he
      rw [Array.getElem?_setIfInBounds_self_of_lt (by rw [pC_size]; exact hj), pC_at hj, if_pos (by omega)]
      rw [show k - 1 - (k - 1 - i) = i from by omega]
    · rw [Array.getElem?_setIfInBounds_ne (fun q => he q.symm), pC_at hj, pC_at hj]
      congr 2
      by_cases h2 : k - i ≤ j
      · rw [if_pos h2, if_pos (by omega)]
      · rw [if_neg h2, if_neg (by omega)]
  · rw [Array.getElem?_eq_none (by rw [Array.size_setIfInBounds, pC_size]; omega), Array.getElem?_eq_none (by rw [pC_size]; omega)]
theorem pC_full (k n j : Nat) (h : j < k) : (pC k n k)[j]? = some (Value.int .u8 (((beL k n)[j]'(by rw [beL_len]; exact h)).toNat : Int)) := by
  rw [pC_at h, if_pos (by omega)]
  simp [beL, UInt8.toNat_ofNat']
theorem pC_zero (k n : Nat) : pC k n 0 = Array.replicate k (Value.int .u8 0) := by
  apply Array.ext_getElem?
  intro j
  by_cases hj : j < k
  · rw [pC_at hj, if_neg (by omega), Array.getElem?_replicate, if_pos hj]
  · rw [Array.getElem?_eq_none (by rw [pC_size]; omega), Array.getElem?_eq_none (by simp; omega)]
theorem addr_add' (g j : Nat) : (⟨g, 0, none⟩ : Addr).add j = ⟨g, j, none⟩ := by unfold Addr.add; split <;> simp_all
set_option maxHeartbeats 800000 in
theorem hput_any (n k : Nat) (hk : k = 4 ∨ k = 8) (hn : n < 18446744073709551616) (w : World) : Calls Tryd.prog 58 #[.int .u64 (n : Int), .int .i64 (k : Int)] w (fun e w' => e = .returned (.string ⟨(beL k n).toArray⟩) ∧ Below w.heap.size w w') := by
  have hmk : ∀ w, (Instr.makeSlice 74 (.int .i64 (k : Int)) (.int .i64 (k : Int))).run Tryd.prog w = .ok (.slice (some ⟨w.heap.size, 0, none⟩) k k) (w.alloc (.cells (pC k n 0) 5)) := fun _ => by
    rw [pC_zero]
    rcases hk with rfl | rfl <;> kernel_rfl
  have s0 := (sat_all w).new (.cells (pC k n 0) 5)
  have HS := Lib.hid s0
  have k0 : (1 : Int) ≤ (k : Int) := by omega
  have k8 : (k : Int) ≤ 8 := by omega
  have HN := Lib.hid (And.intro hn hk)
  clear s0 hk hn
  go_enter Tryd.func58, Tryd.ntmps58
  go_wp2_with fail
  go_loopw [10] (fun v10 wr => ∃ i : Nat, i ≤ k ∧ v10 = .int .i64 i ∧ Sat wr (.blk w.heap.size (.cells (pC k n i) 5) :: allOf w)) (fun v10 _ => 256 - (intOf v10).toNat)
  case atStart => exact ⟨0, by omega, rfl, HS.out⟩
  case round =>
    obtain ⟨i, hi, rfl, hs⟩ := hrel
    clear hmk
    have i0 : (0 : Int) ≤ (i : Int) := by omega
    by_cases hlt : i < k
    · have i1 : (i : Int) < (k : Int) := by omega
      obtain ⟨cv, hcv⟩ : ∃ cv, (pC k n i)[k - 1 - i]? = some cv := ⟨_, pC_at (by omega)⟩
      have ck : wr.cell? ⟨w.heap.size, k - 1 - i, none⟩ = some cv := by rw [cell_of hs.h0]; exact hcv
      clear hcv
      have fk : wr.frozen? ⟨w.heap.size, k - 1 - i, none⟩ = false := unfrozen_of hs.h0 _
      have hs2 := hs.setCell (i := k - 1 - i) (Value.int .u8 ((n / 256 ^ i % 256 : Nat) : Int))
      rw [pC_step hlt] at hs2
      have hval : (((n / 256 ^ i % 256 : Nat)) : Int) = (n : Int) / 2 ^ (8 * i) % 256 := by
        have h1 : (256 : Nat) ^ i = 2 ^ (8 * i) := by rw [Nat.pow_mul]
        rw [h1]
        simp
      rw [hval] at hs2
      have HS2 := Lib.hid hs2
      clear hs hs2
      go_wp2_with fail
      exact ⟨⟨i + 1, by omega, by simp, HS2.out⟩, by simp only [intOf]; omega⟩
    · obtain rfl : i = k := by omega
      have i1 : ((i : Int) < (i : Int)) = False := eq_false (by omega)
      have hcv := run_convert_bytes_back (P := Tryd.prog) wr 74 9 5 ⟨w.heap.size, 0, none⟩ i (beL i n) Tryd.underlying74 Tryd.underlying5 Tryd.underlying9 (fun j hj => by
        rw [addr_add', cell_of hs.h0]
        rw [beL_len] at hj
        exact pC_full i n j hj)
      rw [beL_len] at hcv
      have HB := Lib.hid hs.tail.below
      clear hs
      go_wp2_with fail
      go_ret
      exact ⟨rfl, HB.out⟩
theorem getB_snoc (l : List UInt8) (b : UInt8) : getB (l ++ [b]) = getB l * 256 + b.toNat := by simp [getB, List.foldl_append]
theorem getB_lt : ∀ l : List UInt8, getB l < 256 ^ l.length := by
  intro l
  have key : ∀ (r : List UInt8), getB r.reverse < 256 ^ r.length := by
    intro r
    induction r with
    | nil => simp [getB]
    | cons b r ih =>
      rw [List.reverse_cons, getB_snoc, List.length_cons, Nat.pow_succ]
      have := b.toNat_lt
      omega
  have := key l.reverse
  rwa [List.reverse_reverse, List.length_reverse] at this
theorem or_byte {m b : Nat} (hm : m < 72057594037927936) (hb : b < 256) : bits BinOp.or IntKind.u64 ((m : Int) * 256) (IntKind.u64.wrap (b : Int)) = ((m * 256 + b : Nat) : Int) := by
  have w1 : (m : Int) * 256 = ((m * 256 : Nat) : Int) := by omega
  have w2 : IntKind.u64.wrap (b : Int) = (b : Int) := by rw [IntKind.wrap_u64]; omega
  rw [w1, w2]
  unfold bits
  have h1 : (m * 256) ||| b = m * 256 + b := by
    have := Nat.shiftLeft_add_eq_or_of_lt (i := 8) (b := b) (by omega) m
    rw [Nat.shiftLeft_eq] at this
    exact this.symm
  have h2 : (BitVec.ofInt IntKind.u64.bits ((m * 256 : Nat) : Int) ||| BitVec.ofInt IntKind.u64.bits (b : Int)).toNat = m * 256 + b := by
    rw [BitVec.toNat_or, BitVec.ofInt_natCast, BitVec.ofInt_natCast, BitVec.toNat_ofNat, BitVec.toNat_ofNat]
    rw [Nat.mod_eq_of_lt (by show _ < 2 ^ 64; omega), Nat.mod_eq_of_lt (by show _ < 2 ^ 64; omega)]
    exact h1
  show IntKind.u64.wrap (((BitVec.ofInt IntKind.u64.bits ((m * 256 : Nat) : Int) ||| BitVec.ofInt IntKind.u64.bits (b : Int)).toNat : Nat) : Int) = _
  rw [h2, IntKind.wrap_u64]
  omega
theorem hget_any (s : ByteArray) (hs8 : s.size = 8) (w : World) : Calls Tryd.prog 67 #[.string s] w (fun e w' => e = .returned (.int .u64 (getB s.data.toList : Int)) ∧ Below w.heap.size w w') := by
  obtain ⟨l, hl⟩ : ∃ l, s.data.toList = l := ⟨_, rfl⟩
  have hll : l.length = 8 := by rw [← hl, Array.length_toList]; exact hs8
  obtain ⟨cap, hcap⟩ : ∃ cap, grownCap w s.size 0 5 = cap := ⟨_, rfl⟩
  have hcv := run_bytes_of_string (P := Tryd.prog) w 9 74 5 s Tryd.underlying9 Tryd.underlying74 Tryd.underlying5
  rw [hcap, hs8] at hcv
  have s0 := (sat_all w).drew.new (.cells (bytesRow s cap) 5 ((bytesRow s cap).size, (bytesRow s cap).size + 1))
  have hrow : ∀ (j : Nat) (b : UInt8), l[j]? = some b → (bytesRow s cap)[j]? = some (.int .u8 (b.toNat : Int)) := fun j b hj => by
    have hjl := (List.getElem?_eq_some_iff.1 hj).1
    rw [bytesRow_at s cap j (by rw [← Array.length_toList, hl]; exact hjl)]
    rw [← hl, Array.getElem?_toList] at hj
    rw [Array.getElem?_eq_some_iff] at hj
    obtain ⟨_, e⟩ := hj
    rw [e]
  have HS := Lib.hid s0
  have HROW := Lib.hid hrow
  rw [hl]
  clear s0 hrow hl hcap hs8
  generalize hC : bytesRow s cap = C at *
  generalize (C.size, C.size + 1) = mk at *
  clear hC
  go_enter Tryd.func67, Tryd.ntmps67
  go_wp2_with fail
  go_loopw [3, 9] (fun v3 v9 wr => ∃ i : Nat, i ≤ 8 ∧ v9 = .int .i64 i ∧ v3 = .int .u64 (getB (l.take i) : Int) ∧ Sat wr (.blk w.heap.size (.cells C 5 mk) :: allOf w)) (fun _ v9 _ => 256 - (intOf v9).toNat)
  case atStart => exact ⟨0, by omega, rfl, rfl, HS.out⟩
  case round =>
    obtain ⟨i, hi, rfl, rfl, hs⟩ := hrel
    have i0 : (0 : Int) ≤ (i : Int) := by omega
    by_cases hlt : i < 8
    · have i1 : (i : Int) < 8 := by omega
      obtain ⟨b, hb⟩ : ∃ b, l[i]? = some b := ⟨_, List.getElem?_eq_getElem (by omega)⟩
      have ck : wr.cell? ⟨w.heap.size, i, none⟩ = some (.int .u8 (b.toNat : Int)) := by rw [cell_of hs.h0]; exact HROW.out i b hb
      have htk : l.take (i + 1) = l.take i ++ [b] := by rw [List.take_add_one, hb]; rfl
      have HT : Hid (getB (l.take (i + 1)) = getB (l.take i) * 256 + b.toNat) := Lib.hid (by rw [htk, getB_snoc])
      have HSS := Lib.hid hs
      obtain ⟨n, hn⟩ : ∃ n, getB (l.take i) = n := ⟨_, rfl⟩
      rw [hn] at HT ⊢
      have hnl := getB_lt (l.take i)
      rw [hn] at hnl
      have hn7 : n < 72057594037927936 := by
        have h1 : (l.take i).length ≤ 7 := by rw [List.length_take]; omega
        exact Nat.lt_of_lt_of_le hnl (Nat.pow_le_pow_right (by decide) h1)
      have hor := or_byte (b := b.toNat) hn7 b.toNat_lt
      rw [← HT.out] at hor
      have HOR := Lib.hid hor
      clear hs htk hb hnl hor
      go_wp2_with fail
      rw [HOR.out]
      exact ⟨⟨i + 1, by omega, by simp, rfl, HSS.out⟩, by simp only [intOf]; omega⟩
    · obtain rfl : i = 8 := by omega
      have HB := Lib.hid hs.tail.below
      have htl : l.take 8 = l := List.take_of_length_le (by omega)
      rw [htl]
      clear hs
      go_wp2_with fail
      go_ret
      exact ⟨rfl, HB.out⟩
end Go.Proofs.YtgocmnejlbfplaaDoor
