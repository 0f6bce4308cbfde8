/- Texts put together: Copy, Pg4t, Tw1, Later. Conditions: none. -/
import Derived.Laws.IdiomCopy
import Derived.Laws.MakeOwn
import Derived.Laws.IdiomStrings
import Derived.Deep.RegionHeld3
import Derived.Deep.AppendLies
import Derived.Test.YtgocmnejlbfplaaGreatDoorTy2
import Derived.Test.YtgocmnejlbfplaaGreatDoorTy6
namespace Go.Proofs.YtgocmnejlbfplaaGreatDoor
open Go

section
variable {P : Program}
theorem run_copy_gen (w : World) (dT sT ty elem : TypeId) (sz b o dLen dCap : Nat) (a : Addr) (sLen sCap : Nat) (cs : List Value)
    (hu : P.underlying dT = some (.slice elem)) (hs : (P.info? elem).map (·.size) = some sz) (hn : cs.length = Nat.min sLen dLen * sz)
    (hsrc : ∀ j v, cs[j]? = some v → w.cell? (a.add j) = some v) (hc : ∀ j, j < cs.length → (w.cell? ⟨b, o + j, none⟩).isSome = true) (hf : ∀ j, j < cs.length → w.frozen? ⟨b, o + j, none⟩ = false) (h1 : ∀ v ∈ cs, v.oneCell' = true) :
    (Builtin.copy_ #[dT, sT] ty #[.slice (some ⟨b, o, none⟩) dLen dCap, .slice (some a) sLen sCap]).run P w = .ok (goInt (Nat.min sLen dLen)) (w.setCells b o cs) := by
  have hl := run_loadCells_list (P := P) w a cs hsrc
  have hst := run_storeCells_cells (P := P) b o cs 0 w (by simpa using hc) (by simpa using hf) h1
  cases hq : P.info? elem with
  | none => simp [hq] at hs
  | some i =>
    have hi : i.size = sz := by simpa [hq] using hs
    rw [hn] at hl
    simp [Builtin.copy_, run_underlying hu, Builtin.lenOf, Builtin.firstCells, sizeOf, typeInfo, hq, hi, hl, hst]
theorem run_copy_zero (w : World) (dT sT ty elem : TypeId) (sz : Nat) (d a : Option Addr) (dLen dCap sLen sCap : Nat) (hu : P.underlying dT = some (.slice elem)) (hs : (P.info? elem).map (·.size) = some sz) (hn : Nat.min sLen dLen = 0) :
    (Builtin.copy_ #[dT, sT] ty #[.slice d dLen dCap, .slice a sLen sCap]).run P w = .ok (goInt 0) w := by
  cases hq : P.info? elem with
  | none => simp [hq] at hs
  | some i =>
    have hl : ∀ (x : Addr), (loadCells x 0).run P w = .ok #[] w := fun x => by simpa using run_loadCells_list (P := P) w x [] (by simp)
    cases d <;> cases a <;> simp [Builtin.copy_, run_underlying hu, Builtin.lenOf, Builtin.firstCells, sizeOf, typeInfo, hq, hn, storeCells, hl]
theorem wpList_copy_run {w : World} {ops : Array Oper} {rest : List Oper} {o : Oper} {a : Act} {Q : Exit → Act → World → Prop} (hgd : o.guard = none) (s x : Operand) (t1 t2 : TypeId)
    (ho : o.op = .call { callee := .builtin .copy, args := #[s, x], argTypes := #[t1, t2] }) (v xv v' : Value) (w' : World) (hs : a.eval s = v) (hx : a.eval x = xv)
    (hr : ∀ ty, (Builtin.copy_ #[t1, t2] ty #[v, xv]).run P w = .ok v' w') (h : wpList P ops Q rest (a.put o.dst v') w') : wpList P ops Q (o :: rest) a w := by
  refine wpList_plain hgd fun K hK => ?_
  unfold Oper.wp
  simp [execOp, ho, resolve, invoke, builtin, hs, hx, hr, Result.andThen]
  exact hK _ _ h
end
end Go.Proofs.YtgocmnejlbfplaaGreatDoor
namespace Go.Proofs.YtgocmnejlbfplaaGreatDoor
open Go Go.MapKept Go.RowKit Go.Proofs

def slC (s : Sl) : List Value := [.bool s.1, kS s.2]
theorem slC_len : ∀ s, (slC s).length = 2 := fun _ => rfl
theorem one_sl : ∀ s, ∀ v ∈ slC s, v.oneCell' = true := by intro s; simp [slC, Value.oneCell']
abbrev SlOwn (v : Value) (L : List Sl) (h : Heaplet) : Prop := SliceIs 59 2 v L.length (L.flatMap slC) h
theorem infoSl : (Tryz.prog.info? 59).map (fun i => (i.zero, i.size, i.bytes)) = some (some (.agg #[.bool false, .string ⟨#[]⟩]), 2, 24) := by kernel_rfl
theorem slAt_own {v : Value} {L : List Sl} {h : Heaplet} (hv : SlOwn v L h) (F : Heaplet) : SlAt (h ++ F) v L := by
  obtain ⟨a, cap, rfl⟩ := sl_form hv
  refine ⟨a, cap, rfl, fun i s hs => ?_⟩
  rcases hv.2 with ⟨e, e0, _⟩ | ⟨g', cap', cur, e, _, _, _, _, rfl⟩
  · have := (List.getElem?_eq_some_iff.1 hs).1
    omega
  · cases e
    refine ⟨g', 0, rfl, fun w hw => ?_⟩
    obtain ⟨a', cap2, e, hc⟩ := sl_cells slC_len hv hw
    cases e
    obtain ⟨g, e, _, hu⟩ := hc i s hs
    cases e
    have u0 := hu 0 _ rfl
    have u1 := hu 1 _ rfl
    rw [Nat.zero_add]
    exact ⟨u0, u1⟩
def noSl : Sl := (false, ⟨#[]⟩)
theorem madeSl (n : Nat) : madeCells #[.bool false, .string ⟨#[]⟩] (n * 2) = ((List.replicate n noSl).flatMap slC).toArray := by
  apply Array.ext_getElem?
  intro j
  by_cases hj : j < n * 2
  · have hi : j / 2 < n := by omega
    have hr : (List.replicate n noSl)[j / 2]? = some noSl := by rw [List.getElem?_replicate, if_pos hi]
    have h2 : j % 2 = 0 ∨ j % 2 = 1 := by omega
    rcases h2 with h2 | h2
    · have := fm_get slC_len _ (j / 2) 0 _ _ hr (show (slC noSl)[0]? = some (.bool false) from rfl)
      rw [show j / 2 * 2 + 0 = j from by omega] at this
      have hR : ((List.replicate n noSl).flatMap slC).toArray[j]? = _ := (List.getElem?_toArray).trans this
      rw [hR]
      simp [madeCells, hj, h2]
    · have := fm_get slC_len _ (j / 2) 1 _ _ hr (show (slC noSl)[1]? = some (kS ⟨#[]⟩) from rfl)
      rw [show j / 2 * 2 + 1 = j from by omega] at this
      have hR : ((List.replicate n noSl).flatMap slC).toArray[j]? = _ := (List.getElem?_toArray).trans this
      rw [hR]
      simp [madeCells, hj, h2]
  · rw [Array.getElem?_eq_none (by simp [madeCells]; omega), Array.getElem?_eq_none (by rw [List.size_toArray, fm_len slC_len, List.length_replicate]; omega)]
theorem sat_cellsTo {T : TypeId} {g : Nat} {G : Heaplet} : ∀ (us : List Value) (o : Nat) (w : World) (c0 : List Value), Sat w (.blk g (.cells c0.toArray T) :: G) → o + us.length ≤ c0.length →
    Sat (w.setCells g o us) (.blk g (.cells (c0.take o ++ (us ++ c0.drop (o + us.length))).toArray T) :: G)
  | [], o, w, c0, hs, _ => by
    show Sat w _
    simpa using hs
  | u :: us, o, w, c0, hs, hle => by
    rw [List.length_cons] at hle
    have hs' := hs.setCell (i := o) u
    rw [show (c0.toArray).setIfInBounds o u = (c0.set o u).toArray from by simp] at hs'
    have ih := sat_cellsTo us (o + 1) _ (c0.set o u) hs' (by simp; omega)
    have e : (c0.set o u).take (o + 1) ++ (us ++ (c0.set o u).drop (o + 1 + us.length)) = c0.take o ++ (u :: us ++ c0.drop (o + (u :: us).length)) := by
      rw [List.take_add_one, List.take_set_of_le (by omega), List.getElem?_set_self (by omega), List.drop_set_of_lt (by omega)]
      simp only [Option.toList_some, List.append_assoc, List.cons_append, List.nil_append, List.length_cons]
      rw [show o + 1 + us.length = o + (us.length + 1) from by omega]
    rw [← e]
    exact ih
theorem trimU_nil : trimU [] = [] := rfl
theorem trimU_drop (L : List Sl) {s : Sl} (h : s.1 = false) : trimU (L ++ [s]) = trimU L := by
  unfold trimU
  rw [List.reverse_append, List.reverse_singleton, List.singleton_append, List.dropWhile_cons_of_pos (by simp [h])]
theorem trimU_keep (L : List Sl) {s : Sl} (h : s.1 = true) : trimU (L ++ [s]) = L ++ [s] := by
  unfold trimU
  rw [List.reverse_append, List.reverse_singleton, List.singleton_append, List.dropWhile_cons_of_neg (by simp [h])]
  simp
end Go.Proofs.YtgocmnejlbfplaaGreatDoor
namespace Go.Proofs.YtgocmnejlbfplaaGreatDoor
open Go Go.MapKept Go.RowKit Go.Proofs

/-- The bytes of a number, the highest first. -/
def beL (k n : Nat) : List UInt8 := (List.range k).map fun j => UInt8.ofNat (n / 256 ^ (k - 1 - j))
theorem beL_8 (n : Nat) : beL 8 n = be8 n := by simp [beL, be8, List.range_succ]
theorem beL_4 (n : Nat) : beL 4 n = be4 n := by simp [beL, be4, List.range_succ]
theorem beL_len (k n : Nat) : (beL k n).length = k := by simp [beL]
/-- The last i cells are written. -/
def pC (k n i : Nat) : Array Value := ((List.range k).map fun j => Value.int .u8 (if k - i ≤ j then ((n / 256 ^ (k - 1 - j) % 256 : Nat) : Int) else 0)).toArray
theorem pC_size (k n i : Nat) : (pC k n i).size = k := by simp [pC]
theorem pC_at {k n i j : Nat} (h : j < k) : (pC k n i)[j]? = some (Value.int .u8 (if k - i ≤ j then ((n / 256 ^ (k - 1 - j) % 256 : Nat) : Int) else 0)) := by
  unfold pC
  rw [List.getElem?_toArray, List.getElem?_map, List.getElem?_range h]
  rfl
theorem pC_step {k n i : Nat} (h : i < k) : (pC k n i).setIfInBounds (k - 1 - i) (Value.int .u8 ((n / 256 ^ i % 256 : Nat) : Int)) = pC k n (i + 1) := by
  apply Array.ext_getElem?
  intro j
  by_cases hj : j < k
  · by_cases he : j = k - 1 - i
    · subst he
      rw [Array.getElem?_setIfInBounds_self_of_lt (by rw [pC_size]; exact hj), pC_at hj, if_pos (by omega)]
      rw [show k - 1 - (k - 1 - i) = i from by omega]
    · rw [Array.getElem?_setIfInBounds_ne (fun q => he q.symm), pC_at hj, pC_at hj]
      congr 2
      by_cases h2 : k - i ≤ j
      · rw [if_pos h2, if_pos (by omega)]
      · rw [if_neg h2, if_neg (by omega)]
  · rw [Array.getElem?_eq_none (by rw [Array.size_setIfInBounds, pC_size]; omega), Array.getElem?_eq_none (by rw [pC_size]; omega)]
theorem pC_full (k n j : Nat) (h : j < k) : (pC k n k)[j]? = some (Value.int .u8 (((beL k n)[j]'(by rw [beL_len]; exact h)).toNat : Int)) := by
  rw [pC_at h, if_pos (by omega)]
  simp [beL, UInt8.toNat_ofNat']
theorem pC_zero (k n : Nat) : pC k n 0 = Array.replicate k (Value.int .u8 0) := by
  apply Array.ext_getElem?
  intro j
  by_cases hj : j < k
  · rw [pC_at hj, if_neg (by omega), Array.getElem?_replicate, if_pos hj]
  · rw [Array.getElem?_eq_none (by rw [pC_size]; omega), Array.getElem?_eq_none (by simp; omega)]
theorem addr_add' (g j : Nat) : (⟨g, 0, none⟩ : Addr).add j = ⟨g, j, none⟩ := by unfold Addr.add; split <;> simp_all
set_option maxHeartbeats 800000 in
theorem hput_any (n k : Nat) (hk : k = 4 ∨ k = 8) (hn : n < 18446744073709551616) (w : World) : Calls Tryz.prog 82 #[.int .u64 (n : Int), .int .i64 (k : Int)] w (fun e w' => e = .returned (.string ⟨(beL k n).toArray⟩) ∧ Below w.heap.size w w') := by
  have hmk : ∀ w, (Instr.makeSlice 78 (.int .i64 (k : Int)) (.int .i64 (k : Int))).run Tryz.prog w = .ok (.slice (some ⟨w.heap.size, 0, none⟩) k k) (w.alloc (.cells (pC k n 0) 5)) := fun _ => by
    rw [pC_zero]
    rcases hk with rfl | rfl <;> kernel_rfl
  have s0 := (sat_all w).new (.cells (pC k n 0) 5)
  have HS := Lib.hid s0
  have k0 : (1 : Int) ≤ (k : Int) := by omega
  have k8 : (k : Int) ≤ 8 := by omega
  have HN := Lib.hid (And.intro hn hk)
  clear s0 hk hn
  go_enter Tryz.func82, Tryz.ntmps82
  go_wp2_with fail
  go_loopw [10] (fun v10 wr => ∃ i : Nat, i ≤ k ∧ v10 = .int .i64 i ∧ Sat wr (.blk w.heap.size (.cells (pC k n i) 5) :: allOf w)) (fun v10 _ => 256 - (intOf v10).toNat)
  case atStart => exact ⟨0, by omega, rfl, HS.out⟩
  case round =>
    obtain ⟨i, hi, rfl, hs⟩ := hrel
    clear hmk
    have i0 : (0 : Int) ≤ (i : Int) := by omega
    by_cases hlt : i < k
    · have i1 : (i : Int) < (k : Int) := by omega
      obtain ⟨cv, hcv⟩ : ∃ cv, (pC k n i)[k - 1 - i]? = some cv := ⟨_, pC_at (by omega)⟩
      have ck : wr.cell? ⟨w.heap.size, k - 1 - i, none⟩ = some cv := by rw [cell_of hs.h0]; exact hcv
      clear hcv
      have fk : wr.frozen? ⟨w.heap.size, k - 1 - i, none⟩ = false := unfrozen_of hs.h0 _
      have hs2 := hs.setCell (i := k - 1 - i) (Value.int .u8 ((n / 256 ^ i % 256 : Nat) : Int))
      rw [pC_step hlt] at hs2
      have hval : (((n / 256 ^ i % 256 : Nat)) : Int) = (n : Int) / 2 ^ (8 * i) % 256 := by
        have h1 : (256 : Nat) ^ i = 2 ^ (8 * i) := by rw [Nat.pow_mul]
        rw [h1]
        simp
      rw [hval] at hs2
      have HS2 := Lib.hid hs2
      clear hs hs2
      go_wp2_with fail
      exact ⟨⟨i + 1, by omega, by simp, HS2.out⟩, by simp only [intOf]; omega⟩
    · obtain rfl : i = k := by omega
      have i1 : ((i : Int) < (i : Int)) = False := eq_false (by omega)
      have hcv := run_convert_bytes_back (P := Tryz.prog) wr 78 9 5 ⟨w.heap.size, 0, none⟩ i (beL i n) Tryz.underlying78 Tryz.underlying5 Tryz.underlying9 (fun j hj => by
        rw [addr_add', cell_of hs.h0]
        rw [beL_len] at hj
        exact pC_full i n j hj)
      rw [beL_len] at hcv
      have HB := Lib.hid hs.tail.below
      clear hs
      go_wp2_with fail
      go_ret
      exact ⟨rfl, HB.out⟩
theorem getB_snoc (l : List UInt8) (b : UInt8) : getB (l ++ [b]) = getB l * 256 + b.toNat := by simp [getB, List.foldl_append]
theorem getB_lt : ∀ l : List UInt8, getB l < 256 ^ l.length := by
  intro l
  have key : ∀ (r : List UInt8), getB r.reverse < 256 ^ r.length := by
    intro r
    induction r with
    | nil => simp [getB]
    | cons b r ih =>
      rw [List.reverse_cons, getB_snoc, List.length_cons, Nat.pow_succ]
      have := b.toNat_lt
      omega
  have := key l.reverse
  rwa [List.reverse_reverse, List.length_reverse] at this
theorem or_byte {m b : Nat} (hm : m < 72057594037927936) (hb : b < 256) : bits BinOp.or IntKind.u64 ((m : Int) * 256) (IntKind.u64.wrap (b : Int)) = ((m * 256 + b : Nat) : Int) := by
  have w1 : (m : Int) * 256 = ((m * 256 : Nat) : Int) := by omega
  have w2 : IntKind.u64.wrap (b : Int) = (b : Int) := by rw [IntKind.wrap_u64]; omega
  rw [w1, w2]
  unfold bits
  have h1 : (m * 256) ||| b = m * 256 + b := by
    have := Nat.shiftLeft_add_eq_or_of_lt (i := 8) (b := b) (by omega) m
    rw [Nat.shiftLeft_eq] at this
    exact this.symm
  have h2 : (BitVec.ofInt IntKind.u64.bits ((m * 256 : Nat) : Int) ||| BitVec.ofInt IntKind.u64.bits (b : Int)).toNat = m * 256 + b := by
    rw [BitVec.toNat_or, BitVec.ofInt_natCast, BitVec.ofInt_natCast, BitVec.toNat_ofNat, BitVec.toNat_ofNat]
    rw [Nat.mod_eq_of_lt (by show _ < 2 ^ 64; omega), Nat.mod_eq_of_lt (by show _ < 2 ^ 64; omega)]
    exact h1
  show IntKind.u64.wrap (((BitVec.ofInt IntKind.u64.bits ((m * 256 : Nat) : Int) ||| BitVec.ofInt IntKind.u64.bits (b : Int)).toNat : Nat) : Int) = _
  rw [h2, IntKind.wrap_u64]
  omega
theorem hget_any (s : ByteArray) (hs8 : s.size = 8) (w : World) : Calls Tryz.prog 91 #[.string s] w (fun e w' => e = .returned (.int .u64 (getB s.data.toList : Int)) ∧ Below w.heap.size w w') := by
  obtain ⟨l, hl⟩ : ∃ l, s.data.toList = l := ⟨_, rfl⟩
  have hll : l.length = 8 := by rw [← hl, Array.length_toList]; exact hs8
  obtain ⟨cap, hcap⟩ : ∃ cap, grownCap w s.size 0 5 = cap := ⟨_, rfl⟩
  have hcv := run_bytes_of_string (P := Tryz.prog) w 9 78 5 s Tryz.underlying9 Tryz.underlying78 Tryz.underlying5
  rw [hcap, hs8] at hcv
  have s0 := (sat_all w).drew.new (.cells (bytesRow s cap) 5 ((bytesRow s cap).size, (bytesRow s cap).size + 1))
  have hrow : ∀ (j : Nat) (b : UInt8), l[j]? = some b → (bytesRow s cap)[j]? = some (.int .u8 (b.toNat : Int)) := fun j b hj => by
    have hjl := (List.getElem?_eq_some_iff.1 hj).1
    rw [bytesRow_at s cap j (by rw [← Array.length_toList, hl]; exact hjl)]
    rw [← hl, Array.getElem?_toList] at hj
    rw [Array.getElem?_eq_some_iff] at hj
    obtain ⟨_, e⟩ := hj
    rw [e]
  have HS := Lib.hid s0
  have HROW := Lib.hid hrow
  rw [hl]
  clear s0 hrow hl hcap hs8
  generalize hC : bytesRow s cap = C at *
  generalize (C.size, C.size + 1) = mk at *
  clear hC
  go_enter Tryz.func91, Tryz.ntmps91
  go_wp2_with fail
  go_loopw [3, 9] (fun v3 v9 wr => ∃ i : Nat, i ≤ 8 ∧ v9 = .int .i64 i ∧ v3 = .int .u64 (getB (l.take i) : Int) ∧ Sat wr (.blk w.heap.size (.cells C 5 mk) :: allOf w)) (fun _ v9 _ => 256 - (intOf v9).toNat)
  case atStart => exact ⟨0, by omega, rfl, rfl, HS.out⟩
  case round =>
    obtain ⟨i, hi, rfl, rfl, hs⟩ := hrel
    have i0 : (0 : Int) ≤ (i : Int) := by omega
    by_cases hlt : i < 8
    · have i1 : (i : Int) < 8 := by omega
      obtain ⟨b, hb⟩ : ∃ b, l[i]? = some b := ⟨_, List.getElem?_eq_getElem (by omega)⟩
      have ck : wr.cell? ⟨w.heap.size, i, none⟩ = some (.int .u8 (b.toNat : Int)) := by rw [cell_of hs.h0]; exact HROW.out i b hb
      have htk : l.take (i + 1) = l.take i ++ [b] := by rw [List.take_add_one, hb]; rfl
      have HT : Hid (getB (l.take (i + 1)) = getB (l.take i) * 256 + b.toNat) := Lib.hid (by rw [htk, getB_snoc])
      have HSS := Lib.hid hs
      obtain ⟨n, hn⟩ : ∃ n, getB (l.take i) = n := ⟨_, rfl⟩
      rw [hn] at HT ⊢
      have hnl := getB_lt (l.take i)
      rw [hn] at hnl
      have hn7 : n < 72057594037927936 := by
        have h1 : (l.take i).length ≤ 7 := by rw [List.length_take]; omega
        exact Nat.lt_of_lt_of_le hnl (Nat.pow_le_pow_right (by decide) h1)
      have hor := or_byte (b := b.toNat) hn7 b.toNat_lt
      rw [← HT.out] at hor
      have HOR := Lib.hid hor
      clear hs htk hb hnl hor
      go_wp2_with fail
      rw [HOR.out]
      exact ⟨⟨i + 1, by omega, by simp, rfl, HSS.out⟩, by simp only [intOf]; omega⟩
    · obtain rfl : i = 8 := by omega
      have HB := Lib.hid hs.tail.below
      have htl : l.take 8 = l := List.take_of_length_le (by omega)
      rw [htl]
      clear hs
      go_wp2_with fail
      go_ret
      exact ⟨rfl, HB.out⟩
end Go.Proofs.YtgocmnejlbfplaaGreatDoor
namespace Go.Proofs.YtgocmnejlbfplaaGreatDoor
open Go

section
variable {P : Program} {w : World}
/-- At a step of a region that draws its order: the run of the append is known. -/
theorem step_append_run {ops : Array Oper} {o : Oper} {a : Act} {K : Act → World → Prop} {Q : Exit → Act → World → Prop} {E : Prop} (hgd : o.guard = none) (s x : Operand) (t1 t2 : TypeId)
    (ho : o.op = .call { callee := .builtin .append, args := #[s, x], argTypes := #[t1, t2] }) (v xv v' : Value) (w' : World) (hs : a.eval s = v) (hx : a.eval x = xv)
    (hr : ∀ ty, (Builtin.append_ #[t1, t2] ty #[v, xv]).run P w = .ok v' w') (hK : K (a.put o.dst v') w') :
    if Region.wanted o (yielded ops a.tmps) = true then Oper.wp P o a w K Q else E := by
  have hw : Region.wanted o (yielded ops a.tmps) = true := by simp [Region.wanted, hgd]
  rw [if_pos hw]
  unfold Oper.wp execOp
  simp only [ho, resolve, invoke, builtin, Sem.run_bind, Sem.run_pure, Result.andThen_ok, List.map_toArray, List.map_cons, List.map_nil, hs, hx, hr]
  exact hK
/-- A row of the outer slice: its value, what its cells hold, its own block. -/
abbrev LRow := Value × List Value × Heaplet
def LOk (T : TypeId) (L : List LRow) : Prop := ∀ x ∈ L, SliceIs T 1 x.1 x.2.1.length x.2.1 x.2.2
def lvals (L : List LRow) : Array Value := (L.map (·.1)).toArray
def lheap (L : List LRow) : Heaplet := L.flatMap (·.2.2)
theorem lheap_set : ∀ {L : List LRow} {i : Nat} {x : LRow} (y : LRow), L[i]? = some x → (lheap (L.set i y)).Perm (y.2.2 ++ lheap (L.eraseIdx i))
  | a :: L, 0, x, y, _ => by simp [lheap]
  | a :: L, i + 1, x, y, h => by
    have ih := lheap_set (L := L) (i := i) y (by simpa using h)
    simp only [lheap, List.set_cons_succ, List.flatMap_cons, List.eraseIdx_cons_succ] at ih ⊢
    exact (ih.append_left _).trans (by
      rw [← List.append_assoc, ← List.append_assoc]
      exact List.perm_append_comm.append_right _)
theorem lheap_get {L : List LRow} {i : Nat} {x : LRow} (h : L[i]? = some x) : (lheap L).Perm (x.2.2 ++ lheap (L.eraseIdx i)) := by
  have := lheap_set x h
  have e : L.set i x = L := by
    apply List.ext_getElem?
    intro j
    rw [List.getElem?_set]
    split
    · rename_i e; subst e
      have := (List.getElem?_eq_some_iff.1 h).1
      rw [if_pos this, h]
    · rfl
  rwa [e] at this
theorem lvals_get {L : List LRow} {i : Nat} {x : LRow} (h : L[i]? = some x) : (lvals L)[i]? = some x.1 := by simp [lvals, h]
theorem lvals_set (L : List LRow) (i : Nat) (y : LRow) : (lvals L).setIfInBounds i y.1 = lvals (L.set i y) := by simp [lvals, List.map_set]
theorem LOk.set {T : TypeId} {L : List LRow} (h : LOk T L) (i : Nat) {y : LRow} (hy : SliceIs T 1 y.1 y.2.1.length y.2.1 y.2.2) : LOk T (L.set i y) := by
  intro x hx
  rcases List.mem_or_eq_of_mem_set hx with hx | rfl
  · exact h x hx
  · exact hy
variable {T Tr t ty : TypeId} {i0 : TypeInfo} {z : Value} {bytes : Nat}
/-- One more element at the row i: the append is run, and stored back. -/
theorem later_push (ht : P.underlying t = some (.slice T)) (hi : P.info? T = some i0) (hz : i0.zero = some z) (hsize : i0.size = 1) (hby : i0.bytes = bytes) (hzs : z.cells.size = 1)
    {A G : Heaplet} {xb lb : Nat} {u : Value} {L : List LRow} {i : Nat} {v : Value} {l : List Value} {h : Heaplet} (hu : u.oneCell' = true)
    (hs : Sat w (A ++ (.blk xb (.cells #[u] T) :: .blk lb (.cells (lvals L) Tr) :: (lheap L ++ G)))) (hL : LOk T L) (hx : L[i]? = some (v, l, h)) (h63 : l.length + 1 ≤ maxLen) (hbytes : (l.length + 1) * bytes ≤ 140737488355328) :
    ∃ v' w' h', (∀ ty, (Builtin.append_ #[t, t] ty #[v, .slice (some ⟨xb, 0, none⟩) 1 1]).run P w = .ok v' w') ∧ LOk T (L.set i (v', l ++ [u], h')) ∧
      (∃ g cap, v' = .slice (some ⟨g, 0, none⟩) (l.length + 1) cap) ∧ w'.cell? ⟨lb, i, none⟩ = some v ∧ w'.frozen? ⟨lb, i, none⟩ = false ∧ Sat w' G ∧
      Sat (w'.setCell ⟨lb, i, none⟩ v') (A ++ (.blk lb (.cells (lvals (L.set i (v', l ++ [u], h'))) Tr) :: (lheap (L.set i (v', l ++ [u], h')) ++ G))) := by
  have hsl : SliceIs T 1 v l.length l h := hL _ (List.mem_of_getElem? hx)
  have s1 : Sat w (h ++ (A ++ (.blk xb (.cells #[u] T) :: .blk lb (.cells (lvals L) Tr) :: (lheap (L.eraseIdx i) ++ G)))) := by
    refine hs.perm ?_
    refine List.Perm.trans ?_ (List.perm_append_comm_assoc A h _)
    refine List.Perm.append_left A ?_
    refine List.Perm.trans ?_ (List.perm_append_comm_assoc [HItem.blk xb (.cells #[u] T), .blk lb (.cells (lvals L) Tr)] h _)
    refine List.Perm.append_left [HItem.blk xb (.cells #[u] T), .blk lb (.cells (lvals L) Tr)] ?_
    show (lheap L ++ G).Perm (h ++ (lheap (L.eraseIdx i) ++ G))
    rw [← List.append_assoc]
    exact (lheap_get hx).append_right G
  have hxb : w.heap[xb]? = some (.cells #[u] T) := s1.get (List.mem_append_right _ (List.mem_append_right _ (.head _)))
  have hnews : ∀ j q, ([u] : List Value)[j]? = some q → w.cell? ((⟨xb, 0, none⟩ : Addr).add j) = some q := by
    intro j q hq
    have hadd : (⟨xb, 0, none⟩ : Addr).add j = ⟨xb, j, none⟩ := by unfold Addr.add; split <;> simp_all
    rw [hadd, cell_of hxb]
    match j, hq with
    | 0, hq => simpa using hq
    | j + 1, hq => simp at hq
  obtain ⟨v', w', h', hr, hsl', hsat⟩ := sat_append (P := P) (ty := 0) ht hi hz hsize hby hzs (by decide) hsl s1 ⟨xb, 0, none⟩ 1 1 [u] rfl hnews (by simpa using hu) (by decide) h63 hbytes
  have hlb : w'.heap[lb]? = some (.cells (lvals L) Tr) := hsat.get (List.mem_append_right _ (List.mem_append_right _ (.tail _ (.head _))))
  have hl1 : SliceIs T 1 v' (l ++ [u]).length (l ++ [u]) h' := by rw [List.length_append]; exact hsl'
  refine ⟨v', w', h', fun ty => hr, hL.set i hl1, ?_, ?_, ?_, ?_, ?_⟩
  · rcases hsl'.2 with ⟨_, hn, _⟩ | ⟨g, cap, cur, rfl, _⟩
    · omega
    · exact ⟨_, _, rfl⟩
  · rw [cell_of hlb]; exact lvals_get hx
  · exact unfrozen_of hlb i
  · exact hsat.right.right.tail.tail.right
  · have s2 : Sat w' (.blk lb (.cells (lvals L) Tr) :: (A ++ (lheap (L.set i (v', l ++ [u], h')) ++ G))) := by
      have s3 := hsat.perm (List.perm_append_comm_assoc h' A _)
      have s4 := s3.perm (List.Perm.append_left A (List.perm_middle (l₁ := h')))
      have s5 := (s4.perm (List.perm_middle (l₁ := A))).tail
      have s6 := s5.perm (List.Perm.append_left A (List.perm_middle (l₁ := h')))
      refine (s6.perm (List.perm_middle (l₁ := A))).perm ?_
      refine List.Perm.cons _ (List.Perm.append_left A ?_)
      rw [← List.append_assoc]
      exact (lheap_set (v', l ++ [u], h') hx).symm.append_right G
    have s7 := s2.setCell (i := i) v'
    rw [lvals_set L i (v', l ++ [u], h')] at s7
    exact s7.perm (List.perm_middle (l₁ := A)).symm
end
end Go.Proofs.YtgocmnejlbfplaaGreatDoor
