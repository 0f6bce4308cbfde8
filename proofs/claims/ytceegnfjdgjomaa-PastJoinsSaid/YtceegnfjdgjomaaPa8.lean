/- Slices of names: Index, Contains walked. Conditions: none. -/
import Derived.Test.YtceegnfjdgjomaaPa7
namespace Go.Proofs.Ytceegnfjdgjomaa
open Go Go.MapKept Go.RowKit Go.Proofs Go.Sort

abbrev TSl (v : Value) (R : List Tx) (h : Heaplet) : Prop := SliceIs 23 3 v R.length (R.flatMap tC) h
theorem tC_len (q : Tx) : (tC q).length = 3 := rfl
theorem Grown.drewN (w : World) (n : Nat) : Grown w (w.drewN n) := ⟨n, #[], by rw [grow_empty]⟩
/-- The cells of names. -/
def TxsAt (w : World) (a : Option Addr) (R : List Tx) : Prop :=
  ∀ i q, R[i]? = some q → ∃ g off, a = some ⟨g, off, none⟩ ∧ w.cell? ⟨g, off + i * 3, none⟩ = some (kI q.c) ∧ w.cell? ⟨g, off + i * 3 + 1, none⟩ = some (kI q.e) ∧ w.cell? ⟨g, off + i * 3 + 2, none⟩ = some (kI q.n)
theorem TxsAt.grown {w w' : World} {a : Option Addr} {R : List Tx} (h : TxsAt w a R) (k : Grown w w') : TxsAt w' a R := by
  intro i q hq
  obtain ⟨g, off, e, h0, h1, h2⟩ := h i q hq
  exact ⟨g, off, e, k.cell h0, k.cell h1, k.cell h2⟩
theorem txs_at {v : Value} {R : List Tx} {h F : Heaplet} (hv : TSl v R h) {w : World} (s : Sat w (h ++ F)) : ∃ a cap, v = .slice a R.length cap ∧ TxsAt w a R := by
  obtain ⟨a, cap, e, hc⟩ := sl_cells tC_len hv s
  refine ⟨a, cap, e, fun i q hq => ?_⟩
  obtain ⟨g, ea, _, hu⟩ := hc i q hq
  refine ⟨g, 0, ea, ?_⟩
  rw [Nat.zero_add]
  exact ⟨hu 0 _ rfl, hu 1 _ rfl, hu 2 _ rfl⟩
def hasM (R : List Tx) (t : Tx) : Bool := R.any fun u => decide (u = t)
theorem has_step (R : List Tx) (t : Tx) (r : Nat) (x : Tx) (hx : R[r]? = some x) : hasM (R.take (r + 1)) t = (hasM (R.take r) t || decide (x = t)) := by
  unfold hasM
  rw [List.take_add_one, hx]
  simp
theorem eq_txx (x t : Tx) (w : World) : (binOp .eql 23 (tV t) (tV x)).run Try.prog w = .ok (.bool (decide (x = t))) w := by
  rw [eq_tx t x w]
  congr 2
  by_cases h : x = t
  · subst h; rfl
  · have : ¬ t = x := fun e => h e.symm
    simp [h, this]
set_option maxRecDepth 100000 in
set_option maxHeartbeats 4000000 in
theorem index_any (a : Option Addr) (cap : Nat) (R : List Tx) (t : Tx) (w : World) (hc : TxsAt w a R) (hl : R.length ≤ 100000) :
    Calls Try.prog 38 #[.slice a R.length cap, tV t] w fun e w' => ∃ i : Int, e = .returned (.int .i64 i) ∧ (0 ≤ i ↔ hasM R t = true) ∧ Grown w w' := by
  have HG := Lib.hid (Grown.alloc w (.cells #[kI t.c, kI t.e, kI t.n] 23))
  have HC := Lib.hid (hc.grown HG.out)
  have hs := (sat_all w).new (.cells #[kI t.c, kI t.e, kI t.n] 23)
  have hm : ∃ W0, W0 = w.alloc (.cells #[kI t.c, kI t.e, kI t.n] 23) ∧ W0.cell? ⟨w.heap.size, 0, none⟩ = some (kI t.c) ∧ W0.cell? ⟨w.heap.size, 1, none⟩ = some (kI t.e) ∧ W0.cell? ⟨w.heap.size, 2, none⟩ = some (kI t.n) :=
    ⟨_, rfl, by rw [cell_of hs.h0]; rfl, by rw [cell_of hs.h0]; rfl, by rw [cell_of hs.h0]; rfl⟩
  have HEQ := Lib.hid eq_txx
  clear hc hs
  go_enter Try.func38, Try.ntmps38
  go_wp2_with fail
  obtain ⟨W0, e, m0, m1, m2⟩ := hm
  rw [← e] at HC HG ⊢
  clear e
  have HM := Lib.hid (And.intro m0 (And.intro m1 m2))
  clear m0 m1 m2
  generalize w.heap.size = m at *
  go_loopw [8] (fun v8 wr => ∃ r n : Nat, r ≤ R.length ∧ v8 = .int .i64 r ∧ hasM (R.take r) t = false ∧ wr = W0.drewN n) (fun v8 _ => 200000 - (RowKit.intOf v8).toNat)
  case atStart => exact ⟨0, 0, by omega, rfl, rfl, rfl⟩
  case round =>
    obtain ⟨r, n, hr, rfl, hb, rfl⟩ := hrel
    have r0 : (0 : Int) ≤ (r : Int) := by omega
    have HB := Lib.hid hb
    clear hb
    by_cases hlr : r < R.length
    · have r1 : (r : Int) < (R.length : Int) := by omega
      obtain ⟨x, hx⟩ : ∃ x, R[r]? = some x := ⟨_, List.getElem?_eq_getElem hlr⟩
      obtain ⟨g, off, rfl, e0, e1, e2⟩ := HC.out r x hx
      obtain ⟨m0, m1, m2⟩ := HM.out
      have hst := has_step R t r x hx
      rw [HB.out, Bool.false_or] at hst
      have hin : decide (x = t) = true → hasM R t = true := fun h => List.any_eq_true.2 ⟨x, List.mem_of_getElem? hx, h⟩
      have HST := Lib.hid (And.intro hst hin)
      have heq := HEQ.out x t
      obtain ⟨bt, hbt⟩ : ∃ bt, decide (x = t) = bt := ⟨_, rfl⟩
      rw [hbt] at heq
      have HBT := Lib.hid hbt
      clear hst hin hx hbt
      go_upto_region 4 with (fail)
      go_quiet (fail)
      cases bt with
      | false =>
        go_wp2_with fail
        exact ⟨⟨r + 1, n + nq, by omega, by simp, by rw [HST.out.1, HBT.out], rfl⟩, by simp only [RowKit.intOf]; omega⟩
      | true =>
        go_wp2_with fail
        go_ret
        exact ⟨(r : Int), rfl, ⟨fun _ => HST.out.2 HBT.out, fun _ => r0⟩, HG.out.trans ((Grown.drewN W0 n).trans (Grown.drewN _ nq))⟩
    · obtain rfl : r = R.length := by omega
      have hb := HB.out
      rw [List.take_length] at hb
      have HB2 := Lib.hid hb
      clear hb hlr
      go_wp2_with fail
      go_ret
      exact ⟨-1, rfl, ⟨fun h => absurd h (by decide), fun h => by rw [HB2.out] at h; cases h⟩, HG.out.trans (Grown.drewN W0 n)⟩
set_option maxRecDepth 100000 in
theorem contains_any (a : Option Addr) (cap : Nat) (R : List Tx) (t : Tx) (w : World) (hc : TxsAt w a R) (hl : R.length ≤ 100000) :
    Calls Try.prog 23 #[.slice a R.length cap, tV t] w (Pur (.bool (hasM R t)) w) := by
  unfold Pur
  have HG := Lib.hid (Grown.alloc w (.cells #[kI t.c, kI t.e, kI t.n] 23))
  have HI := Lib.hid (index_any a cap R t _ (hc.grown HG.out) hl)
  clear hc
  go_enter Try.func23, Try.ntmps23
  go_wp2_with fail
  refine HI.out.mono ?_
  rintro e w3 ⟨i, rfl, hi, hg⟩
  have HH := Lib.hid (HG.out.trans hg)
  have HB : Hid (decide (0 ≤ i) = hasM R t) := Lib.hid (by
    cases hh : hasM R t with
    | true => simpa using hi.2 hh
    | false => 
      have : ¬ (0 ≤ i) := fun q => by rw [hi.1 q] at hh; cases hh
      simpa using this)
  clear hi hg HI
  go_wp2_with fail
  go_ret
  exact ⟨by rw [← HB.out]; rfl, HH.out⟩
theorem one_t (q : Tx) : ∀ u ∈ tC q, u.oneCell' = true := by
  intro u hu
  simp only [List.mem_cons, List.not_mem_nil, or_false] at hu
  rcases hu with rfl | rfl | rfl <;> rfl
theorem infoTx : (Try.prog.info? 23).map (fun i => (i.zero, i.size, i.bytes)) = some (some (.agg #[kI 0, kI 0, kI 0]), 3, 24) := by kernel_rfl
theorem tx_push {R : List Tx} {v : Value} {h A B : Heaplet} {w : World} {x : Nat} (q : Tx) (hv : TSl v R h) (s : Sat w (.blk x (.cells #[kI q.c, kI q.e, kI q.n] 23) :: (A ++ (h ++ B)))) (hlen : R.length + 1 ≤ 200000) :
    ∃ v' w' h', (∀ ty, (Builtin.append_ #[30, 30] ty #[v, .slice (some ⟨x, 0, none⟩) 1 1]).run Try.prog w = .ok v' w') ∧ TSl v' (R ++ [q]) h' ∧ Sat w' (A ++ (h' ++ B)) := by
  obtain ⟨i0, hi, hz, hsize, hby⟩ := info_parts infoTx
  exact sl_push (P := Try.prog) tC_len Try.underlying30 hi hz hsize hby rfl (by decide) hv q s (one_t q) (by unfold maxLen; omega) (by omega)
/-- A loser, a page's first entry: their cells. -/
abbrev lC (q : Tx × Int) : List Value := [kI q.1.c, kI q.1.e, kI q.1.n, kI q.2]
abbrev LSl (v : Value) (R : List (Tx × Int)) (h : Heaplet) : Prop := SliceIs 36 4 v R.length (R.flatMap lC) h
theorem lC_len (q : Tx × Int) : (lC q).length = 4 := rfl
theorem infoLo : (Try.prog.info? 36).map (fun i => (i.zero, i.size, i.bytes)) = some (some (.agg #[kI 0, kI 0, kI 0, kI 0]), 4, 32) := by kernel_rfl
theorem lo_push {R : List (Tx × Int)} {v : Value} {h A B : Heaplet} {w : World} {x : Nat} (q : Tx × Int) (hv : LSl v R h) (s : Sat w (.blk x (.cells #[kI q.1.c, kI q.1.e, kI q.1.n, kI q.2] 36) :: (A ++ (h ++ B)))) (hlen : R.length + 1 ≤ 200000) :
    ∃ v' w' h', (∀ ty, (Builtin.append_ #[29, 29] ty #[v, .slice (some ⟨x, 0, none⟩) 1 1]).run Try.prog w = .ok v' w') ∧ LSl v' (R ++ [q]) h' ∧ Sat w' (A ++ (h' ++ B)) := by
  obtain ⟨i0, hi, hz, hsize, hby⟩ := info_parts infoLo
  exact sl_push (P := Try.prog) lC_len Try.underlying29 hi hz hsize hby rfl (by decide) hv q s (by simp [Value.oneCell']) (by unfold maxLen; omega) (by omega)
abbrev pC (q : Int × Int) : List Value := [kI q.1, kI q.2]
abbrev FSl (v : Value) (R : List (Int × Int)) (h : Heaplet) : Prop := SliceIs 38 2 v R.length (R.flatMap pC) h
theorem pC_len (q : Int × Int) : (pC q).length = 2 := rfl
theorem infoFi : (Try.prog.info? 38).map (fun i => (i.zero, i.size, i.bytes)) = some (some (.agg #[kI 0, kI 0]), 2, 16) := by kernel_rfl
theorem fi_push {R : List (Int × Int)} {v : Value} {h A B : Heaplet} {w : World} {x : Nat} (q : Int × Int) (hv : FSl v R h) (s : Sat w (.blk x (.cells #[kI q.1, kI q.2] 38) :: (A ++ (h ++ B)))) (hlen : R.length + 1 ≤ 200000) :
    ∃ v' w' h', (∀ ty, (Builtin.append_ #[31, 31] ty #[v, .slice (some ⟨x, 0, none⟩) 1 1]).run Try.prog w = .ok v' w') ∧ FSl v' (R ++ [q]) h' ∧ Sat w' (A ++ (h' ++ B)) := by
  obtain ⟨i0, hi, hz, hsize, hby⟩ := info_parts infoFi
  exact sl_push (P := Try.prog) pC_len Try.underlying31 hi hz hsize hby rfl (by decide) hv q s (by simp [Value.oneCell']) (by unfold maxLen; omega) (by omega)
end Go.Proofs.Ytceegnfjdgjomaa
