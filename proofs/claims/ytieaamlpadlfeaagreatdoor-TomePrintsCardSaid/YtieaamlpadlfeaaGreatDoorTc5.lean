/- The document's number walked. Conditions: none. (printed by tc5.gen.py) -/
import Derived.Test.YtieaamlpadlfeaaGreatDoorTc3
import Derived.Test.YtieaamlpadlfeaaGreatDoorTb13
namespace Go.Proofs.YtieaamlpadlfeaaGreatDoor
open Go Go.MapKept Go.RowKit Go.Proofs

attribute [local go_sem] Oper.semAt_some

/-- What number answers: the number, if there is one; whether there is one. -/
def NumRet (F : Heaplet) (x : Bs) (e : Ending) (w' : World) : Prop := ∃ v, e = .returned (.tuple #[.int .i64 v, .bool (numS x).isSome]) ∧ (∀ n, numS x = some n → v = n) ∧ Sat w' F
theorem NumRet.no {F : Heaplet} {x : Bs} {w' : World} (h : numS x = none) (s : Sat w' F) : NumRet F x (.returned (.tuple #[.int .i64 0, .bool false])) w' := ⟨0, by rw [h]; rfl, fun n hn => by rw [h] at hn; (cases hn), s⟩
theorem NumRet.yes {F : Heaplet} {x : Bs} {w' : World} {n : Int} (h : readR x = some n) (s : Sat w' F) : NumRet F x (.returned (.tuple #[.int .i64 n, .bool (Lib.itoa n == x)])) w' := by
  have hn : numS x = if Lib.itoa n = x then some n else none := by rw [readR_num, h]; rfl
  by_cases e : Lib.itoa n = x
  · rw [if_pos e] at hn
    refine ⟨n, ?_, fun m hm => ?_, s⟩
    · rw [hn, beq_iff_eq.2 e]; rfl
    · rw [hn] at hm; cases hm; rfl
  · rw [if_neg e] at hn
    refine ⟨n, ?_, fun m hm => ?_, s⟩
    · rw [hn, beq_eq_false_iff_ne.2 e]; rfl
    · rw [hn] at hm; cases hm
theorem numS_no {x : Bs} (h : readR x = none) : numS x = none := by rw [readR_num, h]; rfl
theorem neg_min {u : Nat} (h : u ≤ 9223372036854775808) : ∃ m, IntKind.i64.wrap (u : Int) = m ∧ IntKind.i64.wrap (-m) = -(u : Int) := by
  by_cases e : u = 9223372036854775808
  · subst e
    exact ⟨-9223372036854775808, by decide, by decide⟩
  · exact ⟨(u : Int), (IntWalk.i64_left _).trans (IntWalk.wrap64_in _ (by omega)), (IntWalk.i64_left _).trans (IntWalk.wrap64_in _ (by omega))⟩
set_option maxRecDepth 100000 in
set_option maxHeartbeats 4000000 in
theorem refnum_one {F : Heaplet} {w : World} (s : Sat w F) (y : Bs) (hy : y.length ≤ 1) : Calls Tryz.prog 39 #[kL y] w (NumRet F y) := by
  obtain ⟨x, hxd⟩ : ∃ x, y = x := ⟨_, rfl⟩
  rw [hxd]
  obtain ⟨t, htd⟩ : ∃ t, y = t := ⟨_, rfl⟩
  have hR : readR x = if t.length < 1 ∨ 19 < t.length then none else if ∀ c ∈ t, digD c then if ((false : Bool) = true ∧ 9223372036854775808 < valD t) ∨ ((false : Bool) = false ∧ 9223372036854775808 ≤ valD t) then none else some (if (false : Bool) then -(valD t : Int) else (valD t : Int)) else none := by
    have hm : magR x = t := by rw [← hxd, ← htd]; unfold magR; rw [if_neg (fun h => by omega)]
    have hn : negR x = false := by rw [← hxd]; unfold negR; exact decide_eq_false (fun h => by omega)
    unfold readR
    rw [hm, hn]
  have HR := Lib.hid hR
  have j1 : ((1 : Int) < (x.length : Int)) = False := eq_false (by rw [← hxd]; omega)
  have ht9 : t.length ≤ 900001 := by rw [← htd]; omega
  have ht9' : (t.length : Int) ≤ 900001 := by omega
  clear hR
  have HS := Lib.hid s
  obtain rfl : t = x := htd.symm.trans hxd
  clear htd hy
  by_cases h1 : t.length < 1
  · have k1 : (t.length : Int) < 1 := by omega
    have hno : readR t = none := by rw [HR.out, if_pos (.inl h1)]
    have FIN := Lib.hid (NumRet.no (numS_no hno) s)
    clear h1 hno
    go_enter Tryz.func39, Tryz.ntmps39
    go_wp2_with fail
    go_ret2
    exact FIN.out
  have k1 : ((t.length : Int) < 1) = False := eq_false (by omega)
  by_cases h2 : 19 < t.length
  · have k2 : (19 : Int) < (t.length : Int) := by omega
    have hno : readR t = none := by rw [HR.out, if_pos (.inr h2)]
    have FIN := Lib.hid (NumRet.no (numS_no hno) s)
    clear h1 h2 hno
    go_enter Tryz.func39, Tryz.ntmps39
    go_wp2_with fail
    go_ret2
    exact FIN.out
  have k2 : ((19 : Int) < (t.length : Int)) = False := eq_false (by omega)
  have HLE := Lib.hid (show t.length ≤ 19 by omega)
  have HR2 : Hid (readR t = if ∀ c ∈ t, digD c then if ((false : Bool) = true ∧ 9223372036854775808 < valD t) ∨ ((false : Bool) = false ∧ 9223372036854775808 ≤ valD t) then none else some (if (false : Bool) then -(valD t : Int) else (valD t : Int)) else none) := Lib.hid (by rw [HR.out, if_neg (fun h => h.elim h1 h2)])
  clear h1 h2 s
  go_enter Tryz.func39, Tryz.ntmps39
  go_upto_block 0 with (fail)
  clear k1 k2
  go_wp2_with fail
  go_loopw [6, 7] (fun v6 v7 wr => ∃ (i u : Nat), v6 = .int .u64 (u : Int) ∧ v7 = .int .i64 (i : Int) ∧ DigI t i u ∧ Sat wr F) (fun _ v7 _ => 2000000 - (RowKit.intOf v7).toNat)
  case atStart => exact ⟨0, 0, rfl, rfl, DigI.start t, HS.out⟩
  case round =>
    clear HS
    obtain ⟨i, u, rfl, rfl, hd, hs⟩ := hrel
    have hle := HLE.out
    have hi := hd.1
    have i0 : (0 : Int) ≤ (i : Int) := by omega
    have u0 : (0 : Int) ≤ (u : Int) := by omega
    have hun : u < 10 ^ i := hd.lt
    by_cases hil : i < t.length
    · have i1 : (i : Int) < (t.length : Int) := by omega
      have i9 : i < 2000000 := by omega
      have hu18 : u < 10 ^ 18 := Nat.lt_of_lt_of_le hun (Nat.pow_le_pow_right (by decide) (by omega))
      have hu18' : (u : Int) < 1000000000000000000 := by omega
      obtain ⟨c, hc⟩ : ∃ c, t[i]? = some c := ⟨_, List.getElem?_eq_getElem hil⟩
      have hgt : ∀ (h : i < (⟨t.toArray⟩ : ByteArray).size), (⟨t.toArray⟩ : ByteArray)[i]'h = c := fun h => by
        rw [List.getElem?_eq_getElem hil] at hc
        cases hc
        rfl
      have hcn := c.toNat_lt
      by_cases c1 : c.toNat < 48
      · have k1 : (c.toNat : Int) < 48 := by omega
        have hno : readR t = none := by rw [HR2.out, if_neg (DigI.bad hc (fun h => by unfold digD at h; omega))]
        have FIN := Lib.hid (NumRet.no (numS_no hno) hs)
        clear hno hd hs hc hun hi hle hil hu18 hcn c1
        go_wp2_with fail
        go_ret2
        exact FIN.out
      have k1 : ((c.toNat : Int) < 48) = False := eq_false (by omega)
      by_cases c2 : 57 < c.toNat
      · have k2 : (57 : Int) < (c.toNat : Int) := by omega
        have hno : readR t = none := by rw [HR2.out, if_neg (DigI.bad hc (fun h => by unfold digD at h; omega))]
        have FIN := Lib.hid (NumRet.no (numS_no hno) hs)
        clear hno hd hs hc hun hi hle hil hu18 hcn c1 c2
        go_wp2_with fail
        go_ret2
        exact FIN.out
      have k2 : ((57 : Int) < (c.toNat : Int)) = False := eq_false (by omega)
      have hd2 := hd.more hc (by unfold digD; omega)
      have hw1 : IntKind.u64.wrap (10 * (u : Int)) = 10 * (u : Int) := by rw [IntKind.wrap_u64]; omega
      have hw2 : IntKind.u8.wrap ((c.toNat : Int) - 48) = (c.toNat : Int) - 48 := by rw [IntKind.wrap_u8]; omega
      have hw3 : IntKind.u64.wrap ((c.toNat : Int) - 48) = (c.toNat : Int) - 48 := by rw [IntKind.wrap_u64]; omega
      have hw4 : IntKind.u64.wrap (10 * (u : Int) + ((c.toNat : Int) - 48)) = 10 * (u : Int) + ((c.toNat : Int) - 48) := by rw [IntKind.wrap_u64]; omega
      have FIN : Hid ((10 * (u : Int) + ((c.toNat : Int) - 48) = ((10 * u + (c.toNat - 48) : Nat) : Int)) ∧ DigI t (i + 1) (10 * u + (c.toNat - 48)) ∧ Sat wr F) := Lib.hid ⟨by omega, hd2, hs⟩
      have hc48 : (48 : Int) ≤ (c.toNat : Int) := by omega
      clear hd hd2 hs hc hun hi hle hil hu18 hcn c1 c2
      go_wp2_with fail
      exact ⟨⟨i + 1, _, by rw [← FIN.out.1], by simp, FIN.out.2.1, FIN.out.2.2⟩, by simp only [RowKit.intOf]; omega⟩
    · obtain rfl : i = t.length := by omega
      obtain ⟨hall, hval⟩ := hd.done
      have hu19 : u < 10 ^ 19 := Nat.lt_of_lt_of_le hun (Nat.pow_le_pow_right (by decide) (by omega))
      have hu19' : (u : Int) < 10000000000000000000 := by omega
      have HR3 := HR2.out
      rw [if_pos hall, ← hval] at HR3
      clear HR2 hd hun hi hle hil hall hval
      by_cases hb : 9223372036854775808 ≤ u
      · have k1 : (9223372036854775808 : Int) ≤ (u : Int) := by omega
        have hno : readR t = none := by rw [HR3, if_pos (.inr ⟨by trivial, hb⟩)]
        have FIN := Lib.hid (NumRet.no (numS_no hno) hs)
        clear hno HR3 hs hb hu19
        go_wp2_with fail
        go_ret2
        exact FIN.out
      have k1 : ((9223372036854775808 : Int) ≤ (u : Int)) = False := eq_false (by omega)
      have hyes : readR t = some (u : Int) := by
        rw [HR3, if_neg (fun h => h.elim (fun h => by cases h.1) (fun h => hb h.2))]
        rfl
      have HY := Lib.hid hyes
      have hw1 : IntKind.i64.wrap (u : Int) = (u : Int) := (IntWalk.i64_left _).trans (IntWalk.wrap64_in _ (by omega))
      have HNB := Lib.hid (rNumber_all _ (u : Int) ⟨by omega, by omega⟩ (Nat.lt_succ_self _) wr)
      obtain ⟨q, hq⟩ : ∃ q, (Lib.itoa (u : Int) == t) = q := ⟨_, rfl⟩
      have FIN : Hid (∀ k, NumRet F t (.returned (.tuple #[.int .i64 (u : Int), .bool q])) (wr.drewN k)) := Lib.hid (fun k => by rw [← hq]; exact NumRet.yes hyes (hs.grown (Grown.drewN wr k)))
      clear HY
      generalize Lib.itoa (u : Int) = L at *
      clear HR3 hs hb hu19 hyes
      go_wp2_with (go_at_call 34; refine Calls.mono HNB.out ?_; intro e w2 h2; obtain ⟨rfl, h3⟩ := h2; obtain ⟨m2, rfl⟩ := h3)
      go_ret2
      exact FIN.out m2
set_option maxRecDepth 100000 in
set_option maxHeartbeats 4000000 in
theorem refnum_plain {F : Heaplet} {w : World} (s : Sat w F) (c : UInt8) (y : Bs) (hy : 0 < y.length ∧ y.length ≤ 900000) (hc : c ≠ 45) : Calls Tryz.prog 39 #[kL (c :: y)] w (NumRet F (c :: y)) := by
  obtain ⟨x, hxd⟩ : ∃ x, (c :: y) = x := ⟨_, rfl⟩
  rw [hxd]
  obtain ⟨t, htd⟩ : ∃ t, (c :: y) = t := ⟨_, rfl⟩
  have hR : readR x = if t.length < 1 ∨ 19 < t.length then none else if ∀ c ∈ t, digD c then if ((false : Bool) = true ∧ 9223372036854775808 < valD t) ∨ ((false : Bool) = false ∧ 9223372036854775808 ≤ valD t) then none else some (if (false : Bool) then -(valD t : Int) else (valD t : Int)) else none := by
    have hm : magR x = t := by rw [← hxd, ← htd]; unfold magR; rw [if_neg (fun h => hc (by simpa using h.2))]
    have hn : negR x = false := by rw [← hxd]; unfold negR; exact decide_eq_false (fun h => hc (by simpa using h.2))
    unfold readR
    rw [hm, hn]
  have HR := Lib.hid hR
  have j1 : (1 : Int) < (x.length : Int) := by rw [← hxd, List.length_cons]; omega
  have j2 : ((c.toNat : Int) == 45) = false := by rw [beq_eq_false_iff_ne]; intro e; exact hc (UInt8.toNat_inj.1 (by show c.toNat = 45; omega))
  have j3 : ∀ (h : 0 < (⟨x.toArray⟩ : ByteArray).size), (⟨x.toArray⟩ : ByteArray)[0]'h = c := fun h => by subst hxd; rfl
  have j4 : (0 : Int) < (x.length : Int) := by omega
  have ht9 : t.length ≤ 900001 := by rw [← htd]; rw [List.length_cons]; omega
  have ht9' : (t.length : Int) ≤ 900001 := by omega
  clear hR
  have HS := Lib.hid s
  obtain rfl : t = x := htd.symm.trans hxd
  clear htd hy hc
  by_cases h1 : t.length < 1
  · have k1 : (t.length : Int) < 1 := by omega
    have hno : readR t = none := by rw [HR.out, if_pos (.inl h1)]
    have FIN := Lib.hid (NumRet.no (numS_no hno) s)
    clear h1 hno
    go_enter Tryz.func39, Tryz.ntmps39
    go_wp2_with fail
    go_ret2
    exact FIN.out
  have k1 : ((t.length : Int) < 1) = False := eq_false (by omega)
  by_cases h2 : 19 < t.length
  · have k2 : (19 : Int) < (t.length : Int) := by omega
    have hno : readR t = none := by rw [HR.out, if_pos (.inr h2)]
    have FIN := Lib.hid (NumRet.no (numS_no hno) s)
    clear h1 h2 hno
    go_enter Tryz.func39, Tryz.ntmps39
    go_wp2_with fail
    go_ret2
    exact FIN.out
  have k2 : ((19 : Int) < (t.length : Int)) = False := eq_false (by omega)
  have HLE := Lib.hid (show t.length ≤ 19 by omega)
  have HR2 : Hid (readR t = if ∀ c ∈ t, digD c then if ((false : Bool) = true ∧ 9223372036854775808 < valD t) ∨ ((false : Bool) = false ∧ 9223372036854775808 ≤ valD t) then none else some (if (false : Bool) then -(valD t : Int) else (valD t : Int)) else none) := Lib.hid (by rw [HR.out, if_neg (fun h => h.elim h1 h2)])
  clear h1 h2 s
  go_enter Tryz.func39, Tryz.ntmps39
  go_upto_block 0 with (fail)
  clear k1 k2
  go_wp2_with fail
  go_loopw [6, 7] (fun v6 v7 wr => ∃ (i u : Nat), v6 = .int .u64 (u : Int) ∧ v7 = .int .i64 (i : Int) ∧ DigI t i u ∧ Sat wr F) (fun _ v7 _ => 2000000 - (RowKit.intOf v7).toNat)
  case atStart => exact ⟨0, 0, rfl, rfl, DigI.start t, HS.out⟩
  case round =>
    clear HS
    obtain ⟨i, u, rfl, rfl, hd, hs⟩ := hrel
    have hle := HLE.out
    have hi := hd.1
    have i0 : (0 : Int) ≤ (i : Int) := by omega
    have u0 : (0 : Int) ≤ (u : Int) := by omega
    have hun : u < 10 ^ i := hd.lt
    by_cases hil : i < t.length
    · have i1 : (i : Int) < (t.length : Int) := by omega
      have i9 : i < 2000000 := by omega
      have hu18 : u < 10 ^ 18 := Nat.lt_of_lt_of_le hun (Nat.pow_le_pow_right (by decide) (by omega))
      have hu18' : (u : Int) < 1000000000000000000 := by omega
      obtain ⟨c, hc⟩ : ∃ c, t[i]? = some c := ⟨_, List.getElem?_eq_getElem hil⟩
      have hgt : ∀ (h : i < (⟨t.toArray⟩ : ByteArray).size), (⟨t.toArray⟩ : ByteArray)[i]'h = c := fun h => by
        rw [List.getElem?_eq_getElem hil] at hc
        cases hc
        rfl
      have hcn := c.toNat_lt
      by_cases c1 : c.toNat < 48
      · have k1 : (c.toNat : Int) < 48 := by omega
        have hno : readR t = none := by rw [HR2.out, if_neg (DigI.bad hc (fun h => by unfold digD at h; omega))]
        have FIN := Lib.hid (NumRet.no (numS_no hno) hs)
        clear hno hd hs hc hun hi hle hil hu18 hcn c1
        go_wp2_with fail
        go_ret2
        exact FIN.out
      have k1 : ((c.toNat : Int) < 48) = False := eq_false (by omega)
      by_cases c2 : 57 < c.toNat
      · have k2 : (57 : Int) < (c.toNat : Int) := by omega
        have hno : readR t = none := by rw [HR2.out, if_neg (DigI.bad hc (fun h => by unfold digD at h; omega))]
        have FIN := Lib.hid (NumRet.no (numS_no hno) hs)
        clear hno hd hs hc hun hi hle hil hu18 hcn c1 c2
        go_wp2_with fail
        go_ret2
        exact FIN.out
      have k2 : ((57 : Int) < (c.toNat : Int)) = False := eq_false (by omega)
      have hd2 := hd.more hc (by unfold digD; omega)
      have hw1 : IntKind.u64.wrap (10 * (u : Int)) = 10 * (u : Int) := by rw [IntKind.wrap_u64]; omega
      have hw2 : IntKind.u8.wrap ((c.toNat : Int) - 48) = (c.toNat : Int) - 48 := by rw [IntKind.wrap_u8]; omega
      have hw3 : IntKind.u64.wrap ((c.toNat : Int) - 48) = (c.toNat : Int) - 48 := by rw [IntKind.wrap_u64]; omega
      have hw4 : IntKind.u64.wrap (10 * (u : Int) + ((c.toNat : Int) - 48)) = 10 * (u : Int) + ((c.toNat : Int) - 48) := by rw [IntKind.wrap_u64]; omega
      have FIN : Hid ((10 * (u : Int) + ((c.toNat : Int) - 48) = ((10 * u + (c.toNat - 48) : Nat) : Int)) ∧ DigI t (i + 1) (10 * u + (c.toNat - 48)) ∧ Sat wr F) := Lib.hid ⟨by omega, hd2, hs⟩
      have hc48 : (48 : Int) ≤ (c.toNat : Int) := by omega
      clear hd hd2 hs hc hun hi hle hil hu18 hcn c1 c2
      go_wp2_with fail
      exact ⟨⟨i + 1, _, by rw [← FIN.out.1], by simp, FIN.out.2.1, FIN.out.2.2⟩, by simp only [RowKit.intOf]; omega⟩
    · obtain rfl : i = t.length := by omega
      obtain ⟨hall, hval⟩ := hd.done
      have hu19 : u < 10 ^ 19 := Nat.lt_of_lt_of_le hun (Nat.pow_le_pow_right (by decide) (by omega))
      have hu19' : (u : Int) < 10000000000000000000 := by omega
      have HR3 := HR2.out
      rw [if_pos hall, ← hval] at HR3
      clear HR2 hd hun hi hle hil hall hval
      by_cases hb : 9223372036854775808 ≤ u
      · have k1 : (9223372036854775808 : Int) ≤ (u : Int) := by omega
        have hno : readR t = none := by rw [HR3, if_pos (.inr ⟨by trivial, hb⟩)]
        have FIN := Lib.hid (NumRet.no (numS_no hno) hs)
        clear hno HR3 hs hb hu19
        go_wp2_with fail
        go_ret2
        exact FIN.out
      have k1 : ((9223372036854775808 : Int) ≤ (u : Int)) = False := eq_false (by omega)
      have hyes : readR t = some (u : Int) := by
        rw [HR3, if_neg (fun h => h.elim (fun h => by cases h.1) (fun h => hb h.2))]
        rfl
      have HY := Lib.hid hyes
      have hw1 : IntKind.i64.wrap (u : Int) = (u : Int) := (IntWalk.i64_left _).trans (IntWalk.wrap64_in _ (by omega))
      have HNB := Lib.hid (rNumber_all _ (u : Int) ⟨by omega, by omega⟩ (Nat.lt_succ_self _) wr)
      obtain ⟨q, hq⟩ : ∃ q, (Lib.itoa (u : Int) == t) = q := ⟨_, rfl⟩
      have FIN : Hid (∀ k, NumRet F t (.returned (.tuple #[.int .i64 (u : Int), .bool q])) (wr.drewN k)) := Lib.hid (fun k => by rw [← hq]; exact NumRet.yes hyes (hs.grown (Grown.drewN wr k)))
      clear HY
      generalize Lib.itoa (u : Int) = L at *
      clear HR3 hs hb hu19 hyes
      go_wp2_with (go_at_call 34; refine Calls.mono HNB.out ?_; intro e w2 h2; obtain ⟨rfl, h3⟩ := h2; obtain ⟨m2, rfl⟩ := h3)
      go_ret2
      exact FIN.out m2
set_option maxRecDepth 100000 in
set_option maxHeartbeats 4000000 in
theorem refnum_sign {F : Heaplet} {w : World} (s : Sat w F) (y : Bs) (hy : 0 < y.length ∧ y.length ≤ 900000) : Calls Tryz.prog 39 #[kL ((45 : UInt8) :: y)] w (NumRet F ((45 : UInt8) :: y)) := by
  obtain ⟨x, hxd⟩ : ∃ x, ((45 : UInt8) :: y) = x := ⟨_, rfl⟩
  rw [hxd]
  obtain ⟨t, htd⟩ : ∃ t, y = t := ⟨_, rfl⟩
  have hR : readR x = if t.length < 1 ∨ 19 < t.length then none else if ∀ c ∈ t, digD c then if ((true : Bool) = true ∧ 9223372036854775808 < valD t) ∨ ((true : Bool) = false ∧ 9223372036854775808 ≤ valD t) then none else some (if (true : Bool) then -(valD t : Int) else (valD t : Int)) else none := by
    have hm : magR x = t := by rw [← hxd, ← htd]; unfold magR; rw [if_pos ⟨by rw [List.length_cons]; omega, rfl⟩]; rfl
    have hn : negR x = true := by rw [← hxd]; unfold negR; exact decide_eq_true ⟨by rw [List.length_cons]; omega, rfl⟩
    unfold readR
    rw [hm, hn]
  have HR := Lib.hid hR
  have j1 : (1 : Int) < (x.length : Int) := by rw [← hxd, List.length_cons]; omega
  have j3 : ∀ (h : 0 < (⟨x.toArray⟩ : ByteArray).size), (⟨x.toArray⟩ : ByteArray)[0]'h = 45 := fun h => by subst hxd; rfl
  have j4 : (0 : Int) < (x.length : Int) := by omega
  have j5 : ∀ W, (Instr.slice 9 (kL x) (some (.int .i64 1)) none none).run Tryz.prog W = .ok (kL t) W := fun W => by
    have h := run_from x 1 1 rfl (by rw [← hxd, List.length_cons]; omega) W
    rw [h, ← hxd, ← htd]; rfl
  have ht9 : t.length ≤ 900001 := by rw [← htd]; omega
  have ht9' : (t.length : Int) ≤ 900001 := by omega
  clear hR
  have HS := Lib.hid s
  clear hxd htd hy
  by_cases h1 : t.length < 1
  · have k1 : (t.length : Int) < 1 := by omega
    have hno : readR x = none := by rw [HR.out, if_pos (.inl h1)]
    have FIN := Lib.hid (NumRet.no (numS_no hno) s)
    clear h1 hno
    go_enter Tryz.func39, Tryz.ntmps39
    go_wp2_with fail
    go_ret2
    exact FIN.out
  have k1 : ((t.length : Int) < 1) = False := eq_false (by omega)
  by_cases h2 : 19 < t.length
  · have k2 : (19 : Int) < (t.length : Int) := by omega
    have hno : readR x = none := by rw [HR.out, if_pos (.inr h2)]
    have FIN := Lib.hid (NumRet.no (numS_no hno) s)
    clear h1 h2 hno
    go_enter Tryz.func39, Tryz.ntmps39
    go_wp2_with fail
    go_ret2
    exact FIN.out
  have k2 : ((19 : Int) < (t.length : Int)) = False := eq_false (by omega)
  have HLE := Lib.hid (show t.length ≤ 19 by omega)
  have HR2 : Hid (readR x = if ∀ c ∈ t, digD c then if ((true : Bool) = true ∧ 9223372036854775808 < valD t) ∨ ((true : Bool) = false ∧ 9223372036854775808 ≤ valD t) then none else some (if (true : Bool) then -(valD t : Int) else (valD t : Int)) else none) := Lib.hid (by rw [HR.out, if_neg (fun h => h.elim h1 h2)])
  clear h1 h2 s
  go_enter Tryz.func39, Tryz.ntmps39
  go_upto_block 0 with (fail)
  clear k1 k2
  go_wp2_with fail
  go_loopw [6, 7] (fun v6 v7 wr => ∃ (i u : Nat), v6 = .int .u64 (u : Int) ∧ v7 = .int .i64 (i : Int) ∧ DigI t i u ∧ Sat wr F) (fun _ v7 _ => 2000000 - (RowKit.intOf v7).toNat)
  case atStart => exact ⟨0, 0, rfl, rfl, DigI.start t, HS.out⟩
  case round =>
    clear HS
    obtain ⟨i, u, rfl, rfl, hd, hs⟩ := hrel
    have hle := HLE.out
    have hi := hd.1
    have i0 : (0 : Int) ≤ (i : Int) := by omega
    have u0 : (0 : Int) ≤ (u : Int) := by omega
    have hun : u < 10 ^ i := hd.lt
    by_cases hil : i < t.length
    · have i1 : (i : Int) < (t.length : Int) := by omega
      have i9 : i < 2000000 := by omega
      have hu18 : u < 10 ^ 18 := Nat.lt_of_lt_of_le hun (Nat.pow_le_pow_right (by decide) (by omega))
      have hu18' : (u : Int) < 1000000000000000000 := by omega
      obtain ⟨c, hc⟩ : ∃ c, t[i]? = some c := ⟨_, List.getElem?_eq_getElem hil⟩
      have hgt : ∀ (h : i < (⟨t.toArray⟩ : ByteArray).size), (⟨t.toArray⟩ : ByteArray)[i]'h = c := fun h => by
        rw [List.getElem?_eq_getElem hil] at hc
        cases hc
        rfl
      have hcn := c.toNat_lt
      by_cases c1 : c.toNat < 48
      · have k1 : (c.toNat : Int) < 48 := by omega
        have hno : readR x = none := by rw [HR2.out, if_neg (DigI.bad hc (fun h => by unfold digD at h; omega))]
        have FIN := Lib.hid (NumRet.no (numS_no hno) hs)
        clear hno hd hs hc hun hi hle hil hu18 hcn c1
        go_wp2_with fail
        go_ret2
        exact FIN.out
      have k1 : ((c.toNat : Int) < 48) = False := eq_false (by omega)
      by_cases c2 : 57 < c.toNat
      · have k2 : (57 : Int) < (c.toNat : Int) := by omega
        have hno : readR x = none := by rw [HR2.out, if_neg (DigI.bad hc (fun h => by unfold digD at h; omega))]
        have FIN := Lib.hid (NumRet.no (numS_no hno) hs)
        clear hno hd hs hc hun hi hle hil hu18 hcn c1 c2
        go_wp2_with fail
        go_ret2
        exact FIN.out
      have k2 : ((57 : Int) < (c.toNat : Int)) = False := eq_false (by omega)
      have hd2 := hd.more hc (by unfold digD; omega)
      have hw1 : IntKind.u64.wrap (10 * (u : Int)) = 10 * (u : Int) := by rw [IntKind.wrap_u64]; omega
      have hw2 : IntKind.u8.wrap ((c.toNat : Int) - 48) = (c.toNat : Int) - 48 := by rw [IntKind.wrap_u8]; omega
      have hw3 : IntKind.u64.wrap ((c.toNat : Int) - 48) = (c.toNat : Int) - 48 := by rw [IntKind.wrap_u64]; omega
      have hw4 : IntKind.u64.wrap (10 * (u : Int) + ((c.toNat : Int) - 48)) = 10 * (u : Int) + ((c.toNat : Int) - 48) := by rw [IntKind.wrap_u64]; omega
      have FIN : Hid ((10 * (u : Int) + ((c.toNat : Int) - 48) = ((10 * u + (c.toNat - 48) : Nat) : Int)) ∧ DigI t (i + 1) (10 * u + (c.toNat - 48)) ∧ Sat wr F) := Lib.hid ⟨by omega, hd2, hs⟩
      have hc48 : (48 : Int) ≤ (c.toNat : Int) := by omega
      clear hd hd2 hs hc hun hi hle hil hu18 hcn c1 c2
      go_wp2_with fail
      exact ⟨⟨i + 1, _, by rw [← FIN.out.1], by simp, FIN.out.2.1, FIN.out.2.2⟩, by simp only [RowKit.intOf]; omega⟩
    · obtain rfl : i = t.length := by omega
      obtain ⟨hall, hval⟩ := hd.done
      have hu19 : u < 10 ^ 19 := Nat.lt_of_lt_of_le hun (Nat.pow_le_pow_right (by decide) (by omega))
      have hu19' : (u : Int) < 10000000000000000000 := by omega
      have HR3 := HR2.out
      rw [if_pos hall, ← hval] at HR3
      clear HR2 hd hun hi hle hil hall hval
      by_cases hb : 9223372036854775808 < u
      · have k1 : (9223372036854775808 : Int) < (u : Int) := by omega
        have hno : readR x = none := by rw [HR3, if_pos (.inl ⟨by trivial, hb⟩)]
        have FIN := Lib.hid (NumRet.no (numS_no hno) hs)
        clear hno HR3 hs hb hu19
        go_wp2_with fail
        go_ret2
        exact FIN.out
      have k1 : ((9223372036854775808 : Int) < (u : Int)) = False := eq_false (by omega)
      have hyes : readR x = some (-(u : Int)) := by
        rw [HR3, if_neg (fun h => h.elim (fun h => hb h.2) (fun h => by cases h.1))]
        rfl
      have HY := Lib.hid hyes
      obtain ⟨m, hw1, hw2⟩ := neg_min (u := u) (by omega)
      have HNB := Lib.hid (rNumber_all _ (-(u : Int)) ⟨by omega, by omega⟩ (Nat.lt_succ_self _) wr)
      obtain ⟨q, hq⟩ : ∃ q, (Lib.itoa (-(u : Int)) == x) = q := ⟨_, rfl⟩
      have FIN : Hid (∀ k, NumRet F x (.returned (.tuple #[.int .i64 (-(u : Int)), .bool q])) (wr.drewN k)) := Lib.hid (fun k => by rw [← hq]; exact NumRet.yes hyes (hs.grown (Grown.drewN wr k)))
      clear HY
      generalize Lib.itoa (-(u : Int)) = L at *
      clear HR3 hs hb hu19 hyes
      go_wp2_with (go_at_call 34; refine Calls.mono HNB.out ?_; intro e w2 h2; obtain ⟨rfl, h3⟩ := h2; obtain ⟨m2, rfl⟩ := h3)
      go_ret2
      exact FIN.out m2
theorem refnum_any {F : Heaplet} {w : World} (s : Sat w F) (x : Bs) (hx : x.length ≤ 900000) : Calls Tryz.prog 39 #[kL x] w (NumRet F x) := by
  match x, hx with
  | [], _ => exact refnum_one s [] (by decide)
  | [c], _ => exact refnum_one s [c] (by simp)
  | c :: d :: y, hx =>
    by_cases h : c = 45
    · subst h
      exact refnum_sign s (d :: y) ⟨by simp, by simp only [List.length_cons] at hx ⊢; omega⟩
    · exact refnum_plain s c (d :: y) ⟨by simp, by simp only [List.length_cons] at hx ⊢; omega⟩ h
end Go.Proofs.YtieaamlpadlfeaaGreatDoor
