/- RingSecond: who was asked for stays. -/
import Derived.Test.YtbjomkbiljpjmaaRing09
import Derived.Test.YtbjomkbiljpjmaaArgs
namespace Go.Proofs.Ytbjomkbiljpjmaa
open Go Go.MapKept Go.RowKit Go.Proofs

/-! ### the model: a ring filled in order -/
/-- The first i of n frames hold 0 .. i-1, all fresh. -/
def fillI (n i : Nat) : Frs Int := (List.range n).map fun j : Nat => if j < i then some ⟨j, j, 0, true⟩ else none
/-- A full ring, the frames below h not fresh any more. -/
def doneI (n h : Nat) : Frs Int := (List.range n).map fun j : Nat => some ⟨j, j, 0, decide (h ≤ j)⟩
theorem fillI_get (n i j : Nat) : (fillI n i)[j]? = if j < n then some (if j < i then some ⟨j, j, 0, true⟩ else none) else none := by
  simp only [fillI, List.getElem?_map, List.getElem?_range]
  split <;> simp_all
theorem doneI_get (n h j : Nat) : (doneI n h)[j]? = if j < n then some (some ⟨j, j, 0, decide (h ≤ j)⟩) else none := by
  simp only [doneI, List.getElem?_map, List.getElem?_range]
  split <;> simp_all
theorem fillI_zero (n : Nat) : fillI n 0 = List.replicate n none := by
  refine List.ext_getElem? (fun j => ?_)
  rw [fillI_get, List.getElem?_replicate]
  simp
theorem fillI_full (n : Nat) : fillI n n = doneI n 0 := by
  refine List.ext_getElem? (fun j => ?_)
  rw [fillI_get, doneI_get]
  split <;> simp_all
theorem fillI_len (n i : Nat) : (fillI n i).length = n := by simp [fillI]
theorem doneI_len (n i : Nat) : (doneI n i).length = n := by simp [doneI]
theorem fillI_put (n i : Nat) (hi : i < n) : putM (fillI n i) 0 (i : Int) (i : Int) = ((none, true), fillI n (i + 1), 0) := by
  have h1 : findF (fillI n i) (i : Int) = none := findF_absent fun j f hj => by
    rw [fillI_get] at hj
    split at hj
    · split at hj
      · simp only [Option.some.injEq] at hj
        subst hj
        simp; omega
      · simp at hj
    · simp at hj
  have h2 : vacM (fillI n i) = some i := vacM_of (by rw [fillI_get]; simp [hi]) fun j hj => ⟨⟨j, j, 0, true⟩, by rw [fillI_get]; simp [hj]; omega⟩
  simp only [putM, h1, h2]
  congr 2
  refine List.ext_getElem? (fun j => ?_)
  rw [List.getElem?_set, fillI_get, fillI_get, fillI_len]
  by_cases e : i = j
  · subst e; simp [hi]
  · simp only [e, if_false]
    split
    · congr 1
      by_cases h : j < i
      · simp [h, Nat.lt_succ_of_lt h]
      · have : ¬ j < i + 1 := by omega
        simp [h, this]
    · rfl
theorem doneI_full (n h : Nat) : AllFull (doneI n h) := fun j hj => by
  rw [doneI_len] at hj
  exact ⟨_, by rw [doneI_get, if_pos hj]⟩
theorem freeM_round : ∀ (d n h fuel : Nat), h + d = n → 0 < n → freeM (fuel + 1 + d) (doneI n h) (h % n) = some (0, ⟨0, 0, 0, false⟩, doneI n n, 1 % n)
  | 0, n, h, fuel, e, hn => by
    obtain rfl : h = n := by omega
    rw [Nat.mod_self]
    have := doneI_get h h 0
    rw [if_pos hn] at this
    have h0 : ¬ h ≤ 0 := by omega
    simp only [freeM, this, doneI_len]
    simp [h0]
  | d + 1, n, h, fuel, e, hn => by
    have hl : h < n := by omega
    have ih := freeM_round d n (h + 1) fuel (by omega) hn
    rw [Nat.mod_eq_of_lt hl]
    have := doneI_get n h h
    rw [if_pos hl] at this
    rw [show fuel + 1 + (d + 1) = (fuel + 1 + d) + 1 from by omega]
    simp only [freeM, this, doneI_len]
    have hset : (doneI n h).set h (some ⟨(h : Int), (h : Int), 0, false⟩) = doneI n (h + 1) := by
      refine List.ext_getElem? (fun j => ?_)
      rw [List.getElem?_set, doneI_get, doneI_get, doneI_len]
      by_cases ej : h = j
      · subst ej
        have : ¬ (h + 1 ≤ h) := by omega
        simp [hl, this]
      · simp only [ej, if_false]
        split
        · congr 3
          by_cases hj : h ≤ j
          · have : h + 1 ≤ j := by omega
            simp [hj, this]
          · have : ¬ h + 1 ≤ j := by omega
            simp [hj, this]
        · rfl
    simp only [Nat.le_refl, decide_true, Bool.not_true, Bool.and_false, Bool.false_eq_true, if_false, Int.lt_irrefl, decide_false, hset]
    exact ih
theorem put_first (n : Nat) (hn : 0 < n) : putM (doneI n 0) 0 (n : Int) (n : Int) = ((some ⟨0, 0, 0, false⟩, true), (doneI n n).set 0 (some ⟨n, n, 0, true⟩), 1 % n) := by
  have h1 : findF (doneI n 0) (n : Int) = none := findF_absent fun j f hj => by
    rw [doneI_get] at hj
    split at hj
    · simp only [Option.some.injEq] at hj
      subst hj
      simp; omega
    · simp at hj
  have h2 := vacM_full (doneI_full n 0)
  have h3 : pinnedM (doneI n 0) = false := pinnedM_of (i := 0) (f := ⟨0, 0, 0, true⟩) (by rw [doneI_get, if_pos hn]; rfl) rfl
  have h4 := freeM_round n n 0 n (by omega) hn
  rw [Nat.zero_mod, show n + 1 + n = 2 * n + 1 from by omega] at h4
  simp only [putM, h1, h2, h3, doneI_len, h4]
  rfl

theorem findF_present {X : Type} {fr : Frs X} {i : Nat} {f : Fr X} (h : fr[i]? = some (some f)) : (findF fr f.key).isSome = true := by
  cases e : findF fr f.key with
  | some x => rfl
  | none =>
    refine absurd ?_ (idxK_none.1 (findF_none e))
    exact List.mem_of_getElem? (keysOf_get h)
theorem getM_isSome {X : Type} (fr : Frs X) (k : Int) : (getM fr k).1.isSome = (findF fr k).isSome := by
  unfold getM
  cases findF fr k <;> rfl
/-- Behind the first that left. -/
def fr1 (n : Nat) : Frs Int := (doneI n n).set 0 (some ⟨n, n, 0, true⟩)
theorem fr1_get (n j : Nat) (h0 : 0 < j) (hj : j < n) : (fr1 n)[j]? = some (some ⟨j, j, 0, false⟩) := by
  have h1 : ¬ 0 = j := by omega
  have h2 : ¬ n ≤ j := by omega
  rw [fr1, List.getElem?_set, if_neg h1, doneI_get, if_pos hj]
  simp [h2]
theorem fr1_len (n : Nat) : (fr1 n).length = n := by simp [fr1, doneI_len]
theorem fr1_full (n : Nat) : AllFull (fr1 n) := (doneI_full n n).set _ _
theorem fr1_key {n j : Nat} {f : Fr Int} (h : (fr1 n)[j]? = some (some f)) : f.key = if j = 0 then (n : Int) else (j : Int) := by
  have hl := (List.getElem?_eq_some_iff.1 h).1
  rw [fr1_len] at hl
  by_cases e : j = 0
  · subst e
    rw [fr1, List.getElem?_set] at h
    simp [doneI_len, hl] at h
    subst h; rfl
  · rw [fr1_get n j (by omega) hl] at h
    simp only [Option.some.injEq] at h
    subst h
    simp [e]
/-- .. and one was asked for. -/
def fr2 (n k : Nat) : Frs Int := (fr1 n).set k (some ⟨k, k, 0, true⟩)
theorem get_fr1 (n k : Nat) (h0 : 0 < k) (hk : k < n) : getM (fr1 n) (k : Int) = (some (k : Int), fr2 n k) := by
  have hu : findF (fr1 n) (k : Int) = some (k, ⟨k, k, 0, false⟩) := by
    have hg := fr1_get n k h0 hk
    cases e : findF (fr1 n) (k : Int) with
    | none =>
      have := findF_present hg
      simp only at this
      rw [e] at this; cases this
    | some x =>
      obtain ⟨i, f⟩ := x
      obtain ⟨_, h2, h3⟩ := findF_some e
      have h4 := fr1_key h2
      rw [h3] at h4
      have hik : k = i := by
        split at h4 <;> omega
      subst hik
      rw [hg] at h2
      simp only [Option.some.injEq] at h2
      rw [h2]
  simp [getM, hu, fr2]
theorem fr2_key {n k j : Nat} {f : Fr Int} (h0 : 0 < k) (h : (fr2 n k)[j]? = some (some f)) : f.key = if j = 0 then (n : Int) else (j : Int) := by
  rw [fr2, List.getElem?_set] at h
  by_cases e : k = j
  · subst e
    rw [if_pos rfl] at h
    split at h
    · simp only [Option.some.injEq] at h
      subst h
      have : ¬ k = 0 := by omega
      simp [this]
    · simp at h
  · simp only [e, if_false] at h
    exact fr1_key h
/-- The next one that leaves is not the one that was asked for, and that stays. -/
theorem second_leaves (n k : Nat) (hn : 3 ≤ n) (hn2 : n ≤ 62) (h0 : 0 < k) (hk : k < n) :
    ∃ (g : Fr Int) (fr' : Frs Int) (h' : Nat), putM (fr2 n k) 1 1000 0 = ((some g, true), fr', h') ∧ g.key ≠ (k : Int) ∧ (findF fr' (k : Int)).isSome = true := by
  have h1 : findF (fr2 n k) 1000 = none := findF_absent fun j f hj => by
    rw [fr2_key h0 hj]
    have := (List.getElem?_eq_some_iff.1 hj).1
    simp [fr2, fr1_len] at this
    split <;> omega
  have h2 := vacM_full ((fr1_full n).set k ⟨k, k, 0, true⟩)
  have hkk : (fr2 n k)[k]? = some (some ⟨k, k, 0, true⟩) := by
    rw [fr2, List.getElem?_set]; simp [fr1_len, hk]
  have h3 : pinnedM (fr2 n k) = false := pinnedM_of hkk rfl
  have hlen : (fr2 n k).length = n := by simp [fr2, fr1_len]
  have hfree : ∃ (a : Nat) (g : Fr Int) (fr' : Frs Int) (h' : Nat), freeM (2 * n + 1) (fr2 n k) 1 = some (a, g, fr', h') ∧ g.key ≠ (k : Int) ∧ a ≠ k := by
    by_cases e : k = 1
    · subst e
      have h22 : ((fr2 n 1).set 1 (some ⟨1, 1, 0, false⟩))[2]? = some (some ⟨2, 2, 0, false⟩) := by
        rw [List.getElem?_set]
        have := fr1_get n 2 (by omega) (by omega)
        simp only [fr2, List.getElem?_set]
        simpa using this
      have hstep : freeM (2 * n + 1) (fr2 n 1) 1 = freeM (2 * n) ((fr2 n 1).set 1 (some ⟨1, 1, 0, false⟩)) 2 := by
        simp only [freeM, hkk, hlen]
        have : 2 % n = 2 := Nat.mod_eq_of_lt (by omega)
        simp [this]
      refine ⟨2, ⟨2, 2, 0, false⟩, (fr2 n 1).set 1 (some ⟨1, 1, 0, false⟩), 3 % n, ?_, by simp, by omega⟩
      rw [hstep, show 2 * n = (2 * n - 1) + 1 from by omega]
      simp only [freeM, h22]
      simp [hlen]
    · have h11 : (fr2 n k)[1]? = some (some ⟨1, 1, 0, false⟩) := by
        have := fr1_get n 1 (by omega) (by omega)
        rw [fr2, List.getElem?_set, if_neg e]
        simpa using this
      refine ⟨1, ⟨1, 1, 0, false⟩, fr2 n k, 2 % n, ?_, by simp; omega, by omega⟩
      simp only [freeM, h11]
      simp [hlen]
  obtain ⟨a, g, fr', h', hf, hg, ha⟩ := hfree
  obtain ⟨s1, s2, _, _, _⟩ := freeM_spec _ _ _ _ _ _ _ hf
  have hgk : ∃ f, fr'[k]? = some (some f) ∧ f.key = (k : Int) := by
    have hl : k < fr'.length := by rw [strips_len s1, hlen]; exact hk
    cases hx : fr'[k]? with
    | none => rw [List.getElem?_eq_none_iff] at hx; omega
    | some o =>
      cases o with
      | none =>
        have := congrArg (fun l => l[k]?) s1
        simp [strips, hx, hkk] at this
      | some f =>
        obtain ⟨f0, e1, e2⟩ := strips_get s1 hx
        rw [hkk] at e1
        simp only [Option.some.injEq] at e1
        subst e1
        simp only [strip, Prod.mk.injEq] at e2
        exact ⟨f, rfl, e2.1.symm⟩
  obtain ⟨f, hf1, hf2⟩ := hgk
  refine ⟨g, fr'.set a (some ⟨1000, 0, 0, true⟩), h', ?_, hg, ?_⟩
  · rw [show fr2 n k = (fr1 n).set k (some ⟨k, k, 0, true⟩) from rfl] at h1 h3 hf hlen ⊢
    simp only [putM, h1, h2, h3, hlen, hf]
    rfl
  · have : (fr'.set a (some ⟨1000, 0, 0, true⟩))[k]? = some (some f) := by rw [List.getElem?_set]; simp [ha, hf1]
    rw [← hf2]
    exact findF_present this

def SecI (rb n i : Nat) (W w : World) : Prop := RI.RingIs rb (if i ≤ n then fillI n i else fr1 n) (if i ≤ n then 0 else 1) (allOf W) w
set_option maxRecDepth 100000 in
set_option maxHeartbeats 1600000 in
theorem second_walk (frames ask : Int) (W : World) (_ : -9223372036854775808 ≤ frames) (_ : frames ≤ 9223372036854775807) (_ : -9223372036854775808 ≤ ask) (_ : ask ≤ 9223372036854775807) :
    Calls Try.prog 5 #[.int .i64 frames, .int .i64 ask] W (Ret (.bool true) (RowKit.Below W.heap.size W)) := by
  obtain ⟨m, hm, hm0, hm1⟩ : ∃ m, wrap64 ((IntKind.u64.wrap frames).tmod 60) = m ∧ 0 ≤ m ∧ m < 60 := ⟨_, rfl, umod_bd frames 60 (by omega) (by omega)⟩
  obtain ⟨n, hn⟩ : ∃ n : Nat, (n : Int) = 3 + m := ⟨(3 + m).toNat, by omega⟩
  have hn3 : 3 ≤ n := by omega
  have hn62 : n ≤ 62 := by omega
  have hN := Lib.hid hn
  clear hn
  go_enter Try.func5, Try.ntmps5
  go_wp2_with fail
  refine (awake9 _ _ (sat_all W)).mono ?_
  rintro e w1 ⟨rfl, hs1⟩
  have hnew := RI.new_any _ (3 + m) w1 hs1
  rw [← hN.out, show (min (max (n : Int) 1) 64).toNat = n from by omega, ← fillI_zero] at hnew
  have Hnew := Lib.hid hnew
  clear hnew hs1
  go_upto_region 4 with (fail)
  rw [hm, ← hN.out]
  clear hm hN hm0 hm1
  go_wp2_with fail
  refine (Hnew.out).mono ?_
  rintro e w2 ⟨rb, rfl, h2⟩
  clear Hnew
  have hI : SecI rb n 0 W w2 := by unfold SecI; simpa using h2
  clear h2
  go_wp2_with fail
  go_loopw [6] (fun c wr => ∃ i : Nat, i ≤ n + 1 ∧ c = .int .i64 i ∧ SecI rb n i W wr) (fun c _ => 100 - (intOf c).toNat)
  case atStart => exact ⟨0, by omega, rfl, hI⟩
  case round =>
    obtain ⟨i, hi, rfl, hI⟩ := hrel
    by_cases hlt : i < n
    · have h1 : RI.RingIs rb (fillI n i) 0 (allOf W) wr := by
        unfold SecI at hI
        rw [if_pos (by omega), if_pos (by omega)] at hI
        exact hI
      have hp := RI.put_any rb _ _ _ _ h1 i i
      rw [fillI_put n i hlt] at hp
      have Hp := Lib.hid hp
      clear h1 hI hp
      have hne : ((i : Int) == (n : Int)) = false := by rw [beq_eq_false_iff_ne]; omega
      go_wp2_with fail
      refine (Hp.out).mono ?_
      rintro e w3 ⟨rfl, h3⟩
      simp only [RI.outV]
      have hfin : SecI rb n (i + 1) W (w3.alloc (.cells #[.int .i64 0, .int .i64 0, .bool false] 39)) := by
        unfold SecI
        rw [if_pos (by omega), if_pos (by omega)]
        exact (h3.new _).unF
      have Fin := Lib.hid hfin
      clear h3 hfin
      go_wp2_with fail
      go_roundw
      case rel => exact ⟨i + 1, by omega, by go_num, Fin.out⟩
      case measure => simp [intOf]; omega
    · by_cases heq : i = n
      · subst heq
        have h1 : RI.RingIs rb (doneI i 0) 0 (allOf W) wr := by
          unfold SecI at hI
          rw [if_pos (Nat.le_refl _), if_pos (Nat.le_refl _), fillI_full] at hI
          exact hI
        have hp := RI.put_any rb _ _ _ _ h1 i i
        rw [put_first i (by omega)] at hp
        have Hp := Lib.hid hp
        clear h1 hI hp
        go_wp2_with fail
        refine (Hp.out).mono ?_
        rintro e w3 ⟨rfl, h3⟩
        simp only [RI.outV]
        have hfin : SecI rb i (i + 1) W (w3.alloc (.cells #[.int .i64 0, .int .i64 0, .bool true] 39)) := by
          unfold SecI
          rw [if_neg (by omega), if_neg (by omega)]
          have := (h3.new (.cells #[.int .i64 0, .int .i64 0, .bool true] 39)).unF
          rw [show 1 % i = 1 from Nat.mod_eq_of_lt (by omega)] at this
          exact this
        have Fin := Lib.hid hfin
        clear h3 hfin
        go_wp2_with fail
        go_roundw
        case rel => exact ⟨i + 1, by omega, by go_num, Fin.out⟩
        case measure => simp [intOf]; omega
      · obtain rfl : i = n + 1 := by omega
        have h1 : RI.RingIs rb (fr1 n) 1 (allOf W) wr := by
          unfold SecI at hI
          rw [if_neg (by omega), if_neg (by omega)] at hI
          exact hI
        obtain ⟨a, ha, ha0, ha1⟩ : ∃ a, wrap64 ((IntKind.u64.wrap ask).tmod ((n : Int) - 1)) = a ∧ 0 ≤ a ∧ a < (n : Int) - 1 := ⟨_, rfl, umod_bd ask ((n : Int) - 1) (by omega) (by omega)⟩
        obtain ⟨k, hk⟩ : ∃ k : Nat, (k : Int) = 1 + a := ⟨(1 + a).toNat, by omega⟩
        have hk0 : 0 < k := by omega
        have hk1 : k < n := by omega
        have hg := RI.get_any rb _ _ _ _ h1 k
        rw [get_fr1 n k hk0 hk1] at hg
        have Hg := Lib.hid hg
        obtain ⟨g, fr', h', hput, hgk, hfk⟩ := second_leaves n k hn3 hn62 hk0 hk1
        have HK := Lib.hid hk
        have HP := Lib.hid hput
        have HF := Lib.hid hfk
        have hgk2 : (g.key == (k : Int)) = false := by rw [beq_eq_false_iff_ne]; exact hgk
        have hgk3 : (g.key != (k : Int)) = true := by rw [bne, hgk2]; rfl
        clear hk h1 hI hg hput hfk hgk heq hlt
        go_upto_region 12 with (fail)
        rw [ha, ← HK.out]
        clear ha
        go_wp2_with fail
        refine (Hg.out).mono ?_
        rintro e w3 ⟨rfl, h3⟩
        simp only [RI.valV, Option.isSome_some]
        have hp := RI.put_any rb _ _ _ _ h3 1000 0
        rw [HP.out] at hp
        have Hp := Lib.hid hp
        clear h3 hp
        go_wp2_with fail
        refine (Hp.out).mono ?_
        rintro e w4 ⟨rfl, h4⟩
        simp only [RI.outV]
        have h5 := h4.new (.cells #[.int .i64 g.key, .int .i64 g.val, .bool true] 39)
        have hg2 := RI.get_any rb _ _ _ _ h5 k
        rw [getM_isSome, HF.out] at hg2
        have Hg2 := Lib.hid hg2
        clear h4 h5 hg2
        go_wp2_with fail
        generalize w4.alloc _ = W4 at *
        generalize w4.heap.size = ob at *
        refine (Hg2.out).mono ?_
        rintro e w5 ⟨rfl, h6⟩
        have hf := h6.frame
        have c0 : w5.cell? ⟨ob, 0, none⟩ = some (kI g.key) := by rw [cell_of hf.h0]; rfl
        have c2 : w5.cell? ⟨ob, 2, none⟩ = some (.bool true) := by rw [cell_of hf.h0]; rfl
        have Fin := Lib.hid hf.tail.below
        clear hf h6
        go_wp2_with fail
        go_ret
        exact ⟨rfl, Fin.out⟩
end Go.Proofs.Ytbjomkbiljpjmaa
