/- The reference's locks: Has, Used, Use walked. Conditions: none. -/
import Derived.Test.YtcndmiepbodpnaaRef1
namespace Go.Proofs.Ytcndmiepbodpnaa
open Go Go.MapKept Go.RowKit Go.Proofs

def GoodL (R : Lks) : Prop := ∀ p k, getL p R = some k → k.good
set_option maxRecDepth 100000 in
theorem has_ref (c : Nat) (R : Lks) (F : Heaplet) (p : Int) (x : Bool) (w : World) (h : RefIs c R F w) (hl : R.length ≤ 100000) :
    Calls Try.prog 20 #[.pointer (some ⟨c, 0, none⟩), .int .i64 p, .bool x] w (Ret (.bool (hasM R p x)) (Same w)) := by
  have HA := Lib.hid (at_ref c R F p w h hl)
  obtain ⟨a, cap, c0, hcs⟩ := h.cells
  unfold hasM
  cases hk : getL p R with
  | none =>
    have e : atR R p = -1 := by unfold atR; rw [hk]
    clear hcs h
    go_enter Try.func20, Try.ntmps20
    go_wp2_with fail
    refine (HA.out).mono ?_
    rintro _ w1 ⟨rfl, rfl⟩
    rw [e]
    go_wp2_with fail
    go_ret
    exact ⟨rfl, rfl⟩
  | some k =>
    have e : atR R p = (posL p R : Int) := by unfold atR; rw [hk]
    obtain ⟨hlt, hpk⟩ := pos_lt hk
    obtain ⟨g, rfl, _, _, c1, _, _⟩ := hcs _ _ hpk
    generalize posL p R = i at *
    have i0 : (0 : Int) ≤ (i : Int) := by omega
    have i1 : (i : Int) < (R.length : Int) := by omega
    obtain ⟨kx, ku, kw⟩ := k
    simp only at c1 ⊢
    clear hcs h hk hpk
    cases kx <;> cases x
    all_goals
      go_enter Try.func20, Try.ntmps20
      go_wp2_with fail
      refine (HA.out).mono ?_
      rintro _ w1 ⟨rfl, rfl⟩
      rw [e]
      go_wp2_with fail
      go_ret
      exact ⟨rfl, rfl⟩
set_option maxRecDepth 100000 in
theorem used_ref (c : Nat) (R : Lks) (F : Heaplet) (p : Int) (w : World) (h : RefIs c R F w) (hl : R.length ≤ 100000) :
    Calls Try.prog 22 #[.pointer (some ⟨c, 0, none⟩), .int .i64 p] w (Ret (.int .i64 (usedM R p)) (Same w)) := by
  have HA := Lib.hid (at_ref c R F p w h hl)
  obtain ⟨a, cap, c0, hcs⟩ := h.cells
  unfold usedM
  cases hk : getL p R with
  | none =>
    have e : atR R p = -1 := by unfold atR; rw [hk]
    clear hcs h
    go_enter Try.func22, Try.ntmps22
    go_wp2_with fail
    refine (HA.out).mono ?_
    rintro _ w1 ⟨rfl, rfl⟩
    rw [e]
    go_wp2_with fail
    go_ret
    exact ⟨rfl, rfl⟩
  | some k =>
    have e : atR R p = (posL p R : Int) := by unfold atR; rw [hk]
    obtain ⟨hlt, hpk⟩ := pos_lt hk
    obtain ⟨g, rfl, _, _, _, c1, _⟩ := hcs _ _ hpk
    generalize posL p R = i at *
    have i0 : (0 : Int) ≤ (i : Int) := by omega
    have i1 : (i : Int) < (R.length : Int) := by omega
    clear hcs h hk hpk
    go_enter Try.func22, Try.ntmps22
    go_wp2_with fail
    refine (HA.out).mono ?_
    rintro _ w1 ⟨rfl, rfl⟩
    rw [e]
    go_wp2_with fail
    go_ret
    exact ⟨rfl, rfl⟩
theorem put_self {R : Lks} {p : Int} {k : Lk} (h : getL p R = some k) : putL p k R = R := by
  rw [putL_set p k k R h]
  obtain ⟨h1, h2⟩ := pos_lt h
  apply List.ext_getElem?
  intro j
  rw [List.getElem?_set]
  by_cases e : posL p R = j
  · subst e; rw [if_pos rfl, if_pos h1, h2]
  · rw [if_neg e]
theorem has_some {R : Lks} {p : Int} {x : Bool} (h : hasM R p x = true) : ∃ k, getL p R = some k := by
  unfold hasM at h
  cases hk : getL p R with
  | none => rw [hk] at h; cases h
  | some k => exact ⟨k, rfl⟩
set_option maxRecDepth 100000 in
theorem use_ref (c : Nat) (R : Lks) (F : Heaplet) (p : Int) (x : Bool) (w : World) (h : RefIs c R F w) (hl : R.length ≤ 100000) (hg : GoodL R) :
    Calls Try.prog 15 #[.pointer (some ⟨c, 0, none⟩), .int .i64 p, .bool x] w (Ret (.int .i64 (useM R p x).1) (RefIs c (useM R p x).2 F)) := by
  have hh := has_ref c R F p x w h hl
  have HA := Lib.hid (at_ref c R F p w h hl)
  unfold useM
  cases hx : hasM R p x with
  | false =>
    rw [hx] at hh
    have HH := Lib.hid hh
    have H := Lib.hid h
    clear h hh
    go_enter Try.func15, Try.ntmps15
    go_wp2_with fail
    refine (HH.out).mono ?_
    rintro _ w1 ⟨rfl, rfl⟩
    go_wp2_with fail
    go_ret
    exact ⟨rfl, H.out⟩
  | true =>
    rw [hx] at hh
    obtain ⟨k, hk⟩ := has_some hx
    simp only [if_true]
    have hgd := hg p k hk
    rw [hk]
    simp only
    have e : atR R p = (posL p R : Int) := by unfold atR; rw [hk]
    have hps := putL_set p (useK k x) k R hk
    have hself := put_self hk
    obtain ⟨hlt, hpk⟩ := pos_lt hk
    obtain ⟨a, cap, c0, hcs⟩ := h.cells
    obtain ⟨g, rfl, fz, _, _, c1, _⟩ := hcs _ _ hpk
    generalize posL p R = i at *
    have i0 : (0 : Int) ≤ (i : Int) := by omega
    have i1 : (i : Int) < (R.length : Int) := by omega
    have f1 := fz (i * 4 + 2)
    have HH := Lib.hid hh
    cases x with
    | true =>
      have hs := h.setAt hpk (f := 2) (q' := (p, useK k true)) (v := kI 2) (by decide) (by simp [flatK, useK]) c0
      rw [← hps] at hs
      have HS := Lib.hid hs
      clear hcs h hk hpk hh hs fz hx
      go_enter Try.func15, Try.ntmps15
      go_wp2_with fail
      refine (HH.out).mono ?_
      rintro _ w1 ⟨rfl, rfl⟩
      go_wp2_with fail
      refine (HA.out).mono ?_
      rintro _ w1 ⟨rfl, rfl⟩
      rw [e]
      go_wp2_with fail
      go_ret
      exact ⟨rfl, HS.out⟩
    | false =>
      by_cases hz : k.used = 0
      · have hs := h.setAt hpk (f := 2) (q' := (p, useK k false)) (v := kI 1) (by decide) (by simp [flatK, useK, hz] <;> decide) c0
        rw [← hps] at hs
        have HS := Lib.hid hs
        simp only [hz] at c1
        clear hcs h hk hpk hh hs fz hx
        go_enter Try.func15, Try.ntmps15
        go_wp2_with fail
        refine (HH.out).mono ?_
        rintro _ w1 ⟨rfl, rfl⟩
        go_wp2_with fail
        refine (HA.out).mono ?_
        rintro _ w1 ⟨rfl, rfl⟩
        rw [e]
        go_wp2_with fail
        go_ret
        exact ⟨rfl, HS.out⟩
      · have hb : (k.used == 0) = false := by simpa using hz
        have eu : useK k false = k := by
          obtain ⟨kx, ku, kw⟩ := k
          have := hgd.1
          simp only at hz this
          simp only [useK, Bool.false_eq_true, if_false, Lk.mk.injEq, true_and, and_true]
          omega
        rw [eu, hself]
        have HS := Lib.hid h
        clear hcs h hk hpk hh fz hx hz hps hself
        go_enter Try.func15, Try.ntmps15
        go_wp2_with fail
        refine (HH.out).mono ?_
        rintro _ w1 ⟨rfl, rfl⟩
        go_wp2_with fail
        refine (HA.out).mono ?_
        rintro _ w1 ⟨rfl, rfl⟩
        rw [e]
        go_wp2_with fail
        go_ret
        exact ⟨rfl, HS.out⟩
end Go.Proofs.Ytcndmiepbodpnaa
