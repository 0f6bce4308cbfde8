/- Entries and names: the small functions walked. Conditions: none. -/
import Derived.Test.YtceegnfjdgjomaaPaM
import Derived.Test.YtceegnfjdgjomaaProg
import Derived.ProofKit
import Derived.Lib.Hide
import Derived.StillTailTactics
import Derived.Deep.RegionHeld3
import Derived.Deep.RegionWith
import Derived.Deep.DeepCutAuto
import Derived.Deep.QuietTactic
import Derived.BigQuiet
namespace Go.Proofs.Ytceegnfjdgjomaa
open Go Go.MapKept Go.RowKit Go.Proofs Go.Sort

theorem within_any (n lo hi : Int) (w : World) : Calls Try.prog 30 #[.int .i64 n, .int .i64 lo, .int .i64 hi] w (Ret (.bool (withinM n lo hi)) (Same w)) := by
  unfold withinM
  by_cases h : lo ≤ n
  · by_cases h2 : n ≤ hi
    all_goals
      have d : decide (lo ≤ n) = true := by simpa using h
      go_enter Try.func30, Try.ntmps30
      go_wp2_with fail
      go_ret
      exact ⟨by simp [h, h2], rfl⟩
  · have d : (lo ≤ n) = False := by simpa using h
    go_enter Try.func30, Try.ntmps30
    go_wp2_with fail
    go_ret
    exact ⟨by simp [h], rfl⟩
theorem first_any (n : Int) (w : World) : Calls Try.prog 21 #[.int .i64 n] w (Ret (.bool (withinM n 1 1099511627776)) (Same w)) := by
  unfold withinM
  by_cases h : 1 ≤ n
  · by_cases h2 : n ≤ 1099511627776
    all_goals
      go_enter Try.func21, Try.ntmps21
      go_wp2_with fail
      go_ret
      exact ⟨by simp [h, h2], rfl⟩
  · have d : (1 ≤ n) = False := by simpa using h
    go_enter Try.func21, Try.ntmps21
    go_wp2_with fail
    go_ret
    exact ⟨by simp [h], rfl⟩
theorem isNaN_any (n : Int) (w : World) : Calls Try.prog 47 #[.int .i64 n] w (Ret (.bool false) (Same w)) := by
  go_enter Try.func47, Try.ntmps47
  go_wp2_with fail
  go_ret
  exact ⟨by simp, rfl⟩
theorem compare_int (a b : Int) (w : World) : Calls Try.prog 37 #[.int .i64 a, .int .i64 b] w (Ret (.int .i64 (cmpI a b)) (Same w)) := by
  unfold cmpI
  by_cases h : a < b
  · go_enter Try.func37, Try.ntmps37
    go_wp2_with (go_at_call 47; refine (isNaN_any _ _).mono ?_; rintro e w' ⟨rfl, rfl⟩)
    go_ret
    exact ⟨by simp [h], rfl⟩
  · by_cases h2 : b < a
    · go_enter Try.func37, Try.ntmps37
      go_wp2_with (go_at_call 47; refine (isNaN_any _ _).mono ?_; rintro e w' ⟨rfl, rfl⟩)
      go_ret
      exact ⟨by simp [h, h2], rfl⟩
    · go_enter Try.func37, Try.ntmps37
      go_wp2_with (go_at_call 47; refine (isNaN_any _ _).mono ?_; rintro e w' ⟨rfl, rfl⟩)
      go_ret
      exact ⟨by simp [h, h2], rfl⟩
set_option maxRecDepth 100000 in
theorem isEnd_any (x : En) (w : World) : Calls Try.prog 24 #[eV x] w (Pur (.bool (isEndM x)) w) := by
  unfold isEndM Pur
  cases h3 : (x.kind == 3) <;> cases h4 : (x.kind == 4)
  all_goals
    go_enter Try.func24, Try.ntmps24
    go_wp2_with fail
    go_ret
    exact ⟨by simp, Grown.alloc w _⟩
set_option maxRecDepth 100000 in
theorem known_any (t : Tx) (w : World) : Calls Try.prog 29 #[tV t] w (Pur (.bool (knownM t)) w) := by
  unfold knownM Pur
  have hw : ∀ n lo hi w, Calls Try.prog 30 #[.int .i64 n, .int .i64 lo, .int .i64 hi] w (Ret (.bool (withinM n lo hi)) (Same w)) := within_any
  have HW := Lib.hid hw
  clear hw
  generalize e1 : withinM t.c 1 8 = b1
  generalize e2 : withinM t.e 1 1073741824 = b2
  generalize e3 : withinM t.n 1 1073741824 = b3
  cases b1 <;> cases b2
  all_goals
    go_enter Try.func29, Try.ntmps29
    go_wp2_with (go_at_call 30; refine (HW.out _ _ _ _).mono ?_; rintro e w' ⟨rfl, rfl⟩; first | rw [e1] | rw [e2] | rw [e3])
    go_ret
    exact ⟨by simp, Grown.alloc w _⟩
end Go.Proofs.Ytceegnfjdgjomaa
