/- The locks' small functions walked: say, lock, hold, Holds, Busy, Take, New. Conditions: none. -/
import Derived.Test.YthgfbnopbfiifaaKeyH
import Derived.Test.YthgfbnopbfiifaaLater
import Derived.Deep.RegionLaw
import Derived.Deep.RegionWith
import Derived.Deep.DeepCutAuto
import Derived.Deep.QuietTactic
import Derived.Shelf.SlSortCmp.QuietGrown
namespace Go.Proofs.Ythgfbnopbfiifaa
open Go Go.MapKept Go.RowKit Go.Proofs Go.Sort

def wdV (x : Wd) : Value := .agg #[.bool x.call, kI x.c, kI x.p, .bool x.x]
theorem wd_push {R : List Wd} {v : Value} {h A B : Heaplet} {w : World} {x : Nat} (q : Wd) (hv : WSl v R h) (s : Sat w (.blk x (.cells #[.bool q.call, kI q.c, kI q.p, .bool q.x] 37) :: (A ++ (h ++ B)))) (hlen : R.length + 1 ≤ 1000000) :
    ∃ v' w' h', (∀ ty, (Builtin.append_ #[33, 33] ty #[v, .slice (some ⟨x, 0, none⟩) 1 1]).run Try.prog w = .ok v' w') ∧ WSl v' (R ++ [q]) h' ∧ Sat w' (A ++ (h' ++ B)) := by
  obtain ⟨i0, hi, hz, hsize, hby⟩ := info_parts infoWd
  exact sl_push (P := Try.prog) wdC_len Try.underlying33 hi hz hsize hby rfl (by decide) hv q s (one_wd q) (by unfold maxLen; omega) (by omega)
set_option maxHeartbeats 1600000 in
theorem say_any {b m : Nat} {wv : Value} {ws : List Wd} {wh H : Heaplet} {w : World} (x : Wd) (hw : WSl wv ws wh) (s : Sat w (.blk b (tbO m wv) :: (wh ++ H))) (hl : ws.length + 1 ≤ 1000000) :
    Calls Try.prog 20 #[.pointer (some ⟨b, 0, none⟩), .agg #[.bool x.call, .int .i64 x.c, .int .i64 x.p, .bool x.x]] w (Ret (.tuple #[]) fun w' => ∃ wv' wh', WSl wv' (ws ++ [x]) wh' ∧ Sat w' (.blk b (tbO m wv') :: (wh' ++ H))) := by
  obtain ⟨xk, xc, xp, xx⟩ := x
  have s1 := s.new (.cells #[.bool xk, kI xc, kI xp, .bool xx] 37)
  obtain ⟨a0, c0, rfl⟩ := sl_form hw
  have n0 : (w.alloc (.cells #[.bool xk, kI xc, kI xp, .bool xx] 37)).cell? ⟨w.heap.size, 0, none⟩ = some (.bool xk) := by rw [cell_of s1.h0]; rfl
  have n1 : (w.alloc (.cells #[.bool xk, kI xc, kI xp, .bool xx] 37)).cell? ⟨w.heap.size, 1, none⟩ = some (kI xc) := by rw [cell_of s1.h0]; rfl
  have n2 : (w.alloc (.cells #[.bool xk, kI xc, kI xp, .bool xx] 37)).cell? ⟨w.heap.size, 2, none⟩ = some (kI xp) := by rw [cell_of s1.h0]; rfl
  have n3 : (w.alloc (.cells #[.bool xk, kI xc, kI xp, .bool xx] 37)).cell? ⟨w.heap.size, 3, none⟩ = some (.bool xx) := by rw [cell_of s1.h0]; rfl
  have t0 : (w.alloc (.cells #[.bool xk, kI xc, kI xp, .bool xx] 37)).cell? ⟨b, 1, none⟩ = some (.slice a0 ws.length c0) := by rw [cell_of s1.h1]; rfl
  have HS1 := Lib.hid s1
  have HWS := Lib.hid hw
  clear s s1 hw
  go_enter Try.func20, Try.ntmps20
  go_upto_region 1 with (fail)
  generalize w.alloc (.cells #[.bool xk, .int .i64 xc, .int .i64 xp, .bool xx] 37) = W1 at *
  generalize w.heap.size = g1 at *
  have hND := HS1.out.drew
  obtain ⟨v3, w3, h3, hap, hv3, hs3⟩ := wd_push (A := [.blk g1 (.cells #[.bool xk, kI xc, kI xp, .bool xx] 37), .blk b (tbO m (.slice a0 ws.length c0))]) ⟨xk, xc, xp, xx⟩ HWS.out (hND.new (.cells #[.bool xk, kI xc, kI xp, .bool xx] 37)) hl
  have hs4 : Sat w3 (.blk b (tbO m (.slice a0 ws.length c0)) :: (h3 ++ H)) := Sat.tail hs3
  have k1 : w3.cell? ⟨b, 1, none⟩ = some (.slice a0 ws.length c0) := by rw [cell_of hs4.h0]; rfl
  have k2 : w3.frozen? ⟨b, 1, none⟩ = false := unfrozen_of hs4.h0 1
  have k3 : (W1.alloc (.cells #[.bool xk, kI xc, kI xp, .bool xx] 37)).cell? ⟨b, 1, none⟩ = some (.slice a0 ws.length c0) := by rw [cell_of (HS1.out.new _).h2]; rfl
  have hs6 := hs4.setCell (i := 1) v3
  have hap : ∀ ty, (Builtin.append_ #[33, 33] ty #[.slice a0 ws.length c0, .slice (some ⟨W1.drew.heap.size, 0, none⟩) 1 1]).run Try.prog (W1.drew.alloc (.cells #[.bool xk, kI xc, kI xp, .bool xx] 37)) = .ok v3 w3 := hap
  have HAP := Lib.hid hap
  obtain ⟨a3, c3, rfl⟩ := sl_form hv3
  have e3 : (ws ++ [(⟨xk, xc, xp, xx⟩ : Wd)]).length = ws.length + 1 := by simp
  have FIN : Hid (WSl (.slice a3 (ws.length + 1) c3) (ws ++ [⟨xk, xc, xp, xx⟩]) h3 ∧ Sat (w3.setCell ⟨b, 1, none⟩ (.slice a3 (ws.length + 1) c3)) (.blk b (tbO m (.slice a3 (ws.length + 1) c3)) :: (h3 ++ H))) := Lib.hid (by rw [← e3]; exact And.intro hv3 hs6)
  clear hap hv3 hs3 hs4 hs6 hND HS1 HWS e3
  go_region_law ((refine step_append_run (by rfl) _ _ _ _ (by rfl) _ _ _ w3 (by rfl) (by rfl) HAP.out ?_))
  all_goals
    go_wp2_with fail
    refine bodyPost_end (results_none rfl _ _ _) rfl ?_
    exact ⟨rfl, _, h3, FIN.out.1, FIN.out.2⟩
end Go.Proofs.Ythgfbnopbfiifaa
