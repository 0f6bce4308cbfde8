/- What is told at the end, compared: lets walked. Conditions: none. -/
import Derived.Test.YtcndmiepbodpnaaRef6
import Derived.Test.YtcndmiepbodpnaaLKeepsW
import Derived.Deep.DeepCutAuto
import Derived.Deep.RegionWith
namespace Go.Proofs.Ytcndmiepbodpnaa
open Go Go.MapKept Go.RowKit Go.Proofs

/-- Memory as it was. -/
def Still (w w' : World) : Prop := w'.heap = w.heap ∧ Quiet w w'
theorem Still.refl (w : World) : Still w w := ⟨rfl, rfl, rfl, rfl⟩
theorem Still.drewN {w w' : World} (h : Still w w') (n : Nat) : Still w (w'.drewN n) := ⟨h.1, h.2.1, h.2.2.1, h.2.2.2⟩
theorem Still.sat {w w' : World} (h : Still w w') {F : Heaplet} (s : Sat w F) : Sat w' F := s.of_heap h.1 h.2
theorem let_cells {v : Value} {T : List (Int × Bool)} {h F : Heaplet} {w : World} (s : SliceIs 38 2 v T.length (flatLet T) h) (q : Sat w (h ++ F)) {j : Nat} {y : Int × Bool} (hy : T[j]? = some y) :
    ∃ g cap, v = .slice (some ⟨g, 0, none⟩) T.length cap ∧ w.cell? ⟨g, j * 2, none⟩ = some (kI y.1) ∧ w.cell? ⟨g, j * 2 + 1, none⟩ = some (.bool y.2) := by
  obtain ⟨t1, t2⟩ := flatLet_get T j y hy
  obtain ⟨g, cap, rfl⟩ := slice_some s (by have := (List.getElem?_eq_some_iff.1 hy).1; omega)
  exact ⟨g, cap, rfl, (s.cell q rfl t1).2.2, (s.cell q rfl t2).2.2⟩
set_option maxRecDepth 100000 in
set_option maxHeartbeats 4000000 in
theorem lets_any (T : List (Int × Bool)) (v1 v2 : Value) (h1 h2 F1 F2 : Heaplet) (w : World) (s1 : SliceIs 38 2 v1 T.length (flatLet T) h1) (q1 : Sat w (h1 ++ F1)) (s2 : SliceIs 38 2 v2 T.length (flatLet T) h2) (q2 : Sat w (h2 ++ F2)) (hl : T.length ≤ 100000) :
    Calls Try.prog 17 #[v1, v2] w (Ret (.bool true) (Still w)) := by
  obtain ⟨a1, c1, rfl⟩ := slice_form s1
  obtain ⟨a2, c2, rfl⟩ := slice_form s2
  have S1 := Lib.hid s1
  have S2 := Lib.hid s2
  have Q1 := Lib.hid q1
  have Q2 := Lib.hid q2
  clear s1 s2 q1 q2
  go_enter Try.func17, Try.ntmps17
  go_wp2_with fail
  go_loopw [5] (fun v5 wr => ∃ r : Nat, r ≤ T.length ∧ v5 = .int .i64 r ∧ Still w wr) (fun v5 _ => 100000 - (RowKit.intOf v5).toNat)
  case atStart => exact ⟨0, by omega, rfl, Still.refl w⟩
  case round =>
    obtain ⟨r, hr, rfl, hw⟩ := hrel
    have r0 : (0 : Int) ≤ (r : Int) := by omega
    have HW := Lib.hid hw
    by_cases hlr : r < T.length
    · have r1 : (r : Int) < (T.length : Int) := by omega
      obtain ⟨y, hy⟩ : ∃ y, T[r]? = some y := ⟨_, List.getElem?_eq_getElem hlr⟩
      obtain ⟨g1, k1, e1, d1, d2⟩ := let_cells S1.out (hw.sat Q1.out) hy
      obtain ⟨g2, k2, e2, d3, d4⟩ := let_cells S2.out (hw.sat Q2.out) hy
      cases e1
      cases e2
      obtain ⟨yp, yk⟩ := y
      clear hw hy
      go_upto_region 6 with (fail)
      go_quiet (fail)
      go_wp2_with fail
      go_roundw
      case rel => exact ⟨r + 1, by omega, by simp, HW.out.drewN _⟩
      case measure => simp only [RowKit.intOf]; omega
    · obtain rfl : r = T.length := by omega
      clear hw hlr
      go_wp2_with fail
      go_ret
      exact ⟨rfl, HW.out⟩
end Go.Proofs.Ytcndmiepbodpnaa
