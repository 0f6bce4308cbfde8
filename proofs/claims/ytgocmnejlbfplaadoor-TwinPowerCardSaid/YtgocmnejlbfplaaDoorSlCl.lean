/- Slots cloned: slices.Clone walked. Conditions: none. -/
import Derived.Test.YtgocmnejlbfplaaDoorPg4t
import Derived.Test.YtgocmnejlbfplaaDoorSlA
import Derived.Lib.SliceRun
import Derived.Deep.QuietTactic
import Derived.BigQuiet
namespace Go.Proofs.YtgocmnejlbfplaaDoor
open Go Go.MapKept Go.RowKit Go.Proofs Go.Sort

theorem SlAt.src {F : Heaplet} {a : Option Addr} {n cap : Nat} {L : List Sl} (h : SlAt F (.slice a n cap) L) {w : World} (s : Sat w F) : SrcAt slC 2 w a L := by
  obtain ⟨a', cap', e, hc⟩ := h
  cases e
  intro i q hq
  obtain ⟨g, off, e, hu⟩ := hc i q hq
  refine ⟨g, off, e, fun j u hu2 => ?_⟩
  obtain ⟨u0, u1⟩ := hu w s
  match j, hu2 with
  | 0, hu2 =>
    have : Value.bool q.1 = u := by simpa [slC] using hu2
    rw [← this]; exact u0
  | 1, hu2 =>
    have : kS q.2 = u := by simpa [slC] using hu2
    rw [← this]; exact u1
  | j + 2, hu2 => simp [slC] at hu2
set_option maxRecDepth 100000 in
theorem clone_sl {v : Value} {L : List Sl} {F : Heaplet} {w : World} (hv : SlAt F v L) (s : Sat w F) (hl : L.length ≤ 1000) :
    Calls Tryd.prog 30 #[v] w fun e w' => ∃ v' h, e = .returned v' ∧ SlOwn v' L h ∧ Sat w' (h ++ F) := by
  have hv0 := hv
  obtain ⟨a, cap, rfl, hc⟩ := hv
  cases a with
  | none =>
    have hL : L = [] := by
      cases L with
      | nil => rfl
      | cons x r =>
        obtain ⟨g, off, e, _⟩ := hc 0 x rfl
        cases e
    subst hL
    have HS := Lib.hid s
    have heq : ∀ w : World, (binOp .eql 23 (.slice none 0 cap) (.slice none 0 0)).run Tryd.prog w = .ok (.bool true) w := fun w => Lib.run_eql_slice_nil w _ _ none 0 cap 0 0 Tryd.underlying23
    clear hv0 hc s
    simp only [List.length_nil]
    go_enter Tryd.func30, Tryd.ntmps30
    go_wp2_with fail
    go_ret
    exact ⟨_, [], rfl, SliceIs.nil _ _, HS.out⟩
  | some ad =>
    have hs1 := s.new (.cells #[] 60)
    have hsrc := (hv0.mono (F' := .blk w.heap.size (.cells #[] 60) :: F) (fun w hw => hw.tail)).src hs1
    obtain ⟨i0, hi, hz, hsize, hby⟩ := info_parts infoSl
    obtain ⟨v', w', h', hap, hv', hs'⟩ := sl_app (P := Tryd.prog) (R := []) (R2 := L) (c := cap) slC_len Tryd.underlying23 hi hz hsize hby rfl (by decide) (sl_new 60 2 w.heap.size) (h := [.blk w.heap.size (.cells #[] 60)]) hs1 hsrc (fun q u hu => one_sl q u hu) (by unfold maxLen; simp; omega) (by simp; omega)
    have HAP := Lib.hid hap
    have heq : ∀ w : World, (binOp .eql 23 (.slice (some ad) L.length cap) (.slice none 0 0)).run Tryd.prog w = .ok (.bool false) w := fun w => Lib.run_eql_slice_nil w _ _ (some ad) L.length cap 0 0 Tryd.underlying23
    have FIN : Hid (SlOwn v' L h' ∧ Sat w' (h' ++ F)) := Lib.hid ⟨hv', hs'⟩
    clear hv0 hc s hs1 hsrc hap hv' hs'
    go_enter Tryd.func30, Tryd.ntmps30
    go_wp2_with (at_builtin; refine wpList_append_run rfl _ _ _ _ rfl _ _ _ _ rfl rfl HAP.out ?_)
    go_ret
    exact ⟨_, h', rfl, FIN.out.1, FIN.out.2⟩
end Go.Proofs.YtgocmnejlbfplaaDoor
