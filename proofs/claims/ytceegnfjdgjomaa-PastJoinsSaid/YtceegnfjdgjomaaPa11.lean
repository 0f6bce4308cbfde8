/- A map's names, sorted. Conditions: none. -/
import Derived.Test.YtceegnfjdgjomaaPa10
import Derived.Test.YtceegnfjdgjomaaLayK
import Derived.Shelf.SlSortCmp.NoneTotal
namespace Go.Proofs.Ytceegnfjdgjomaa
open Go Go.MapKept Go.RowKit Go.Proofs Go.Sort Go.Shelf

instance : Inhabited Tx := ⟨⟨0, 0, 0⟩⟩
/-- One name ahead of another. -/
def LtT (a b : Tx) : Prop := a.c < b.c ∨ (a.c = b.c ∧ (a.e < b.e ∨ (a.e = b.e ∧ a.n < b.n)))
theorem cmpT_neg (a b : Tx) : cmpT a b < 0 ↔ LtT a b := by
  obtain ⟨a1, a2, a3⟩ := a
  obtain ⟨b1, b2, b3⟩ := b
  unfold cmpT cmpI LtT
  simp only
  by_cases h1 : a1 < b1
  · simp [h1]
  · by_cases h2 : b1 < a1
    · simp [h1, h2]; omega
    · have e1 : a1 = b1 := by omega
      subst e1
      by_cases h3 : a2 < b2
      · simp [h3]
      · by_cases h4 : b2 < a2
        · simp [h3, h4]; omega
        · have e2 : a2 = b2 := by omega
          subst e2
          by_cases h5 : a3 < b3
          · simp [h5]
          · by_cases h6 : b3 < a3
            · simp [h5, h6]
            · simp [h5, h6]
theorem ltT_irr (a : Tx) : ¬ LtT a a := by unfold LtT; omega
theorem ltT_trans {a b c : Tx} (h : LtT a b) (k : LtT b c) : LtT a c := by unfold LtT at *; omega
theorem ltT_asymm {a b : Tx} (h : LtT a b) : ¬ LtT b a := fun k => ltT_irr a (ltT_trans h k)
theorem tx_ext {a b : Tx} (h1 : a.c = b.c) (h2 : a.e = b.e) (h3 : a.n = b.n) : a = b := by
  cases a; cases b; simp_all
theorem ltT_tri {a b : Tx} (h : ¬ LtT a b) (k : ¬ LtT b a) : a = b := by
  unfold LtT at *
  exact tx_ext (by omega) (by omega) (by omega)
theorem ltT_ntrans {a b c : Tx} (h : ¬ LtT a b) (k : ¬ LtT b c) : ¬ LtT a c := by unfold LtT at *; omega
theorem ltOf_dec (a b : Tx) : ltOf cmpT a b = true ↔ LtT a b := by unfold ltOf; rw [decide_eq_true_iff]; exact cmpT_neg a b
theorem ltOf_no (a b : Tx) : ltOf cmpT a b = false ↔ ¬ LtT a b := by
  rw [← ltOf_dec]; simp
theorem swoT : SWO (ltOf cmpT) where
  irrefl x := (ltOf_no x x).2 (ltT_irr x)
  trans x y z h k := (ltOf_dec x z).2 (ltT_trans ((ltOf_dec x y).1 h) ((ltOf_dec y z).1 k))
  ntrans x y z h k := (ltOf_no x z).2 (ltT_ntrans ((ltOf_no x y).1 h) ((ltOf_no y z).1 k))
/-- Names, rising. -/
def sortT (l : List Tx) : List Tx := l.mergeSort fun x y => !(ltOf cmpT) y x
theorem sortT_perm (l : List Tx) : (sortT l).Perm l := List.mergeSort_perm _ _
theorem sortT_sorted (l : List Tx) : (sortT l).Pairwise (fun x y => ¬ LtT y x) := by
  have := List.pairwise_mergeSort (le := fun x y : Tx => !(ltOf cmpT) y x) (fun a b c h1 h2 => by
    simp only [Bool.not_eq_true'] at *
    exact (ltOf_no _ _).2 (ltT_ntrans ((ltOf_no _ _).1 h2) ((ltOf_no _ _).1 h1))) (fun a b => by
    simp only [Bool.or_eq_true, Bool.not_eq_true']
    by_cases h : LtT b a
    · exact .inr ((ltOf_no _ _).2 (ltT_asymm h))
    · exact .inl ((ltOf_no _ _).2 h)) l
  exact this.imp (fun h => by simp only [Bool.not_eq_true'] at h; exact (ltOf_no _ _).1 h)
theorem sortT_of_perm {l l' : List Tx} (h : l.Perm l') : sortT l = sortT l' := by
  have h2 : (sortT l).Perm (sortT l') := ((sortT_perm l).trans h).trans (sortT_perm l').symm
  exact List.Perm.eq_of_pairwise (le := fun x y => ¬ LtT y x) (fun a b _ _ h1 h2 => ltT_tri h2 h1) (sortT_sorted l) (sortT_sorted l') h2
theorem flat_get (R : List Tx) (j : Nat) (hj : j < R.length * 3) : (R.flatMap tC)[j]? = some ((flatK tC 3 R.toArray)[j]!) := by
  rw [get_flatK _ _ _ _ (by simpa using hj)]
  have hi : j / 3 < R.length := by omega
  have hm : j % 3 < (tC R[j / 3]).length := by show j % 3 < 3; omega
  have := fm_get tC_len R (j / 3) (j % 3) _ _ (List.getElem?_eq_getElem hi) (List.getElem?_eq_getElem hm)
  rw [Nat.div_add_mod'] at this
  rw [this]
  have e : R.toArray[j / 3]! = R[j / 3] := by simp [hi]
  rw [e]
  congr 1
  exact (getElem!_pos (tC R[j / 3]) (j % 3) hm).symm
theorem holds_tx {w : World} {g : Nat} {R : List Tx} {cap : Nat} {h F : Heaplet} (hv : TSl (.slice (some ⟨g, 0, none⟩) R.length cap) R h) (s : Sat w (h ++ F)) : HoldsK tC 3 w g 0 R.toArray := by
  intro j hj
  have hj' : j < R.length * 3 := by simpa using hj
  have hc := (SliceIs.cell hv s rfl (flat_get R j hj')).2.2
  refine ⟨by rw [Nat.zero_add]; exact hc, ?_⟩
  rcases hv.2 with ⟨e, _⟩ | ⟨g', cap', cur, e, _, _, _, _, rfl⟩
  · cases e
  · cases e
    exact unfrozen_of s.h0 _
/-- Behind the sort. -/
theorem sat_sorted {w : World} {g : Nat} {R R' : List Tx} {cap n : Nat} {os : Array Obj} {h F : Heaplet} (hv : TSl (.slice (some ⟨g, 0, none⟩) R.length cap) R h) (s : Sat w (h ++ F)) (hl : R'.length = R.length) :
    ∃ h', TSl (.slice (some ⟨g, 0, none⟩) R.length cap) R' h' ∧ Sat (sortWorldK tC 3 w g 0 n R'.toArray os) (h' ++ F) := by
  rcases hv.2 with ⟨e, _⟩ | ⟨g', cap', cur, e, hnc, hcm, hcs, htake, rfl⟩
  · cases e
  · cases e
    refine ⟨[.blk g (.cells (putCells id 0 (flatK tC 3 R'.toArray) cur) 23)], ?_, ?_⟩
    · refine ⟨fm_len tC_len R', .inr ⟨g, cap, _, by rw [hl], by rw [hl]; exact hnc, hcm, by simp [putCells, hcs], ?_, rfl⟩⟩
      apply List.ext_getElem?
      intro j
      by_cases hj : j < R'.length * 3
      · rw [List.getElem?_take_of_lt hj, flat_get R' j hj]
        have hc : j < cur.size := by
          rw [hcs]
          have := Nat.mul_le_mul_right 3 hnc
          rw [hl] at hj
          omega
        rw [Array.getElem?_toList]
        simp only [putCells, Array.getElem?_mapIdx, Array.getElem?_eq_getElem hc, Option.map_some, size_flatK, List.size_toArray]
        rw [if_pos ⟨by omega, by omega⟩]
        rfl
      · rw [List.getElem?_eq_none (by rw [List.length_take]; omega), List.getElem?_eq_none (by rw [fm_len tC_len]; omega)]
    · have hlt : g < w.heap.size := s.lt (.head _)
      have h1 : Sat (putRowK tC 3 (Sort.ahead w n) g 0 R'.toArray) (.blk g (.cells (putCells id 0 (flatK tC 3 R'.toArray) cur) 23) :: F) := by
        refine Sat.set (w := w) s _ ?_ ⟨rfl, rfl, rfl⟩
        apply Array.ext_getElem?
        intro j
        simp only [putRowK, putRow, mapBlock, Array.getElem?_modify, heap_ahead, Array.getElem?_setIfInBounds]
        by_cases e : g = j
        · subst e
          rw [s.h0]
          simp [hlt, onCells]
        · simp [e]
      have h2 : Grown (putRowK tC 3 (Sort.ahead w n) g 0 R'.toArray) (sortWorldK tC 3 w g 0 n R'.toArray os) := ⟨0, os, rfl⟩
      exact h1.grown h2
set_option maxRecDepth 100000 in
theorem collect_keys (Bm b : Nat) (es : Array MapEntry) (clk : Nat) (D : List (Tx × Int)) (w : World) (hBm : w.cell? ⟨Bm, 0, none⟩ = some (.map (some b))) (hb : w.heap[b]? = some (.map es clk)) (hm : MapOkS tV kI es clk D) (hl : D.length ≤ 100000) :
    Calls Try.prog 39 #[.func (.func 41) #[] #[.pointer (some ⟨Bm, 0, none⟩)]] w fun e w' =>
      ∃ v R h, e = .returned v ∧ R.Perm (D.map (·.1)) ∧ TSl v R h ∧ Sat w' (h ++ allOf w) := by
  have HA := Lib.hid (append_keys Bm b es clk D w hBm hb hm hl)
  clear hBm hb hm
  go_enter Try.func39, Try.ntmps39
  go_wp2_with fail
  refine HA.out.mono ?_
  rintro e w3 ⟨v, R, h, rfl, hp, hv, hs⟩
  have FIN := Lib.hid (And.intro hp (And.intro hv hs))
  clear hp hv hs
  go_wp2_with fail
  go_ret
  exact ⟨v, R, h, rfl, FIN.out.1, FIN.out.2.1, FIN.out.2.2⟩
set_option maxRecDepth 100000 in
theorem sorted_keysT (Bm b : Nat) (es : Array MapEntry) (clk : Nat) (D : List (Tx × Int)) (w : World) (hBm : w.cell? ⟨Bm, 0, none⟩ = some (.map (some b))) (hb : w.heap[b]? = some (.map es clk)) (hm : MapOkS tV kI es clk D) (hl : D.length ≤ 100000) :
    Calls Try.prog 25 #[.func (.func 41) #[] #[.pointer (some ⟨Bm, 0, none⟩)], .func (.func 20) #[] #[]] w fun e w' =>
      ∃ v h, e = .returned v ∧ TSl v (sortT (D.map (·.1))) h ∧ Sat w' (h ++ allOf w) := by
  have HA := Lib.hid (collect_keys Bm b es clk D w hBm hb hm hl)
  clear hBm hb hm
  go_enter Try.func25, Try.ntmps25
  go_wp2_with fail
  refine HA.out.mono ?_
  rintro e w3 ⟨v, R, h, rfl, hp, hv, hs⟩
  have hSR : sortT R = sortT (D.map (·.1)) := sortT_of_perm hp
  have hRl : R.length = D.length := by rw [hp.length_eq, List.length_map]
  have HSR := Lib.hid hSR
  by_cases h0 : R = []
  · subst h0
    obtain ⟨a, cap, rfl⟩ := sl_form hv
    have hnil : ∀ W, Calls Try.prog 40 #[.slice a 0 cap, .func (.func 20) #[] #[]] W fun e w' => e = .returned (.tuple #[]) ∧ w' = W := fun W => AnyF.slices_SortFunc_none Try.sortF a cap _ W
    have FIN : Hid (TSl (.slice a 0 cap) (sortT []) h ∧ Sat w3 (h ++ allOf w)) := Lib.hid ⟨by unfold sortT; rw [List.mergeSort_nil]; exact hv, hs⟩
    clear hp hs hv hSR hRl
    simp only [List.length_nil]
    go_wp2_with fail
    refine (hnil _).mono ?_
    rintro e w4 ⟨rfl, rfl⟩
    go_wp2_with fail
    go_ret
    exact ⟨_, h, rfl, by rw [← HSR.out]; exact FIN.out.1, FIN.out.2⟩
  · obtain ⟨g, cap, rfl⟩ := sl_some hv (List.length_pos_iff.2 h0)
    have hH := holds_tx hv hs
    have hgl : g < w3.heap.size := by
      rcases hv.2 with ⟨e, _⟩ | ⟨g', cap', cur, e, _, _, _, _, rfl⟩
      · cases e
      · cases e
        exact hs.lt (.head _)
    have hcon := AnyQ.slices_SortFunc_total (P := Try.prog) Try.sortF 3 Try.isAgg23 Try.sizeOf23 tC tC_len one_t cmpT swoT 20 #[] g 0 cap R.toArray w3 (enters_of Try.func20 (by kernel_rfl) rfl) (fun _ _ _ _ x y => compare_any x y _) hH hgl (by simp only [List.size_toArray]; omega) (fun x y h1 h2 => ltT_tri ((ltOf_no _ _).1 h1) ((ltOf_no _ _).1 h2))
    change Calls Try.prog 40 #[.slice (some ⟨g, 0, none⟩) R.length cap, _] _ _ at hcon
    have hfin : ∀ n os, ∃ h', TSl (.slice (some ⟨g, 0, none⟩) R.length cap) (sortT R) h' ∧ Sat (sortWorldK tC 3 w3 g 0 n (sortT R).toArray os) (h' ++ allOf w) := fun n os => sat_sorted hv hs (sortT_perm R).length_eq
    have HFIN := Lib.hid hfin
    have HCON := Lib.hid hcon
    clear hfin hcon hp hs hv hSR hRl hH
    go_wp2_with fail
    refine HCON.out.mono ?_
    rintro e w4 ⟨rfl, n, os, rfl⟩
    obtain ⟨h', h1, h2⟩ := HFIN.out n os
    have FIN := Lib.hid (And.intro h1 h2)
    clear h1 h2
    change Hid (_ ∧ Sat (sortWorldK tC 3 w3 g 0 n (R.mergeSort fun x y => !(ltOf cmpT) y x).toArray os) _) at FIN
    generalize sortWorldK tC 3 w3 g 0 n _ os = W4 at *
    go_wp2_with fail
    go_ret
    exact ⟨_, h', rfl, by rw [← HSR.out]; exact FIN.out.1, FIN.out.2⟩
end Go.Proofs.Ytceegnfjdgjomaa
