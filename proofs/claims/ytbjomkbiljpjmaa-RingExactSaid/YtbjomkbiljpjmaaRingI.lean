/- The ring's methods, each walked once (made by ring.gen.py out of ring.body.txt). Conditions: none. -/
import Derived.Test.YtbjomkbiljpjmaaRingM
import Derived.Test.YtbjomkbiljpjmaaProg
import Derived.ProofKit
import Derived.Lib.Hide
import Derived.Deep.QuietTactic
import Derived.BigQuiet
import Derived.Deep.DeepCutAuto
import Derived.StillTailTactics
import Derived.Deep.RegionWith
namespace Go.Proofs.Ytbjomkbiljpjmaa.RI
open Go Go.MapKept Go.RowKit Go.Proofs Go.Proofs.Ytbjomkbiljpjmaa

abbrev X := Int
/-- The ring at block rb, its array of frames holding ps, its frames' things L (with their blocks), its hand. -/
def RingP (rb : Nat) (ps : Array Value) (L : Lst X) (hand : Nat) (F : Heaplet) (w : World) : Prop :=
  (ps.size = L.length ∧ 0 < L.length ∧ L.length ≤ 64 ∧ hand < L.length) ∧ ∃ fb m es clk D, MapOk (.int .i64) kI kI es clk D ∧ PlaceOk D (keysOf (bare L)) ∧
    Sat w (.blk rb (.cells #[.slice (some ⟨fb, 0, none⟩) L.length L.length, .map (some m), kI hand] 88) :: .blk fb (.cells ps 89) :: .blk m (.map es clk) :: (frH kI 92 L ++ F))
def RingIs (rb : Nat) (fr : Frs X) (hand : Nat) (F : Heaplet) (w : World) : Prop := ∃ L, bare L = fr ∧ RingP rb (ptrs L) L hand F w
theorem zero3 (w : World) : (zeroValue 3).run Try.prog w = .ok (.int .i64 0) w := by kernel_rfl

/-- What the walks want of the ring's memory. -/
theorem RingP.open {rb : Nat} {ps : Array Value} {L : Lst X} {hand : Nat} {F : Heaplet} {w : World} (h : RingP rb ps L hand F w) :
    ∃ fb m es clk D, MapOk (.int .i64) kI kI es clk D ∧ PlaceOk D (keysOf (bare L)) ∧ w.heap[m]? = some (.map es clk) ∧
      w.cell? ⟨rb, 0, none⟩ = some (.slice (some ⟨fb, 0, none⟩) L.length L.length) ∧ w.cell? ⟨rb, 1, none⟩ = some (.map (some m)) ∧ w.cell? ⟨rb, 2, none⟩ = some (kI hand) ∧
      ∀ i : Nat, w.cell? ⟨fb, i, none⟩ = ps[i]? := by
  obtain ⟨_, fb, m, es, clk, D, hm, hpl, hs⟩ := h
  refine ⟨fb, m, es, clk, D, hm, hpl, hs.h2, ?_, ?_, ?_, fun i => cell_of hs.h1 i⟩
  · rw [cell_of hs.h0]; rfl
  · rw [cell_of hs.h0]; rfl
  · rw [cell_of hs.h0]; rfl
theorem RingP.frameCell {rb : Nat} {ps : Array Value} {L : Lst X} {hand : Nat} {F : Heaplet} {w : World} (h : RingP rb ps L hand F w) {i b : Nat} {f : Fr X} (hi : L[i]? = some (some (b, f))) :
    w.heap[b]? = some (frObj kI 92 f) := by
  obtain ⟨_, fb, m, es, clk, D, hm, hpl, hs⟩ := h
  exact hs.get (.tail _ (.tail _ (.tail _ (List.mem_append_left _ ((frH_take hi).mem_iff.2 (.head _))))))
theorem RingP.frame {rb : Nat} {ps : Array Value} {L : Lst X} {hand : Nat} {F : Heaplet} {w : World} (h : RingP rb ps L hand F w) : Sat w F := by
  obtain ⟨_, fb, m, es, clk, D, hm, hpl, hs⟩ := h
  exact Sat.right hs.tail.tail.tail
theorem RingP.drew {rb : Nat} {ps : Array Value} {L : Lst X} {hand : Nat} {F : Heaplet} {w : World} (h : RingP rb ps L hand F w) : RingP rb ps L hand F w.drew := by
  obtain ⟨h0, fb, m, es, clk, D, hm, hpl, hs⟩ := h
  exact ⟨h0, fb, m, es, clk, D, hm, hpl, hs.drew⟩
theorem RingP.new {rb : Nat} {ps : Array Value} {L : Lst X} {hand : Nat} {F : Heaplet} {w : World} (h : RingP rb ps L hand F w) (o : Obj) : RingP rb ps L hand (.blk w.heap.size o :: F) (w.alloc o) := by
  obtain ⟨h0, fb, m, es, clk, D, hm, hpl, hs⟩ := h
  refine ⟨h0, fb, m, es, clk, D, hm, hpl, (hs.new o).perm ?_⟩
  exact ((List.perm_middle (l₁ := HItem.blk rb _ :: .blk fb _ :: .blk m _ :: frH kI 92 L)).symm)
theorem RingP.unF {rb : Nat} {ps : Array Value} {L : Lst X} {hand : Nat} {x : HItem} {F : Heaplet} {w : World} (h : RingP rb ps L hand (x :: F) w) : RingP rb ps L hand F w := by
  obtain ⟨h0, fb, m, es, clk, D, hm, hpl, hs⟩ := h
  refine ⟨h0, fb, m, es, clk, D, hm, hpl, (hs.perm ?_).tail (x0 := x)⟩
  exact List.perm_middle (l₁ := HItem.blk rb _ :: .blk fb _ :: .blk m _ :: frH kI 92 L)

theorem find_nil (k : Int) (w : World) : Calls Try.prog 49 #[.pointer none, .int .i64 k] w (Ret (.pointer none) (Same w)) := by
  go_enter Try.func49, Try.ntmps49
  go_wp2
  go_ret
  exact ⟨rfl, rfl⟩
theorem find_none (rb : Nat) (ps : Array Value) (L : Lst X) (hand : Nat) (F : Heaplet) (w : World) (h : RingP rb ps L hand F w) (k : Int) (hk : idxK k (keysOf (bare L)) = none) :
    Calls Try.prog 49 #[.pointer (some ⟨rb, 0, none⟩), .int .i64 k] w (Ret (.pointer none) (Same w)) := by
  obtain ⟨fb, m, es, clk, D, hm, hpl, hmb, c0, c1, c2, cf⟩ := h.open
  have hl := run_lookup2_ok (P := Try.prog) (t := 83) (kt := 3) (et := 3) (z := .int .i64 0) Try.underlying83 Try.underlying3 (zero3 w) hmb hm k
  rw [hpl.look, hk] at hl
  simp only [Option.map_none, Option.getD_none, Option.isSome_none] at hl
  clear h hm hpl hmb cf hk
  go_enter Try.func49, Try.ntmps49
  go_wp2
  go_ret
  exact ⟨rfl, rfl⟩
theorem find_some (rb : Nat) (ps : Array Value) (L : Lst X) (hand : Nat) (F : Heaplet) (w : World) (h : RingP rb ps L hand F w) (k : Int) (i : Nat) (v : Value) (hk : idxK k (keysOf (bare L)) = some i) (hv : ps[i]? = some v) :
    Calls Try.prog 49 #[.pointer (some ⟨rb, 0, none⟩), .int .i64 k] w (Ret v (Same w)) := by
  obtain ⟨fb, m, es, clk, D, hm, hpl, hmb, c0, c1, c2, cf⟩ := h.open
  have hl := run_lookup2_ok (P := Try.prog) (t := 83) (kt := 3) (et := 3) (z := .int .i64 0) Try.underlying83 Try.underlying3 (zero3 w) hmb hm k
  rw [hpl.look, hk] at hl
  simp only [Option.map_some, Option.getD_some, Option.isSome_some] at hl
  have ci := (cf i).trans hv
  have hlt : i < L.length := by
    rw [← h.1.1]
    exact (Array.getElem?_eq_some_iff.1 hv).1
  have h64 := h.1.2.2.1
  clear h hm hpl hmb cf hk hv
  go_enter Try.func49, Try.ntmps49
  go_wp2
  go_ret
  exact ⟨rfl, rfl⟩

theorem RingP.upd {rb : Nat} {ps : Array Value} {L : Lst X} {hand : Nat} {F : Heaplet} {w w' : World} (h : RingP rb ps L hand F w) {i b : Nat} {f f' : Fr X} (hi : L[i]? = some (some (b, f))) (hk : f'.key = f.key)
    (hw : ∀ H, Sat w (.blk b (frObj kI 92 f) :: H) → Sat w' (.blk b (frObj kI 92 f') :: H)) : RingP rb ps (L.set i (some (b, f'))) hand F w' := by
  obtain ⟨h0, fb, m, es, clk, D, hm, hpl, hs⟩ := h
  have hl : (L.set i (some (b, f'))).length = L.length := List.length_set
  have hlt := (List.getElem?_eq_some_iff.1 hi).1
  have hkeys : keysOf (bare (L.set i (some (b, f')))) = keysOf (bare L) := by
    rw [bare_set]
    exact keysOf_same (f := f) (bare_get hi) hk
  refine ⟨by rw [hl]; exact h0, fb, m, es, clk, D, hm, by rw [hkeys]; exact hpl, ?_⟩
  rw [hl]
  have p1 := (frH_take (vv := kI) (T := 92) hi).append_right F
  have p2 := (frH_take (vv := kI) (T := 92) (L := L.set i (some (b, f'))) (i := i) (b := b) (f := f') (by simp [hlt])).append_right F
  rw [List.set_set] at p2
  have s1 := hs.perm ((p1.cons _).cons _ |>.cons _)
  have s2 := hw _ (s1.perm (List.perm_middle (l₁ := HItem.blk rb _ :: .blk fb _ :: [.blk m _])))
  exact (s2.perm (List.perm_middle (l₁ := HItem.blk rb _ :: .blk fb _ :: [.blk m _])).symm).perm (((p2.cons _).cons _ |>.cons _).symm)

theorem RingIs.len {rb : Nat} {fr : Frs X} {hand : Nat} {F : Heaplet} {w : World} (h : RingIs rb fr hand F w) : 0 < fr.length ∧ fr.length ≤ 64 ∧ hand < fr.length := by
  obtain ⟨L, rfl, h⟩ := h
  have := h.1
  simp only [bare, List.length_map]
  exact this.2
theorem RingIs.frame {rb : Nat} {fr : Frs X} {hand : Nat} {F : Heaplet} {w : World} (h : RingIs rb fr hand F w) : Sat w F := by
  obtain ⟨L, rfl, h⟩ := h
  exact h.frame
theorem RingIs.uniq {rb : Nat} {fr : Frs X} {hand : Nat} {F : Heaplet} {w : World} (h : RingIs rb fr hand F w) : KUniq (keysOf fr) := by
  obtain ⟨L, rfl, h0, fb, m, es, clk, D, hm, hpl, hs⟩ := h
  exact hpl.uniq

theorem len_any (rb : Nat) (fr : Frs X) (hand : Nat) (F : Heaplet) (w : World) (h : RingIs rb fr hand F w) :
    Calls Try.prog 22 #[.pointer (some ⟨rb, 0, none⟩)] w (Ret (.int .i64 (fullK (keysOf fr))) (Same w)) := by
  obtain ⟨L, rfl, h⟩ := h
  obtain ⟨fb, m, es, clk, D, hm, hpl, hmb, c0, c1, c2, cf⟩ := h.open
  have hl := fun ty => run_len_ok (P := Try.prog) (w := w) (t := 83) (kt := 3) (et := 3) (ty := ty) Try.underlying83 hmb hm
  rw [hpl.len] at hl
  clear h hm hpl hmb cf
  go_enter Try.func22, Try.ntmps22
  go_wp2
  go_ret
  exact ⟨rfl, rfl⟩
theorem len_nil (w : World) : Calls Try.prog 22 #[.pointer none] w (Ret (.int .i64 0) (Same w)) := by
  go_enter Try.func22, Try.ntmps22
  go_wp2
  go_ret
  exact ⟨rfl, rfl⟩

theorem get_none (rb : Nat) (fr : Frs X) (hand : Nat) (F : Heaplet) (w : World) (h : RingIs rb fr hand F w) (k : Int) (hk : findF fr k = none) :
    Calls Try.prog 21 #[.pointer (some ⟨rb, 0, none⟩), .int .i64 k] w (Ret (.tuple #[kI 0, .bool false]) (Same w)) := by
  obtain ⟨L, rfl, h⟩ := h
  have hf := find_none rb _ L hand F w h k (findF_none hk)
  have Hf := Lib.hid hf
  clear hf h hk
  go_enter Try.func21, Try.ntmps21
  go_wp2_with (go_at_call 49; refine (Hf.out).mono ?_; rintro e w' ⟨rfl, rfl⟩)
  go_ret2
  exact ⟨rfl, rfl⟩
theorem get_some (rb : Nat) (fr : Frs X) (hand : Nat) (F : Heaplet) (w : World) (h : RingIs rb fr hand F w) (k : Int) (i : Nat) (f : Fr X) (hk : findF fr k = some (i, f)) :
    Calls Try.prog 21 #[.pointer (some ⟨rb, 0, none⟩), .int .i64 k] w (Ret (.tuple #[kI f.val, .bool true]) (RingIs rb (fr.set i (some { f with fresh := true })) hand F)) := by
  obtain ⟨L, rfl, h⟩ := h
  obtain ⟨h1, h2, h3⟩ := findF_some hk
  obtain ⟨b, hb⟩ := bare_inv h2
  have hf := find_some rb _ L hand F w h k i _ h1 (ptrs_get hb)
  have hc := h.frameCell hb
  have c1 : w.cell? ⟨b, 1, none⟩ = some (kI f.val) := by rw [cell_of hc]; rfl
  have c3 : w.cell? ⟨b, 3, none⟩ = some (.bool f.fresh) := by rw [cell_of hc]; rfl
  have u3 := unfrozen_of hc 3
  have fin : RingIs rb ((bare L).set i (some { f with fresh := true })) hand F (w.setCell ⟨b, 3, none⟩ (.bool true)) :=
    ⟨L.set i (some (b, { f with fresh := true })), bare_set _ _ _, by
      rw [ptrs_same hb]
      exact h.upd hb rfl fun H s => s.setCell (i := 3) _⟩
  have Fin := Lib.hid fin
  have Hf := Lib.hid hf
  clear hf h hk h1 h2 h3 hb hc fin
  go_enter Try.func21, Try.ntmps21
  go_wp2_with (go_at_call 49; refine (Hf.out).mono ?_; rintro e w' ⟨rfl, rfl⟩; simp only [ptr])
  go_ret2
  exact ⟨rfl, Fin.out⟩
theorem get_nil (k : Int) (w : World) : Calls Try.prog 21 #[.pointer none, .int .i64 k] w (Ret (.tuple #[kI 0, .bool false]) (Same w)) := by
  have Hf := Lib.hid (find_nil k w)
  go_enter Try.func21, Try.ntmps21
  go_wp2_with (go_at_call 49; refine (Hf.out).mono ?_; rintro e w' ⟨rfl, rfl⟩)
  go_ret2
  exact ⟨rfl, rfl⟩

theorem pin_none (rb : Nat) (fr : Frs X) (hand : Nat) (F : Heaplet) (w : World) (h : RingIs rb fr hand F w) (k : Int) (hk : findF fr k = none) :
    Calls Try.prog 23 #[.pointer (some ⟨rb, 0, none⟩), .int .i64 k] w (Ret (.bool false) (Same w)) := by
  obtain ⟨L, rfl, h⟩ := h
  have hf := find_none rb _ L hand F w h k (findF_none hk)
  have Hf := Lib.hid hf
  clear hf h hk
  go_enter Try.func23, Try.ntmps23
  go_wp2_with (go_at_call 49; refine (Hf.out).mono ?_; rintro e w' ⟨rfl, rfl⟩)
  go_ret
  exact ⟨rfl, rfl⟩
theorem pin_nil (k : Int) (w : World) : Calls Try.prog 23 #[.pointer none, .int .i64 k] w (Ret (.bool false) (Same w)) := by
  have Hf := Lib.hid (find_nil k w)
  go_enter Try.func23, Try.ntmps23
  go_wp2_with (go_at_call 49; refine (Hf.out).mono ?_; rintro e w' ⟨rfl, rfl⟩)
  go_ret
  exact ⟨rfl, rfl⟩
theorem pin_some (rb : Nat) (fr : Frs X) (hand : Nat) (F : Heaplet) (w : World) (h : RingIs rb fr hand F w) (k : Int) (i : Nat) (f : Fr X) (hk : findF fr k = some (i, f)) (hp0 : 0 ≤ f.pins) (hp : f.pins < 9223372036854775807) :
    Calls Try.prog 23 #[.pointer (some ⟨rb, 0, none⟩), .int .i64 k] w (Ret (.bool true) (RingIs rb (fr.set i (some { f with pins := f.pins + 1 })) hand F)) := by
  obtain ⟨L, rfl, h⟩ := h
  obtain ⟨h1, h2, h3⟩ := findF_some hk
  obtain ⟨b, hb⟩ := bare_inv h2
  have hf := find_some rb _ L hand F w h k i _ h1 (ptrs_get hb)
  have hc := h.frameCell hb
  have c2 : w.cell? ⟨b, 2, none⟩ = some (kI f.pins) := by rw [cell_of hc]; rfl
  have u2 := unfrozen_of hc 2
  have fin : RingIs rb ((bare L).set i (some { f with pins := f.pins + 1 })) hand F (w.setCell ⟨b, 2, none⟩ (kI (f.pins + 1))) :=
    ⟨L.set i (some (b, { f with pins := f.pins + 1 })), bare_set _ _ _, by
      rw [ptrs_same hb]
      exact h.upd hb rfl fun H s => s.setCell (i := 2) _⟩
  have Fin := Lib.hid fin
  have Hf := Lib.hid hf
  clear hf h hk h1 h2 h3 hb hc fin
  generalize f.pins = q at *
  go_enter Try.func23, Try.ntmps23
  go_wp2_with (go_at_call 49; refine (Hf.out).mono ?_; rintro e w' ⟨rfl, rfl⟩; simp only [ptr])
  go_ret
  exact ⟨rfl, Fin.out⟩
theorem let_nil (k : Int) (w : World) : Calls Try.prog 43 #[.pointer none, .int .i64 k] w (Ret (.bool false) (Same w)) := by
  have Hf := Lib.hid (find_nil k w)
  go_enter Try.func43, Try.ntmps43
  go_wp2_with (go_at_call 49; refine (Hf.out).mono ?_; rintro e w' ⟨rfl, rfl⟩)
  go_ret
  exact ⟨rfl, rfl⟩
theorem let_none (rb : Nat) (fr : Frs X) (hand : Nat) (F : Heaplet) (w : World) (h : RingIs rb fr hand F w) (k : Int) (hk : findF fr k = none) :
    Calls Try.prog 43 #[.pointer (some ⟨rb, 0, none⟩), .int .i64 k] w (Ret (.bool false) (Same w)) := by
  obtain ⟨L, rfl, h⟩ := h
  have hf := find_none rb _ L hand F w h k (findF_none hk)
  have Hf := Lib.hid hf
  clear hf h hk
  go_enter Try.func43, Try.ntmps43
  go_wp2_with (go_at_call 49; refine (Hf.out).mono ?_; rintro e w' ⟨rfl, rfl⟩)
  go_ret
  exact ⟨rfl, rfl⟩
theorem let_zero (rb : Nat) (fr : Frs X) (hand : Nat) (F : Heaplet) (w : World) (h : RingIs rb fr hand F w) (k : Int) (i : Nat) (f : Fr X) (hk : findF fr k = some (i, f)) (hp0 : (f.pins == 0) = true) :
    Calls Try.prog 43 #[.pointer (some ⟨rb, 0, none⟩), .int .i64 k] w (Ret (.bool false) (Same w)) := by
  obtain ⟨L, rfl, h⟩ := h
  obtain ⟨h1, h2, h3⟩ := findF_some hk
  obtain ⟨b, hb⟩ := bare_inv h2
  have hf := find_some rb _ L hand F w h k i _ h1 (ptrs_get hb)
  have hc := h.frameCell hb
  have c2 : w.cell? ⟨b, 2, none⟩ = some (kI f.pins) := by rw [cell_of hc]; rfl
  have Hf := Lib.hid hf
  clear hf h hk h1 h2 h3 hb hc
  generalize f.pins = q at *
  go_enter Try.func43, Try.ntmps43
  go_wp2_with (go_at_call 49; refine (Hf.out).mono ?_; rintro e w' ⟨rfl, rfl⟩; simp only [ptr])
  go_ret
  exact ⟨rfl, rfl⟩
theorem let_some (rb : Nat) (fr : Frs X) (hand : Nat) (F : Heaplet) (w : World) (h : RingIs rb fr hand F w) (k : Int) (i : Nat) (f : Fr X) (hk : findF fr k = some (i, f)) (hp0 : 0 < f.pins) (hp : f.pins ≤ 9223372036854775807) :
    Calls Try.prog 43 #[.pointer (some ⟨rb, 0, none⟩), .int .i64 k] w (Ret (.bool true) (RingIs rb (fr.set i (some { f with pins := f.pins - 1 })) hand F)) := by
  obtain ⟨L, rfl, h⟩ := h
  obtain ⟨h1, h2, h3⟩ := findF_some hk
  obtain ⟨b, hb⟩ := bare_inv h2
  have hf := find_some rb _ L hand F w h k i _ h1 (ptrs_get hb)
  have hc := h.frameCell hb
  have c2 : w.cell? ⟨b, 2, none⟩ = some (kI f.pins) := by rw [cell_of hc]; rfl
  have u2 := unfrozen_of hc 2
  have fin : RingIs rb ((bare L).set i (some { f with pins := f.pins - 1 })) hand F (w.setCell ⟨b, 2, none⟩ (kI (f.pins - 1))) :=
    ⟨L.set i (some (b, { f with pins := f.pins - 1 })), bare_set _ _ _, by
      rw [ptrs_same hb]
      exact h.upd hb rfl fun H s => s.setCell (i := 2) _⟩
  have Fin := Lib.hid fin
  have Hf := Lib.hid hf
  clear hf h hk h1 h2 h3 hb hc fin
  generalize f.pins = q at *
  have hq : (q == 0) = false := by rw [beq_eq_false_iff_ne]; omega
  go_enter Try.func43, Try.ntmps43
  go_wp2_with (go_at_call 49; refine (Hf.out).mono ?_; rintro e w' ⟨rfl, rfl⟩; simp only [ptr])
  go_ret
  exact ⟨rfl, Fin.out⟩
theorem pins_nil (k : Int) (w : World) : Calls Try.prog 24 #[.pointer none, .int .i64 k] w (Ret (.int .i64 0) (Same w)) := by
  have Hf := Lib.hid (find_nil k w)
  go_enter Try.func24, Try.ntmps24
  go_wp2_with (go_at_call 49; refine (Hf.out).mono ?_; rintro e w' ⟨rfl, rfl⟩)
  go_ret
  exact ⟨rfl, rfl⟩
def pinsM (fr : Frs X) (k : Int) : Int := ((findF fr k).map (·.2.pins)).getD 0
theorem pins_any (rb : Nat) (fr : Frs X) (hand : Nat) (F : Heaplet) (w : World) (h : RingIs rb fr hand F w) (k : Int) :
    Calls Try.prog 24 #[.pointer (some ⟨rb, 0, none⟩), .int .i64 k] w (Ret (.int .i64 (pinsM fr k)) (Same w)) := by
  obtain ⟨L, rfl, h⟩ := h
  unfold pinsM
  cases hk : findF (bare L) k with
  | none =>
    have hf := find_none rb _ L hand F w h k (findF_none hk)
    have Hf := Lib.hid hf
    clear hf h hk
    go_enter Try.func24, Try.ntmps24
    go_wp2_with (go_at_call 49; refine (Hf.out).mono ?_; rintro e w' ⟨rfl, rfl⟩)
    go_ret
    exact ⟨rfl, rfl⟩
  | some x =>
    obtain ⟨i, f⟩ := x
    obtain ⟨h1, h2, h3⟩ := findF_some hk
    obtain ⟨b, hb⟩ := bare_inv h2
    have hf := find_some rb _ L hand F w h k i _ h1 (ptrs_get hb)
    have hc := h.frameCell hb
    have c2 : w.cell? ⟨b, 2, none⟩ = some (kI f.pins) := by rw [cell_of hc]; rfl
    have Hf := Lib.hid hf
    clear hf h hk h1 h2 h3 hb hc
    go_enter Try.func24, Try.ntmps24
    go_wp2_with (go_at_call 49; refine (Hf.out).mono ?_; rintro e w' ⟨rfl, rfl⟩; simp only [ptr])
    go_ret
    exact ⟨rfl, rfl⟩

theorem new_any (F : Heaplet) (n : Int) (w : World) (hs : Sat w F) :
    Calls Try.prog 19 #[.int .i64 n] w fun e w' => ∃ rb, e = .returned (.pointer (some ⟨rb, 0, none⟩)) ∧ RingIs rb (List.replicate (min (max n 1) 64).toNat none) 0 F w' := by
  obtain ⟨N, hN, h1, h64⟩ : ∃ N : Nat, N = (min (max n 1) 64).toNat ∧ 1 ≤ N ∧ N ≤ 64 := ⟨_, rfl, by omega, by omega⟩
  rw [← hN]
  have hmk : ∀ w : World, (Instr.makeSlice 86 (.int .i64 (N : Int)) (.int .i64 (N : Int))).run Try.prog w = .ok (.slice (some ⟨w.heap.size, 0, none⟩) N N) (w.alloc (.cells (ptrs (List.replicate N (none : Option (Nat × Fr X)))) 89)) := by
    intro w
    rw [run_make_row' 86 89 (.pointer none) 8 Try.underlying86 (by kernel_rfl) rfl .i64 .i64 N (by omega) (by omega) w, made_one]
    simp [ptrs, ptr]
  have hmm := @run_makeMap Try.prog
  have hm : MapOk (.int .i64) kI kI #[] 0 ([] : List (Int × Int)) := mapOk_new kI_key kI_inj
  have hb : bare (List.replicate N (none : Option (Nat × Fr X))) = List.replicate N none := by simp [bare]
  have hk : keysOf (List.replicate N (none : Option (Fr X))) = List.replicate N none := by simp [keysOf]
  have hpl : PlaceOk [] (List.replicate N (none : Option Int)) := by
    refine ⟨by simp, fun k => ?_, fun i j k hi => ?_, by simp [fullK]⟩
    · have : idxK k (List.replicate N (none : Option Int)) = none := idxK_none.2 (by simp)
      rw [this]; rfl
    · rw [List.getElem?_replicate] at hi
      split at hi <;> simp at hi
  have hfr : ∀ n : Nat, frH kI 92 (List.replicate n (none : Option (Nat × Fr X))) = [] := by
    intro n
    induction n with
    | zero => rfl
    | succ n ih => simp [List.replicate_succ, frH, ih]
  have fin : RingIs (w.heap.size + 1 + 1) (List.replicate N none) 0 F (((w.alloc (.cells (ptrs (List.replicate N (none : Option (Nat × Fr X)))) 89)).alloc (.map #[] 0)).alloc (.cells #[.slice (some ⟨w.heap.size, 0, none⟩) N N, .map (some (w.heap.size + 1)), kI 0] 88)) := by
    refine ⟨_, hb, ⟨by simp [ptrs], by simp; omega, by simp; omega, by simp; omega⟩, w.heap.size, w.heap.size + 1, #[], 0, [], hm, by rw [hb, hk]; exact hpl, ?_⟩
    rw [hfr]
    have s1 := ((hs.new (.cells (ptrs (List.replicate N (none : Option (Nat × Fr X)))) 89)).new (.map #[] 0)).new (.cells #[.slice (some ⟨w.heap.size, 0, none⟩) N N, .map (some (w.heap.size + 1)), kI 0] 88)
    simp only [World.size_alloc] at s1
    simp only [List.length_replicate, List.nil_append]
    exact s1.perm ((List.Perm.swap _ _ _).cons _)
  have Fin := Lib.hid fin
  clear fin hm hs hpl hb hk hfr
  by_cases ha : n < 1
  · obtain rfl : N = 1 := by omega
    clear hN
    rw [show ((1 : Nat) : Int) = 1 from rfl] at hmk
    go_enter Try.func19, Try.ntmps19
    go_wp2_with fail
    go_ret
    exact ⟨_, rfl, Fin.out⟩
  by_cases hb : 64 < n
  · obtain rfl : N = 64 := by omega
    clear hN
    rw [show ((64 : Nat) : Int) = 64 from rfl] at hmk
    go_enter Try.func19, Try.ntmps19
    go_wp2_with fail
    go_ret
    exact ⟨_, rfl, Fin.out⟩
  obtain rfl : n = (N : Int) := by omega
  clear hN
  go_enter Try.func19, Try.ntmps19
  go_wp2_with fail
  go_ret
  exact ⟨_, rfl, Fin.out⟩

/-- A ring's frames, looked through. -/
theorem vacant_any (rb : Nat) (L : Lst X) (hand : Nat) (F : Heaplet) (w : World) (h : RingP rb (ptrs L) L hand F w) :
    Calls Try.prog 50 #[.pointer (some ⟨rb, 0, none⟩)] w (Ret (match vacM (bare L) with | some i => .tuple #[.int .i64 i, .bool true] | none => .tuple #[.int .i64 0, .bool false]) (Same w)) := by
  obtain ⟨fb, m, es, clk, D, hm, hpl, hmb, c0, c1, c2, cf⟩ := h.open
  have h64 := h.1.2.2.1
  have Hcf := Lib.hid cf
  clear hm hpl hmb h cf
  have hlen : (bare L).length = L.length := by simp [bare]
  cases hv : vacM (bare L) with
  | some v =>
    obtain ⟨hv1, hv2⟩ := vacM_some hv
    have hvl : v < L.length := by rw [← hlen]; exact (List.getElem?_eq_some_iff.1 hv1).1
    have Hv2 := Lib.hid hv2
    have Hv1 := Lib.hid hv1
    clear hv hv1 hv2 hlen
    go_enter Try.func50, Try.ntmps50
    go_wp2_with fail
    go_loop [11] (fun i => ∃ k : Nat, k ≤ v ∧ i = .int .i64 k) (fun i => 100 - (intOf i).toNat)
    case atStart => exact ⟨0, by omega, rfl⟩
    case round =>
      obtain ⟨k, hk, rfl⟩ := hrel
      have hk0 : (0 : Int) ≤ (k : Int) := by omega
      have hk1 : (k : Int) < (L.length : Int) := by omega
      by_cases hlt : k < v
      · obtain ⟨f, hf⟩ := Hv2.out k hlt
        obtain ⟨b, hb⟩ := bare_inv hf
        have ck := (Hcf.out k).trans (ptrs_get hb)
        simp only [ptr] at ck
        clear hf hb
        go_wp2_with fail
        go_round
        case rel => exact ⟨k + 1, by omega, by go_num⟩
        case measure => simp [intOf]; omega
      · obtain rfl : k = v := by omega
        have ck := (Hcf.out k).trans (ptrs_get (bare_inv_none Hv1.out))
        simp only [ptr] at ck
        go_wp2_with fail
        go_ret2
        exact ⟨rfl, rfl⟩
  | none =>
    have Hv := Lib.hid (vacM_none hv)
    have hlen' := hlen
    have Hl := Lib.hid hlen'
    clear hv hlen hlen'
    go_enter Try.func50, Try.ntmps50
    go_wp2_with fail
    go_loop [11] (fun i => ∃ k : Nat, k ≤ L.length ∧ i = .int .i64 k) (fun i => 100 - (intOf i).toNat)
    case atStart => exact ⟨0, by omega, rfl⟩
    case round =>
      obtain ⟨k, hk, rfl⟩ := hrel
      have hk0 : (0 : Int) ≤ (k : Int) := by omega
      by_cases hlt : k < L.length
      · obtain ⟨f, hf⟩ := Hv.out k (by rw [Hl.out]; exact hlt)
        obtain ⟨b, hb⟩ := bare_inv hf
        have ck := (Hcf.out k).trans (ptrs_get hb)
        simp only [ptr] at ck
        clear hf hb
        go_wp2_with fail
        go_round
        case rel => exact ⟨k + 1, by omega, by go_num⟩
        case measure => simp [intOf]; omega
      · go_wp2_with fail
        go_ret2
        exact ⟨rfl, rfl⟩
theorem pinned_any (rb : Nat) (L : Lst X) (hand : Nat) (F : Heaplet) (w : World) (h : RingP rb (ptrs L) L hand F w) :
    Calls Try.prog 51 #[.pointer (some ⟨rb, 0, none⟩)] w (Ret (.bool (pinnedM (bare L))) (Same w)) := by
  obtain ⟨fb, m, es, clk, D, hm, hpl, hmb, c0, c1, c2, cf⟩ := h.open
  have h64 := h.1.2.2.1
  have Hcf := Lib.hid cf
  have Hh := Lib.hid h
  clear hm hpl hmb h cf
  have hlen : (bare L).length = L.length := by simp [bare]
  cases hv : pinnedM (bare L) with
  | true =>
    have Hv := Lib.hid (pinnedM_true hv)
    have hlen' := hlen
    have Hl := Lib.hid hlen'
    clear hv hlen hlen'
    go_enter Try.func51, Try.ntmps51
    go_wp2_with fail
    go_loop [10] (fun i => ∃ k : Nat, k ≤ L.length ∧ i = .int .i64 k) (fun i => 100 - (intOf i).toNat)
    case atStart => exact ⟨0, by omega, rfl⟩
    case round =>
      obtain ⟨k, hk, rfl⟩ := hrel
      have hk0 : (0 : Int) ≤ (k : Int) := by omega
      by_cases hlt : k < L.length
      · obtain ⟨f, hf, hq⟩ := Hv.out k (by rw [Hl.out]; exact hlt)
        obtain ⟨b, hb⟩ := bare_inv hf
        have ck := (Hcf.out k).trans (ptrs_get hb)
        simp only [ptr] at ck
        have c2' : w.cell? ⟨b, 2, none⟩ = some (kI f.pins) := by rw [cell_of (Hh.out.frameCell hb)]; rfl
        clear hf hb
        go_wp2_with fail
        go_round
        case rel => exact ⟨k + 1, by omega, by go_num⟩
        case measure => simp [intOf]; omega
      · go_wp2_with fail
        go_ret
        exact ⟨rfl, rfl⟩
  | false =>
    obtain ⟨v, hvl, hv2, hv1⟩ := pinnedM_false hv
    rw [hlen] at hvl
    have Hv2 := Lib.hid hv2
    have Hv1 := Lib.hid hv1
    clear hv hv1 hv2 hlen
    go_enter Try.func51, Try.ntmps51
    go_wp2_with fail
    go_loop [10] (fun i => ∃ k : Nat, k ≤ v ∧ i = .int .i64 k) (fun i => 100 - (intOf i).toNat)
    case atStart => exact ⟨0, by omega, rfl⟩
    case round =>
      obtain ⟨k, hk, rfl⟩ := hrel
      have hk0 : (0 : Int) ≤ (k : Int) := by omega
      have hk1 : (k : Int) < (L.length : Int) := by omega
      by_cases hlt : k < v
      · obtain ⟨f, hf, hq⟩ := Hv2.out k hlt
        obtain ⟨b, hb⟩ := bare_inv hf
        have ck := (Hcf.out k).trans (ptrs_get hb)
        simp only [ptr] at ck
        have c2' : w.cell? ⟨b, 2, none⟩ = some (kI f.pins) := by rw [cell_of (Hh.out.frameCell hb)]; rfl
        clear hf hb
        go_wp2_with fail
        go_round
        case rel => exact ⟨k + 1, by omega, by go_num⟩
        case measure => simp [intOf]; omega
      · obtain rfl : k = v := by omega
        rcases Hv1.out with hf | ⟨f, hf, hq⟩
        · have ck := (Hcf.out k).trans (ptrs_get (bare_inv_none hf))
          simp only [ptr] at ck
          clear hf
          go_wp2_with fail
          go_ret
          exact ⟨rfl, rfl⟩
        · obtain ⟨b, hb⟩ := bare_inv hf
          have ck := (Hcf.out k).trans (ptrs_get hb)
          simp only [ptr] at ck
          have c2' : w.cell? ⟨b, 2, none⟩ = some (kI f.pins) := by rw [cell_of (Hh.out.frameCell hb)]; rfl
          clear hf hb
          go_wp2_with fail
          go_ret
          exact ⟨rfl, rfl⟩

theorem RingIs.of {rb : Nat} {L : Lst X} {hand : Nat} {F : Heaplet} {w : World} (h : RingP rb (ptrs L) L hand F w) : RingIs rb (bare L) hand F w := ⟨L, rfl, h⟩
/-- A frame is vacated: its place is forgotten, its cell is written, its block is garbage. -/
theorem RingP.vacate {rb : Nat} {ps ps' : Array Value} {L : Lst X} {hand hand' : Nat} {F : Heaplet} {w w' : World} (h0 : ps'.size = L.length ∧ 0 < L.length ∧ L.length ≤ 64 ∧ hand' < L.length) {i b : Nat} {f : Fr X} (hi : L[i]? = some (some (b, f)))
    {fb m : Nat} {es : Array MapEntry} {clk : Nat} {D : List (Int × Int)} (hpl : PlaceOk D (keysOf (bare L))) (hm : MapOk (.int .i64) kI kI es clk (delL f.key D))
    (hs : Sat w' (.blk rb (.cells #[.slice (some ⟨fb, 0, none⟩) L.length L.length, .map (some m), kI hand'] 88) :: .blk fb (.cells ps' 89) :: .blk m (.map es clk) :: (frH kI 92 L ++ F))) :
    RingP rb ps' (L.set i none) hand' F w' := by
  have hl : (L.set i none).length = L.length := List.length_set
  have hk : keysOf (bare (L.set i none)) = (keysOf (bare L)).set i none := by rw [bare_set, keysOf_set]; rfl
  refine ⟨by rw [hl]; exact h0, fb, m, es, clk, delL f.key D, hm, ?_, ?_⟩
  · rw [hk]
    exact hpl.vacate (by rw [keysOf_get (bare_get hi)]; rfl)
  · rw [hl]
    have p1 := (frH_take (vv := kI) (T := 92) hi).append_right F
    have s1 := hs.perm ((p1.cons _).cons _ |>.cons _)
    exact (s1.perm (List.perm_middle (l₁ := HItem.blk rb _ :: .blk fb _ :: [.blk m _]))).tail

theorem del_none (rb : Nat) (fr : Frs X) (hand : Nat) (F : Heaplet) (w : World) (h : RingIs rb fr hand F w) (k : Int) (hk : findF fr k = none) :
    Calls Try.prog 42 #[.pointer (some ⟨rb, 0, none⟩), .int .i64 k] w (Ret (.tuple #[kI 0, .bool false]) (Same w)) := by
  obtain ⟨L, rfl, h⟩ := h
  have hf := find_none rb _ L hand F w h k (findF_none hk)
  have Hf := Lib.hid hf
  clear hf h hk
  go_enter Try.func42, Try.ntmps42
  go_wp2_with (go_at_call 49; refine (Hf.out).mono ?_; rintro e w' ⟨rfl, rfl⟩)
  go_ret2
  exact ⟨rfl, rfl⟩
set_option maxHeartbeats 400000 in
set_option maxRecDepth 100000 in
theorem del_some (rb : Nat) (fr : Frs X) (hand : Nat) (F : Heaplet) (w : World) (h : RingIs rb fr hand F w) (k : Int) (i : Nat) (f : Fr X) (hk : findF fr k = some (i, f)) :
    Calls Try.prog 42 #[.pointer (some ⟨rb, 0, none⟩), .int .i64 k] w (Ret (.tuple #[kI f.val, .bool true]) (RingIs rb (fr.set i none) hand F)) := by
  obtain ⟨L, rfl, h⟩ := h
  obtain ⟨h1, h2, h3⟩ := findF_some hk
  obtain ⟨b, hb⟩ := bare_inv h2
  have hf := find_some rb _ L hand F w h k i _ h1 (ptrs_get hb)
  have hlt : i < L.length := (List.getElem?_eq_some_iff.1 hb).1
  have h64 := h.1.2.2.1
  obtain ⟨h0, fb, m, es, clk, D, hm, hpl, hs⟩ := h
  have sd := hs.drew
  have c0 : w.drew.cell? ⟨rb, 0, none⟩ = some (.slice (some ⟨fb, 0, none⟩) L.length L.length) := by rw [cell_of sd.h0]; rfl
  have c1 : w.drew.cell? ⟨rb, 1, none⟩ = some (.map (some m)) := by rw [cell_of sd.h0]; rfl
  have ci : w.drew.cell? ⟨fb, i, none⟩ = some (ptr (some (b, f))) := by rw [cell_of sd.h1, ptrs_get hb]
  have ui := unfrozen_of sd.h1 i
  have hl := run_lookup_ok (P := Try.prog) (t := 83) (kt := 3) (et := 3) (z := .int .i64 0) Try.underlying83 Try.underlying3 (zero3 _) sd.h2 hm k
  rw [hpl.look, h1] at hl
  simp only [Option.map_some, Option.getD_some] at hl
  have s1 := (sd.swap.setCell (i := i) (.pointer none)).swap
  have d1 : (w.drew.setCell ⟨fb, i, none⟩ (.pointer none)).cell? ⟨rb, 1, none⟩ = some (.map (some m)) := by rw [cell_of s1.h0]; rfl
  obtain ⟨w2, es2, hd, hm2, s2⟩ := sat_delete (P := Try.prog) (ty := 0) (t := 83) (kt := 3) (et := 3) Try.underlying83 Try.underlying3 hm s1.rot3 k
  have s3 := s2.unrot3
  have hps : (ptrs L).setIfInBounds i (.pointer none) = ptrs (L.set i none) := ptrs_set L i none
  rw [hps] at s3
  have e1 : w2.cell? ⟨b, 1, none⟩ = some (kI f.val) := by
    have := s3.get (b := b) (o := frObj kI 92 f) (.tail _ (.tail _ (.tail _ (List.mem_append_left _ ((frH_take hb).mem_iff.2 (.head _))))))
    rw [cell_of this]; rfl
  have fin : RingIs rb ((bare L).set i none) hand F w2 := by
    refine ⟨L.set i none, bare_set _ _ _, RingP.vacate (w := w) (ps := ptrs L) (hand := hand) ⟨?_, h0.2⟩ hb hpl (by rw [h3]; exact hm2) s3⟩
    simp [ptrs]
  have Fin := Lib.hid fin
  have Hf := Lib.hid hf
  clear hf hk h1 h2 h3 hb fin hs sd s1 s2 s3 hm hm2 hpl hps h0
  go_enter Try.func42, Try.ntmps42
  go_wp2_with (go_at_call 49; refine (Hf.out).mono ?_; rintro e w' ⟨rfl, rfl⟩; simp only [ptr])
  go_still_tail 11, (by kernel_rfl)
  change wpList _ _ _ _ _ (World.drew _)
  generalize World.drew w = wd at *
  go_wp2_with fail
  go_ret2
  exact ⟨rfl, Fin.out⟩

/-- A freed frame: what it held; the ring that forgot it, whose cell still points there. -/
def FreeIs (rb at_ : Nat) (fr' : Frs X) (hand' : Nat) (F : Heaplet) (w : World) : Prop :=
  ∃ L', bare L' = fr' ∧ RingP rb (ptrs L') (L'.set at_ none) hand' F w
theorem freeM_succ (n : Nat) (fr : Frs X) (h : Nat) (f : Fr X) (hf : fr[h]? = some (some f)) : freeM (n + 1) fr h = if f.pins == 0 && !f.fresh then some (h, f, fr, (h + 1) % fr.length) else freeM n (fr.set h (some { f with fresh := f.fresh && decide (0 < f.pins) })) ((h + 1) % fr.length) := by
  simp [freeM, hf]
theorem freeM_head {n : Nat} {fr : Frs X} {h : Nat} {r : Nat × Fr X × Frs X × Nat} (e : freeM (n + 1) fr h = some r) : ∃ f, fr[h]? = some (some f) := by
  simp only [freeM] at e
  split at e
  · rename_i f hf; exact ⟨f, hf⟩
  · cases e
/-- The hand goes on. -/
theorem RingP.on {rb : Nat} {ps : Array Value} {L : Lst X} {hand : Nat} {F : Heaplet} {w : World} (h : RingP rb ps L hand F w) {hand' : Nat} (hl : hand' < L.length) {v : Int} (hv : v = hand') : RingP rb ps L hand' F (w.setCell ⟨rb, 2, none⟩ (kI v)) := by
  subst hv
  obtain ⟨h0, fb, m, es, clk, D, hm, hpl, hs⟩ := h
  exact ⟨⟨h0.1, h0.2.1, h0.2.2.1, hl⟩, fb, m, es, clk, D, hm, hpl, hs.setCell (i := 2) _⟩
theorem RingP.unfrozen {rb : Nat} {ps : Array Value} {L : Lst X} {hand : Nat} {F : Heaplet} {w : World} (h : RingP rb ps L hand F w) (i : Nat) : w.frozen? ⟨rb, i, none⟩ = false := by
  obtain ⟨h0, fb, m, es, clk, D, hm, hpl, hs⟩ := h
  exact unfrozen_of hs.h0 i
theorem RingP.setF {rb g i : Nat} {ps : Array Value} {L : Lst X} {hand : Nat} {F : Heaplet} {w : World} {c : Array Value} {t : TypeId} {z : Nat × Nat} (h : RingP rb ps L hand (.blk g (.cells c t z) :: F) w) (v : Value) :
    RingP rb ps L hand (.blk g (.cells (c.setIfInBounds i v) t z) :: F) (w.setCell ⟨g, i, none⟩ v) := by
  obtain ⟨h0, fb, m, es, clk, D, hm, hpl, hs⟩ := h
  refine ⟨h0, fb, m, es, clk, D, hm, hpl, ?_⟩
  have s1 := hs.perm (List.perm_middle (l₁ := HItem.blk rb _ :: .blk fb _ :: .blk m _ :: frH kI 92 L))
  exact (s1.setCell (i := i) v).perm (List.perm_middle (l₁ := HItem.blk rb _ :: .blk fb _ :: .blk m _ :: frH kI 92 L)).symm

theorem RingP.freed {rb at_ b : Nat} {L : Lst X} {hand : Nat} {F : Heaplet} {w : World} {f : Fr X} (h : RingP rb (ptrs L) L hand F w) (hb : L[at_]? = some (some (b, f))) :
    ∃ m w2, w.cell? ⟨rb, 1, none⟩ = some (.map (some m)) ∧ (∀ ty, (Builtin.delete_ #[83, 3] ty #[.map (some m), kI f.key]).run Try.prog w = .ok (.tuple #[]) w2) ∧ RingP rb (ptrs L) (L.set at_ none) hand F w2 ∧ w2.heap[b]? = some (frObj kI 92 f) := by
  obtain ⟨h0, fb, m, es, clk, D, hm, hpl, hs⟩ := h
  obtain ⟨w2, es2, hd, hm2, s2⟩ := sat_delete (P := Try.prog) (ty := 0) (t := 83) (kt := 3) (et := 3) Try.underlying83 Try.underlying3 hm hs.rot3 f.key
  have s3 := s2.unrot3
  refine ⟨m, w2, ?_, fun ty => hd, RingP.vacate (w := w) (ps := ptrs L) (hand := hand) h0 hb hpl hm2 s3, ?_⟩
  · rw [cell_of hs.h0]; rfl
  · exact s3.get (.tail _ (.tail _ (.tail _ (List.mem_append_left _ ((frH_take hb).mem_iff.2 (.head _))))))

end Go.Proofs.Ytbjomkbiljpjmaa.RI
