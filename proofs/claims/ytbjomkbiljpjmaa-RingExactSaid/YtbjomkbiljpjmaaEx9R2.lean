/- The document's ring walked: Pins, Get, Del, Pin, New, All. Conditions: none. -/
import Derived.Test.YtbjomkbiljpjmaaEx9R1
namespace Go.Proofs.Ytbjomkbiljpjmaa
open Go Go.MapKept Go.RowKit Go.Proofs

theorem idx_of_find {fr : FrsS} {k : Int} {i : Nat} {f : Fr ByteArray} (h : findF fr k = some (i, f)) : idxK k (keysOf fr) = some i ∧ fr[i]? = some (some f) := ⟨(findF_some h).1, (findF_some h).2.1⟩
section
variable (ub g : Nat) (fr : FrsS) (hand : Nat) (F : Heaplet) (w : World)
set_option maxRecDepth 100000 in
set_option maxHeartbeats 1600000 in
theorem pins_ref (h : RefF ub g fr hand F w) (k : Int) :
    Calls Try.prog 38 #[.pointer (some ⟨ub, 0, none⟩), .int .i64 k] w (Ret (.int .i64 (RS.pinsM fr k)) (Same w)) := by
  have hp := place_any ub g fr hand F w h k
  have h64 := h.1.2.1
  obtain ⟨h0, _, _⟩ := h.head
  unfold RS.pinsM
  cases hk : findF fr k with
  | none =>
    rw [findF_none hk] at hp
    have HP := Lib.hid hp
    clear hp h hk
    go_enter Try.func38, Try.ntmps38
    go_wp2_with fail
    refine (HP.out).mono ?_
    rintro e w' ⟨rfl, rfl⟩
    rw [show placeV none = -1 from rfl]
    go_wp2_with fail
    go_ret
    exact ⟨rfl, rfl⟩
  | some x =>
    obtain ⟨i, f⟩ := x
    obtain ⟨e1, e2⟩ := idx_of_find hk
    have hil := (List.getElem?_eq_some_iff.1 e2).1
    rw [e1] at hp
    have c3 : w.cell? ⟨g, i * 5 + 3, none⟩ = some (kI f.pins) := h.cell e2 rfl
    have HP := Lib.hid hp
    have i0 : (0 : Int) ≤ (i : Int) := by omega
    have i1 : (i : Int) < (fr.length : Int) := by omega
    clear hp h hk e1 e2
    go_enter Try.func38, Try.ntmps38
    go_wp2_with fail
    refine (HP.out).mono ?_
    rintro e w' ⟨rfl, rfl⟩
    rw [show placeV (some i) = (i : Int) from rfl]
    go_wp2_with fail
    go_ret
    exact ⟨rfl, rfl⟩
set_option maxRecDepth 100000 in
set_option maxHeartbeats 1600000 in
theorem get_ref (h : RefF ub g fr hand F w) (k : Int) :
    Calls Try.prog 34 #[.pointer (some ⟨ub, 0, none⟩), .int .i64 k] w (Ret (.tuple #[RS.valV (getM fr k).1, .bool (getM fr k).1.isSome]) (RefF ub g (getM fr k).2 hand F)) := by
  have hp := place_any ub g fr hand F w h k
  have h64 := h.1.2.1
  obtain ⟨h0, _, _⟩ := h.head
  unfold getM
  cases hk : findF fr k with
  | none =>
    rw [findF_none hk] at hp
    have HP := Lib.hid hp
    have HH := Lib.hid h
    clear hp h hk
    go_enter Try.func34, Try.ntmps34
    go_wp2_with fail
    refine (HP.out).mono ?_
    rintro e w' ⟨rfl, rfl⟩
    rw [show placeV none = -1 from rfl]
    go_wp2_with fail
    go_ret2
    exact ⟨rfl, HH.out⟩
  | some x =>
    obtain ⟨i, f⟩ := x
    obtain ⟨e1, e2⟩ := idx_of_find hk
    have hil := (List.getElem?_eq_some_iff.1 e2).1
    rw [e1] at hp
    have c4 : w.cell? ⟨g, i * 5 + 4, none⟩ = some (.bool f.fresh) := h.cell e2 rfl
    have u4 := h.unfrozen (i * 5 + 4)
    have h2 := h.set (j := 4) (u := .bool true) (some { f with fresh := true }) e2 (by omega) rfl
    have hg : (fr.set i (some { f with fresh := true }))[i]? = some (some { f with fresh := true }) := by simp [hil]
    have d2 : (w.setCell ⟨g, i * 5 + 4, none⟩ (.bool true)).cell? ⟨g, i * 5 + 2, none⟩ = some (kS f.val) := h2.cell hg rfl
    obtain ⟨d0, _, _⟩ := h2.head
    rw [List.length_set] at d0
    have HP := Lib.hid hp
    have H2 := Lib.hid h2
    have i0 : (0 : Int) ≤ (i : Int) := by omega
    have i1 : (i : Int) < (fr.length : Int) := by omega
    clear hp h hk e1 e2 h2 hg
    go_enter Try.func34, Try.ntmps34
    go_wp2_with fail
    refine (HP.out).mono ?_
    rintro e w' ⟨rfl, rfl⟩
    rw [show placeV (some i) = (i : Int) from rfl]
    go_wp2_with fail
    go_ret2
    exact ⟨rfl, H2.out⟩
set_option maxRecDepth 100000 in
set_option maxHeartbeats 1600000 in
theorem del_ref (h : RefF ub g fr hand F w) (k : Int) :
    Calls Try.prog 35 #[.pointer (some ⟨ub, 0, none⟩), .int .i64 k] w (Ret (.tuple #[RS.valV (delM fr k).1, .bool (delM fr k).1.isSome]) (RefF ub g (delM fr k).2 hand F)) := by
  have hp := place_any ub g fr hand F w h k
  have h64 := h.1.2.1
  obtain ⟨h0, _, _⟩ := h.head
  unfold delM
  cases hk : findF fr k with
  | none =>
    rw [findF_none hk] at hp
    have HP := Lib.hid hp
    have HH := Lib.hid h
    clear hp h hk
    go_enter Try.func35, Try.ntmps35
    go_wp2_with fail
    refine (HP.out).mono ?_
    rintro e w' ⟨rfl, rfl⟩
    rw [show placeV none = -1 from rfl]
    go_wp2_with fail
    go_ret2
    exact ⟨rfl, HH.out⟩
  | some x =>
    obtain ⟨i, f⟩ := x
    obtain ⟨e1, e2⟩ := idx_of_find hk
    have hil := (List.getElem?_eq_some_iff.1 e2).1
    rw [e1] at hp
    have c0 : w.cell? ⟨g, i * 5, none⟩ = some (.bool true) := h.cell (j := 0) e2 rfl
    have c1 : w.cell? ⟨g, i * 5 + 1, none⟩ = some (kI f.key) := h.cell e2 rfl
    have c2 : w.cell? ⟨g, i * 5 + 2, none⟩ = some (kS f.val) := h.cell e2 rfl
    have c3 : w.cell? ⟨g, i * 5 + 3, none⟩ = some (kI f.pins) := h.cell e2 rfl
    have c4 : w.cell? ⟨g, i * 5 + 4, none⟩ = some (.bool f.fresh) := h.cell e2 rfl
    have u0 := h.unfrozen (i * 5)
    have u1 := h.unfrozen (i * 5 + 1)
    have u2 := h.unfrozen (i * 5 + 2)
    have u3 := h.unfrozen (i * 5 + 3)
    have u4 := h.unfrozen (i * 5 + 4)
    have h2 := h.set5 none hil rfl
    have HP := Lib.hid hp
    have H2 := Lib.hid h2
    have i0 : (0 : Int) ≤ (i : Int) := by omega
    have i1 : (i : Int) < (fr.length : Int) := by omega
    clear hp h hk e1 e2 h2
    go_enter Try.func35, Try.ntmps35
    go_wp2_with fail
    refine (HP.out).mono ?_
    rintro e w' ⟨rfl, rfl⟩
    rw [show placeV (some i) = (i : Int) from rfl]
    go_wp2_with fail
    go_ret2
    exact ⟨rfl, H2.out⟩
set_option maxRecDepth 100000 in
set_option maxHeartbeats 1600000 in
theorem pin_ref (h : RefF ub g fr hand F w) (k : Int) {n : Int} (hn : RS.PinsLe fr n) (hn2 : n < 9223372036854775807) :
    Calls Try.prog 36 #[.pointer (some ⟨ub, 0, none⟩), .int .i64 k, .int .i64 1] w (Ret (.bool (pinM fr k).1) (RefF ub g (pinM fr k).2 hand F)) := by
  have hp := place_any ub g fr hand F w h k
  have h64 := h.1.2.1
  obtain ⟨h0, _, _⟩ := h.head
  unfold pinM
  cases hk : findF fr k with
  | none =>
    rw [findF_none hk] at hp
    have HP := Lib.hid hp
    have HH := Lib.hid h
    clear hp h hk
    go_enter Try.func36, Try.ntmps36
    go_wp2_with fail
    refine (HP.out).mono ?_
    rintro e w' ⟨rfl, rfl⟩
    rw [show placeV none = -1 from rfl]
    go_wp2_with fail
    go_ret
    exact ⟨rfl, HH.out⟩
  | some x =>
    obtain ⟨i, f⟩ := x
    obtain ⟨e1, e2⟩ := idx_of_find hk
    have hil := (List.getElem?_eq_some_iff.1 e2).1
    rw [e1] at hp
    obtain ⟨q0, q1⟩ := hn i f e2
    have c3 : w.cell? ⟨g, i * 5 + 3, none⟩ = some (kI f.pins) := h.cell e2 rfl
    have u3 := h.unfrozen (i * 5 + 3)
    have h2 := h.drew.set (j := 3) (u := kI (f.pins + 1)) (some { f with pins := f.pins + 1 }) e2 (by omega) rfl
    have HP := Lib.hid hp
    have H2 := Lib.hid h2
    have i0 : (0 : Int) ≤ (i : Int) := by omega
    have i1 : (i : Int) < (fr.length : Int) := by omega
    have q2 : ¬ f.pins + 1 < 0 := by omega
    have hw1 : IntKind.i64.wrap (f.pins + 1) = f.pins + 1 := IntWalk.i64_in _ (by omega)
    clear hp h hk e1 e2 h2
    go_enter Try.func36, Try.ntmps36
    go_wp2_with fail
    refine (HP.out).mono ?_
    rintro e w' ⟨rfl, rfl⟩
    rw [show placeV (some i) = (i : Int) from rfl]
    go_upto_region 4 with (fail)
    go_still_tail 17, (by kernel_rfl)
    change wpList _ _ _ _ _ (World.drew _)
    go_wp2_with fail
    go_ret
    exact ⟨rfl, H2.out⟩
set_option maxRecDepth 100000 in
set_option maxHeartbeats 1600000 in
theorem let_ref (h : RefF ub g fr hand F w) (k : Int) {n : Int} (hn : RS.PinsLe fr n) (hn2 : n < 9223372036854775807) :
    Calls Try.prog 36 #[.pointer (some ⟨ub, 0, none⟩), .int .i64 k, .int .i64 (-1)] w (Ret (.bool (letM fr k).1) (RefF ub g (letM fr k).2 hand F)) := by
  have hp := place_any ub g fr hand F w h k
  have h64 := h.1.2.1
  obtain ⟨h0, _, _⟩ := h.head
  unfold letM
  cases hk : findF fr k with
  | none =>
    rw [findF_none hk] at hp
    have HP := Lib.hid hp
    have HH := Lib.hid h
    clear hp h hk
    go_enter Try.func36, Try.ntmps36
    go_wp2_with fail
    refine (HP.out).mono ?_
    rintro e w' ⟨rfl, rfl⟩
    rw [show placeV none = -1 from rfl]
    go_wp2_with fail
    go_ret
    exact ⟨rfl, HH.out⟩
  | some x =>
    obtain ⟨i, f⟩ := x
    obtain ⟨e1, e2⟩ := idx_of_find hk
    have hil := (List.getElem?_eq_some_iff.1 e2).1
    rw [e1] at hp
    obtain ⟨q0, q1⟩ := hn i f e2
    have c3 : w.cell? ⟨g, i * 5 + 3, none⟩ = some (kI f.pins) := h.cell e2 rfl
    have u3 := h.unfrozen (i * 5 + 3)
    have h2 := h.drew.set (j := 3) (u := kI (f.pins + -1)) (some { f with pins := f.pins + -1 }) e2 (by omega) rfl
    have HP := Lib.hid hp
    have H2 := Lib.hid h2
    have HH := Lib.hid h
    have i0 : (0 : Int) ≤ (i : Int) := by omega
    have i1 : (i : Int) < (fr.length : Int) := by omega
    clear hp h hk e1 e2 h2
    by_cases hz : f.pins = 0
    · have hb : (f.pins == 0) = true := by simpa using hz
      have q2 : f.pins + -1 < 0 := by omega
      simp only [hb, if_true]
      clear hb
      go_enter Try.func36, Try.ntmps36
      go_wp2_with fail
      refine (HP.out).mono ?_
      rintro e w' ⟨rfl, rfl⟩
      rw [show placeV (some i) = (i : Int) from rfl]
      go_wp2_with fail
      go_ret
      exact ⟨rfl, HH.out⟩
    · have hb : (f.pins == 0) = false := by simpa using hz
      have q2 : ¬ f.pins + -1 < 0 := by omega
      have hw1 : IntKind.i64.wrap (f.pins + -1) = f.pins + -1 := IntWalk.i64_in _ (by omega)
      simp only [hb, Bool.false_eq_true, if_false]
      clear hb
      go_enter Try.func36, Try.ntmps36
      go_wp2_with fail
      refine (HP.out).mono ?_
      rintro e w' ⟨rfl, rfl⟩
      rw [show placeV (some i) = (i : Int) from rfl]
      go_upto_region 4 with (fail)
      go_still_tail 17, (by kernel_rfl)
      change wpList _ _ _ _ _ (World.drew _)
      go_wp2_with fail
      go_ret
      exact ⟨rfl, H2.out⟩
end
end Go.Proofs.Ytbjomkbiljpjmaa
