/- The reader's text, way and call: tome's methods walked. Conditions: none. -/
import Derived.Test.YtieaamlpadlfeaaGreatDoorTb6
namespace Go.Proofs.YtieaamlpadlfeaaGreatDoor
open Go Go.MapKept Go.RowKit Go.Proofs

attribute [local go_sem] Oper.semAt_some

def Short (r : Rd) : Prop := ∀ x ∈ r.ws, x.length ≤ 900000
theorem Short.word {r : Rd} (h : Short r) : r.word.1.length ≤ 900000 ∧ Short r.word.2 := by
  obtain ⟨ws, bad⟩ := r
  cases ws with
  | nil => exact ⟨by simp [Rd.word], fun x hx => by cases hx⟩
  | cons x t => exact ⟨h x (.head _), fun y hy => h y (.tail _ hy)⟩
theorem Short.num {r : Rd} (h : Short r) : Short r.num.2 := h.word.2
theorem Short.text {r : Rd} (h : Short r) : Short r.text.2 := h.word.2
theorem Short.way {r : Rd} (h : Short r) : Short r.way.2 := h.word.2
set_option maxRecDepth 100000 in
theorem rtext_core {b : Nat} {ws : List Bs} {bad : Bool} {x : Bs} {K F : Heaplet} {w : World} (hL : LibF F) (HWD : Hid (Calls Tryz.prog 25 #[.pointer (some ⟨b, 0, none⟩)] w (Ret (kL x) (RdIs b ⟨ws, bad⟩ K F)))) (hlen : x.length ≤ 900000) :
    Calls Tryz.prog 47 #[.pointer (some ⟨b, 0, none⟩)] w (Ret (kL ((textS x).getD [])) (RdIs b ⟨ws, bad || (textS x).isNone⟩ K F)) := by
  have HTX : Hid (∀ W, RdIs b ⟨ws, bad⟩ K F W → Calls Tryz.prog 60 #[kL x] W (Ret (.tuple #[kL ((textS x).getD []), .int .i64 (if (textS x).isSome then 0 else 4)]) (RdIs b ⟨ws, bad⟩ K F))) := Lib.hid (fun W hW => hW.beside (fun G hG s => text_any (hL.mono hG) s x hlen))
  generalize textS x = o at *
  clear hL hlen
  cases o with
  | some t =>
    cases bad with
    | true =>
      go_enter Tryz.func47, Tryz.ntmps47
      go_wp2_with (first
        | (go_at_call 25; refine (HWD.out).mono ?_; rintro e w1 ⟨rfl, h1⟩; have H1 := Lib.hid h1; clear h1)
        | (go_at_call 60; refine (HTX.out _ H1.out).mono ?_; rintro e w2 ⟨rfl, h2⟩; have H2 := Lib.hid (h2.bad true); obtain ⟨_, _, _, _, c1, _, f1⟩ := h2.cells; clear h2))
      go_ret
      exact ⟨rfl, H2.out⟩
    | false =>
      go_enter Tryz.func47, Tryz.ntmps47
      go_wp2_with (first
        | (go_at_call 25; refine (HWD.out).mono ?_; rintro e w1 ⟨rfl, h1⟩; have H1 := Lib.hid h1; clear h1)
        | (go_at_call 60; refine (HTX.out _ H1.out).mono ?_; rintro e w2 ⟨rfl, h2⟩; have H2 := Lib.hid (h2.bad false); obtain ⟨_, _, _, _, c1, _, f1⟩ := h2.cells; clear h2))
      go_ret
      exact ⟨rfl, H2.out⟩
  | none =>
    cases bad with
    | true =>
      go_enter Tryz.func47, Tryz.ntmps47
      go_wp2_with (first
        | (go_at_call 25; refine (HWD.out).mono ?_; rintro e w1 ⟨rfl, h1⟩; have H1 := Lib.hid h1; clear h1)
        | (go_at_call 60; refine (HTX.out _ H1.out).mono ?_; rintro e w2 ⟨rfl, h2⟩; have H2 := Lib.hid (h2.bad true); obtain ⟨_, _, _, _, c1, _, f1⟩ := h2.cells; clear h2))
      go_ret
      exact ⟨rfl, H2.out⟩
    | false =>
      go_enter Tryz.func47, Tryz.ntmps47
      go_wp2_with (first
        | (go_at_call 25; refine (HWD.out).mono ?_; rintro e w1 ⟨rfl, h1⟩; have H1 := Lib.hid h1; clear h1)
        | (go_at_call 60; refine (HTX.out _ H1.out).mono ?_; rintro e w2 ⟨rfl, h2⟩; have H2 := Lib.hid (h2.bad true); obtain ⟨_, _, _, _, c1, _, f1⟩ := h2.cells; clear h2))
      go_ret
      exact ⟨rfl, H2.out⟩
theorem rtext_any {b : Nat} {r : Rd} {K F : Heaplet} {w : World} (hL : LibF F) (h : RdIs b r K F w) (hr : Short r) :
    Calls Tryz.prog 47 #[.pointer (some ⟨b, 0, none⟩)] w (Ret (kL r.text.1) (RdIs b r.text.2 K F)) :=
  rtext_core hL (Lib.hid (rword_any h)) hr.word.1
set_option maxRecDepth 100000 in
theorem rway_core {b : Nat} {ws : List Bs} {bad : Bool} {x : Bs} {K F : Heaplet} {w : World} (HWD : Hid (Calls Tryz.prog 25 #[.pointer (some ⟨b, 0, none⟩)] w (Ret (kL x) (RdIs b ⟨ws, bad⟩ K F)))) :
    Calls Tryz.prog 28 #[.pointer (some ⟨b, 0, none⟩)] w (Ret (.bool (decide (x = upW))) (RdIs b ⟨ws, bad || (decide (x ≠ upW) && decide (x ≠ downW))⟩ K F)) := by
  by_cases hu : x = upW
  · have e1 : (x == [117, 112]) = true := by rw [hu]; rfl
    have e2 : decide (x = upW) = true := by simp [hu]
    have e3 : (decide (x ≠ upW) && decide (x ≠ downW)) = false := by simp [hu]
    rw [e2, e3, Bool.or_false]
    clear hu e2 e3
    cases bad with
    | true =>
      go_enter Tryz.func28, Tryz.ntmps28
      go_wp2_with (go_at_call 25; refine (HWD.out).mono ?_; rintro e w2 ⟨rfl, h2⟩; have H2 := Lib.hid (h2.bad true); obtain ⟨_, _, _, _, c1, _, f1⟩ := h2.cells; clear h2)
      go_ret
      exact ⟨rfl, H2.out⟩
    | false =>
      go_enter Tryz.func28, Tryz.ntmps28
      go_wp2_with (go_at_call 25; refine (HWD.out).mono ?_; rintro e w2 ⟨rfl, h2⟩; have H2 := Lib.hid (h2.bad false); obtain ⟨_, _, _, _, c1, _, f1⟩ := h2.cells; clear h2)
      go_ret
      exact ⟨rfl, H2.out⟩
  · have e1 : (x == [117, 112]) = false := by
      have h : (x == upW) = false := by simpa using hu
      exact h
    have e2 : decide (x = upW) = false := by simp [hu]
    obtain ⟨q, hq⟩ : ∃ q, decide (x = downW) = q := ⟨_, rfl⟩
    have e3 : (decide (x ≠ upW) && decide (x ≠ downW)) = !q := by rw [← hq]; simp [hu]
    have e4 : (x == [100, 111, 119, 110]) = q := by
      rw [← hq]
      by_cases e : x = downW
      · rw [e]; rfl
      · have h : (x == downW) = false := by simpa using e
        have : (x == [100, 111, 119, 110]) = false := h
        rw [this]; simp [e]
    rw [e2, e3]
    clear hu e2 e3 hq
    cases bad with
    | true =>
      go_enter Tryz.func28, Tryz.ntmps28
      go_wp2_with (go_at_call 25; refine (HWD.out).mono ?_; rintro e w2 ⟨rfl, h2⟩; have H2 := Lib.hid (h2.bad true); obtain ⟨_, _, _, _, c1, _, f1⟩ := h2.cells; clear h2)
      go_ret
      exact ⟨rfl, H2.out⟩
    | false =>
      cases q with
      | true =>
        go_enter Tryz.func28, Tryz.ntmps28
        go_wp2_with (go_at_call 25; refine (HWD.out).mono ?_; rintro e w2 ⟨rfl, h2⟩; have H2 := Lib.hid (h2.bad false); obtain ⟨_, _, _, _, c1, _, f1⟩ := h2.cells; clear h2)
        go_ret
        exact ⟨rfl, H2.out⟩
      | false =>
        go_enter Tryz.func28, Tryz.ntmps28
        go_wp2_with (go_at_call 25; refine (HWD.out).mono ?_; rintro e w2 ⟨rfl, h2⟩; have H2 := Lib.hid (h2.bad true); obtain ⟨_, _, _, _, c1, _, f1⟩ := h2.cells; clear h2)
        go_ret
        exact ⟨rfl, H2.out⟩
theorem rway_any {b : Nat} {r : Rd} {K F : Heaplet} {w : World} (h : RdIs b r K F w) :
    Calls Tryz.prog 28 #[.pointer (some ⟨b, 0, none⟩)] w (Ret (.bool r.way.1) (RdIs b r.way.2 K F)) :=
  rway_core (Lib.hid (rword_any h))
end Go.Proofs.YtieaamlpadlfeaaGreatDoor
