/- awake of layer 14. Conditions: none. -/
import Derived.Test.YthgfbnopbfiifaaKey10
namespace Go.Proofs.Ythgfbnopbfiifaa
open Go Go.MapKept Go.RowKit Go.Proofs Go.Sort

/-- Where a word lies. -/
theorem wd_at {v : Value} {ws : List Wd} {h F : Heaplet} {w : World} (hv : WSl v ws h) (s : Sat w (h ++ F)) {i : Nat} {x : Wd} (hx : ws[i]? = some x) {a : Option Addr} {n cap : Nat} (e : v = .slice a n cap) :
    ∃ g, a = some ⟨g, 0, none⟩ ∧ w.cell? ⟨g, i * 4, none⟩ = some (.bool x.call) ∧ w.cell? ⟨g, i * 4 + 1, none⟩ = some (kI x.c) ∧ w.cell? ⟨g, i * 4 + 2, none⟩ = some (kI x.p) ∧ w.cell? ⟨g, i * 4 + 3, none⟩ = some (.bool x.x) := by
  obtain ⟨a', cap', e', hc⟩ := sl_cells wdC_len hv s
  rw [e] at e'
  cases e'
  obtain ⟨g, ea, _, hu⟩ := hc i x hx
  exact ⟨g, ea, hu 0 _ rfl, hu 1 _ rfl, hu 2 _ rfl, hu 3 _ rfl⟩
theorem sortK_nil : sortK [] = [] := by unfold sortK; simp
theorem sortK_one (a : Int) : sortK [a] = [a] := by unfold sortK; exact List.mergeSort_singleton a
theorem aw1 : askM ⟨[], []⟩ 1 7 true = (0, ⟨[(7, ⟨[(1, ⟨true, false, 0⟩)], []⟩)], [⟨false, 1, 7, true⟩]⟩) := by
  unfold askM
  rw [if_pos (by decide)]
  simp [lockOf, getL, settled, settleM, wayM, sortK_nil, hasX, putL]
theorem aw2 : askM ⟨[(7, ⟨[(1, ⟨true, false, 0⟩)], []⟩)], [⟨false, 1, 7, true⟩]⟩ 2 7 false = (0, ⟨[(7, ⟨[(1, ⟨true, false, 1⟩)], [⟨2, false⟩]⟩)], [⟨false, 1, 7, true⟩, ⟨true, 1, 7, false⟩]⟩) := by
  unfold askM
  rw [if_pos (by decide)]
  simp [lockOf, getL, settled, settleM, wayM, sortK_one, hasX, putL, callM, callStep, lvl]
theorem aw3 : freeM ⟨[(7, ⟨[(1, ⟨true, false, 1⟩)], [⟨2, false⟩]⟩)], []⟩ 1 7 true = (0, ⟨[(7, ⟨[(1, ⟨false, false, 0⟩), (2, ⟨false, false, 0⟩)], []⟩)], [⟨false, 2, 7, false⟩]⟩) := by
  unfold freeM
  simp [getL, settled, settleM, wayM, sortK_one, hasX, putL, delL]
set_option maxRecDepth 100000 in
set_option maxHeartbeats 4000000 in
theorem awake14 (F : Heaplet) (w : World) (hs : Sat w F) : Calls Try.prog 7 #[] w (Ret (.bool true) (fun w' => Sat w' F)) := by
  have HS := Lib.hid hs
  clear hs
  go_enter Try.func7, Try.ntmps7
  go_wp2_with fail
  refine (key_new F w HS.out).mono ?_
  rintro e w1 ⟨b, rfl, h1⟩
  have h := ask_any h1 1 7 true (fun l hl => by simp [getL] at hl) (by simp)
  rw [aw1] at h
  have H := Lib.hid h
  clear h h1 HS
  go_wp2_with fail
  refine (H.out).mono ?_
  rintro e w2 ⟨rfl, h2⟩
  have f1 : Fit8 ⟨[(1, ⟨true, false, 0⟩)], []⟩ := ⟨by simp, by simp, by simp, by simp⟩
  have h := ask_any h2 2 7 false (fun l hl => by simp [getL] at hl; rw [← hl]; exact f1) (by simp)
  rw [aw2] at h
  have H := Lib.hid h
  clear h h2 f1
  go_wp2_with fail
  refine (H.out).mono ?_
  rintro e w3 ⟨rfl, h3⟩
  have H3 := Lib.hid h3
  clear h3 H
  go_wp2_with fail
  refine (take_any H3.out).mono ?_
  rintro e w4 ⟨v, hh, rfl, hv, h4⟩
  obtain ⟨a, cap, rfl⟩ := sl_form hv
  obtain ⟨g, rfl, a0, a1, a2, a3⟩ := wd_at hv h4.frame (i := 0) rfl rfl
  obtain ⟨g', e', b0, b1, b2, b3⟩ := wd_at hv h4.frame (i := 1) rfl rfl
  cases e'
  have H4 := Lib.hid h4
  clear hv h4 H3
  simp only [List.length_cons, List.length_nil, Nat.zero_mul, Nat.zero_add, Nat.one_mul] at *
  go_wp2_with fail
  clear a0 a1 a2 a3 b0 b1 b2 b3
  have f1 : Fit8 ⟨[(1, ⟨true, false, 1⟩)], [⟨2, false⟩]⟩ := ⟨by simp, by simp, by simp, by simp⟩
  have h := free_any H4.out 1 7 true (fun l hl => by simp [getL] at hl; rw [← hl]; exact f1) (by simp)
  rw [aw3] at h
  have H := Lib.hid h
  clear h f1
  refine (H.out).mono ?_
  rintro e w5 ⟨rfl, h5⟩
  have H5 := Lib.hid h5
  clear h5 H
  go_wp2_with fail
  refine (take_any H5.out).mono ?_
  rintro e w6 ⟨v, hh6, rfl, hv, h6⟩
  obtain ⟨a, cap6, rfl⟩ := sl_form hv
  obtain ⟨g6, rfl, a0, a1, a2, a3⟩ := wd_at hv h6.frame (i := 0) rfl rfl
  have e1 := holds_any h6 1 7
  have e2 := holds_any h6 2 7
  have f2 : Fit8 ⟨[(1, ⟨false, false, 0⟩), (2, ⟨false, false, 0⟩)], []⟩ := ⟨by simp, by simp, by simp, by simp⟩
  have e3 := ask_any h6 9 0 true (fun l hl => by simp [getL] at hl) (by simp)
  rw [show holdsM _ 1 7 = 1 from rfl] at e1
  rw [show holdsM _ 2 7 = 1 from rfl] at e2
  rw [show askM _ 9 0 true = (1, _) from rfl] at e3
  have H6 := Lib.hid h6
  have E1 := Lib.hid e1
  have E2 := Lib.hid e2
  have E3 := Lib.hid e3
  have F2 := Lib.hid f2
  clear hv h6 e1 e2 e3 H5 f2
  simp only [List.length_cons, List.length_nil, Nat.zero_mul, Nat.zero_add, Nat.one_mul] at *
  go_wp2_with fail
  refine (E1.out).mono ?_
  rintro e w7 ⟨rfl, rfl⟩
  go_wp2_with fail
  refine (E2.out).mono ?_
  rintro e w7 ⟨rfl, rfl⟩
  go_wp2_with fail
  refine (E3.out).mono ?_
  rintro e w7 ⟨rfl, h7⟩
  have h := free_any h7 3 7 false (fun l hl => by simp [getL] at hl; rw [← hl]; exact F2.out) (by simp)
  rw [show freeM _ 3 7 false = (12, _) from rfl] at h
  have H := Lib.hid h
  clear h h7 a0 a1 a2 a3
  go_wp2_with fail
  refine (H.out).mono ?_
  rintro e w8 ⟨rfl, h8⟩
  have FIN := Lib.hid h8.frame.right.right
  clear h8 H
  go_wp2_with fail
  go_ret
  exact ⟨rfl, FIN.out⟩
end Go.Proofs.Ythgfbnopbfiifaa
