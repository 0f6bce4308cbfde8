/- awake of layer 16. Conditions: none. -/
import Derived.Test.YtcndmiepbodpnaaLatch4
namespace Go.Proofs.Ytcndmiepbodpnaa
open Go Go.MapKept Go.RowKit Go.Proofs

theorem slice_form {T : TypeId} {sz n : Nat} {v : Value} {cs : List Value} {h : Heaplet} (hs : SliceIs T sz v n cs h) : ∃ a cap, v = .slice a n cap := by
  rcases hs.2 with ⟨rfl, e0, rfl⟩ | ⟨g, cap, cur, rfl, _⟩
  · exact ⟨none, 0, by rw [e0]⟩
  · exact ⟨_, _, rfl⟩
theorem slice_some {T : TypeId} {sz n : Nat} {v : Value} {cs : List Value} {h : Heaplet} (hs : SliceIs T sz v n cs h) (hn : 0 < n) : ∃ g cap, v = .slice (some ⟨g, 0, none⟩) n cap := by
  rcases hs.2 with ⟨rfl, e0, rfl⟩ | ⟨g, cap, cur, rfl, _⟩
  · omega
  · exact ⟨_, _, rfl⟩
set_option maxRecDepth 100000 in
set_option maxHeartbeats 1600000 in
theorem awake16 (F : Heaplet) (w : World) (hs : Sat w F) : Calls Try.prog 7 #[] w (Ret (.bool true) (fun w' => Sat w' F)) := by
  have q1 : grantM [] 3 true = [(3, ⟨true, 0, 0⟩)] := rfl
  have q2 : useM [(3, ⟨true, 0, 0⟩)] 3 false = (0, [(3, ⟨true, 1, 0⟩)]) := rfl
  have q3 : callM [(3, ⟨true, 1, 0⟩)] 3 false = (2, [(3, ⟨false, 1, 0⟩)]) := rfl
  have q4 : callM [(3, ⟨false, 1, 0⟩)] 3 true = (3, [(3, ⟨false, 1, 2⟩)]) := rfl
  have q5 : endM [((3 : Int), (⟨false, 1, 2⟩ : Lk))] = ([(3, false)], []) := by
    unfold endM sortK
    simp only [List.map_cons, List.map_nil, List.mergeSort_singleton]
    rfl
  have Q := Lib.hid (And.intro q1 (And.intro q2 (And.intro q3 (And.intro q4 q5))))
  clear q1 q2 q3 q4 q5
  go_enter Try.func7, Try.ntmps7
  go_wp2_with fail
  refine (latch_new F w hs).mono ?_
  rintro e w1 ⟨b, rfl, h1⟩
  clear hs
  go_wp2_with fail
  refine (grant_any b _ F 3 true w1 h1).mono ?_
  rintro e w2 ⟨rfl, h2⟩
  rw [Q.out.1] at h2
  clear h1
  have h := use_any b _ F 3 false w2 h2
  rw [Q.out.2.1] at h
  have H := Lib.hid h
  clear h h2
  go_wp2_with fail
  refine (H.out).mono ?_
  rintro e w3 ⟨rfl, h3⟩
  have h := call_any b _ F 3 false w3 h3
  rw [Q.out.2.2.1] at h
  have H := Lib.hid h
  clear h h3
  go_wp2_with fail
  refine (H.out).mono ?_
  rintro e w4 ⟨rfl, h4⟩
  have h := call_any b _ F 3 true w4 h4
  rw [Q.out.2.2.2.1] at h
  have H := Lib.hid h
  clear h h4
  go_wp2_with fail
  refine (H.out).mono ?_
  rintro e w5 ⟨rfl, h5⟩
  have h := end_any b _ F w5 h5 (by simp) (by simp)
  rw [Q.out.2.2.2.2] at h
  have H := Lib.hid h
  clear h h5 Q
  go_wp2_with fail
  refine (H.out).mono ?_
  rintro e w6 ⟨v, hh, rfl, hsl, h6⟩
  obtain ⟨g, cap, rfl⟩ := slice_some hsl (by simp)
  have hf := h6.frame
  have c0 : w6.cell? ⟨g, 0, none⟩ = some (kI 3) := (hsl.cell hf rfl rfl).2.2
  have c1 : w6.cell? ⟨g, 1, none⟩ = some (.bool false) := (hsl.cell hf rfl (j := 1) rfl).2.2
  have H6 := Lib.hid h6
  clear hsl hf h6 H
  simp only [List.length_cons, List.length_nil]
  go_wp2_with fail
  refine (has_any b _ _ 3 false w6 H6.out).mono ?_
  rintro e w7 ⟨rfl, rfl⟩
  have e1 : hasM [] 3 false = false := rfl
  rw [e1]
  clear e1
  go_wp2_with fail
  refine (use_any b _ _ 3 false w6 H6.out).mono ?_
  have e2 : useM [] 3 false = (12, []) := rfl
  rw [e2]
  rintro e w7 ⟨rfl, h7⟩
  have H7 := Lib.hid h7.frame.right
  clear e2 h7
  go_wp2_with fail
  go_ret
  exact ⟨rfl, H7.out⟩
end Go.Proofs.Ytcndmiepbodpnaa
