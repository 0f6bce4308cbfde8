/- The reference's promises: Ask, Take walked. Conditions: none. -/
import Derived.Test.YtbjomkbiljpjmaaPRef2
namespace Go.Proofs.Ytbjomkbiljpjmaa
open Go Go.MapKept Go.RowKit Go.Proofs

theorem of_rq (c : Nat) (R : Pts) (F : Heaplet) (p : Int) (w : World) (h : RefIs c R F w) (hl : R.length ≤ 100000) :
    Calls Try.prog 46 #[.pointer (some ⟨c, 0, none⟩), .int .i64 p] w fun e w' => e = .returned (.int .i64 (of R p)) ∧ w' = w :=
  (of_ref c R F p w h hl).mono fun _ _ h => ⟨h.1, h.2.symm⟩
theorem sum_rq (c : Nat) (R : Pts) (s : Int) (F : Heaplet) (w : World) (h : RefIs c R F w) (hi : PInv R s) (hl : R.length ≤ 100000) :
    Calls Try.prog 47 #[.pointer (some ⟨c, 0, none⟩)] w fun e w' => e = .returned (.int .i64 s) ∧ w' = w :=
  (sum_ref c R s F w h hi hl).mono fun _ _ h => ⟨h.1, h.2.symm⟩
def askR (R : Pts) (s k n room : Int) : Pts := if askOk s n room then setR k (of R k + n) R else R
set_option maxRecDepth 100000 in
set_option maxHeartbeats 4000000 in
theorem ask_ref (c : Nat) (R : Pts) (s : Int) (F : Heaplet) (k n room : Int) (w : World) (h : RefIs c R F w) (hi : PInv R s) (hl : R.length ≤ 100000) (hr : room ≤ 9223372036854775807) :
    Calls Try.prog 44 #[.pointer (some ⟨c, 0, none⟩), .int .i64 k, .int .i64 n, .int .i64 room] w (Ret (.bool (askOk s n room)) (RefIs c (askR R s k n room) F)) := by
  have HS := Lib.hid (sum_ref c R s F w h hi hl)
  have HO := Lib.hid (of_ref c R F k w h hl)
  have HT := Lib.hid (set_ref c R F k (of R k + n) w h hl)
  have hb := of_bd hi k
  have hbig := hi.2.2
  have hs0 : 0 ≤ s := by omega
  have H := Lib.hid h
  clear h hi
  unfold askR
  cases hok : askOk s n room with
  | true =>
    obtain ⟨h1, h2, h3, h4⟩ := of_decide_eq_true hok
    simp only [if_true]
    generalize of R k = v at *
    obtain ⟨hv0, hv1⟩ := hb
    clear hok
    go_enter Try.func44, Try.ntmps44
    go_wp2_with (go_at_call 47; refine (HS.out).mono ?_; rintro e w' ⟨rfl, rfl⟩)
    refine (HO.out).mono ?_
    rintro _ w1 ⟨rfl, rfl⟩
    go_wp2_with fail
    refine (HT.out).mono ?_
    rintro _ w1 ⟨rfl, ht⟩
    have HF := Lib.hid ht
    clear ht
    go_wp2_with fail
    go_ret
    exact ⟨rfl, HF.out⟩
  | false =>
    have hc' : n < 1 ∨ 1048576 < n ∨ room < n ∨ room - n < s := by
      unfold askOk at hok
      have := of_decide_eq_false hok
      omega
    simp only [Bool.false_eq_true, if_false]
    clear HO HT hb hok
    by_cases h1 : n < 1
    · clear hc'
      go_enter Try.func44, Try.ntmps44
      go_wp2
      go_ret
      exact ⟨rfl, H.out⟩
    by_cases h2 : 1048576 < n
    · clear hc'
      go_enter Try.func44, Try.ntmps44
      go_wp2
      go_ret
      exact ⟨rfl, H.out⟩
    by_cases h3 : room < n
    · clear hc'
      go_enter Try.func44, Try.ntmps44
      go_wp2
      go_ret
      exact ⟨rfl, H.out⟩
    have h4 : room - n < s := by omega
    clear hc'
    go_enter Try.func44, Try.ntmps44
    go_wp2_with (go_at_call 47; refine (HS.out).mono ?_; rintro e w' ⟨rfl, rfl⟩)
    go_ret
    exact ⟨rfl, H.out⟩
set_option maxRecDepth 100000 in
set_option maxHeartbeats 4000000 in
theorem take_ref (c : Nat) (R : Pts) (s : Int) (F : Heaplet) (k n : Int) (w : World) (h : RefIs c R F w) (hi : PInv R s) (hl : R.length ≤ 100000) :
    Calls Try.prog 45 #[.pointer (some ⟨c, 0, none⟩), .int .i64 k, .int .i64 n] w (Ret (.int .i64 (takeK R k n)) (RefIs c (takeR R k n) F)) := by
  have HO := Lib.hid (of_ref c R F k w h hl)
  have HT := fun x => Lib.hid (set_ref c R F k x w h hl)
  have hb := of_bd hi k
  have hbig := hi.2.2
  have H := Lib.hid h
  clear h hi
  unfold takeK takeR
  by_cases h1 : n < 1
  · simp only [h1, if_true]
    clear HO HT hb
    go_enter Try.func45, Try.ntmps45
    go_wp2
    go_ret
    exact ⟨rfl, H.out⟩
  · generalize of R k = v at *
    obtain ⟨hv0, hv1⟩ := hb
    simp only [h1, if_false]
    by_cases h2 : v < n
    · simp only [h2, if_true]
      have HT := HT 0
      rw [Int.sub_self]
      go_enter Try.func45, Try.ntmps45
      go_wp2_with fail
      refine (HO.out).mono ?_
      rintro _ w1 ⟨rfl, rfl⟩
      go_wp2_with (go_at_call 62; refine (HT.out).mono ?_; rintro e w' ⟨rfl, ht⟩; have HF := Lib.hid ht; clear ht)
      go_ret
      exact ⟨rfl, HF.out⟩
    · simp only [h2, if_false]
      have HT := HT (v - n)
      go_enter Try.func45, Try.ntmps45
      go_wp2_with fail
      refine (HO.out).mono ?_
      rintro _ w1 ⟨rfl, rfl⟩
      go_wp2_with (go_at_call 62; refine (HT.out).mono ?_; rintro e w' ⟨rfl, ht⟩; have HF := Lib.hid ht; clear ht)
      go_ret
      exact ⟨rfl, HF.out⟩
end Go.Proofs.Ytbjomkbiljpjmaa
