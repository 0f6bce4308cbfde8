/- Of several calls of a page that is needed the strongest counts: LatchStrong walked. Conditions: none. -/
import Derived.Test.YtcndmiepbodpnaaIdle
import Derived.Test.YtcndmiepbodpnaaBools
namespace Go.Proofs.Ytcndmiepbodpnaa
open Go Go.MapKept Go.RowKit Go.Proofs

/-- Which call waits behind k calls, whether one was of all. -/
def wv (al : Bool) (k : Nat) : Int := if k = 0 then 0 else if al then 2 else 1
abbrev oneD (page : Int) (al : Bool) (k : Nat) : Lks := [(page, ⟨true, 2, wv al k⟩)]
theorem strong_call (page : Int) (al : Bool) (k : Nat) (c : Bool) (h : al = true → 0 < k) : callM (oneD page al k) page c = (3, oneD page (al || c) (k + 1)) := by
  unfold callM oneD
  have e : getL page [(page, (⟨true, 2, wv al k⟩ : Lk))] = some ⟨true, 2, wv al k⟩ := by simp [getL]
  rw [e]
  cases c
  · cases al
    · by_cases hk : k = 0
      · subst hk; simp [putL, wv] <;> decide
      · simp [putL, wv, hk]
    · have := h rfl
      have hk : ¬ k = 0 := by omega
      simp [putL, wv, hk] <;> decide
  · simp [putL, wv]
theorem strong_has (page : Int) (al : Bool) (k : Nat) : hasM (oneD page al k) page true = true := by simp [hasM, getL]
theorem strong_start (page : Int) : useM (grantM [] page true) page true = (0, oneD page false 0) := by
  simp [useM, grantM, hasM, getL, putL, useK, wv]
theorem sortK_one (p : Int) : sortK [p] = [p] := by unfold sortK; exact List.mergeSort_singleton _
theorem strong_end0 (page : Int) : endM (oneD page false 0) = ([], [(page, ⟨true, 0, 0⟩)]) := by
  unfold endM
  simp only [List.map_cons, List.map_nil, sortK_one]
  simp [letS, endS, letK, endK, getL, wv]
theorem strong_end (page : Int) (al : Bool) (k : Nat) (hk : 0 < k) : endM (oneD page al k) = ([(page, !al)], if al then [] else [(page, ⟨false, 0, 0⟩)]) := by
  have hk : ¬ k = 0 := by omega
  unfold endM
  simp only [List.map_cons, List.map_nil, sortK_one]
  cases al <;> simp [letS, endS, letK, endK, getL, wv, hk]
set_option maxRecDepth 100000 in
set_option maxHeartbeats 4000000 in
theorem strong_walk (page : Int) (p : Option Addr) (len cap : Nat) (A : Nat → Bool) (W : World) (h0 : -9223372036854775808 ≤ page) (h1 : page ≤ 9223372036854775807) (ha : BoolSlice W p len A) :
    Calls Try.prog 4 #[.int .i64 page, .slice p len cap] W fun e W' => e = .returned (.bool true) ∧ Below W.heap.size W W' := by
  have Ha := Lib.hid ha
  have hlen := ha.1
  clear ha
  go_enter Try.func4, Try.ntmps4
  go_wp2_with fail
  refine (awake16 (allOf W) W (sat_all W)).mono ?_
  rintro e w0 ⟨rfl, hs⟩
  go_wp2_with fail
  refine (latch_new (allOf W) w0 hs).mono ?_
  rintro e w1 ⟨b, rfl, hL⟩
  clear hs
  go_wp2_with fail
  refine (grant_any b _ _ page true w1 hL).mono ?_
  rintro e w2 ⟨rfl, h2⟩
  have hu := use_any b _ _ page true w2 h2
  rw [strong_start] at hu
  have HU := Lib.hid hu
  clear hL h2 hu
  go_wp2_with fail
  refine (HU.out).mono ?_
  rintro e w3 ⟨rfl, h3⟩
  have H3 := Lib.hid h3
  clear h3 HU
  go_wp2_with fail
  go_loopw [6, 7, 8] (fun v6 v7 v8 wr => ∃ (k : Nat) (al : Bool), k ≤ len ∧ k ≤ 20 ∧ v6 = .bool al ∧ v7 = .int .i64 k ∧ v8 = .int .i64 k ∧ (al = true → 0 < k) ∧ LatchIs b (oneD page al k) (allOf W) wr) (fun _ _ v8 _ => 20 - (RowKit.intOf v8).toNat)
  case atStart => exact ⟨0, false, by omega, by omega, rfl, rfl, rfl, fun e => by (cases e), H3.out⟩
  case round =>
    obtain ⟨k, al, hk1, hk2, rfl, rfl, rfl, hal, hL⟩ := hrel
    clear H3
    have j0 : (0 : Int) ≤ (k : Int) := by omega
    by_cases hlt : k < len ∧ k < 20
    · obtain ⟨hlt1, hlt2⟩ := hlt
      obtain ⟨ba, off, rfl, hba, hA⟩ := (Ha.out).2 k hlt1
      have c0 : wr.cell? ⟨ba, off + k, none⟩ = some (.bool (A k)) := (hL.frame.cellOld (a := ⟨ba, off + k, none⟩) hba).trans hA
      have hc := call_any b _ _ page (A k) wr hL
      rw [strong_call page al k (A k) hal] at hc
      have HC := Lib.hid hc
      have HA := Lib.hid hA
      clear hA hL hc hal
      generalize A k = c at *
      cases al <;> cases c
      all_goals
        go_wp2_with fail
        refine (HC.out).mono ?_
        rintro e w5 ⟨rfl, h5⟩
        have hh := has_any b _ _ page true w5 h5
        rw [strong_has] at hh
        have HH := Lib.hid hh
        have H5 := Lib.hid h5
        have c1 : w5.cell? ⟨ba, off + k, none⟩ = some (.bool _) := (h5.frame.cellOld (a := ⟨ba, off + k, none⟩) hba).trans HA.out
        clear hh h5 c0
        go_wp2_with fail
        refine (HH.out).mono ?_
        rintro e w6 ⟨rfl, rfl⟩
        go_wp2_with fail
        exact ⟨⟨k + 1, _, by omega, by omega, rfl, by simp, by simp, fun _ => by omega, H5.out⟩, by simp only [RowKit.intOf]; omega⟩
    · have hd : ¬ k < len ∨ ¬ k < 20 := by omega
      have he := end_any b _ _ wr hL (by simp; omega) (by simp)
      by_cases hk0 : k = 0
      · subst hk0
        have hf : al = false := by
          cases al with
          | false => rfl
          | true => exact absurd (hal rfl) (by omega)
        subst hf
        rw [strong_end0] at he
        have HE := Lib.hid he
        clear he hL hal hlt
        obtain rfl : len = 0 := by omega
        · go_wp2_with fail
          refine (HE.out).mono ?_
          rintro e w5 ⟨v, hh, rfl, hsl, h5⟩
          obtain ⟨a, ca, rfl⟩ := slice_form hsl
          have hhs := has_any b _ _ page true w5 h5
          have e1 : hasM [(page, (⟨true, 0, 0⟩ : Lk))] page true = true := by simp [hasM, getL]
          rw [e1] at hhs
          have HH := Lib.hid hhs
          have H5 := Lib.hid h5.frame.right.below
          simp only [List.length_nil]
          clear hsl h5 hhs e1
          go_wp2_with fail
          refine (HH.out).mono ?_
          rintro e w6 ⟨rfl, rfl⟩
          go_wp2_with fail
          go_ret
          exact ⟨rfl, H5.out⟩
      · have hkp : 0 < k := by omega
        have hkb : ((k : Int) == 0) = false := by rw [beq_eq_false_iff_ne]; omega
        rw [strong_end page al k hkp] at he
        have HE := Lib.hid he
        clear he hL hal hlt
        cases al
        all_goals
          by_cases hlt1 : k < len
          all_goals
            go_wp2_with fail
            refine (HE.out).mono ?_
            rintro e w5 ⟨v, hh, rfl, hsl, h5⟩
            obtain ⟨g, ca, rfl⟩ := slice_some hsl (by simp)
            have hf := h5.frame
            have c0 : w5.cell? ⟨g, 0, none⟩ = some (kI page) := (hsl.cell hf rfl rfl).2.2
            have c1 : w5.cell? ⟨g, 1, none⟩ = some (.bool _) := (hsl.cell hf rfl (j := 1) rfl).2.2
            have hh1 := has_any b _ _ page false w5 h5
            have hh2 := has_any b _ _ page true w5 h5
            have H5 := Lib.hid h5.frame.right.below
            first
              | (have e1 : hasM [(page, (⟨false, 0, 0⟩ : Lk))] page false = true := by simp [hasM, getL]
                 have e2 : hasM [(page, (⟨false, 0, 0⟩ : Lk))] page true = false := by simp [hasM, getL]
                 simp only [Bool.false_eq_true, if_false, e1] at hh1
                 simp only [Bool.false_eq_true, if_false, e2] at hh2
                 clear e1 e2)
              | (have e1 : hasM [] page false = false := rfl
                 have e2 : hasM [] page true = false := rfl
                 simp only [if_true, e1] at hh1
                 simp only [if_true, e2] at hh2
                 clear e1 e2)
            have HH1 := Lib.hid hh1
            have HH2 := Lib.hid hh2
            simp only [List.length_cons, List.length_nil]
            clear hsl h5 hh1 hh2 hf
            go_wp2_with fail
            refine (HH1.out).mono ?_
            rintro e w6 ⟨rfl, rfl⟩
            go_wp2_with fail
            refine (HH2.out).mono ?_
            rintro e w6 ⟨rfl, rfl⟩
            go_wp2_with fail
            go_ret
            exact ⟨rfl, H5.out⟩
end Go.Proofs.Ytcndmiepbodpnaa
