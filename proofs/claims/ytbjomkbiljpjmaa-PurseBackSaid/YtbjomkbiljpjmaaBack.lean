/- PurseBack: what is asked for and taken back again leaves all as it was. -/
import Derived.Test.YtbjomkbiljpjmaaPurse10
import Derived.Test.YtbjomkbiljpjmaaArgs
import Derived.Test.YtbjomkbiljpjmaaKeeps
import Derived.StillTailTactics
namespace Go.Proofs.Ytbjomkbiljpjmaa
open Go Go.MapKept Go.RowKit Go.Proofs

theorem ask_some (b : Nat) (D : List (Int × Int)) (s : Int) (F : Heaplet) (k n room : Int) (w : World) (hp : PurseIs b D s F w) (hr : room ≤ 9223372036854775807) :
    Calls Try.prog 14 #[.pointer (some ⟨b, 0, none⟩), .int .i64 k, .int .i64 n, .int .i64 room] w
      fun e w' => ∃ r D' s', e = .returned (.bool r) ∧ PurseIs b D' s' F w' := by
  cases hok : askOk s n room
  · refine (ask_no b D s F k n room w hp hr hok).mono ?_
    rintro e w' ⟨rfl, rfl⟩
    exact ⟨_, _, _, rfl, hp⟩
  · refine (ask_yes b D s F k n room w hp hr hok).mono ?_
    rintro e w' ⟨rfl, h⟩
    exact ⟨_, _, _, rfl, h⟩
def BackI (b : Nat) (W w : World) : Prop := ∃ D s, PurseIs b D s (allOf W) w

set_option maxRecDepth 100000 in
set_option maxHeartbeats 1600000 in
theorem back_walk (p : Option Addr) (len cap : Nat) (A : Nat → Nat → Int) (x0 x1 x2 x3 : Int) (W : World) (ha : IntsAt W p len 4 A) (hx : ∀ y ∈ [x0, x1, x2, x3], -9223372036854775808 ≤ y ∧ y ≤ 9223372036854775807) :
    Calls Try.prog 4 #[.slice p len cap, .agg #[.int .i64 x0, .int .i64 x1, .int .i64 x2, .int .i64 x3]] W (Ret (.bool true) (RowKit.Below W.heap.size W)) := by
  have Ha := Lib.hid ha
  have hlen := ha.1
  have hx2 := (hx x2 (by simp)).2
  have hx3 := (hx x3 (by simp)).2
  have hx4 := (hx x2 (by simp)).1
  have hx5 := (hx x3 (by simp)).1
  have hsa := (sat_all W).new (.cells #[.int .i64 x0, .int .i64 x1, .int .i64 x2, .int .i64 x3] 29)
  clear ha hx
  go_enter Try.func4, Try.ntmps4
  go_wp2_with fail
  refine (awake_any _ _ hsa).mono ?_
  rintro e w1 ⟨rfl, hs1⟩
  have hb := hs1.h0
  have c1 : w1.cell? ⟨W.heap.size, 1, none⟩ = some (kI x1) := by rw [cell_of hb]; rfl
  have c2 : w1.cell? ⟨W.heap.size, 2, none⟩ = some (kI x2) := by rw [cell_of hb]; rfl
  have c3 : w1.cell? ⟨W.heap.size, 3, none⟩ = some (kI x3) := by rw [cell_of hb]; rfl
  clear hb
  go_wp2_with fail
  refine (new_any _ _ hs1.tail).mono ?_
  rintro e w2 ⟨b, rfl, hp⟩
  have hI0 : BackI b W w2 := ⟨[], 0, hp⟩
  clear hp hs1 c1 c2 c3 hsa
  go_wp2_with fail
  go_loopw [9] (fun i wr => ∃ k : Nat, k ≤ len ∧ k ≤ 200 ∧ i = .int .i64 k ∧ BackI b W wr) (fun i _ => 200 - (intOf i).toNat)
  case atStart => exact ⟨0, by omega, by omega, rfl, hI0⟩
  case round =>
    obtain ⟨k, hk1, hk2, rfl, D, s, hp⟩ := hrel
    by_cases hlt : k < len ∧ k < 200
    · obtain ⟨hlt1, hlt2⟩ := hlt
      obtain ⟨ba, off, rfl, hba, hA⟩ := (Ha.out).2 k hlt1
      have hs := hp.frame
      have c0 : wr.cell? ⟨ba, off + k * 4, none⟩ = some (kI (A k 0)) := (hs.cellOld (a := ⟨ba, off + k * 4 + 0, none⟩) hba).trans (hA 0 (by omega)).1
      have c1 := (hs.cellOld (a := ⟨ba, off + k * 4 + 1, none⟩) hba).trans (hA 1 (by omega)).1
      have c2 := (hs.cellOld (a := ⟨ba, off + k * 4 + 2, none⟩) hba).trans (hA 2 (by omega)).1
      have c3 := (hs.cellOld (a := ⟨ba, off + k * 4 + 3, none⟩) hba).trans (hA 3 (by omega)).1
      have hr := (hA 3 (by omega)).2.2
      have Hp := Lib.hid hp
      have hk0 : (0 : Int) ≤ (k : Int) := by omega
      clear hs hA hp
      by_cases h1 : A k 0 = 1
      · have h1b : (A k 0 == 1) = true := by simpa using h1
        clear h1
        go_upto_region 11 with (fail)
        go_still_tail 16, (by kernel_rfl)
        change wpList _ _ _ _ _ (World.drew _)
        go_wp2_with fail
        refine (ask_some b D s _ (A k 1) (A k 2) (A k 3) _ Hp.out.drew hr).mono ?_
        rintro e w3 ⟨r, D', s', rfl, hp3⟩
        have Hp3 := Lib.hid hp3
        clear hp3
        go_wp2_with fail
        go_roundw
        case rel => exact ⟨k + 1, by omega, by omega, by go_num, D', s', Hp3.out⟩
        case measure => simp [intOf]; omega
      · have h1b : (A k 0 == 1) = false := by simpa using h1
        clear h1
        go_upto_region 12 with (fail)
        go_still_tail 11, (by kernel_rfl)
        change wpList _ _ _ _ _ (World.drew _)
        go_wp2_with fail
        refine (take_any b D s _ (A k 1) (A k 2) _ Hp.out.drew).mono ?_
        rintro e w3 ⟨rfl, hp3⟩
        have Hp3 := Lib.hid hp3
        clear hp3
        go_wp2_with fail
        go_roundw
        case rel => exact ⟨k + 1, by omega, by omega, by go_num, _, _, Hp3.out⟩
        case measure => simp [intOf]; omega
    · have Hp := Lib.hid hp
      have hx : ¬ (k < len) ∨ (k < len ∧ ¬ (k < 200)) := by omega
      have Hv := Lib.hid (of_bd hp.1 x1)
      have hbig := hp.1.2.2
      clear hp hlt
      have Hcases : Hid (askOk s x2 x3 = true ∨ askOk s x2 x3 = false) := Lib.hid (by cases askOk s x2 x3 <;> simp)
      rcases hx with hx | ⟨hx1, hx⟩
      all_goals
        go_wp2_with fail
        refine (sum_any b D s _ _ Hp.out).mono ?_
        rintro e w4 ⟨rfl, rfl⟩
        go_wp2_with fail
        refine (of_any b D s _ x1 _ Hp.out).mono ?_
        rintro e w4 ⟨rfl, rfl⟩
        go_wp2_with fail
        rcases Hcases.out with hok | hok
        · refine (ask_yes b D s _ x1 x2 x3 _ Hp.out hx3 hok).mono ?_
          rintro e w5 ⟨rfl, hp5⟩
          have hn := of_decide_eq_true hok
          obtain ⟨hn1, hn2, hn3, hn4⟩ := hn
          have Hp5 := Lib.hid hp5
          obtain ⟨hv0, hv1⟩ := Hv.out
          have hot := take_of (putL x1 (of D x1 + x2) D) x1 x2 hp5.nodup (by rw [of_put]; omega)
          have htn : takeN (putL x1 (of D x1 + x2) D) x1 x2 = x2 := by
            unfold takeN
            rw [of_put, if_neg (by omega)]
            split
            · rfl
            · omega
          rw [of_put, htn] at hot
          have Hot := Lib.hid hot
          have htk := take_any b _ _ _ x1 x2 _ hp5
          rw [htn] at htk
          have Htk := Lib.hid htk
          clear hp5 htk hot htn hok
          go_wp2_with fail
          refine (of_any b _ _ _ x1 _ Hp5.out).mono ?_
          rintro e v1 ⟨rfl, rfl⟩
          rw [of_put]
          generalize hov : of D x1 = ov at *
          have Hov := Lib.hid hov
          clear hov
          have e1 : IntKind.i64.wrap (ov + x2 - x2) = ov := by rw [IntKind.wrap_i64]; omega
          have e2 : IntKind.i64.wrap (s + x2 - x2) = s := by rw [IntKind.wrap_i64]; omega
          go_wp2_with fail
          refine (sum_any b _ _ _ _ Hp5.out).mono ?_
          rintro e v1 ⟨rfl, rfl⟩
          go_wp2_with fail
          refine (Htk.out).mono ?_
          rintro e w6 ⟨rfl, hp6⟩
          have hs6 : s + x2 - x2 = s := by omega
          rw [hs6] at hp6
          have Hq := Lib.hid hp6
          have hot2 := Hot.out
          rw [show ov + x2 - x2 = ov from by omega] at hot2
          have Hot2 := Lib.hid hot2
          clear hp6 hs6 hot2 e1 e2
          go_wp2_with fail
          refine (sum_any b _ _ _ _ Hq.out).mono ?_
          rintro e v1 ⟨rfl, rfl⟩
          go_wp2_with fail
          refine (of_any b _ _ _ x1 _ Hq.out).mono ?_
          rintro e v1 ⟨rfl, rfl⟩
          rw [Hot2.out]
          go_wp2_with fail
          refine (ask_nil _ _ _ _).mono ?_
          rintro e v1 ⟨rfl, rfl⟩
          go_wp2_with fail
          refine (take_nil _ _ _).mono ?_
          rintro e v1 ⟨rfl, rfl⟩
          go_wp2_with fail
          refine (sum_nil _).mono ?_
          rintro e v1 ⟨rfl, rfl⟩
          go_wp2_with fail
          refine (of_nil _ _).mono ?_
          rintro e v1 ⟨rfl, rfl⟩
          have Fin := Lib.hid Hq.out.frame.below
          go_wp2_with fail
          go_ret
          exact ⟨rfl, Fin.out⟩
        · refine (ask_no b D s _ x1 x2 x3 _ Hp.out hx3 hok).mono ?_
          rintro e w5 ⟨rfl, rfl⟩
          have Hq := Hp
          clear hok
          go_wp2_with fail
          refine (sum_any b _ _ _ _ Hq.out).mono ?_
          rintro e v1 ⟨rfl, rfl⟩
          go_wp2_with fail
          refine (of_any b _ _ _ x1 _ Hq.out).mono ?_
          rintro e v1 ⟨rfl, rfl⟩
          go_wp2_with fail
          refine (ask_nil _ _ _ _).mono ?_
          rintro e v1 ⟨rfl, rfl⟩
          go_wp2_with fail
          refine (take_nil _ _ _).mono ?_
          rintro e v1 ⟨rfl, rfl⟩
          go_wp2_with fail
          refine (sum_nil _).mono ?_
          rintro e v1 ⟨rfl, rfl⟩
          go_wp2_with fail
          refine (of_nil _ _).mono ?_
          rintro e v1 ⟨rfl, rfl⟩
          have Fin := Lib.hid Hq.out.frame.below
          go_wp2_with fail
          go_ret
          exact ⟨rfl, Fin.out⟩
end Go.Proofs.Ytbjomkbiljpjmaa
