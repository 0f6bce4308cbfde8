/- KnotRow walked. Conditions: none. -/
import Derived.Test.YtjkpghhbpcjjiaaKnotA
namespace Go.Proofs.Ytjkpghhbpcjjiaa
open Go Go.MapKept Go.RowKit Go.Proofs

theorem InI.down {l : List (Int × Int)} (h : InI l) : InI (downL l) := fun q hq => h q (List.mem_filter.1 hq).1
theorem rowL_in {n : Nat} (hn : n ≤ 1000) : InI (rowL n) := fun q hq => by
  obtain ⟨a, b⟩ := q
  have := rowL_mem.1 hq
  simp only
  omega
theorem ringL_in {n : Nat} (hn : n ≤ 1000) : InI (ringL n) := fun q hq => by
  rcases List.mem_append.1 hq with h | h
  · exact rowL_in hn q h
  · simp only [List.mem_singleton] at h
    subst h
    simp
set_option maxRecDepth 100000 in
set_option maxHeartbeats 4000000 in
theorem row_walk (p : Option Addr) (len cap : Nat) (A : Nat → Nat → Int) (n : Int) (W : World) (ha : IntsAt W p len 2 A) (hn0 : -9223372036854775808 ≤ n) (hn1 : n ≤ 9223372036854775807) :
    Calls Try.prog 9 #[.slice p len cap, .int .i64 n] W (Ret (.bool true) (RowKit.Below W.heap.size W)) := by
  have hlen := ha.1
  have HPI := Lib.hid (pairs_in ha)
  have HII := Lib.hid (pairL_in ha)
  clear ha
  go_enter Try.func9, Try.ntmps9
  go_wp2_with fail
  refine (awake15 (allOf W) W (sat_all W)).mono ?_
  rintro e w0 ⟨rfl, hs0⟩
  by_cases hl : 60 < len
  · have HB := Lib.hid hs0.below
    clear hs0
    go_wp2_with fail
    go_ret
    exact ⟨rfl, HB.out⟩
  · obtain ⟨k, hk, hk0, hk1⟩ : ∃ k, wrap64 ((IntKind.u64.wrap n).tmod 39) = k ∧ 0 ≤ k ∧ k < 39 := ⟨_, rfl, umod_bd n 39 (by omega) (by omega)⟩
    obtain ⟨m, rfl⟩ := Int.eq_ofNat_of_zero_le hk0
    obtain ⟨M, hM⟩ : ∃ M, 2 + m = M := ⟨_, rfl⟩
    have hk2 : wrap64 (2 + wrap64 ((IntKind.u64.wrap n).tmod 39)) = (M : Int) := by rw [hk, IntWalk.wrap64_in _ (by omega)]; omega
    have hM2 : 2 ≤ M := by omega
    have hM3 : M ≤ 41 := by omega
    have s1 := hs0.new (.cells #[] 58)
    have n1 : EdgeSl (.slice (some ⟨w0.heap.size, 0, none⟩) 0 0) (downL (pairL A 0)) [.blk w0.heap.size (.cells #[] 58)] := sl_new _ _ _
    have H0 := Lib.hid (And.intro n1 s1)
    have h60 : len ≤ 60 := by omega
    have hne : ¬ 60 < (len : Int) := by omega
    clear hs0 s1 n1 hl
    go_upto_block 0 with (fail)
    rw [show (2 + (m : Int)) = (M : Int) by omega]
    clear hk hk0 hk1 hM hk2
    generalize w0.heap.size = g at *
    go_cut [5] (fun v5 wx => ∃ h, EdgeSl v5 (downL (pairL A len)) h ∧ Sat wx (h ++ allOf W))
    case first =>
      go_wp2_with fail
      go_loopw [5, 6] (fun v5 v6 wr => ∃ (r : Nat) (h : Heaplet), r ≤ len ∧ v6 = .int .i64 r ∧ EdgeSl v5 (downL (pairL A r)) h ∧ Sat wr (h ++ allOf W)) (fun _ v6 _ => 100000 - (RowKit.intOf v6).toNat)
      case atStart => exact ⟨0, _, by omega, rfl, H0.out.1, H0.out.2⟩
      case round =>
        clear H0
        obtain ⟨r, h1, hr, rfl, hv1, hs⟩ := hrel
        have r0 : (0 : Int) ≤ (r : Int) := by omega
        obtain ⟨a1, c1, rfl⟩ := sl_form hv1
        by_cases hlr : r < len
        · have r1 : (r : Int) < (len : Int) := by omega
          obtain ⟨ba, off, rfl, hcs⟩ := HPI.out r hlr
          obtain ⟨d0, d1⟩ := hcs wr hs.right
          have hst := downL_step (pairL A r) (A r 0, A r 1)
          rw [← pairL_step] at hst
          simp only at hst
          have hll : (downL (pairL A r)).length + 1 ≤ 1000000 := by have := downL_len (pairL A r); rw [pairL_len] at this; omega
          have HST := Lib.hid hst
          have HV := Lib.hid hv1
          have HS : Hid (∀ n, Sat (wr.drewN n) (h1 ++ allOf W)) := Lib.hid fun n => hs.of_heap rfl ⟨rfl, rfl, rfl⟩
          clear hst hv1 hs hcs
          generalize A r 0 = x at *
          generalize A r 1 = y at *
          by_cases hxy : y < x
          · have bxy : decide (y < x) = true := by simpa using hxy
            have hst := HST.out
            rw [if_pos hxy] at hst
            have hap : ∀ n, ∃ v3 w3 h3, (∀ ty, (Builtin.append_ #[46, 46] ty #[.slice a1 (downL (pairL A r)).length c1, .slice (some ⟨wr.heap.size, 0, none⟩) 1 1]).run Try.prog ((wr.drewN n).drew.alloc (.cells #[kI x, kI y] 58)) = .ok v3 w3) ∧ EdgeSl v3 (downL (pairL A (r + 1))) h3 ∧ Sat w3 (h3 ++ allOf W) := by
              intro n
              obtain ⟨v3, w3, h3, hap, hv3, hs3⟩ := edge_push (A := []) (B := allOf W) (x, y) HV.out ((HS.out n).drew.new (.cells #[kI x, kI y] 58)) hll
              rw [← hst] at hv3
              exact ⟨v3, w3, h3, hap, hv3, hs3⟩
            have HAPN := Lib.hid hap
            clear hap hst HST HV HS
            go_upto_region 10 with (fail)
            go_quiet (fail)
            go_wp2_with fail
            obtain ⟨v3, w3, h3, hap, hv3, hs3⟩ := HAPN.out nq
            have HAP := Lib.hid hap
            have H3 := Lib.hid (And.intro hv3 hs3)
            clear hap hv3 hs3 HAPN
            go_region_law ((refine step_append_run (by rfl) _ _ _ _ (by rfl) _ _ _ w3 (by rfl) (by rfl) HAP.out ?_))
            all_goals
              go_wp2_with fail
              exact ⟨⟨r + 1, h3, by omega, by simp, H3.out.1, H3.out.2⟩, by simp only [RowKit.intOf]; omega⟩
          · have bxy : decide (y < x) = false := by simpa using hxy
            have hst := HST.out
            rw [if_neg hxy, List.append_nil] at hst
            have fin : ∀ n, ∃ h, EdgeSl (.slice a1 (downL (pairL A r)).length c1) (downL (pairL A (r + 1))) h ∧ Sat (wr.drewN n) (h ++ allOf W) := fun n => ⟨h1, by rw [hst]; exact HV.out, HS.out n⟩
            have FIN := Lib.hid fin
            clear hst HST HV HS fin hxy
            go_upto_region 10 with (fail)
            go_quiet (fail)
            go_wp2_with fail
            obtain ⟨h, f1, f2⟩ := FIN.out _
            exact ⟨⟨r + 1, h, by omega, by simp, f1, f2⟩, by simp only [RowKit.intOf]; omega⟩
        · obtain rfl : r = len := by omega
          have FIN := Lib.hid (And.intro hv1 hs)
          clear hv1 hs hlr
          go_wp2_with fail
          go_meet
          exact ⟨h1, FIN.out.1, FIN.out.2⟩
    case rest =>
      clear H0
      obtain ⟨h5, hv5, hs⟩ := hcut
      have hdl : (downL (pairL A len)).length ≤ 100000 := by have := downL_len (pairL A len); rw [pairL_len] at this; omega
      have hE := edges_in hv5 (allOf W)
      have hst := Stuck_any _ (downL (pairL A len)) _ wc hs hE HII.out.down hdl
      have HST := Lib.hid hst
      have HE := Lib.hid hE
      have HID := Lib.hid HII.out.down
      have HRL := Lib.hid (downL_rel (pairL A len))
      obtain ⟨a5, c5, rfl⟩ := sl_form hv5
      generalize downL (pairL A len) = dl at *
      clear hst hE hs hv5
      go_wp2_with fail
      refine (HST.out).mono ?_
      rintro e w2 ⟨v6, s6, h6, rfl, hv6, hst6, hs6⟩
      obtain rfl := hst6.unique (falls_stuck HRL.out)
      have hvi := Victims_any _ dl _ w2 hs6 (HE.out.mono (F' := h6 ++ (h5 ++ allOf W)) (fun w hw => hw.right)) HID.out hdl
      have HVI := Lib.hid hvi
      obtain ⟨a6, c6, rfl⟩ := sl_form hv6
      clear hvi hs6 hv6 hst6 HST
      go_wp2_with fail
      refine (HVI.out).mono ?_
      rintro e w3 ⟨v7, s7, h7, rfl, hv7, hvc7, _, hs7⟩
      obtain rfl := hvc7.unique (falls_vict HRL.out)
      have hs8 := hs7.right.right.right
      have s1 := hs8.new (.cells #[] 58)
      have n1 : EdgeSl (.slice (some ⟨w3.heap.size, 0, none⟩) 0 0) (rowL 1) [.blk w3.heap.size (.cells #[] 58)] := sl_new _ _ _
      have H0 := Lib.hid (And.intro n1 s1)
      obtain ⟨a7, c7, rfl⟩ := sl_form hv7
      clear hs7 hv7 hvc7 HVI hs8 s1 n1 HE HID HRL
      go_upto_block 2 with (fail)
      generalize w3.heap.size = g3 at *
      go_cut [7] (fun v7 wx => ∃ h, EdgeSl v7 (rowL M) h ∧ Sat wx (h ++ allOf W))
      case first =>
        go_wp2_with fail
        go_loopw [7, 8] (fun v7 v8 wr => ∃ (r : Nat) (h : Heaplet), 1 ≤ r ∧ r ≤ M ∧ v8 = .int .i64 r ∧ EdgeSl v7 (rowL r) h ∧ Sat wr (h ++ allOf W)) (fun _ v8 _ => 100000 - (RowKit.intOf v8).toNat)
        case atStart => exact ⟨1, _, by omega, by omega, rfl, H0.out.1, H0.out.2⟩
        case round =>
          clear H0
          obtain ⟨r, h1, hr1, hr, rfl, hv1, hs⟩ := hrel
          have r0 : (1 : Int) ≤ (r : Int) := by omega
          have rM : (M : Int) ≤ 41 := by omega
          obtain ⟨a1, c1, rfl⟩ := sl_form hv1
          by_cases hlr : r < M
          · have r1 : (r : Int) < (M : Int) := by omega
            have hll : (rowL r).length + 1 ≤ 1000000 := by rw [rowL_len]; omega
            obtain ⟨v3, w3, h3, hap, hv3, hs3⟩ := edge_push (A := []) (B := allOf W) ((r : Int), (r : Int) - 1) hv1 (hs.new (.cells #[kI (r : Int), kI ((r : Int) - 1)] 58)) hll
            rw [← rowL_step r hr1] at hv3
            have HAP := Lib.hid hap
            have H3 := Lib.hid (And.intro hv3 (show Sat w3 (h3 ++ allOf W) from hs3))
            generalize (rowL r).length = rl at *
            clear hap hv3 hs3 hv1 hs
            go_wp2_with (at_builtin; refine wpList_append_run rfl _ _ _ _ rfl _ _ _ _ rfl rfl HAP.out ?_)
            exact ⟨⟨r + 1, h3, by omega, by omega, by simp, H3.out.1, H3.out.2⟩, by simp only [RowKit.intOf]; omega⟩
          · obtain rfl : r = M := by omega
            have FIN := Lib.hid (And.intro hv1 hs)
            clear hv1 hs hlr
            go_wp2_with fail
            go_meet
            exact ⟨h1, FIN.out.1, FIN.out.2⟩
      case rest =>
        clear H0
        obtain ⟨h7, hv7, hs⟩ := hcut
        have hE := edges_in hv7 (allOf W)
        have hrl : (rowL M).length ≤ 100000 := by rw [rowL_len]; omega
        have hrl1 : (rowL M).length + 1 ≤ 1000000 := by rw [rowL_len]; omega
        have hst := Stuck_any _ (rowL M) _ _ hs hE (rowL_in (by omega)) hrl
        have HST := Lib.hid hst
        have HV := Lib.hid hv7
        obtain ⟨a8, c8, rfl⟩ := sl_form hv7
        clear hst hE hs hv7
        go_wp2_with fail
        refine (HST.out).mono ?_
        rintro e w4 ⟨v8, s8, h8, rfl, hv8, hst8, hs8⟩
        obtain rfl := hst8.unique (row_stuck M)
        have hs9 := hs8.right
        obtain ⟨v9, w9, h9, hap, hv9, hs10⟩ := edge_push (A := []) (B := allOf W) (0, (M : Int) - 1) HV.out (hs9.new (.cells #[kI 0, kI ((M : Int) - 1)] 58)) hrl1
        have hv9 : EdgeSl v9 (ringL M) h9 := hv9
        have hs10 : Sat w9 (h9 ++ allOf W) := hs10
        have hgl : (ringL M).length ≤ 100000 := by unfold ringL; rw [List.length_append, rowL_len]; simp; omega
        have hE := edges_in hv9 (allOf W)
        have hvi := Victim_any v9 (ringL M) _ w9 hs10 hE (ringL_in (by omega)) hgl
        have HAP := Lib.hid hap
        have HVI := Lib.hid hvi
        have HE := Lib.hid hE
        have HRS := Lib.hid (ring_stuck hM2)
        have HRV := Lib.hid (ring_vict hM2)
        have HRI : Hid (InI (ringL M)) := Lib.hid (ringL_in (by omega))
        have hM4 : (2 : Int) ≤ (M : Int) := by omega
        have hM5 : (M : Int) ≤ 41 := by omega
        obtain ⟨a9, c9, rfl⟩ := sl_form hv9
        obtain ⟨a10, c10, rfl⟩ := sl_form hv8
        generalize ringL M = gl at *
        generalize (rowL M).length = rl at *
        clear hvi hE hs8 hv8 hst8 HST hap hs9 hs10 hv9
        go_wp2_with (at_builtin; refine wpList_append_run rfl _ _ _ _ rfl _ _ _ _ rfl rfl HAP.out ?_)
        refine (HVI.out).mono ?_
        rintro e w5 ⟨s5, rfl, hst5, hs5⟩
        obtain rfl : s5 = namesL M := hst5.unique HRS.out
        have hk : (namesL M).getLast?.getD 0 = (M : Int) - 1 := by rw [namesL_last (by omega)]; rfl
        have hie : (namesL M).isEmpty = false := by rw [List.isEmpty_eq_false_iff, ← List.length_pos_iff, namesL_len]; omega
        have hnl := namesL_len M
        have hst := Stuck_any _ gl _ w5 hs5 HE.out HRI.out hgl
        have HST := Lib.hid hst
        rw [hk, hie]
        clear hst hst5 hs5 HVI hk hie
        go_wp2_with fail
        refine (HST.out).mono ?_
        rintro e w6 ⟨v6, s6, h6, rfl, hv6, hst6, hs6⟩
        obtain rfl : s6 = namesL M := hst6.unique HRS.out
        have hvi := Victims_any _ gl _ w6 hs6 (HE.out.mono (F' := h6 ++ (h9 ++ allOf W)) (fun w hw => hw.right)) HRI.out hgl
        have HVI := Lib.hid hvi
        obtain ⟨a6, c6, rfl⟩ := sl_form hv6
        rw [hnl]
        have hMM : ((M : Int) == (M : Int)) = true := by simp
        clear hvi hs6 hv6 hst6 HST
        go_wp2_with fail
        refine (HVI.out).mono ?_
        rintro e w7 ⟨v7, s7, h7, rfl, hv7, hvc7, _, hs7⟩
        obtain rfl := hvc7.unique HRV.out
        have HB := Lib.hid hs7.right.right.right.below
        obtain ⟨a7, c7, rfl⟩ := sl_form hv7
        clear hs7 hv7 hvc7 HVI
        go_wp2_with fail
        go_ret
        exact ⟨rfl, HB.out⟩
end Go.Proofs.Ytjkpghhbpcjjiaa
