/- The reference's Stuck walked. Conditions: none. -/
import Derived.Test.YtjkpghhbpcjjiaaKRef2
namespace Go.Proofs.Ytjkpghhbpcjjiaa
open Go Go.MapKept Go.RowKit Go.Proofs

/-- Ahead of a round of the reference's Stuck. -/
def StO (l : List (Int × Int)) (F : Heaplet) (i : Nat) (v3 : Value) (wr : World) : Prop :=
  ∃ out oh, StuckTo l i out ∧ IntSl v3 out oh ∧ Sat wr (oh ++ F)
/-- A list is built beside. -/
def StI (k : Int) (out : List Int) (oh F : Heaplet) (j : Nat) (v6 v7 : Value) (wr : World) : Prop :=
  ∃ nh, v7 = .bool (doneL k (out.take j)) ∧ IntSl v6 (nextL k (doneL k (out.take j)) (out.take j)) nh ∧ Sat wr (nh ++ (oh ++ F))
set_option maxRecDepth 100000 in
set_option maxHeartbeats 4000000 in
theorem rstuck_any (v : Value) (l : List (Int × Int)) (F : Heaplet) (w : World) (hs : Sat w F) (hE : EdgesIn F v l) (hl : l.length ≤ 100000) :
    Calls Try.prog 27 #[v] w fun e w' => ∃ v' s h, e = .returned v' ∧ IntSl v' s h ∧ IsStuck (Rel l) s ∧ Sat w' (h ++ F) := by
  have HE := Lib.hid hE
  obtain ⟨a0, cap, rfl, hc⟩ := hE
  have s1 := hs.new (.cells #[] 3)
  have n1 : IntSl (.slice (some ⟨w.heap.size, 0, none⟩) 0 0) [] [.blk w.heap.size (.cells #[] 3)] := sl_new _ _ _
  have h0 : StO l F 0 (.slice (some ⟨w.heap.size, 0, none⟩) 0 0) (w.alloc (.cells #[] 3)) := ⟨[], _, stuckTo_start, n1, s1⟩
  have HC := Lib.hid hc
  have H0 := Lib.hid h0
  clear hc hs s1 n1 h0
  go_enter Try.func27, Try.ntmps27
  go_wp2_with fail
  generalize w.heap.size = g at *
  go_loopw [3, 4] (fun v3 v4 wr => ∃ i : Nat, v4 = .int .i64 i ∧ i ≤ l.length ∧ StO l F i v3 wr) (fun _ v4 _ => 200000 - (RowKit.intOf v4).toNat)
  case atStart => exact ⟨0, rfl, by omega, H0.out⟩
  case round =>
    clear H0
    obtain ⟨i, rfl, hi, out, oh, hst, hv, hs⟩ := hrel
    have i0 : (0 : Int) ≤ (i : Int) := by omega
    have hol := hst.len
    obtain ⟨a3, c3, rfl⟩ := sl_form hv
    by_cases hlt : i < l.length
    · have i1 : (i : Int) < (l.length : Int) := by omega
      obtain ⟨q, hq⟩ : ∃ q, l[i]? = some q := ⟨_, List.getElem?_eq_getElem hlt⟩
      obtain ⟨eg, rfl, e0, _⟩ := HC.out wr hs.right i q hq
      have HQ := Lib.hid hq
      clear hq
      obtain ⟨k, k2⟩ := q
      simp only at e0
      have hN : NamesIn (oh ++ F) (.slice a3 out.length c3) out := names_in hv _
      have hin := in_any _ out k _ wr hs hN (by omega)
      have HIN := Lib.hid hin
      have HV := Lib.hid hv
      have HST := Lib.hid hst
      have HS := Lib.hid hs
      clear hin hv hst hN hs
      go_wp2_with fail
      refine (HIN.out).mono ?_
      rintro e w2 ⟨rfl, n2, hw2⟩
      have hs2 : Sat w2 (oh ++ F) := by rw [hw2]; exact HS.out.of_heap rfl ⟨rfl, rfl, rfl⟩
      clear hw2 HS HIN e0
      by_cases hm : k ∈ out
      · have fin : StO l F (i + 1) (.slice a3 out.length c3) w2 := ⟨out, oh, HST.out.in HQ.out hm, HV.out, hs2⟩
        have FIN := Lib.hid fin
        have hd : decide (k ∈ out) = true := by simpa using hm
        clear fin hs2 hm
        rw [hd]
        go_wp2_with fail
        exact ⟨⟨i + 1, by simp, by omega, FIN.out⟩, by simp only [RowKit.intOf]; omega⟩
      · have hd : decide (k ∈ out) = false := by simpa using hm
        have hbk := back_any _ l k _ w2 hs2 (HE.out.mono (F' := oh ++ F) (fun w hw => hw.right)) hl
        have HBK := Lib.hid hbk
        have HM := Lib.hid hm
        clear hbk hs2 hm
        rw [hd]
        go_wp2_with fail
        refine (HBK.out).mono ?_
        rintro e w3 ⟨b, rfl, hb, hs3⟩
        clear HBK
        cases b
        · have fin : StO l F (i + 1) (.slice a3 out.length c3) w3 := ⟨out, oh, HST.out.no HQ.out (fun h => by have := hb.2 h; cases this), HV.out, hs3⟩
          have FIN := Lib.hid fin
          clear fin hs3 hb
          go_wp2_with fail
          exact ⟨⟨i + 1, by simp, by omega, FIN.out⟩, by simp only [RowKit.intOf]; omega⟩
        · have hmore := HST.out.more HQ.out HM.out (hb.1 rfl)
          simp only at hmore
          have HMO := Lib.hid hmore
          have s4 := hs3.new (.cells #[] 3)
          have n4 : IntSl (.slice (some ⟨w3.heap.size, 0, none⟩) 0 0) (nextL k (doneL k (out.take 0)) (out.take 0)) [.blk w3.heap.size (.cells #[] 3)] := sl_new _ _ _
          have h4 : StI k out oh F 0 (.slice (some ⟨w3.heap.size, 0, none⟩) 0 0) (.bool false) (w3.alloc (.cells #[] 3)) := ⟨_, rfl, n4, s4⟩
          have H4 := Lib.hid h4
          clear s4 n4 h4 hs3 hb hmore HM HST
          go_upto_block 2 with (fail)
          generalize w3.heap.size = g3 at *
          go_cut [6, 7] (fun v6 v7 wx => StI k out oh F out.length v6 v7 wx)
          case first =>
            go_wp2_with fail
            go_loopw [6, 7, 8] (fun v6 v7 v8 wx => ∃ j : Nat, v8 = .int .i64 j ∧ j ≤ out.length ∧ StI k out oh F j v6 v7 wx) (fun _ _ v8 _ => 200000 - (RowKit.intOf v8).toNat)
            case atStart => exact ⟨0, rfl, by omega, H4.out⟩
            case round =>
              clear H4
              obtain ⟨j, rfl, hj, nh, rfl, hv6, hs⟩ := hrel
              have j0 : (0 : Int) ≤ (j : Int) := by omega
              by_cases hjl : j < out.length
              · have j1 : (j : Int) < (out.length : Int) := by omega
                obtain ⟨x, hx⟩ : ∃ x, out[j]? = some x := ⟨_, List.getElem?_eq_getElem hjl⟩
                have htk : out.take (j + 1) = out.take j ++ [x] := by rw [List.take_add_one, hx]; rfl
                obtain ⟨a3', c3', e3, hc3⟩ := int_cells HV.out hs.right
                cases e3
                obtain ⟨g4, rfl, d0⟩ := hc3 j x hx
                have hlen := nextL_len k (doneL k (out.take j)) (out.take j)
                rw [List.length_take] at hlen
                have old1 := nextL_old (k := k) (x := x) (l := out.take j)
                have new1 := nextL_new (k := k) (x := x) (l := out.take j)
                have no1 := nextL_no (k := k) (x := x) (l := out.take j)
                have dst := doneL_step k x (out.take j)
                rw [← htk] at old1 new1 no1 dst
                have HCX : Hid (∀ w, Sat w (oh ++ F) → w.cell? ⟨g4, j, none⟩ = some (kI x)) := Lib.hid fun w hw => by
                  obtain ⟨a', c', e, hc⟩ := int_cells HV.out hw
                  cases e
                  obtain ⟨g5, e5, h5⟩ := hc j x hx
                  cases e5
                  exact h5
                clear hx htk hc3
                cases hd : doneL k (out.take j) with
                | true =>
                  rw [hd] at hv6 hlen dst
                  have old1 := old1 hd
                  rw [hd] at old1
                  obtain ⟨a6, c6, e6⟩ := sl_form hv6
                  subst e6
                  obtain ⟨v7, w7, nh7, hap, hv7, hs7⟩ := int_push (A := []) (B := oh ++ F) x hv6 (hs.new (.cells #[kI x] 3)) (by omega)
                  rw [← old1] at hv7
                  simp only [Bool.true_or] at dst
                  have fin : StI k out oh F (j + 1) v7 (.bool true) w7 := ⟨nh7, by rw [dst], hv7, hs7⟩
                  have FIN := Lib.hid fin
                  have HAP := Lib.hid hap
                  generalize hml : (nextL k true (List.take j out)).length = ml at *
                  obtain ⟨a7, c7, e7⟩ := sl_form hv7
                  subst e7
                  clear hap fin hv7 hs7 hv6 hs old1 new1 no1 dst hd hlen
                  go_wp2_with (at_builtin; refine wpList_append_run rfl _ _ _ _ rfl _ _ _ _ rfl rfl HAP.out ?_)
                  exact ⟨⟨j + 1, by simp, by omega, FIN.out⟩, by simp only [RowKit.intOf]; omega⟩
                | false =>
                  rw [hd] at hv6 hlen dst
                  obtain ⟨a6, c6, e6⟩ := sl_form hv6
                  subst e6
                  by_cases hkx : k < x
                  · have new1 := new1 hd hkx
                    rw [hd] at new1
                    have bkx : decide (k < x) = true := by simpa using hkx
                    obtain ⟨v7, w7, nh7, hap, hv7, hs7⟩ := int_push (A := []) (B := oh ++ F) k hv6 (hs.new (.cells #[kI k] 3)) (by omega)
                    have d1 := HCX.out w7 (show Sat w7 (nh7 ++ (oh ++ F)) from hs7).right
                    have hml : (nextL k false (List.take j out) ++ [k]).length + 1 ≤ 1000000 := by simp; omega
                    generalize nextL k false (List.take j out) ++ [k] = X7 at *
                    obtain ⟨v8, w8, nh8, hap8, hv8, hs8⟩ := int_push (A := []) (B := oh ++ F) x hv7 ((show Sat w7 (nh7 ++ (oh ++ F)) from hs7).new (.cells #[kI x] 3)) hml
                    rw [← new1] at hv8
                    simp only [Bool.false_or, bkx] at dst
                    have fin : StI k out oh F (j + 1) v8 (.bool true) w8 := ⟨nh8, by rw [dst], hv8, hs8⟩
                    have FIN := Lib.hid fin
                    have HAP := Lib.hid hap
                    have HAP8 := Lib.hid hap8
                    obtain ⟨a7, c7, e7⟩ := sl_form hv7
                    subst e7
                    obtain ⟨a8, c8, e8⟩ := sl_form hv8
                    subst e8
                    clear hap fin hv7 hs7 hv6 hs old1 new1 no1 dst hd hlen hap8 hv8 hs8
                    go_wp2_with (at_builtin; first | (refine wpList_append_run rfl _ _ _ _ rfl _ _ _ _ rfl rfl HAP.out ?_) | (refine wpList_append_run rfl _ _ _ _ rfl _ _ _ _ rfl rfl HAP8.out ?_))
                    exact ⟨⟨j + 1, by simp, by omega, FIN.out⟩, by simp only [RowKit.intOf]; omega⟩
                  · have no1 := no1 hd hkx
                    rw [hd] at no1
                    have bkx : decide (k < x) = false := by simpa using hkx
                    obtain ⟨v7, w7, nh7, hap, hv7, hs7⟩ := int_push (A := []) (B := oh ++ F) x hv6 (hs.new (.cells #[kI x] 3)) (by omega)
                    rw [← no1] at hv7
                    simp only [Bool.false_or, bkx] at dst
                    have fin : StI k out oh F (j + 1) v7 (.bool false) w7 := ⟨nh7, by rw [dst], hv7, hs7⟩
                    have FIN := Lib.hid fin
                    have HAP := Lib.hid hap
                    obtain ⟨a7, c7, e7⟩ := sl_form hv7
                    subst e7
                    clear hap fin hv7 hs7 hv6 hs old1 new1 no1 dst hd hlen
                    go_wp2_with (at_builtin; refine wpList_append_run rfl _ _ _ _ rfl _ _ _ _ rfl rfl HAP.out ?_)
                    exact ⟨⟨j + 1, by simp, by omega, FIN.out⟩, by simp only [RowKit.intOf]; omega⟩
              · obtain rfl : j = out.length := by omega
                have FIN : Hid (StI k out oh F out.length _ _ wr) := Lib.hid ⟨nh, rfl, hv6, hs⟩
                obtain ⟨a6, c6, e6⟩ := sl_form hv6
                subst e6
                clear hv6 hs
                go_wp2_with fail
                go_meet
                exact FIN.out
          case rest =>
            clear H4
            obtain ⟨nh, rfl, hv6, hs⟩ := hcut
            rw [List.take_length] at hv6
            rw [List.take_length]
            cases hd : doneL k out with
            | true =>
              have e1 := nextL_done hd
              rw [hd] at e1 hv6
              rw [e1] at hv6
              have fin : StO l F (i + 1) _ wc := ⟨insL k out, nh, HMO.out, hv6, hs.comm.right⟩
              have FIN := Lib.hid fin
              obtain ⟨a6, c6, e6⟩ := sl_form hv6
              subst e6
              clear fin hv6 hs e1 hd
              go_wp2_with fail
              exact ⟨⟨i + 1, by simp, by omega, FIN.out⟩, by simp only [RowKit.intOf]; omega⟩
            | false =>
              have e1 := nextL_last hd
              rw [hd] at e1 hv6
              have hlen := nextL_len k false out
              obtain ⟨a6, c6, e6⟩ := sl_form hv6
              subst e6
              obtain ⟨v7, w7, nh7, hap, hv7, hs7⟩ := int_push (A := []) (B := oh ++ F) k hv6 (hs.new (.cells #[kI k] 3)) (by omega)
              rw [e1] at hv7
              have fin : StO l F (i + 1) v7 w7 := ⟨insL k out, nh7, HMO.out, hv7, (show Sat w7 (nh7 ++ (oh ++ F)) from hs7).comm.right⟩
              have FIN := Lib.hid fin
              have HAP := Lib.hid hap
              obtain ⟨a7, c7, e7⟩ := sl_form hv7
              subst e7
              clear fin hv6 hs e1 hd hap hv7 hs7
              go_wp2_with (at_builtin; refine wpList_append_run rfl _ _ _ _ rfl _ _ _ _ rfl rfl HAP.out ?_)
              exact ⟨⟨i + 1, by simp, by omega, FIN.out⟩, by simp only [RowKit.intOf]; omega⟩
    · obtain rfl : i = l.length := by omega
      have FIN := Lib.hid (And.intro hv (And.intro hst.all hs))
      clear hv hst hs
      go_wp2_with fail
      go_ret
      exact ⟨_, out, oh, rfl, FIN.out.1, FIN.out.2.1, FIN.out.2.2⟩
end Go.Proofs.Ytjkpghhbpcjjiaa
