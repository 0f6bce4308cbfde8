/- The reference's back walked. Conditions: none. -/
import Derived.Test.YtjkpghhbpcjjiaaKRef1
namespace Go.Proofs.Ytjkpghhbpcjjiaa
open Go Go.MapKept Go.RowKit Go.Proofs

theorem Sat.sub {w : World} {H H' : Heaplet} (s : Sat w H) (h : H'.Sublist H) : Sat w H' :=
  ⟨fun x hx => s.1 x (h.subset hx), s.2.sublist (h.filterMap _)⟩
/-- Ahead of a round of the reference's search. -/
def BkO (l : List (Int × Int)) (k : Int) (F : Heaplet) (i : Nat) (v5 v6 : Value) (wr : World) : Prop :=
  ∃ S T sh th, T = k :: S ∧ SrchO (Rel l) k S (T.drop i) ∧ (∀ x ∈ S, x ∈ l.map (·.2)) ∧ i ≤ T.length ∧ T.length ≤ l.length + 1 ∧ IntSl v5 S sh ∧ IntSl v6 T th ∧ Sat wr (sh ++ (th ++ F))
/-- In a round. -/
def BkI (l : List (Int × Int)) (k a : Int) (F : Heaplet) (i j : Nat) (v5 v6 : Value) (wr : World) : Prop :=
  ∃ S T sh th, T = k :: S ∧ SrchI (Rel l) k a S (T.drop (i + 1)) (leftOf a (l.drop j)) ∧ (∀ x ∈ S, x ∈ l.map (·.2)) ∧ T[i]? = some a ∧ T.length ≤ l.length + 1 ∧ IntSl v5 S sh ∧ IntSl v6 T th ∧ Sat wr (sh ++ (th ++ F))
/-- Whether it is come back to k. -/
def BackRet (l : List (Int × Int)) (k : Int) (F : Heaplet) (e : Ending) (w' : World) : Prop := ∃ b : Bool, e = .returned (.bool b) ∧ (b = true ↔ Loops (Rel l) k) ∧ Sat w' F
set_option maxRecDepth 100000 in
set_option maxHeartbeats 4000000 in
theorem back_any (v : Value) (l : List (Int × Int)) (k : Int) (F : Heaplet) (w : World) (hs : Sat w F) (hE : EdgesIn F v l) (hl : l.length ≤ 100000) :
    Calls Try.prog 40 #[v, .int .i64 k] w (BackRet l k F) := by
  obtain ⟨a0, cap, rfl, hc⟩ := hE
  have s2 := (hs.new (.cells #[] 3)).new (.cells #[kI k] 3)
  rw [World.size_alloc] at s2
  have n1 : IntSl (.slice (some ⟨w.heap.size, 0, none⟩) 0 0) [] [.blk w.heap.size (.cells #[] 3)] := sl_new _ _ _
  have n2 : IntSl (.slice (some ⟨w.heap.size + 1, 0, none⟩) 1 1) [k] [.blk (w.heap.size + 1) (.cells #[kI k] 3)] := ⟨rfl, .inr ⟨_, 1, _, rfl, Nat.le_refl _, by simp [maxLen], rfl, rfl, rfl⟩⟩
  have h0 : BkO l k F 0 (.slice (some ⟨w.heap.size, 0, none⟩) 0 0) (.slice (some ⟨w.heap.size + 1, 0, none⟩) 1 1) ((w.alloc (.cells #[] 3)).alloc (.cells #[kI k] 3)) :=
    ⟨[], [k], _, _, rfl, srch_start _ _, (fun _ h => by cases h), by omega, by simp, n1, n2, s2.swap⟩
  have HC := Lib.hid hc
  have H0 := Lib.hid h0
  clear hc hs s2 n1 n2 h0
  go_enter Try.func40, Try.ntmps40
  go_wp2_with fail
  generalize w.heap.size = g at *
  go_loopw [5, 6, 7] (fun v5 v6 v7 wr => ∃ i : Nat, v7 = .int .i64 i ∧ i ≤ 100001 ∧ BkO l k F i v5 v6 wr) (fun _ _ v7 _ => 200000 - (RowKit.intOf v7).toNat)
  case atStart => exact ⟨0, rfl, by omega, H0.out⟩
  case round =>
    clear H0
    obtain ⟨i, rfl, hi, S, T, sh, th, hT, hS, hSN, hiT, hTl, hv5, hv6, hs⟩ := hrel
    have i0 : (0 : Int) ≤ (i : Int) := by omega
    obtain ⟨a5, c5, rfl⟩ := sl_form hv5
    obtain ⟨a6, c6, rfl⟩ := sl_form hv6
    by_cases hlt : i < T.length
    · have i1 : (i : Int) < (T.length : Int) := by omega
      obtain ⟨a, ha⟩ : ∃ a, T[i]? = some a := ⟨_, List.getElem?_eq_getElem hlt⟩
      have hdrop : T.drop i = a :: T.drop (i + 1) := by
        obtain ⟨h, e⟩ := List.getElem?_eq_some_iff.1 ha
        rw [List.drop_eq_getElem_cons h, e]
      rw [hdrop] at hS
      have hI : BkI l k a F i 0 (.slice a5 S.length c5) (.slice a6 T.length c6) wr := ⟨S, T, sh, th, hT, hS.popH (fun y => by rw [List.drop_zero]; exact leftOf_mem a l y), hSN, ha, hTl, hv5, hv6, hs⟩
      have HI := Lib.hid hI
      clear hS hSN hTl hv5 hv6 hs hI hT ha hdrop hiT
      go_wp2_with fail
      go_loopw [5, 6, 8] (fun v5 v6 v8 wx => ∃ j : Nat, v8 = .int .i64 j ∧ j ≤ l.length ∧ BkI l k a F i j v5 v6 wx) (fun _ _ v8 _ => 200000 - (RowKit.intOf v8).toNat)
      case atStart => exact ⟨0, rfl, by omega, HI.out⟩
      case round =>
        clear HI i1 hlt
        obtain ⟨j, rfl, hj, S, T, sh, th, hT, hS, hSN, ha, hTl, hv5, hv6, hs⟩ := hrel
        have j0 : (0 : Int) ≤ (j : Int) := by omega
        have hlt : i < T.length := (List.getElem?_eq_some_iff.1 ha).1
        have i1 : (i : Int) < (T.length : Int) := by omega
        obtain ⟨a5, c5, rfl⟩ := sl_form hv5
        by_cases hjl : j < l.length
        · have j1 : (j : Int) < (l.length : Int) := by omega
          obtain ⟨q, hq⟩ : ∃ q, l[j]? = some q := ⟨_, List.getElem?_eq_getElem hjl⟩
          obtain ⟨eg, rfl, e0, e1⟩ := HC.out wr hs.right.right j q hq
          have hst := leftOf_step (a := a) hq
          have hqm : q.2 ∈ l.map (·.2) := List.mem_map.2 ⟨q, List.mem_of_getElem? hq, rfl⟩
          have HCQ : Hid (∀ w, Sat w F → w.cell? ⟨eg, j * 2 + 1, none⟩ = some (kI q.2)) := Lib.hid fun w hw => by
            obtain ⟨eg', e, _, h⟩ := HC.out w hw j q hq
            cases e
            exact h
          clear hq
          obtain ⟨q1, q2⟩ := q
          simp only at e0 e1 hst hqm
          obtain ⟨a6, c6, he6, hc6⟩ := int_cells hv6 hs.right
          subst he6
          obtain ⟨g6, rfl, d6⟩ := hc6 i a ha
          by_cases hqa : q1 = a
          · have b1 : (q1 == a) = true := by simpa using hqa
            rw [if_pos hqa, List.singleton_append] at hst
            rw [hst] at hS
            by_cases hqk : q2 = k
            · have b2 : (q2 == k) = true := by simpa using hqk
              have FIN := Lib.hid (And.intro (hS.back (by rw [hqk]; exact .head _)) hs.right.right)
              have FIN2 : Hid (∀ n, Sat (wr.drewN n) F) := Lib.hid fun n => hs.right.right.of_heap rfl ⟨rfl, rfl, rfl⟩
              clear hS hSN hTl hv5 hv6 hs hT ha hst hqm hqa hqk hc6
              go_upto_region 9 with (fail)
              go_quiet (fail)
              go_wp2_with fail
              go_ret
              exact ⟨true, rfl, ⟨fun _ => FIN.out.1, fun _ => rfl⟩, FIN2.out _⟩
            · have b2 : (q2 == k) = false := by simpa using hqk
              have hN : NamesIn (sh ++ (th ++ F)) (.slice a5 S.length c5) S := names_in hv5 _
              have hSl : S.length ≤ 200000 := by rw [hT] at hTl; simp at hTl; omega
              have hin : ∀ n, Calls Try.prog 39 #[.slice a5 S.length c5, .int .i64 q2] (wr.drewN n) _ := fun n => in_any _ S q2 _ (wr.drewN n) (hs.of_heap rfl ⟨rfl, rfl, rfl⟩) hN hSl
              have HIN := Lib.hid hin
              have HS : Hid (∀ n m, Sat ((wr.drewN n).drewN m) (sh ++ (th ++ F))) := Lib.hid fun n m => hs.of_heap rfl ⟨rfl, rfl, rfl⟩
              have HSR := Lib.hid hS
              have HV := Lib.hid (And.intro hv5 hv6)
              have HT := Lib.hid hT
              have HSN := Lib.hid hSN
              clear hin hs hS hv5 hv6 hT hst hSN hqa hc6 hN
              go_upto_region 9 with (fail)
              go_quiet (fail)
              go_wp2_with fail
              refine (HIN.out _).mono ?_
              rintro e w2 ⟨rfl, n2, hw2⟩
              have hs2 : Sat w2 (sh ++ (th ++ F)) := by rw [hw2]; exact HS.out _ _
              clear hw2 HS HIN
              by_cases hm : q2 ∈ S
              · have fin : BkI l k a F i (j + 1) (.slice a5 S.length c5) (.slice (some ⟨g6, 0, none⟩) T.length c6) w2 := ⟨S, T, sh, th, HT.out, HSR.out.old (List.Perm.refl _) hqk hm, HSN.out, ha, hTl, HV.out.1, HV.out.2, hs2⟩
                have FIN := Lib.hid fin
                have hd : decide (q2 ∈ S) = true := by simpa using hm
                clear fin hs2 ha hm hqk
                rw [hd]
                go_wp2_with fail
                exact ⟨⟨j + 1, by simp, by omega, FIN.out⟩, by simp only [RowKit.intOf]; omega⟩
              · have hpu := HSR.out.push (List.Perm.refl _) hqk hm
                have hd : decide (q2 ∈ S) = false := by simpa using hm
                have hSN2 : ∀ x ∈ S ++ [q2], x ∈ l.map (·.2) := by
                  intro x hx
                  rcases List.mem_append.1 hx with hx | hx
                  · exact HSN.out x hx
                  · rw [List.mem_singleton.1 hx]; exact hqm
                have hlen2 := nodup_le hpu.nd hSN2
                rw [List.length_map] at hlen2
                have hlS : (S ++ [q2]).length = S.length + 1 := by simp
                have hlT : (T ++ [q2]).length = T.length + 1 := by simp
                have hdr : (T ++ [q2]).drop (i + 1) = T.drop (i + 1) ++ [q2] := List.drop_append_of_le_length (by omega)
                have hT2 : T ++ [q2] = k :: (S ++ [q2]) := by rw [HT.out]; rfl
                have hget : (T ++ [q2])[i]? = some a := by rw [List.getElem?_append_left hlt]; exact ha
                rw [← hdr] at hpu
                have hSb : S.length + 1 ≤ 1000000 := by omega
                have hTb : T.length + 1 ≤ 1000000 := by omega
                have f1 : w2.cell? ⟨eg, j * 2 + 1, none⟩ = some (kI q2) := HCQ.out w2 hs2.right.right
                obtain ⟨v3, w3, sh3, hap3, hv3, hs3⟩ := int_push (A := []) (B := th ++ F) q2 HV.out.1 (hs2.new (.cells #[kI q2] 3)) hSb
                have f2 : w3.cell? ⟨eg, j * 2 + 1, none⟩ = some (kI q2) := HCQ.out w3 (show Sat w3 (sh3 ++ (th ++ F)) from hs3).right.right
                obtain ⟨v4, w4, th4, hap4, hv4, hs4⟩ := int_push (A := sh3) (B := F) q2 HV.out.2 ((show Sat w3 (sh3 ++ (th ++ F)) from hs3).new (.cells #[kI q2] 3)) hTb
                have HAP3 : ∀ ty, (Builtin.append_ #[31, 31] ty #[_, .slice (some ⟨w2.heap.size, 0, none⟩) 1 1]).run Try.prog (w2.alloc (.cells #[kI q2] 3)) = .ok v3 w3 := hap3
                have HAP3 := Lib.hid HAP3
                have HAP4 := Lib.hid hap4
                have fin : BkI l k a F i (j + 1) v3 v4 w4 := ⟨S ++ [q2], T ++ [q2], sh3, th4, hT2, hpu, hSN2, hget, (by rw [hT2, List.length_cons]; omega), hv3, hv4, hs4⟩
                have FIN := Lib.hid fin
                obtain ⟨a3, c3, rfl⟩ := sl_form hv3
                obtain ⟨a4, c4, rfl⟩ := sl_form hv4
                clear fin hs2 ha hm hqk hpu hSN2 hlen2 hdr hT2 hget hap3 hap4 hv3 hs3 hv4 hs4 HT HSN HSR HV hqm
                rw [hd]
                rw [hlS] at *
                rw [hlT] at *
                go_wp2_with (at_builtin; first | (refine wpList_append_run rfl _ _ _ _ rfl _ _ _ _ rfl rfl HAP3.out ?_) | (refine wpList_append_run rfl _ _ _ _ rfl _ _ _ _ rfl rfl HAP4.out ?_))
                exact ⟨⟨j + 1, by simp, by omega, FIN.out⟩, by simp only [RowKit.intOf]; omega⟩
          · have b1 : (q1 == a) = false := by simpa using hqa
            rw [if_neg hqa, List.nil_append] at hst
            rw [hst] at hS
            have fin : ∀ n, BkI l k a F i (j + 1) (.slice a5 S.length c5) (.slice (some ⟨g6, 0, none⟩) T.length c6) (wr.drewN n) := fun n => ⟨S, T, sh, th, hT, hS, hSN, ha, hTl, hv5, hv6, hs.of_heap rfl ⟨rfl, rfl, rfl⟩⟩
            have FIN := Lib.hid fin
            clear fin hS hSN hTl hv5 hv6 hs hT ha hst hqm hqa hc6
            go_upto_region 9 with (fail)
            go_quiet (fail)
            go_wp2_with fail
            exact ⟨⟨j + 1, by simp, by omega, FIN.out _⟩, by simp only [RowKit.intOf]; omega⟩
        · obtain rfl : j = l.length := by omega
          rw [List.drop_length] at hS
          have fin : BkO l k F (i + 1) (.slice a5 S.length c5) _ wr := ⟨S, T, sh, th, hT, hS.close, hSN, by omega, hTl, hv5, hv6, hs⟩
          have FIN := Lib.hid fin
          obtain ⟨a6, c6, rfl⟩ := sl_form hv6
          clear fin hS hSN hv5 hv6 hs hT ha
          go_wp2_with fail
          exact ⟨⟨i + 1, by simp, by omega, FIN.out⟩, by simp only [RowKit.intOf]; omega⟩
    · have hd : T.drop i = [] := List.drop_eq_nil_of_le (by omega)
      rw [hd] at hS
      have FIN := Lib.hid (And.intro hS.done hs.right.right)
      have i1 : ¬ (i : Int) < (T.length : Int) := by omega
      clear hS hSN hTl hv5 hv6 hs hT hd
      go_wp2_with fail
      go_ret
      exact ⟨false, rfl, ⟨fun e => (nomatch e), fun e => absurd e FIN.out.1⟩, FIN.out.2⟩
end Go.Proofs.Ytjkpghhbpcjjiaa
