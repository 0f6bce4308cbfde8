/- The reference's Victims walked; KnotExact. Conditions: none. -/
import Derived.Test.YtjkpghhbpcjjiaaKRef3
namespace Go.Proofs.Ytjkpghhbpcjjiaa
open Go Go.MapKept Go.RowKit Go.Proofs

theorem redges_in {v : Value} {l : List (Int × Int)} {h : Heaplet} (hv : RefSl v l h) (F : Heaplet) : EdgesIn (h ++ F) v l := by
  obtain ⟨a, cap, rfl⟩ := sl_form hv
  refine ⟨a, cap, rfl, fun w hs i q hq => ?_⟩
  obtain ⟨a', cap', e, hc⟩ := sl_cells flP_len hv hs
  cases e
  obtain ⟨g, ea, _, hu⟩ := hc i q hq
  have h0 := hu 0 _ rfl
  have h1 := hu 1 _ rfl
  simp only [Nat.add_zero] at h0
  exact ⟨g, ea, h0, h1⟩
/-- Ahead of a round of the reference's Victims. -/
def RvO (l : List (Int × Int)) (F : Heaplet) (n : Nat) (v0 v3 v4 : Value) (wr : World) : Prop :=
  ∃ lc out s oh sh lh, EdgesIn (lh ++ F) v0 lc ∧ IntSl v3 out oh ∧ IntSl v4 s sh ∧ IsStuck (Rel lc) s ∧ (∀ r, Vict (Rel lc) r → Vict (Rel l) (out ++ r)) ∧ lc.length = n ∧ out.length + lc.length ≤ l.length ∧ Sat wr (oh ++ (sh ++ (lh ++ F)))
set_option maxRecDepth 100000 in
set_option maxHeartbeats 4000000 in
theorem rvict_any (v : Value) (l : List (Int × Int)) (F : Heaplet) (w : World) (hs : Sat w F) (hE : EdgesIn F v l) (hl : l.length ≤ 100000) :
    Calls Try.prog 32 #[v] w fun e w' => ∃ v' s h, e = .returned v' ∧ IntSl v' s h ∧ Vict (Rel l) s ∧ s.length ≤ l.length ∧ Sat w' (h ++ F) := by
  have s1 := hs.new (.cells #[] 3)
  have n1 : IntSl (.slice (some ⟨w.heap.size, 0, none⟩) 0 0) [] [.blk w.heap.size (.cells #[] 3)] := sl_new _ _ _
  have hst := rstuck_any v l _ _ s1 (hE.mono (F' := .blk w.heap.size (.cells #[] 3) :: F) (fun w hw => hw.tail)) hl
  have HST := Lib.hid hst
  have H0 := Lib.hid (And.intro n1 hE)
  obtain ⟨a0, cap0, rfl, _⟩ := hE
  clear hst hs s1 n1
  go_enter Try.func32, Try.ntmps32
  go_wp2_with fail
  refine (HST.out).mono ?_
  rintro e w2 ⟨v4, s, sh, rfl, hv4, hst, hs2⟩
  have h0 : RvO l F l.length (.slice a0 l.length cap0) (.slice (some ⟨w.heap.size, 0, none⟩) 0 0) v4 w2 :=
    ⟨l, [], s, _, sh, [], H0.out.2, H0.out.1, hv4, hst, fun r hr => hr, rfl, by simp, hs2.comm⟩
  obtain ⟨a4, c4, rfl⟩ := sl_form hv4
  have HO := Lib.hid h0
  clear hv4 hst hs2 h0 H0 HST
  generalize w.heap.size = g at *
  go_wp2_with fail
  go_loopg [0, 3, 4] (l.length) (fun n v0 v3 v4 wr => RvO l F n v0 v3 v4 wr)
  case atStart => exact HO.out
  case round =>
    clear HO
    obtain ⟨lc, out, s, oh, sh, lh, hE, hv3, hv4, hst, hvi, hn, hM, hs⟩ := hrel
    have HN := Lib.hid hn
    clear hn
    obtain ⟨oa, oc, rfl⟩ := sl_form hv3
    by_cases he : s = []
    · subst he
      obtain ⟨a, c, rfl⟩ := sl_form hv4
      have hvl := hvi [] (.nil hst)
      rw [List.append_nil] at hvl
      have hf : Sat wr (oh ++ F) := hs.sub (List.Sublist.append_left ((List.sublist_append_right lh F).trans (List.sublist_append_right sh _)) oh)
      have FIN := Lib.hid (And.intro hv3 (And.intro hvl (And.intro (show out.length ≤ l.length by omega) hf)))
      clear hv3 hvl hf hE hv4 hst hvi hs
      go_wp2_with fail
      go_ret
      exact ⟨_, out, oh, rfl, FIN.out.1, FIN.out.2.1, FIN.out.2.2.1, FIN.out.2.2.2⟩
    · obtain ⟨s', k, rfl⟩ : ∃ s' k, s = s' ++ [k] := ⟨_, _, (List.dropLast_concat_getLast he).symm⟩
      have hTl : (s' ++ [k]).length = s'.length + 1 := by simp
      obtain ⟨ta, tc, e1, hcell⟩ := sl_cells fI_len hv4 hs.right
      obtain ⟨tg, rfl, _, hcu⟩ := hcell s'.length k (by simp)
      rw [hTl] at e1
      subst e1
      have ca := hcu 0 (kI k) rfl
      simp only [Nat.mul_one, Nat.add_zero] at ca
      have hl2 : s'.length + 1 ≤ 9223372036854775807 := by
        rcases hv4.2 with ⟨e2, _⟩ | ⟨g', cap', cur, e2, hnc, hcm, _⟩
        · cases e2
        · unfold maxLen at hcm
          rw [hTl] at hnc
          omega
      have hloop : Loops (Rel lc) k := (hst.2 k).1 (by simp)
      have hlt := lessL_lt hloop
      have hf : Sat wr (oh ++ (lh ++ F)) := hs.comm.right
      obtain ⟨v', w3, oh', hap, hv3', hs3⟩ := int_push (A := []) (B := lh ++ F) k hv3 (hf.new (.cells #[kI k] 3)) (by omega)
      have hlo : (out ++ [k]).length = out.length + 1 := by simp
      have hs3 : Sat w3 (oh' ++ (lh ++ F)) := hs3
      have hE2 := hE.mono (F' := oh' ++ (lh ++ F)) (fun w hw => hw.right)
      have hwo := without_any _ lc k _ w3 hs3 hE2 (by omega)
      obtain ⟨a0, c0, rfl, _⟩ := hE
      have HWO := Lib.hid hwo
      have HAP := Lib.hid hap
      have HV := Lib.hid hv3'
      have HNX : Hid (∀ r, Vict (Rel (lessL k lc)) r → Vict (Rel l) ((out ++ [k]) ++ r)) := Lib.hid fun r hr => by
        rw [lessL_rel] at hr
        have := hvi _ (.cons hst hr)
        simpa using this
      obtain ⟨oa', oc', rfl⟩ := sl_form hv3'
      rw [hlo] at *
      clear hv3 hv4 hst hvi hs hcell hcu hTl he hloop hf hap hv3' hs3 hE2 hwo
      go_wp2_with (at_builtin; refine wpList_append_run rfl _ _ _ _ rfl _ _ _ _ rfl rfl HAP.out ?_)
      refine (HWO.out).mono ?_
      rintro e w4 ⟨v5, lh', rfl, hv5, hs5⟩
      have hst := rstuck_any v5 (lessL k lc) _ w4 hs5 (redges_in hv5 _) (by omega)
      have HST := Lib.hid hst
      have HE5 := Lib.hid (redges_in hv5 F)
      obtain ⟨a5, c5, rfl⟩ := sl_form hv5
      clear hst hs5 hv5 HWO HAP ca
      go_wp2_with fail
      refine (HST.out).mono ?_
      rintro e w6 ⟨v6, s6, sh6, rfl, hv6, hst6, hs6⟩
      have hs7 : Sat w6 (oh' ++ (sh6 ++ (lh' ++ F))) := by
        have h1 : Sat w6 (sh6 ++ (lh' ++ (oh' ++ F))) := hs6.sub (List.Sublist.append_left (List.Sublist.append_left (List.Sublist.append_left (List.sublist_append_right lh F) oh') lh') sh6)
        refine h1.perm ?_
        exact (List.Perm.append_left sh6 (List.perm_append_comm_assoc lh' oh' F)).trans (List.perm_append_comm_assoc sh6 oh' _)
      have fin : RvO l F (lessL k lc).length _ (.slice oa' (out.length + 1) oc') v6 w6 := ⟨lessL k lc, out ++ [k], s6, oh', sh6, lh', HE5.out, HV.out, hv6, hst6, HNX.out, rfl, (by rw [List.length_append]; simp only [List.length_cons, List.length_nil]; omega), hs7⟩
      obtain ⟨a6, c6, rfl⟩ := sl_form hv6
      have FIN := Lib.hid fin
      clear fin hv6 hst6 hs6 hs7 HST HE5 HNX
      go_wp2_with fail
      go_roundg (lessL k lc).length
      case measure => have := HN.out; omega
      case rel => exact FIN.out
end Go.Proofs.Ytjkpghhbpcjjiaa
