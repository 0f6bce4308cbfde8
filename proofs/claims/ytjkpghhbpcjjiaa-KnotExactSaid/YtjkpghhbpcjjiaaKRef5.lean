/- KnotExact walked. Conditions: none. -/
import Derived.Test.YtjkpghhbpcjjiaaKRef4
namespace Go.Proofs.Ytjkpghhbpcjjiaa
open Go Go.MapKept Go.RowKit Go.Proofs

theorem stuck_len {l : List (Int × Int)} {s : List Int} (h : IsStuck (Rel l) s) : s.length ≤ l.length := by
  have := nodup_le (N := l.map (·.1)) (h.1.imp (fun h => by omega)) fun x hx => by
    obtain ⟨c, hc⟩ := tg_start ((h.2 x).1 hx)
    exact List.mem_map.2 ⟨_, hc, rfl⟩
  simpa using this
set_option maxRecDepth 100000 in
set_option maxHeartbeats 4000000 in
theorem kexact_walk (p : Option Addr) (len cap : Nat) (A : Nat → Nat → Int) (W : World) (ha : IntsAt W p len 2 A) :
    Calls Try.prog 6 #[.slice p len cap] W (Ret (.bool true) (RowKit.Below W.heap.size W)) := by
  have hlen := ha.1
  have HPI := Lib.hid (pairs_in ha)
  have HII := Lib.hid (pairL_in ha)
  clear ha
  go_enter Try.func6, Try.ntmps6
  go_wp2_with fail
  refine (awake15 (allOf W) W (sat_all W)).mono ?_
  rintro e w0 ⟨rfl, hs0⟩
  by_cases hl : 60 < len
  · have HB := Lib.hid hs0.below
    clear hs0
    go_wp2_with fail
    go_ret
    exact ⟨rfl, HB.out⟩
  · have hed := edges_any p len cap A (allOf W) w0 hs0 HPI.out (by omega)
    have HED := Lib.hid hed
    clear hs0 hed
    go_wp2_with fail
    refine (HED.out).mono ?_
    rintro e w1 ⟨v1, v2, h1, h2, rfl, hv1, hv2, hs1⟩
    obtain ⟨l, hl'⟩ : ∃ l, pairL A len = l := ⟨_, rfl⟩
    have hll : l.length ≤ 60 := by rw [← hl', pairL_len]; omega
    have hin := HII.out
    rw [hl'] at hv1 hv2 hin
    have hE1 : EdgesIn (h1 ++ (h2 ++ allOf W)) v1 l := edges_in hv1 _
    have hE2 : EdgesIn (h1 ++ (h2 ++ allOf W)) v2 l := (redges_in hv2 (allOf W)).mono (fun w hw => hw.right)
    have HBL : Hid (∀ w, Sat w (h1 ++ (h2 ++ allOf W)) → RowKit.Below W.heap.size W w) := Lib.hid fun w hw => hw.right.right.below
    generalize h1 ++ (h2 ++ allOf W) = F at *
    have hst := rstuck_any v2 l F w1 hs1 hE2 (by omega)
    have HST := Lib.hid hst
    have HE1 := Lib.hid hE1
    have HE2 := Lib.hid hE2
    have HIN := Lib.hid hin
    obtain ⟨a1, c1, rfl⟩ := sl_form hv1
    obtain ⟨a2, c2, rfl⟩ := sl_form hv2
    clear hst hs1 hE1 hE2 hv1 hv2 hin HED HPI HII hl'
    go_wp2_with fail
    refine (HST.out).mono ?_
    rintro e w2 ⟨v5, s, h5, rfl, hv5, hst5, hs2⟩
    have hvi := Victim_any _ l (h5 ++ F) w2 hs2 (HE1.out.mono (fun w hw => hw.right)) HIN.out (by omega)
    have HVI := Lib.hid hvi
    have HV5 := Lib.hid hv5
    have HS5 := Lib.hid hst5
    have hsl := stuck_len hst5
    obtain ⟨a5, c5, rfl⟩ := sl_form hv5
    clear hvi hst5 hs2 hv5 HST
    go_wp2_with fail
    refine (HVI.out).mono ?_
    rintro e w3 ⟨s3, rfl, hst3, hs3⟩
    obtain rfl : s3 = s := hst3.unique HS5.out
    have hsk := Stuck_any _ l (h5 ++ F) w3 hs3 (HE1.out.mono (fun w hw => hw.right)) HIN.out (by omega)
    have HSK := Lib.hid hsk
    have hcs : (s3.getLast?.getD 0 = 0 ∧ s3.isEmpty = true ∧ s3.length = 0) ∨ ∃ k m g, s3.getLast?.getD 0 = k ∧ s3.isEmpty = false ∧ s3.length = m + 1 ∧ a5 = some ⟨g, 0, none⟩ ∧ w3.cell? ⟨g, m, none⟩ = some (kI k) := by
      by_cases he : s3 = []
      · left; subst he; exact ⟨rfl, rfl, rfl⟩
      · right
        obtain ⟨s', k, rfl⟩ : ∃ s' k, s3 = s' ++ [k] := ⟨_, _, (List.dropLast_concat_getLast he).symm⟩
        obtain ⟨a', c', e', hc⟩ := int_cells HV5.out hs3
        cases e'
        obtain ⟨g, rfl, hcell⟩ := hc s'.length k (by simp)
        exact ⟨k, s'.length, g, by simp, by simp, by simp, rfl, hcell⟩
    obtain ⟨n, hn⟩ : ∃ n, s3.length = n := ⟨_, rfl⟩
    have hN5 : NamesIn (h5 ++ F) (.slice a5 n c5) s3 := by rw [← hn]; exact names_in HV5.out F
    have HN5 := Lib.hid hN5
    rw [hn]
    generalize s3.getLast?.getD 0 = kk at *
    generalize s3.isEmpty = ee at *
    have hnl : n ≤ 60 := by omega
    clear hsk hs3 HV5 HVI hN5
    rcases hcs with ⟨rfl, rfl, hz⟩ | ⟨k, m, g, rfl, rfl, hz, rfl, hcell⟩
    all_goals
      obtain rfl := hz.symm.trans hn
      clear hz
      go_wp2_with fail
      refine (HSK.out).mono ?_
      rintro e w4 ⟨v10, s10, h10, rfl, hv10, hst10, hs4⟩
      have hl10 := stuck_len hst10
      have hsame := same_any v10 _ s10 s3 _ w4 hs4 (names_in hv10 _) (HN5.out.mono (F' := h10 ++ (h5 ++ F)) (fun w hw => hw.right)) (hst10.unique HS5.out) (by omega)
      have HSM := Lib.hid hsame
      have HS4 := Lib.hid hs4
      obtain ⟨a10, c10, rfl⟩ := sl_form hv10
      clear hv10 hst10 hs4 hsame HSK
      go_wp2_with fail
      refine (HSM.out).mono ?_
      rintro e w5 ⟨rfl, n5, hw5⟩
      have hs5 : Sat w5 (h10 ++ (h5 ++ F)) := by rw [hw5]; exact HS4.out.of_heap rfl ⟨rfl, rfl, rfl⟩
      have hvc := Victims_any _ l _ w5 hs5 (HE1.out.mono (F' := h10 ++ (h5 ++ F)) (fun w hw => hw.right.right)) HIN.out (by omega)
      have HVC := Lib.hid hvc
      clear hvc hs5 hw5 HSM HS4
      go_wp2_with fail
      refine (HVC.out).mono ?_
      rintro e w6 ⟨v6, s6, h6, rfl, hv6, hvc6, hl6, hs6⟩
      have hrv := rvict_any _ l _ w6 hs6 (HE2.out.mono (F' := h6 ++ (h10 ++ (h5 ++ F))) (fun w hw => hw.right.right.right)) (by omega)
      have HRV := Lib.hid hrv
      have H6 := Lib.hid (And.intro hv6 hvc6)
      obtain ⟨a6, c6, rfl⟩ := sl_form hv6
      clear hrv hs6 hv6 hvc6 HVC
      go_wp2_with fail
      refine (HRV.out).mono ?_
      rintro e w7 ⟨v7, s7, h7, rfl, hv7, hvc7, hl7, hs7⟩
      have hsame := same_any _ v7 s6 s7 _ w7 hs7 ((names_in H6.out.1 (h10 ++ (h5 ++ F))).mono (F' := h7 ++ (h6 ++ (h10 ++ (h5 ++ F)))) (fun w hw => hw.right)) (names_in hv7 _) (H6.out.2.unique hvc7) (by omega)
      have HSM := Lib.hid hsame
      have HB : Hid (∀ n, RowKit.Below W.heap.size W (w7.drewN n)) := Lib.hid fun n => HBL.out _ (hs7.right.right.right.right.of_heap rfl ⟨rfl, rfl, rfl⟩)
      obtain ⟨a7, c7, rfl⟩ := sl_form hv7
      clear hsame hs7 hv7 hvc7 HRV
      go_wp2_with fail
      refine (HSM.out).mono ?_
      rintro e w8 ⟨rfl, n8, rfl⟩
      go_wp2_with fail
      go_ret
      exact ⟨rfl, HB.out _⟩
end Go.Proofs.Ytjkpghhbpcjjiaa
