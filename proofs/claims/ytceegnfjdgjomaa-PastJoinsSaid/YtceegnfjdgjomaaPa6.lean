/- Lists of entries: ended walked. Conditions: none. -/
import Derived.Test.YtceegnfjdgjomaaPa5
namespace Go.Proofs.Ytceegnfjdgjomaa
open Go Go.MapKept Go.RowKit Go.Proofs Go.Sort

set_option maxRecDepth 100000 in
set_option maxHeartbeats 4000000 in
theorem ended_any (v : Value) (l : List En) (F : Heaplet) (w : World) (hs : Sat w F) (hE : EnsIn F v l) (hl : l.length ≤ 100000) (hf : FitL l) :
    Calls Try.prog 22 #[v] w fun e w' => ∃ b, e = .returned (.map (some b)) ∧ EndMap b l F w' := by
  obtain ⟨a, cap, rfl, hc⟩ := hE
  have HC := Lib.hid hc
  have HFit := Lib.hid hf
  have hmm := @run_makeMap Try.prog
  have hg0 : EndMap w.heap.size [] F (w.alloc (.map #[] 0)) := ⟨#[], 0, [], mapOkS_new, (fun k => rfl), hs.new (.map #[] 0)⟩
  have HG0 := Lib.hid hg0
  clear hc hs hg0 hf
  go_enter Try.func22, Try.ntmps22
  go_wp2_with fail
  generalize w.heap.size = m at *
  go_loopw [9] (fun v9 wr => ∃ r : Nat, r ≤ l.length ∧ v9 = .int .i64 r ∧ EndMap m (l.take r) F wr) (fun v9 _ => 100000 - (RowKit.intOf v9).toNat)
  case atStart => exact ⟨0, by omega, rfl, HG0.out⟩
  case round =>
    clear HG0
    obtain ⟨r, hr, rfl, hg⟩ := hrel
    have r0 : (0 : Int) ≤ (r : Int) := by omega
    by_cases hlr : r < l.length
    · have r1 : (r : Int) < (l.length : Int) := by omega
      obtain ⟨x, hx⟩ : ∃ x, l[r]? = some x := ⟨_, List.getElem?_eq_getElem hlr⟩
      obtain ⟨g, off, rfl, e0, e1, e2, e3, e4, e5, e6, e7, e8, e9, e10, e11, e12⟩ := HC.out wr hg.frame r x hx
      have htk : l.take (r + 1) = l.take r ++ [x] := by rw [List.take_add_one, hx]; rfl
      have HTK := Lib.hid htk
      have hfit := HFit.out.get hx
      have HX := Lib.hid hfit
      have HG := Lib.hid (hg.grown (Grown.alloc wr (eO x)))
      have HN := Lib.hid (enAt_new wr x)
      clear hx htk hg hfit
      go_upto_region 5 with (fail)
      generalize wr.alloc (eO x) = W1 at *
      generalize wr.heap.size = g1 at *
      have hN := HN.out
      clear e0 e1 e2 e3 e4 e5 e6 e7 e8 e9 e10 e11 e12
      obtain ⟨n0, n1, n2, n3, n4, n5, n6, n7, n8, n9, n10, n11, n12⟩ := hN
      go_wp2_with fail
      refine (good_any x _ HX.out.1 HX.out.2).mono ?_
      rintro e w3 ⟨rfl, hg3⟩
      have HG3 := Lib.hid (HG.out.grown hg3)
      have HN3 := Lib.hid (HN.out.grown hg3)
      clear hg3 n0 n1 n2 n3 n4 n5 n6 n7 n8 n9 n10 n11 n12
      clear HN HG
      cases hgd : goodM x with
      | false =>
        have hsk := HG3.out.skip (x := x) (by rw [hgd]; rfl)
        rw [← HTK.out] at hsk
        have FIN := Lib.hid hsk
        clear hsk
        go_wp2_with fail
        exact ⟨⟨r + 1, by omega, by simp, FIN.out⟩, by simp only [RowKit.intOf]; omega⟩
      | true =>
        obtain ⟨n0, n1, n2, n3, n4, n5, n6, n7, n8, n9, n10, n11, n12⟩ := HN3.out
        go_wp2_with fail
        refine (isEnd_any x _).mono ?_
        rintro e w4 ⟨rfl, hg4⟩
        have HG4 := Lib.hid (HG3.out.grown hg4)
        have HN4 := Lib.hid (HN3.out.grown hg4)
        clear hg4 n0 n1 n2 n3 n4 n5 n6 n7 n8 n9 n10 n11 n12
        cases hed : isEndM x with
        | false =>
          have hsk := HG4.out.skip (x := x) (by rw [hgd, hed]; rfl)
          rw [← HTK.out] at hsk
          have FIN := Lib.hid hsk
          clear hsk
          go_wp2_with fail
          exact ⟨⟨r + 1, by omega, by simp, FIN.out⟩, by simp only [RowKit.intOf]; omega⟩
        | true =>
          obtain ⟨w5, hu, hst⟩ := HG4.out.step (x := x) (by rw [hgd, hed]; rfl)
          rw [← HTK.out] at hst
          have FIN := Lib.hid hst
          obtain ⟨_, n1, n2, n3, _⟩ := HN4.out
          clear hst
          go_wp2_with fail
          exact ⟨⟨r + 1, by omega, by simp, FIN.out⟩, by simp only [RowKit.intOf]; omega⟩
    · obtain rfl : r = l.length := by omega
      rw [List.take_length] at hg
      have Fin := Lib.hid hg
      clear hg hlr
      go_wp2_with fail
      go_ret
      exact ⟨m, rfl, Fin.out⟩
end Go.Proofs.Ytceegnfjdgjomaa
