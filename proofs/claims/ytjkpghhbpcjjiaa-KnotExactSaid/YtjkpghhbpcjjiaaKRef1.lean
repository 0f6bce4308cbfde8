/- The reference's in, Same, Without walked. Conditions: none. -/
import Derived.Test.YtjkpghhbpcjjiaaKRefM
namespace Go.Proofs.Ytjkpghhbpcjjiaa
open Go Go.MapKept Go.RowKit Go.Proofs

set_option maxRecDepth 100000 in
set_option maxHeartbeats 1600000 in
theorem in_any (v : Value) (vs : List Int) (k : Int) (F : Heaplet) (w : World) (hs : Sat w F) (hN : NamesIn F v vs) (hvl : vs.length ≤ 200000) :
    Calls Try.prog 39 #[v, .int .i64 k] w (Ret (.bool (decide (k ∈ vs))) (fun w' => ∃ n, w' = w.drewN n)) := by
  obtain ⟨a, cap, rfl, hc⟩ := hN
  have HC := Lib.hid hc
  have HS := Lib.hid hs
  clear hc hs
  go_enter Try.func39, Try.ntmps39
  go_wp2_with fail
  go_loopw [5] (fun v5 wx => ∃ r n : Nat, r ≤ vs.length ∧ v5 = .int .i64 r ∧ k ∉ vs.take r ∧ wx = w.drewN n) (fun v5 _ => 300000 - (RowKit.intOf v5).toNat)
  case atStart => exact ⟨0, 0, by omega, rfl, by simp, rfl⟩
  case round =>
    obtain ⟨r, n, hr, rfl, hno, rfl⟩ := hrel
    have r0 : (0 : Int) ≤ (r : Int) := by omega
    by_cases hlr : r < vs.length
    · have r1 : (r : Int) < (vs.length : Int) := by omega
      obtain ⟨x, hx⟩ : ∃ x, vs[r]? = some x := ⟨_, List.getElem?_eq_getElem hlr⟩
      have htk : vs.take (r + 1) = vs.take r ++ [x] := by rw [List.take_add_one, hx]; rfl
      obtain ⟨ng, rfl, e2⟩ := HC.out (w.drewN n) (HS.out.of_heap rfl ⟨rfl, rfl, rfl⟩) r x hx
      by_cases hxk : x = k
      · have hb : (x == k) = true := by simpa using hxk
        have hm : k ∈ vs := by rw [← hxk]; exact List.mem_of_getElem? hx
        have HM := Lib.hid hm
        clear hx htk hxk hno hm
        go_wp2_with fail
        go_ret
        exact ⟨by simp [HM.out], n, rfl⟩
      · have hb : (x == k) = false := by simpa using hxk
        have hno2 : k ∉ vs.take (r + 1) := by
          rw [htk, List.mem_append, List.mem_singleton]
          rintro (h | h)
          · exact hno h
          · exact hxk h.symm
        have HNO := Lib.hid hno2
        clear hx htk hxk hno hno2
        go_wp2_with fail
        exact ⟨⟨r + 1, n, by omega, by simp, HNO.out, rfl⟩, by simp only [RowKit.intOf]; omega⟩
    · obtain rfl : r = vs.length := by omega
      rw [List.take_length] at hno
      have HNO := Lib.hid hno
      clear hno
      go_wp2_with fail
      go_ret
      exact ⟨by simp [HNO.out], n, rfl⟩
set_option maxRecDepth 100000 in
set_option maxHeartbeats 1600000 in
theorem same_any (v v2 : Value) (vs us : List Int) (F : Heaplet) (w : World) (hs : Sat w F) (hN : NamesIn F v vs) (hU : NamesIn F v2 us) (he : vs = us) (hvl : vs.length ≤ 200000) :
    Calls Try.prog 29 #[v, v2] w (Ret (.bool true) (fun w' => ∃ n, w' = w.drewN n)) := by
  subst he
  obtain ⟨a, cap, rfl, hc⟩ := hN
  obtain ⟨a2, cap2, rfl, hc2⟩ := hU
  have HC := Lib.hid hc
  have HC2 := Lib.hid hc2
  have HS := Lib.hid hs
  clear hc hc2 hs
  go_enter Try.func29, Try.ntmps29
  go_wp2_with fail
  go_loopw [5] (fun v5 wx => ∃ r n : Nat, r ≤ vs.length ∧ v5 = .int .i64 r ∧ wx = w.drewN n) (fun v5 _ => 300000 - (RowKit.intOf v5).toNat)
  case atStart => exact ⟨0, 0, by omega, rfl, rfl⟩
  case round =>
    obtain ⟨r, n, hr, rfl, rfl⟩ := hrel
    have r0 : (0 : Int) ≤ (r : Int) := by omega
    by_cases hlr : r < vs.length
    · have r1 : (r : Int) < (vs.length : Int) := by omega
      obtain ⟨x, hx⟩ : ∃ x, vs[r]? = some x := ⟨_, List.getElem?_eq_getElem hlr⟩
      obtain ⟨g1, rfl, e1⟩ := HC.out w HS.out r x hx
      obtain ⟨g2, rfl, e2⟩ := HC2.out w HS.out r x hx
      clear hx
      go_upto_region 6 with (fail)
      go_quiet (fail)
      go_wp2_with fail
      go_roundw
      case rel => exact ⟨r + 1, _, by omega, by simp, rfl⟩
      case measure => simp only [RowKit.intOf]; omega
    · obtain rfl : r = vs.length := by omega
      go_wp2_with fail
      go_ret
      exact ⟨rfl, n, rfl⟩
set_option maxRecDepth 100000 in
set_option maxHeartbeats 4000000 in
theorem without_any (v : Value) (l : List (Int × Int)) (k : Int) (F : Heaplet) (w : World) (hs : Sat w F) (hE : EdgesIn F v l) (hl : l.length ≤ 100000) :
    Calls Try.prog 43 #[v, .int .i64 k] w fun e w' => ∃ v' h, e = .returned v' ∧ RefSl v' (lessL k l) h ∧ Sat w' (h ++ F) := by
  obtain ⟨a, cap, rfl, hc⟩ := hE
  have s1 := hs.new (.cells #[] 75)
  have n1 : RefSl (.slice (some ⟨w.heap.size, 0, none⟩) 0 0) (lessL k (l.take 0)) [.blk w.heap.size (.cells #[] 75)] := sl_new _ _ _
  have HC := Lib.hid hc
  have H0 := Lib.hid (And.intro n1 s1)
  clear hc hs s1 n1
  go_enter Try.func43, Try.ntmps43
  go_wp2_with fail
  generalize w.heap.size = g at *
  go_loopw [5, 6] (fun v5 v6 wr => ∃ (r : Nat) (h : Heaplet), r ≤ l.length ∧ v6 = .int .i64 r ∧ RefSl v5 (lessL k (l.take r)) h ∧ Sat wr (h ++ F)) (fun _ v6 _ => 200000 - (RowKit.intOf v6).toNat)
  case atStart => exact ⟨0, _, by omega, rfl, H0.out.1, H0.out.2⟩
  case round =>
    clear H0
    obtain ⟨r, h, hr, rfl, hv, hs⟩ := hrel
    have r0 : (0 : Int) ≤ (r : Int) := by omega
    by_cases hlr : r < l.length
    · have r1 : (r : Int) < (l.length : Int) := by omega
      obtain ⟨q, hq⟩ : ∃ q, l[r]? = some q := ⟨_, List.getElem?_eq_getElem hlr⟩
      have htk : l.take (r + 1) = l.take r ++ [q] := by rw [List.take_add_one, hq]; rfl
      have hst := lessL_step k (l.take r) q
      rw [← htk] at hst
      obtain ⟨eg, rfl, e0, e1⟩ := HC.out wr hs.right r q hq
      have hlen : (lessL k (l.take r)).length + 1 ≤ 1000000 := by
        have : (lessL k (l.take r)).length ≤ (l.take r).length := List.length_filter_le _ _
        rw [List.length_take] at this
        omega
      clear hq htk
      obtain ⟨q1, q2⟩ := q
      simp only at e0 e1 hst
      obtain ⟨oa, oc, rfl⟩ := sl_form hv
      by_cases h1 : q1 = k ∨ q2 = k
      · rw [if_pos h1, List.append_nil] at hst
        rw [← hst] at hv
        have hlt : (lessL k (l.take r)).length = (lessL k (l.take (r + 1))).length := by rw [hst]
        rw [hlt]
        have FIN := Lib.hid (And.intro hv hs)
        clear hv hs hst hlt
        by_cases h2 : q1 = k
        · have b1 : (q1 != k) = false := by simpa using h2
          clear h1 h2
          go_wp2_with fail
          exact ⟨⟨r + 1, h, by omega, by simp, FIN.out.1, FIN.out.2⟩, by simp only [RowKit.intOf]; omega⟩
        · have b1 : (q1 != k) = true := by simpa using h2
          have b2 : (q2 != k) = false := by simpa using h1.resolve_left h2
          clear h1 h2
          go_wp2_with fail
          exact ⟨⟨r + 1, h, by omega, by simp, FIN.out.1, FIN.out.2⟩, by simp only [RowKit.intOf]; omega⟩
      · have b1 : (q1 != k) = true := by simpa using fun e => h1 (.inl e)
        have b2 : (q2 != k) = true := by simpa using fun e => h1 (.inr e)
        rw [if_neg h1] at hst
        obtain ⟨v3, w3, h3, hap, hv3, hs3⟩ := refe_push (A := []) (B := F) (q1, q2) hv (hs.new (.cells #[kI q1, kI q2] 75)) hlen
        rw [← hst] at hv3
        have HAP : ∀ ty, (Builtin.append_ #[47, 47] ty #[_, .slice (some ⟨wr.heap.size, 0, none⟩) 1 1]).run Try.prog (wr.alloc (.cells #[kI q1, kI q2] 75)) = .ok v3 w3 := hap
        have HAP := Lib.hid HAP
        have FIN := Lib.hid (And.intro hv3 (show Sat w3 (h3 ++ F) from hs3))
        clear hap hv3 hs3 hv hs hst h1
        go_wp2_with (at_builtin; refine wpList_append_run rfl _ _ _ _ rfl _ _ _ _ rfl rfl HAP.out ?_)
        exact ⟨⟨r + 1, h3, by omega, by simp, FIN.out.1, FIN.out.2⟩, by simp only [RowKit.intOf]; omega⟩
    · obtain rfl : r = l.length := by omega
      rw [List.take_length] at hv
      obtain ⟨oa, oc, rfl⟩ := sl_form hv
      have FIN := Lib.hid (And.intro hv hs)
      clear hv hs hlr
      go_wp2_with fail
      go_ret
      exact ⟨_, h, rfl, FIN.out.1, FIN.out.2⟩
end Go.Proofs.Ytjkpghhbpcjjiaa
