/- Layer 15's law: left walked; KnotFrees. Conditions: none. -/
import Derived.Test.YtjkpghhbpcjjiaaKnot5
import Derived.Deep.CutBlock
namespace Go.Proofs.Ytjkpghhbpcjjiaa
open Go Go.MapKept Go.RowKit Go.Proofs

/-- Where F holds, v is the slice of these names. -/
def NamesIn (F : Heaplet) (v : Value) (vs : List Int) : Prop :=
  ∃ a cap, v = .slice a vs.length cap ∧ ∀ w, Sat w F → ∀ i x, vs[i]? = some x → ∃ g, a = some ⟨g, 0, none⟩ ∧ w.cell? ⟨g, i, none⟩ = some (kI x)
theorem names_in {v : Value} {vs : List Int} {h : Heaplet} (hv : IntSl v vs h) (F : Heaplet) : NamesIn (h ++ F) v vs := by
  obtain ⟨a, cap, rfl⟩ := sl_form hv
  refine ⟨a, cap, rfl, fun w hs i x hx => ?_⟩
  obtain ⟨a', cap', e, hc⟩ := int_cells hv hs
  cases e
  exact hc i x hx
theorem NamesIn.mono {F F' : Heaplet} {v : Value} {l : List Int} (h : NamesIn F v l) (hs : ∀ w, Sat w F' → Sat w F) : NamesIn F' v l := by
  obtain ⟨a, cap, e, hc⟩ := h
  exact ⟨a, cap, e, fun w hw => hc w (hs w hw)⟩
def hitL (q : Int × Int) (vs : List Int) : Bool := vs.any fun x => q.1 == x || q.2 == x
theorem hitL_step {q : Int × Int} {vs : List Int} {k : Nat} {x : Int} (hx : vs[k]? = some x) : hitL q (vs.take (k + 1)) = (hitL q (vs.take k) || (q.1 == x || q.2 == x)) := by
  unfold hitL
  rw [List.take_add_one, hx, List.any_append]
  simp
def leftL (vs : List Int) (l : List (Int × Int)) : List (Int × Int) := l.filter fun q => !hitL q vs
theorem leftL_len (vs : List Int) (l : List (Int × Int)) : (leftL vs l).length ≤ l.length := List.length_filter_le _ _
theorem leftL_rel (vs : List Int) (l : List (Int × Int)) : Rel (leftL vs l) = Lessen (Rel l) vs := rl_ext fun a b => by
  unfold Rel leftL Lessen
  rw [List.mem_filter]
  constructor
  · rintro ⟨h1, h2⟩
    have h3 : hitL (a, b) vs = false := by simpa using h2
    unfold hitL at h3
    rw [List.any_eq_false] at h3
    refine ⟨h1, fun m => ?_, fun m => ?_⟩
    · have := h3 a m; simp at this
    · have := h3 b m; simp at this
  · rintro ⟨h1, h2, h3⟩
    refine ⟨h1, ?_⟩
    have : hitL (a, b) vs = false := by
      unfold hitL
      rw [List.any_eq_false]
      intro x hx
      have e1 : a ≠ x := fun e => h2 (e ▸ hx)
      have e2 : b ≠ x := fun e => h3 (e ▸ hx)
      simp [e1, e2]
    rw [this]; rfl
set_option maxRecDepth 100000 in
set_option maxHeartbeats 4000000 in
theorem left_any (v v2 : Value) (l : List (Int × Int)) (vs : List Int) (F : Heaplet) (w : World) (hs : Sat w F) (hE : EdgesIn F v l) (hN : NamesIn F v2 vs) (hl : l.length ≤ 100000) (hvl : vs.length ≤ 100000) :
    Calls Try.prog 33 #[v, v2] w fun e w' => ∃ v' h, e = .returned v' ∧ EdgeSl v' (leftL vs l) h ∧ Sat w' (h ++ F) := by
  obtain ⟨a, cap, rfl, hc⟩ := hE
  obtain ⟨a2, cap2, rfl, hc2⟩ := hN
  have s1 := hs.new (.cells #[] 58)
  have n1 : EdgeSl (.slice (some ⟨w.heap.size, 0, none⟩) 0 0) (leftL vs (l.take 0)) [.blk w.heap.size (.cells #[] 58)] := sl_new _ _ _
  have HC := Lib.hid hc
  have HC2 := Lib.hid hc2
  have H0 := Lib.hid (And.intro n1 s1)
  clear hc hc2 hs s1 n1
  go_enter Try.func33, Try.ntmps33
  go_wp2_with fail
  generalize w.heap.size = g at *
  go_loopw [5, 6] (fun v5 v6 wr => ∃ (r : Nat) (h : Heaplet), r ≤ l.length ∧ v6 = .int .i64 r ∧ EdgeSl v5 (leftL vs (l.take r)) h ∧ Sat wr (h ++ F)) (fun _ v6 _ => 200000 - (RowKit.intOf v6).toNat)
  case atStart => exact ⟨0, _, by omega, rfl, H0.out.1, H0.out.2⟩
  case round =>
    clear H0
    obtain ⟨r, h, hr, rfl, hv, hs⟩ := hrel
    have r0 : (0 : Int) ≤ (r : Int) := by omega
    by_cases hlr : r < l.length
    · have r1 : (r : Int) < (l.length : Int) := by omega
      obtain ⟨q, hq⟩ : ∃ q, l[r]? = some q := ⟨_, List.getElem?_eq_getElem hlr⟩
      have htk : l.take (r + 1) = l.take r ++ [q] := by rw [List.take_add_one, hq]; rfl
      have HCQ : Hid (∀ w, Sat w F → ∃ g, a = some ⟨g, 0, none⟩ ∧ w.cell? ⟨g, r * 2, none⟩ = some (kI q.1) ∧ w.cell? ⟨g, r * 2 + 1, none⟩ = some (kI q.2)) := Lib.hid fun w hw => HC.out w hw r q hq
      have HS := Lib.hid hs
      have HV := Lib.hid hv
      have HTK := Lib.hid htk
      obtain ⟨eg, rfl, e0, e1⟩ := HCQ.out wr hs.right
      clear hs hv htk hq
      obtain ⟨q1, q2⟩ := q
      simp only at e0 e1
      go_upto_block 2 with (fail)
      go_cut [7] (fun v7 wx => v7 = .bool (hitL (q1, q2) vs) ∧ ∃ n, wx = wr.drewN n)
      case first =>
        go_wp2_with fail
        go_loopw [7, 8] (fun v7 v8 wx => ∃ (k : Nat) (n : Nat), k ≤ vs.length ∧ v8 = .int .i64 k ∧ v7 = .bool (hitL (q1, q2) (vs.take k)) ∧ wx = wr.drewN n) (fun _ v8 _ => 200000 - (RowKit.intOf v8).toNat)
        case atStart => exact ⟨0, 0, by omega, rfl, by simp [hitL], rfl⟩
        case round =>
          obtain ⟨k, n, hk, rfl, rfl, rfl⟩ := hrel
          have k0 : (0 : Int) ≤ (k : Int) := by omega
          by_cases hkl : k < vs.length
          · have kk1 : (k : Int) < (vs.length : Int) := by omega
            obtain ⟨x, hx⟩ : ∃ x, vs[k]? = some x := ⟨_, List.getElem?_eq_getElem hkl⟩
            obtain ⟨ng, rfl, e2⟩ := HC2.out (wr.drewN n) ((HS.out.right).of_heap rfl ⟨rfl, rfl, rfl⟩) k x hx
            have e2' : wr.cell? ⟨ng, k, none⟩ = some (kI x) := e2
            have e0n : (wr.drewN n).cell? ⟨eg, r * 2, none⟩ = some (kI q1) := e0
            have e1n : (wr.drewN n).cell? ⟨eg, r * 2 + 1, none⟩ = some (kI q2) := e1
            have hst := hitL_step (q := (q1, q2)) hx
            have HST := Lib.hid hst
            clear hx hst
            obtain ⟨hd, hhd⟩ : ∃ hd, hitL (q1, q2) (vs.take k) = hd := ⟨_, rfl⟩
            rw [hhd] at HST
            rw [hhd]
            clear hhd
            cases hd
            · by_cases hqx : q1 = x
              · have hb : (q1 == x) = true := by simpa using hqx
                clear hqx
                go_upto_region 9 with (fail)
                go_quiet (fail)
                go_wp2_with fail
                exact ⟨⟨k + 1, _, by omega, by simp, by rw [HST.out]; simp [hb], rfl⟩, by simp only [RowKit.intOf]; omega⟩
              · have hb : (q1 == x) = false := by simpa using hqx
                clear hqx
                go_upto_region 9 with (fail)
                go_quiet (fail)
                go_wp2_with fail
                exact ⟨⟨k + 1, _, by omega, by simp, by rw [HST.out]; simp [hb], rfl⟩, by simp only [RowKit.intOf]; omega⟩
            · go_upto_region 9 with (fail)
              go_quiet (fail)
              go_wp2_with fail
              exact ⟨⟨k + 1, _, by omega, by simp, by rw [HST.out]; simp, rfl⟩, by simp only [RowKit.intOf]; omega⟩
          · obtain rfl : k = vs.length := by omega
            rw [List.take_length]
            go_wp2_with fail
            go_meet
            exact ⟨rfl, n, rfl⟩
      case rest =>
        obtain ⟨rfl, n, rfl⟩ := hcut
        have d0 : (wr.drewN n).cell? ⟨eg, r * 2, none⟩ = some (kI q1) := e0
        have d1 : (wr.drewN n).cell? ⟨eg, r * 2 + 1, none⟩ = some (kI q2) := e1
        have hs9 : Sat (wr.drewN n) (h ++ F) := HS.out.of_heap rfl ⟨rfl, rfl, rfl⟩
        have hstep : leftL vs (l.take (r + 1)) = leftL vs (l.take r) ++ (if hitL (q1, q2) vs then [] else [(q1, q2)]) := by
          unfold leftL
          rw [HTK.out, List.filter_append]
          cases hh : hitL (q1, q2) vs <;> simp [hh]
        have hlen := leftL_len vs (l.take r)
        rw [List.length_take] at hlen
        cases hhd : hitL (q1, q2) vs with
        | true =>
          rw [hhd] at hstep
          simp only [if_true, List.append_nil] at hstep
          have FIN := Lib.hid (And.intro hstep hs9)
          clear hstep hs9 hhd
          go_wp2_with fail
          exact ⟨⟨r + 1, h, by omega, by simp, by rw [FIN.out.1]; exact HV.out, FIN.out.2⟩, by simp only [RowKit.intOf]; omega⟩
        | false =>
          rw [hhd] at hstep
          simp only [Bool.false_eq_true, if_false] at hstep
          obtain ⟨oa, oc, rfl⟩ := sl_form HV.out
          obtain ⟨v3, w3, h3, hap, hv3, hs3⟩ := edge_push (A := []) (B := F) (q1, q2) HV.out (hs9.new (.cells #[kI q1, kI q2] 58)) (by omega)
          rw [← hstep] at hv3
          have HAP : ∀ ty, (Builtin.append_ #[46, 46] ty #[_, .slice (some ⟨wr.heap.size, 0, none⟩) 1 1]).run Try.prog ((wr.drewN n).alloc (.cells #[kI q1, kI q2] 58)) = .ok v3 w3 := hap
          have HAP := Lib.hid HAP
          have FIN := Lib.hid (And.intro hv3 (show Sat w3 (h3 ++ F) from hs3))
          clear hstep hs9 hhd hap hv3 hs3
          go_wp2_with (at_builtin; refine wpList_append_run rfl _ _ _ _ rfl _ _ _ _ rfl rfl HAP.out ?_)
          exact ⟨⟨r + 1, h3, by omega, by simp, FIN.out.1, FIN.out.2⟩, by simp only [RowKit.intOf]; omega⟩
    · obtain rfl : r = l.length := by omega
      rw [List.take_length] at hv
      obtain ⟨oa, oc, rfl⟩ := sl_form hv
      have FIN := Lib.hid (And.intro hv hs)
      clear hv hs hlr
      go_wp2_with fail
      go_ret
      exact ⟨_, h, rfl, FIN.out.1, FIN.out.2⟩
/-- The names but the last. -/
theorem NamesIn.last {F : Heaplet} {vs : List Int} {k : Int} {a : Option Addr} {n cap : Nat} (h : NamesIn F (.slice a n cap) (vs ++ [k])) : NamesIn F (.slice a vs.length cap) vs := by
  obtain ⟨a', cap', e, hc⟩ := h
  cases e
  refine ⟨a, cap, rfl, fun w hw i x hx => hc w hw i x ?_⟩
  rw [List.getElem?_append_left (List.getElem?_eq_some_iff.1 hx).1]
  exact hx
theorem InI.left {l : List (Int × Int)} (h : InI l) (vs : List Int) : InI (leftL vs l) := fun q hq => h q (List.mem_filter.1 hq).1
set_option maxRecDepth 100000 in
set_option maxHeartbeats 4000000 in
theorem frees_walk (p : Option Addr) (len cap : Nat) (A : Nat → Nat → Int) (W : World) (ha : IntsAt W p len 2 A) :
    Calls Try.prog 7 #[.slice p len cap] W (Ret (.bool true) (RowKit.Below W.heap.size W)) := by
  have hlen := ha.1
  have HPI := Lib.hid (pairs_in ha)
  have HII := Lib.hid (pairL_in ha)
  clear ha
  go_enter Try.func7, Try.ntmps7
  go_wp2_with fail
  refine (awake15 (allOf W) W (sat_all W)).mono ?_
  rintro e w0 ⟨rfl, hs0⟩
  by_cases hl : 60 < len
  · have HB := Lib.hid hs0.below
    clear hs0
    go_wp2_with fail
    go_ret
    exact ⟨rfl, HB.out⟩
  · have hed := edges_any p len cap A (allOf W) w0 hs0 HPI.out (by omega)
    have HED := Lib.hid hed
    clear hs0 hed
    go_wp2_with fail
    refine (HED.out).mono ?_
    rintro e w1 ⟨v1, v2, h1, h2, rfl, hv1, _, hs1⟩
    obtain ⟨l, hl'⟩ : ∃ l, pairL A len = l := ⟨_, rfl⟩
    have hll : l.length ≤ 60 := by rw [← hl', pairL_len]; omega
    have hin := HII.out
    rw [hl'] at hv1 hin
    have hE := edges_in hv1 (h2 ++ allOf W)
    have hvi := Victims_any v1 l _ w1 hs1 hE hin (by omega)
    have HVI := Lib.hid hvi
    have HE := Lib.hid hE
    have HIN := Lib.hid hin
    obtain ⟨a1, c1, rfl⟩ := sl_form hv1
    clear hvi hE hs1 hv1 hin HED HII HPI hl'
    go_wp2_with fail
    refine (HVI.out).mono ?_
    rintro e w2 ⟨v5, vs, h5, rfl, hv5, hvc, hvl, hs2⟩
    have hE2 := HE.out.mono (F' := h5 ++ (h1 ++ (h2 ++ allOf W))) (fun w hw => hw.right)
    have hN := names_in hv5 (h1 ++ (h2 ++ allOf W))
    have hlf := left_any _ v5 l vs _ w2 hs2 hE2 hN (by omega) (by omega)
    have HLF := Lib.hid hlf
    have HE2 := Lib.hid hE2
    have HN := Lib.hid hN
    have HVC := Lib.hid hvc
    obtain ⟨a5, c5, rfl⟩ := sl_form hv5
    have hcap : vs.length ≤ c5 := by
      rcases hv5.2 with ⟨e2, e3, _⟩ | ⟨g', cap', cur, e2, hnc, _⟩
      · omega
      · simp only [Value.slice.injEq] at e2
        omega
    clear hlf hE2 hN hs2 hvc hv5 HVI HE
    go_wp2_with fail
    refine (HLF.out).mono ?_
    rintro e w3 ⟨v3, h3, rfl, hv3, hs3⟩
    have hst := Stuck_any v3 (leftL vs l) _ w3 hs3 (edges_in hv3 _) (HIN.out.left vs) (by have := leftL_len vs l; omega)
    rw [leftL_rel] at hst
    have HST := Lib.hid hst
    obtain ⟨a3, c3, rfl⟩ := sl_form hv3
    clear hst hs3 hv3 HLF
    go_wp2_with fail
    refine (HST.out).mono ?_
    rintro e w4 ⟨v4, s4, h4, rfl, hv4, hst4, hs4⟩
    obtain rfl := hst4.unique HVC.out.freed
    obtain ⟨a4, c4, rfl⟩ := sl_form hv4
    by_cases hve : vs = []
    · subst hve
      have HB := Lib.hid hs4.right.right.right.right.right.below
      clear hv4 hst4 hs4 HST HE2 HN HVC
      go_wp2_with fail
      go_ret
      exact ⟨rfl, HB.out⟩
    · obtain ⟨k, hk⟩ := HVC.out.held hve
      obtain ⟨vs', k', rfl⟩ : ∃ vs' k', vs = vs' ++ [k'] := ⟨_, _, (List.dropLast_concat_getLast hve).symm⟩
      rw [List.dropLast_concat] at hk
      have hNl := HN.out.last
      have hF : ∀ w, Sat w (h4 ++ (h3 ++ (h5 ++ (h1 ++ (h2 ++ allOf W))))) → Sat w (h5 ++ (h1 ++ (h2 ++ allOf W))) := fun w hw => hw.right.right
      have hTl : (vs' ++ [k']).length = vs'.length + 1 := by simp
      have hlf := left_any _ _ l vs' _ w4 hs4 (HE2.out.mono hF) (hNl.mono hF) (by omega) (by omega)
      have HLF := Lib.hid hlf
      have HK := Lib.hid hk
      rw [hTl] at hvl hcap
      rw [hTl]
      clear hlf hNl hv4 hst4 hs4 HST HE2 HN HVC hk hve
      go_wp2_with fail
      refine (HLF.out).mono ?_
      rintro e w5 ⟨v6, h6, rfl, hv6, hs6⟩
      have hst := Stuck_any v6 (leftL vs' l) _ w5 hs6 (edges_in hv6 _) (HIN.out.left vs') (by have := leftL_len vs' l; omega)
      rw [leftL_rel] at hst
      have HST := Lib.hid hst
      obtain ⟨a6, c6, rfl⟩ := sl_form hv6
      clear hst hs6 hv6 HLF
      go_wp2_with fail
      refine (HST.out).mono ?_
      rintro e w7 ⟨v7, s7, h7, rfl, hv7, hst7, hs7⟩
      have hpos := List.length_pos_of_mem ((hst7.2 k).2 HK.out)
      obtain ⟨a7, c7, rfl⟩ := sl_form hv7
      have HB := Lib.hid hs7.right.right.right.right.right.right.right.below
      clear hv7 hst7 hs7 HST HK
      have hpos1 : (0 : Int) < (s7.length : Int) := by omega
      go_wp2_with fail
      go_ret
      exact ⟨rfl, HB.out⟩
end Go.Proofs.Ytjkpghhbpcjjiaa
