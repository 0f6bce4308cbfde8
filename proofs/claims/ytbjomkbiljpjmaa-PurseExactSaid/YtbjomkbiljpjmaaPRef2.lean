/- The reference's promises: Of, Sum, set, Ask, Take walked. Conditions: none. -/
import Derived.Test.YtbjomkbiljpjmaaPRef1
namespace Go.Proofs.Ytbjomkbiljpjmaa
open Go Go.MapKept Go.RowKit Go.Proofs

theorem of_here : ∀ (R : Pts) (r : Nat) (q : Int × Int) (p : Int), R[r]? = some q → (∀ x ∈ R.take r, x.1 ≠ p) → q.1 = p → of R p = q.2
  | [], r, q, p, h, _, _ => by simp at h
  | x :: R, 0, q, p, h, _, e => by
    simp at h; subst h
    simp [of, getL, e]
  | x :: R, r + 1, q, p, h, hn, e => by
    have hx := hn x (by simp)
    have h1 := of_here R r q p (by simpa using h) (fun y hy => hn y (by simp [hy])) e
    unfold of at h1 ⊢
    simp [getL, hx, h1]
theorem of_none {R : Pts} {p : Int} (h : ∀ x ∈ R, x.1 ≠ p) : of R p = 0 := by
  unfold of
  rw [getL_none.2 (by
    intro m
    obtain ⟨x, hx, e⟩ := List.mem_map.1 m
    exact h x hx e)]
  rfl
set_option maxRecDepth 100000 in
theorem of_ref (c : Nat) (R : Pts) (F : Heaplet) (p : Int) (w : World) (h : RefIs c R F w) (hl : R.length ≤ 100000) :
    Calls Try.prog 46 #[.pointer (some ⟨c, 0, none⟩), .int .i64 p] w (Ret (.int .i64 (of R p)) (Same w)) := by
  obtain ⟨a, cap, c0, hcs⟩ := h.cells
  have HCS := Lib.hid hcs
  clear hcs h
  go_enter Try.func46, Try.ntmps46
  go_wp2_with fail
  go_loopw [5] (fun v5 wr => ∃ r : Nat, r ≤ R.length ∧ v5 = .int .i64 r ∧ (∀ x ∈ R.take r, x.1 ≠ p) ∧ wr = w) (fun v5 _ => 100000 - (RowKit.intOf v5).toNat)
  case atStart => exact ⟨0, by omega, rfl, by simp, rfl⟩
  case round =>
    obtain ⟨r, hr, rfl, hn, rfl⟩ := hrel
    have r0 : (0 : Int) ≤ (r : Int) := by omega
    by_cases hlr : r < R.length
    · have r1 : (r : Int) < (R.length : Int) := by omega
      obtain ⟨q, hq⟩ : ∃ q, R[r]? = some q := ⟨_, List.getElem?_eq_getElem hlr⟩
      obtain ⟨g, rfl, c1, c2⟩ := HCS.out r q hq
      by_cases e : q.1 = p
      · have eb : (q.1 == p) = true := by simpa using e
        have E1 := Lib.hid (of_here R r q p hq hn e)
        clear hn e hq
        go_wp2_with fail
        go_ret
        exact ⟨by rw [E1.out]; rfl, rfl⟩
      · have eb : (q.1 == p) = false := by simpa using e
        have hn2 : ∀ x ∈ R.take (r + 1), x.1 ≠ p := by
          intro x hx
          rw [List.take_add_one, hq] at hx
          simp at hx
          rcases hx with hx | rfl
          · exact hn x hx
          · exact e
        have HN := Lib.hid hn2
        clear hn hn2 e hq
        go_wp2_with fail
        exact ⟨⟨r + 1, by omega, by simp, HN.out, by first | rfl | trivial⟩, by simp only [RowKit.intOf]; omega⟩
    · obtain rfl : r = R.length := by omega
      have E1 := Lib.hid (of_none (R := R) (p := p) (by rw [List.take_length] at hn; exact hn))
      clear hn hlr
      go_wp2_with fail
      go_ret
      exact ⟨by rw [E1.out]; rfl, rfl⟩
theorem take_sum {R : Pts} {r : Nat} {q : Int × Int} (hq : R[r]? = some q) : ((R.take (r + 1)).map (·.2)).sum = ((R.take r).map (·.2)).sum + q.2 := by
  rw [List.take_add_one, hq, List.map_append, List.sum_append]
  simp
theorem take_bd {R : Pts} {s : Int} (h : PInv R s) (r : Nat) : 0 ≤ ((R.take r).map (·.2)).sum ∧ ((R.take r).map (·.2)).sum ≤ s := by
  have h1 := prefix_sum (l1 := (R.take r).map (·.2)) (l2 := R.map (·.2)) ((List.take_prefix r R).map _) (fun x hx => by
    obtain ⟨p, hp, rfl⟩ := List.mem_map.1 hx
    have := h.1 p hp
    omega)
  rw [h.2.1] at h1
  exact h1
set_option maxRecDepth 100000 in
theorem sum_ref (c : Nat) (R : Pts) (s : Int) (F : Heaplet) (w : World) (h : RefIs c R F w) (hi : PInv R s) (hl : R.length ≤ 100000) :
    Calls Try.prog 47 #[.pointer (some ⟨c, 0, none⟩)] w (Ret (.int .i64 s) (Same w)) := by
  obtain ⟨a, cap, c0, hcs⟩ := h.cells
  have HCS := Lib.hid hcs
  have HI := Lib.hid hi
  have hbig := hi.2.2
  clear hcs h hi
  go_enter Try.func47, Try.ntmps47
  go_wp2_with fail
  go_loopw [3, 4] (fun v3 v4 wr => ∃ (r : Nat) (t : Int), r ≤ R.length ∧ v4 = .int .i64 r ∧ v3 = .int .i64 t ∧ t = ((R.take r).map (·.2)).sum ∧ wr = w) (fun _ v4 _ => 100000 - (RowKit.intOf v4).toNat)
  case atStart => exact ⟨0, 0, by omega, rfl, rfl, by simp, rfl⟩
  case round =>
    obtain ⟨r, t, hr, rfl, rfl, ht, rfl⟩ := hrel
    have r0 : (0 : Int) ≤ (r : Int) := by omega
    by_cases hlr : r < R.length
    · have r1 : (r : Int) < (R.length : Int) := by omega
      obtain ⟨q, hq⟩ : ∃ q, R[r]? = some q := ⟨_, List.getElem?_eq_getElem hlr⟩
      obtain ⟨g, rfl, c1, c2⟩ := HCS.out r q hq
      have b1 := take_bd HI.out r
      have b2 := take_bd HI.out (r + 1)
      have e2 := take_sum hq
      rw [← ht] at b1 e2
      rw [e2] at b2
      have hw : wrap64 (t + q.2) = t + q.2 := IntWalk.wrap64_in _ (by omega)
      have E2 := Lib.hid e2
      have HW := Lib.hid hw
      clear hq e2 ht b1 b2 hw
      go_wp2_with fail
      exact ⟨⟨r + 1, wrap64 (t + q.2), by omega, by simp, by first | rfl | simp, by rw [HW.out, E2.out], by first | rfl | trivial⟩, by simp only [RowKit.intOf]; omega⟩
    · obtain rfl : r = R.length := by omega
      rw [List.take_length, HI.out.2.1] at ht
      subst ht
      go_wp2_with fail
      go_ret
      exact ⟨rfl, rfl⟩
set_option maxRecDepth 100000 in
set_option maxHeartbeats 4000000 in
theorem set_ref (c : Nat) (R : Pts) (F : Heaplet) (who n : Int) (w : World) (h : RefIs c R F w) (hl : R.length ≤ 100000) :
    Calls Try.prog 62 #[.pointer (some ⟨c, 0, none⟩), .int .i64 who, .int .i64 n] w (Ret (.tuple #[]) (RefIs c (setR who n R) F)) := by
  obtain ⟨v0, h0, c0, hv0, ho⟩ := h.out
  have HO := Lib.hid ho
  have HV := Lib.hid hv0
  clear h ho hv0
  obtain ⟨d0, hd0, hd1⟩ : ∃ d0 : Bool, (n == 0) = d0 ∧ decide (n = 0) = d0 := ⟨_, rfl, by by_cases e : n = 0 <;> simp [e]⟩
  have HD1 := Lib.hid hd1
  clear hd1
  go_enter Try.func62, Try.ntmps62
  go_wp2_with fail
  clear hd0
  go_loopw [6, 7, 8] (fun v6 v7 v8 wr => ∃ (r : Nat) (d : Bool) (l : Pts), r ≤ R.length ∧ v7 = .bool d ∧ v8 = .int .i64 r ∧ foldS who n (R.take r) = (d, l) ∧ OutIs c v0 h0 v6 l F wr) (fun _ _ v8 _ => 100000 - (RowKit.intOf v8).toNat)
  case atStart => exact ⟨0, d0, [], by omega, rfl, rfl, by simp [foldS, HD1.out], HO.out⟩
  case round =>
    clear HO c0
    obtain ⟨r, d, l, hr, rfl, rfl, hf, ho⟩ := hrel
    have r0 : (0 : Int) ≤ (r : Int) := by omega
    have hll : l.length ≤ 200000 := by
      have := foldS_len who n (R.take r)
      rw [hf, List.length_take] at this
      simp only at this
      omega
    obtain ⟨a, cap, rfl, hcs⟩ := ho.old HV.out
    have c0 := ho.cell0
    have f0 := ho.froz
    by_cases hlr : r < R.length
    · have r1 : (r : Int) < (R.length : Int) := by omega
      obtain ⟨q, hq⟩ : ∃ q, R[r]? = some q := ⟨_, List.getElem?_eq_getElem hlr⟩
      obtain ⟨g, rfl, c1, c2⟩ := hcs r q hq
      have hst := foldS_step (who := who) (n := n) hq
      rw [hf] at hst
      by_cases hA : d = false ∧ who < q.1
      · obtain ⟨rfl, hpq⟩ := hA
        have hne : ¬ q.1 = who := by omega
        have hne' : (q.1 == who) = false := by simpa using hne
        have hst2 : foldS who n (R.take (r + 1)) = (true, (l ++ [(who, n)]) ++ [q]) := by rw [hst]; simp [stepS, hpq, hne]
        obtain ⟨v', w', hap, ho'⟩ := ho.push (who, n) (by omega)
        obtain ⟨v2, w2, hap2, ho2⟩ := ho'.push q (by rw [List.length_append]; simp; omega)
        obtain ⟨a', cap', e', hcs'⟩ := ho'.old HV.out
        cases e'
        obtain ⟨g', e', d1, d2⟩ := hcs' r q hq
        cases e'
        have d0 := ho'.cell0
        obtain ⟨q1, q2⟩ := q
        have HAP : ∀ ty, (Builtin.append_ #[77, 77] ty #[_, .slice (some ⟨wr.heap.size, 0, none⟩) 1 1]).run Try.prog (wr.alloc (.cells #[kI who, kI n] 81)) = .ok v' w' := hap
        have HAP2 : ∀ ty, (Builtin.append_ #[77, 77] ty #[v', .slice (some ⟨w'.heap.size, 0, none⟩) 1 1]).run Try.prog (w'.alloc (.cells #[kI q1, kI q2] 81)) = .ok v2 w2 := hap2
        have HAP := Lib.hid HAP
        have HAP2 := Lib.hid HAP2
        have Fin := Lib.hid ho2
        have HS := Lib.hid hst2
        simp only at hpq hne hne' c1 c2 d1 d2
        clear ho ho' ho2 hcs hcs' hap hap2 hst hst2 hf hq hne HD1
        go_wp2_with (at_builtin; first | refine wpList_append_run rfl _ _ _ _ rfl _ _ _ _ rfl rfl HAP.out ?_ | refine wpList_append_run rfl _ _ _ _ rfl _ _ _ _ rfl rfl HAP2.out ?_)
        exact ⟨⟨r + 1, true, _, by omega, rfl, by simp, HS.out, Fin.out⟩, by simp only [RowKit.intOf]; omega⟩
      · have hc : d = true ∨ (d = false ∧ ¬ who < q.1) := by
          cases d
          · exact .inr ⟨rfl, fun e => hA ⟨rfl, e⟩⟩
          · exact .inl rfl
        by_cases hne : q.1 = who
        · have hne' : (q.1 == who) = true := by simpa using hne
          rcases hc with rfl | ⟨rfl, hpq⟩
          · have hst2 : foldS who n (R.take (r + 1)) = (true, l) := by rw [hst]; simp [stepS, hne]
            have Fin := Lib.hid ho
            have HS := Lib.hid hst2
            clear ho hcs hst hst2 hf hq hne HD1 hA
            go_wp2_with fail
            exact ⟨⟨r + 1, true, _, by omega, rfl, by simp, HS.out, Fin.out⟩, by simp only [RowKit.intOf]; omega⟩
          · have hst2 : foldS who n (R.take (r + 1)) = (true, l ++ [(who, n)]) := by rw [hst]; simp [stepS, hne]
            obtain ⟨v', w', hap, ho'⟩ := ho.push (who, n) (by omega)
            have HAP : ∀ ty, (Builtin.append_ #[77, 77] ty #[_, .slice (some ⟨wr.heap.size, 0, none⟩) 1 1]).run Try.prog (wr.alloc (.cells #[kI who, kI n] 81)) = .ok v' w' := hap
            have HAP := Lib.hid HAP
            have Fin := Lib.hid ho'
            have HS := Lib.hid hst2
            clear ho ho' hcs hap hst hst2 hf hq hne HD1 hA
            go_wp2_with (at_builtin; refine wpList_append_run rfl _ _ _ _ rfl _ _ _ _ rfl rfl HAP.out ?_)
            exact ⟨⟨r + 1, true, _, by omega, rfl, by simp, HS.out, Fin.out⟩, by simp only [RowKit.intOf]; omega⟩
        · have hne' : (q.1 == who) = false := by simpa using hne
          have hst2 : foldS who n (R.take (r + 1)) = (d, l ++ [q]) := by
            rw [hst]
            rcases hc with rfl | ⟨rfl, hpq⟩
            · simp [stepS, hne]
            · simp [stepS, hne, hpq]
          obtain ⟨v', w', hap, ho'⟩ := ho.push q (by omega)
          obtain ⟨q1, q2⟩ := q
          have HAP : ∀ ty, (Builtin.append_ #[77, 77] ty #[_, .slice (some ⟨wr.heap.size, 0, none⟩) 1 1]).run Try.prog (wr.alloc (.cells #[kI q1, kI q2] 81)) = .ok v' w' := hap
          have HAP := Lib.hid HAP
          have Fin := Lib.hid ho'
          have HS := Lib.hid hst2
          simp only at hne hne' hc c1 c2
          clear ho ho' hcs hap hst hst2 hf hq hne HD1 hA
          rcases hc with rfl | ⟨rfl, hpq⟩
          all_goals
            go_wp2_with (at_builtin; refine wpList_append_run rfl _ _ _ _ rfl _ _ _ _ rfl rfl HAP.out ?_)
            exact ⟨⟨r + 1, _, _, by omega, rfl, by simp, HS.out, Fin.out⟩, by simp only [RowKit.intOf]; omega⟩
    · obtain rfl : r = R.length := by omega
      rw [List.take_length] at hf
      cases d with
      | false =>
        have he : setR who n R = l ++ [(who, n)] := by unfold setR; rw [hf]; simp
        obtain ⟨v', w', hap, ho'⟩ := ho.push (who, n) (by omega)
        obtain ⟨a4, ca4, rfl⟩ := ho'.form
        have e0 := ho'.cell0
        have e1 := ho'.froz
        have fin := ho'.take
        have HE := Lib.hid he
        simp only [List.length_append, List.length_cons, List.length_nil, Nat.zero_add] at fin
        have HAP : ∀ ty, (Builtin.append_ #[77, 77] ty #[_, .slice (some ⟨wr.heap.size, 0, none⟩) 1 1]).run Try.prog (wr.alloc (.cells #[kI who, kI n] 81)) = .ok _ w' := hap
        have HAP := Lib.hid HAP
        have Fin := Lib.hid fin
        clear ho ho' hcs hap fin hlr he hf HD1
        go_wp2_with (at_builtin; refine wpList_append_run rfl _ _ _ _ rfl _ _ _ _ rfl rfl HAP.out ?_)
        refine bodyPost_end (results_none rfl _ _ _) rfl ?_
        exact ⟨rfl, by rw [HE.out]; exact Fin.out⟩
      | true =>
        have he : setR who n R = l := by unfold setR; rw [hf]; simp
        obtain ⟨a4, ca4, rfl⟩ := ho.form
        have fin := ho.take
        have HE := Lib.hid he
        have Fin := Lib.hid fin
        clear ho hcs fin hlr he hf HD1
        go_wp2_with fail
        refine bodyPost_end (results_none rfl _ _ _) rfl ?_
        exact ⟨rfl, by rw [HE.out]; exact Fin.out⟩
end Go.Proofs.Ytbjomkbiljpjmaa
