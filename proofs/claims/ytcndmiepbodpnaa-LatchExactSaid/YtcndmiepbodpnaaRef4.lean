/- The reference's locks: Grant walked. Conditions: none. -/
import Derived.Test.YtcndmiepbodpnaaRef3
namespace Go.Proofs.Ytcndmiepbodpnaa
open Go Go.MapKept Go.RowKit Go.Proofs

/-- How far the new list is: the new lock is in it, or not yet. -/
def InsI (p : Int) (k : Lk) (R : Lks) (r : Nat) (d : Bool) (l : Lks) : Prop :=
  (d = false ∧ (∀ q ∈ R.take r, ¬ p < q.1) ∧ l = R.take r) ∨ (d = true ∧ (∃ q ∈ R.take r, p < q.1) ∧ l = insR p k (R.take r))
theorem InsI.zero (p : Int) (k : Lk) (R : Lks) : InsI p k R 0 false [] := .inl ⟨rfl, by simp, by simp⟩
theorem InsI.len {p : Int} {k : Lk} {R : Lks} {r : Nat} {d : Bool} {l : Lks} (h : InsI p k R r d l) : l.length ≤ R.length + 1 := by
  rcases h with ⟨_, _, rfl⟩ | ⟨_, _, rfl⟩
  · rw [List.length_take]; omega
  · rw [insR_len, List.length_take]; omega
set_option maxRecDepth 100000 in
set_option maxHeartbeats 4000000 in
theorem grant_ref (c : Nat) (R : Lks) (F : Heaplet) (p : Int) (x : Bool) (w : World) (h : RefIs c R F w) (hl : R.length ≤ 100000) :
    Calls Try.prog 14 #[.pointer (some ⟨c, 0, none⟩), .int .i64 p, .bool x] w (Ret (.tuple #[]) (RefIs c (grantR R p x) F)) := by
  have HA := Lib.hid (at_ref c R F p w h hl)
  unfold grantR
  cases hk : getL p R with
  | some k =>
    have e : atR R p = (posL p R : Int) := by unfold atR; rw [hk]
    have hps := putL_set p { k with x := x } k R hk
    obtain ⟨hlt, hpk⟩ := pos_lt hk
    obtain ⟨ad, cap, c0, hcs⟩ := h.cells
    obtain ⟨g, rfl, fz, _, c1, _, _⟩ := hcs _ _ hpk
    generalize posL p R = i at *
    have i0 : (0 : Int) ≤ (i : Int) := by omega
    have i1 : (i : Int) < (R.length : Int) := by omega
    have f1 := fz (i * 4 + 1)
    have s1 := h.setAt hpk (f := 1) (q' := (p, { k with x := x })) (v := .bool x) (by decide) rfl c0
    rw [← hps] at s1
    have S1 := Lib.hid s1
    clear hcs h hk hpk fz hps s1
    go_enter Try.func14, Try.ntmps14
    go_wp2_with fail
    refine (HA.out).mono ?_
    rintro _ w1 ⟨rfl, rfl⟩
    rw [e]
    go_wp2_with fail
    refine bodyPost_ret (results_none rfl _ _ _) rfl ?_
    exact ⟨rfl, S1.out⟩
  | none =>
    have e : atR R p = -1 := by unfold atR; rw [hk]
    obtain ⟨v0, h0, c0, hv0, ho⟩ := h.out
    have HO := Lib.hid ho
    have HV := Lib.hid hv0
    clear h hk ho hv0
    go_enter Try.func14, Try.ntmps14
    go_wp2_with fail
    refine (HA.out).mono ?_
    rintro _ w1 ⟨rfl, rfl⟩
    rw [e]
    go_wp2_with fail
    go_loopw [7, 8, 9] (fun v7 v8 v9 wr => ∃ (r : Nat) (d : Bool) (l : Lks), r ≤ R.length ∧ v8 = .bool d ∧ v9 = .int .i64 r ∧ InsI p ⟨x, 0, 0⟩ R r d l ∧ OutIs c v0 h0 v7 l F wr) (fun _ _ v9 _ => 100000 - (RowKit.intOf v9).toNat)
    case atStart => exact ⟨0, false, [], by omega, rfl, rfl, InsI.zero _ _ _, HO.out⟩
    case round =>
      clear HO c0 HA
      obtain ⟨r, d, l, hr, rfl, rfl, hI, ho⟩ := hrel
      have r0 : (0 : Int) ≤ (r : Int) := by omega
      have hll := hI.len
      obtain ⟨a, cap, rfl, hcs⟩ := ho.old HV.out
      have c0 := ho.cell0
      have f0 := ho.froz
      by_cases hlr : r < R.length
      · have r1 : (r : Int) < (R.length : Int) := by omega
        obtain ⟨q, hq⟩ : ∃ q, R[r]? = some q := ⟨_, List.getElem?_eq_getElem hlr⟩
        obtain ⟨g, rfl, c1, c2, c3, c4⟩ := hcs r q hq
        have htk : R.take (r + 1) = R.take r ++ [q] := by rw [List.take_add_one, hq]; rfl
        by_cases hnew : d = false ∧ p < q.1
        · obtain ⟨rfl, hpq⟩ := hnew
          have hI2 : InsI p ⟨x, 0, 0⟩ R (r + 1) true ((l ++ [(p, ⟨x, 0, 0⟩)]) ++ [q]) := by
            rcases hI with ⟨_, h1, rfl⟩ | ⟨h1, _⟩
            · refine .inr ⟨rfl, ⟨q, by rw [htk]; simp, hpq⟩, ?_⟩
              rw [htk, insR_not _ _ _ _ h1]
              simp [insR, hpq]
            · cases h1
          obtain ⟨v', w', hap, ho'⟩ := ho.push (p, ⟨x, 0, 0⟩) (by omega)
          obtain ⟨v2, w2, hap2, ho2⟩ := ho'.push q (by rw [List.length_append]; simp; omega)
          obtain ⟨a', cap', e', hcs'⟩ := ho'.old HV.out
          cases e'
          obtain ⟨g', e', d1, d2, d3, d4⟩ := hcs' r q hq
          cases e'
          have d0 := ho'.cell0
          obtain ⟨q1, kx, ku, kw⟩ := q
          have HAP : ∀ ty, (Builtin.append_ #[41, 41] ty #[_, .slice (some ⟨wr.heap.size, 0, none⟩) 1 1]).run Try.prog (wr.alloc (.cells #[kI p, .bool x, kI 0, kI 0] 49)) = .ok v' w' := hap
          have HAP2 : ∀ ty, (Builtin.append_ #[41, 41] ty #[v', .slice (some ⟨w'.heap.size, 0, none⟩) 1 1]).run Try.prog (w'.alloc (.cells #[kI q1, .bool kx, kI ku, kI kw] 49)) = .ok v2 w2 := hap2
          have HAP := Lib.hid HAP
          have HAP2 := Lib.hid HAP2
          have Fin := Lib.hid ho2
          have HI := Lib.hid hI2
          clear ho ho' ho2 hcs hcs' htk hap hap2 hI hI2
          go_wp2_with (at_builtin; first | refine wpList_append_run rfl _ _ _ _ rfl _ _ _ _ rfl rfl HAP.out ?_ | refine wpList_append_run rfl _ _ _ _ rfl _ _ _ _ rfl rfl HAP2.out ?_)
          exact ⟨⟨r + 1, true, _, by omega, rfl, by simp, HI.out, Fin.out⟩, by simp only [RowKit.intOf]; omega⟩
        · obtain ⟨v', w', hap, ho'⟩ := ho.push q (by omega)
          have hI2 : InsI p ⟨x, 0, 0⟩ R (r + 1) d (l ++ [q]) := by
            rcases hI with ⟨rfl, h1, rfl⟩ | ⟨rfl, ⟨y, hy, hpy⟩, rfl⟩
            · refine .inl ⟨rfl, fun y hy => ?_, htk.symm⟩
              rw [htk, List.mem_append, List.mem_singleton] at hy
              rcases hy with hy | rfl
              · exact h1 y hy
              · exact fun e => hnew ⟨rfl, e⟩
            · refine .inr ⟨rfl, ⟨y, by rw [htk]; exact List.mem_append_left _ hy, hpy⟩, ?_⟩
              rw [htk, insR_done _ _ _ _ ⟨y, hy, hpy⟩]
          have hc : d = true ∨ (d = false ∧ ¬ p < q.1) := by
            cases d
            · exact .inr ⟨rfl, fun e => hnew ⟨rfl, e⟩⟩
            · exact .inl rfl
          obtain ⟨q1, kx, ku, kw⟩ := q
          have HAP : ∀ ty, (Builtin.append_ #[41, 41] ty #[_, .slice (some ⟨wr.heap.size, 0, none⟩) 1 1]).run Try.prog (wr.alloc (.cells #[kI q1, .bool kx, kI ku, kI kw] 49)) = .ok v' w' := hap
          have HAP := Lib.hid HAP
          have Fin := Lib.hid ho'
          have HI := Lib.hid hI2
          clear ho ho' hcs htk hap hI hI2 hnew
          rcases hc with rfl | ⟨rfl, hpq⟩
          all_goals
            go_wp2_with (at_builtin; refine wpList_append_run rfl _ _ _ _ rfl _ _ _ _ rfl rfl HAP.out ?_)
            exact ⟨⟨r + 1, _, _, by omega, rfl, by simp, HI.out, Fin.out⟩, by simp only [RowKit.intOf]; omega⟩
      · obtain rfl : r = R.length := by omega
        rcases hI with ⟨rfl, h1, rfl⟩ | ⟨rfl, h1, rfl⟩
        · rw [List.take_length] at h1 ho hll
          have hi := insR_not p ⟨x, 0, 0⟩ [] R h1
          rw [List.append_nil] at hi
          rw [show insR p ⟨x, 0, 0⟩ [] = [(p, ⟨x, 0, 0⟩)] from rfl] at hi
          have HII := Lib.hid hi
          obtain ⟨v', w', hap, ho'⟩ := ho.push (p, ⟨x, 0, 0⟩) (by omega)
          obtain ⟨a4, ca4, rfl⟩ := ho'.form
          have d0 := ho'.cell0
          have d1 := ho'.froz
          have fin := ho'.take
          have HAP : ∀ ty, (Builtin.append_ #[41, 41] ty #[_, .slice (some ⟨wr.heap.size, 0, none⟩) 1 1]).run Try.prog (wr.alloc (.cells #[kI p, .bool x, kI 0, kI 0] 49)) = .ok _ w' := hap
          have HAP := Lib.hid HAP
          have Fin := Lib.hid fin
          clear ho ho' hcs hap fin hlr h1 hi
          go_wp2_with (at_builtin; refine wpList_append_run rfl _ _ _ _ rfl _ _ _ _ rfl rfl HAP.out ?_)
          refine bodyPost_end (results_none rfl _ _ _) rfl ?_
          have y := Fin.out
          simp only [List.length_append, List.length_cons, List.length_nil, Nat.zero_add] at y
          rw [← HII.out] at y
          exact ⟨rfl, y⟩
        · rw [List.take_length] at h1 ho
          obtain ⟨a4, ca4, rfl⟩ := ho.form
          have fin := ho.take
          have Fin := Lib.hid fin
          clear ho hcs fin hlr h1
          go_wp2_with fail
          refine bodyPost_end (results_none rfl _ _ _) rfl ?_
          exact ⟨rfl, Fin.out⟩
end Go.Proofs.Ytcndmiepbodpnaa
