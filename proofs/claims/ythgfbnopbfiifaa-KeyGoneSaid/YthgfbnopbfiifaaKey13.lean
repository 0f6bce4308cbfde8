/- DeleteFunc at requests, walked. Conditions: none. -/
import Derived.Test.YthgfbnopbfiifaaKey12
namespace Go.Proofs.Ythgfbnopbfiifaa
open Go Go.MapKept Go.RowKit Go.Proofs Go.Sort

theorem idx_cases (c : Int) (q : List Rq) : (idxM c q = -1 ∧ q.filter (keepP c) = q) ∨ ∃ i : Nat, idxM c q = i ∧ i < q.length ∧ (q.take (i + 1)).filter (keepP c) = q.take i := by
  unfold idxM
  cases h : q.findIdx? (fun r => decide (r.c = c)) with
  | none =>
    left
    refine ⟨rfl, ?_⟩
    rw [List.findIdx?_eq_none_iff] at h
    rw [List.filter_eq_self]
    intro r hr
    unfold keepP
    rw [h r hr]; rfl
  | some i =>
    right
    obtain ⟨hi, he, hno⟩ := List.findIdx?_eq_some_iff_getElem.1 h
    refine ⟨i, rfl, hi, ?_⟩
    rw [List.take_add_one, List.getElem?_eq_getElem hi, List.filter_append]
    have h1 : (q.take i).filter (keepP c) = q.take i := by
      rw [List.filter_eq_self]
      intro r hr
      obtain ⟨k, hk, e⟩ := List.mem_iff_getElem.1 hr
      rw [List.length_take] at hk
      have := hno k (by omega)
      rw [List.getElem_take] at e
      unfold keepP
      rw [← e]
      simpa using this
    rw [h1]
    have h2 : keepP c q[i] = false := by unfold keepP; rw [he]; rfl
    simp [h2]
set_option maxRecDepth 100000 in
set_option maxHeartbeats 8000000 in
theorem del_any {v : Value} {q : List Rq} {qh G : Heaplet} {cb : Nat} {c : Int} {w : World} (hv : QSl v q qh) (s : Sat w (qh ++ (.blk cb (.cells #[kI c] 3) :: G))) (hn : q.length ≤ 1000) :
    Calls Try.prog 34 #[v, isV cb] w fun e w' => ∃ v' qh', e = .returned v' ∧ QSl v' (q.filter (keepP c)) qh' ∧ Sat w' (qh' ++ (.blk cb (.cells #[kI c] 3) :: G)) := by
  obtain ⟨a, cap, rfl, hcap⟩ := hv.form
  have hrq : RqAt (qh ++ (.blk cb (.cells #[kI c] 3) :: G)) a q := by
    intro w' s' i r hr
    obtain ⟨a', cap', e, hc⟩ := q_cells rqC_len hv s'
    cases e
    obtain ⟨qg, off, e, _, hu⟩ := hc i r hr
    exact ⟨qg, off, e, hu 0 _ rfl, hu 1 _ rfl⟩
  have hidx := index_any (cap := cap) s hrq (fun w' s' => by rw [cell_of s'.right.h0]; rfl) hn
  rcases idx_cases c q with ⟨hi, hfl⟩ | ⟨i, hi, hil, hfl⟩
  · rw [hi] at hidx
    rw [hfl]
    have HIDX := Lib.hid hidx
    have HV := Lib.hid (And.intro hv s)
    clear hidx hv s hrq hi hfl
    unfold isV at *
    go_enter Try.func34, Try.ntmps34
    go_wp2_with fail
    refine (HIDX.out).mono ?_
    rintro e w1 ⟨rfl, hg⟩
    have FIN := Lib.hid (HV.out.2.grown hg)
    clear hg
    go_wp2_with fail
    go_ret
    exact ⟨_, qh, rfl, HV.out.1, FIN.out⟩
  · rw [hi] at hidx
    rcases hv.2 with ⟨e, e0, _⟩ | ⟨g, off, cap', cur, e, hnc, hcm, hsz, htk, rfl⟩
    · omega
    · cases e
      have hd0 : DqAt g off q.length q c cur.size (.blk cb (.cells #[kI c] 3) :: G) i (i + 1) w := by
        have hcell : ∀ (k : Nat) r, q[k]? = some r → cur[off + k * 2]? = some (kI r.c) ∧ cur[off + k * 2 + 1]? = some (.bool r.x) := by
          intro k r hr
          obtain ⟨qg, off', e, u0, u1⟩ := hrq w s k r hr
          cases e
          rw [cell_of s.h0] at u0 u1
          exact ⟨u0, u1⟩
        refine ⟨cur, rfl, by rw [hfl, List.length_take]; omega, fun k r hk => ?_, fun k r _ hr => hcell k r hr, s⟩
        rw [hfl, List.getElem?_take] at hk
        split at hk
        · exact hcell k r hk
        · cases hk
      have HD0 := Lib.hid hd0
      have HIDX := Lib.hid hidx
      have HN := Lib.hid hn
      have HC := Lib.hid (And.intro hnc (And.intro hcm hsz))
      have hin : ((i : Int) == -1) = false := by simp
      have hin2 : ((i : Int) = -1) = False := eq_false (by omega)
      clear hidx hv s hrq hi hd0 hn hnc hcm hsz htk hfl
      unfold isV at *
      generalize cur.size = sz at *
      go_enter Try.func34, Try.ntmps34
      go_wp2_with fail
      refine (HIDX.out).mono ?_
      rintro e w1 ⟨rfl, hg⟩
      have H0 := Lib.hid (HD0.out.grown hg)
      have i9 : (i : Int) ≤ 1000 := by have := HN.out; omega
      clear hg HIDX HD0
      go_wp2_with fail
      go_loopw [5, 6] (fun v5 v6 wr => ∃ i j : Nat, i < j ∧ j ≤ q.length ∧ v5 = .int .i64 i ∧ v6 = .int .i64 j ∧ DqAt g off q.length q c sz (.blk cb (.cells #[kI c] 3) :: G) i j wr) (fun _ v6 _ => 200000 - (RowKit.intOf v6).toNat)
      case atStart => exact ⟨i, i + 1, by omega, by omega, rfl, by simp, H0.out⟩
      case round =>
        clear H0 hin hin2 i9 hil
        obtain ⟨i, j, hij, hj, rfl, rfl, hd⟩ := hrel
        have j0 : (0 : Int) ≤ (j : Int) := by omega
        have i0 : (0 : Int) ≤ (i : Int) := by omega
        have j9 : (j : Int) ≤ 1000 := by have := HN.out; omega
        have i9 : (i : Int) < (q.length : Int) := by omega
        have i8 : (i : Int) ≤ (q.length : Int) := by omega
        have q9 : (q.length : Int) ≤ 1000 := by have := HN.out; omega
        by_cases hjl : j < q.length
        · have j1 : (j : Int) < (q.length : Int) := by omega
          obtain ⟨r, hr⟩ : ∃ r, q[j]? = some r := ⟨_, List.getElem?_eq_getElem hjl⟩
          obtain ⟨u0, u1⟩ := hd.cells hr
          obtain ⟨rc, rx⟩ := r
          have HD := Lib.hid hd
          have HR := Lib.hid hr
          clear hd hr
          go_upto_region 8 with (fail)
          have HD1 := Lib.hid (HD.out.grown (Grown.alloc wr (.cells #[kI rc, .bool rx] 59)))
          obtain ⟨n0, n1⟩ := two_cells ((sat_all wr).new (.cells #[kI rc, .bool rx] 59))
          have hcb : (wr.alloc (.cells #[kI rc, .bool rx] 59)).cell? ⟨cb, 0, none⟩ = some (kI c) := by rw [cell_of HD1.out.frame.h0]; rfl
          generalize wr.alloc (.cells #[.int .i64 rc, .bool rx] 59) = W1 at *
          generalize wr.heap.size = xb at *
          have HCALL := Lib.hid (isOf1_call ⟨rc, rx⟩ hcb)
          clear u0 u1 hcb HD
          go_wp2_with fail
          refine (HCALL.out).mono ?_
          rintro e w2 ⟨rfl, rfl⟩
          have HD2 := Lib.hid (HD1.out.grown (Grown.alloc W1 (.cells #[kI rc, .bool rx] 59)))
          have hs2 : (W1.alloc (.cells #[kI rc, .bool rx] 59)).cell? ⟨xb, 0, none⟩ = some (kI rc) ∧ (W1.alloc (.cells #[kI rc, .bool rx] 59)).cell? ⟨xb, 1, none⟩ = some (.bool rx) := by
            have g1 := Grown.alloc W1 (.cells #[kI rc, .bool rx] 59)
            have l0 := World.block_lt_of_cell? W1 ⟨xb, 0, none⟩ n0
            have hb := ((sat_all W1).grown g1)
            exact ⟨(hb.cellOld (a := ⟨xb, 0, none⟩) l0).trans n0, (hb.cellOld (a := ⟨xb, 1, none⟩) l0).trans n1⟩
          clear n0 n1 HD1 HCALL
          obtain ⟨n0, n1⟩ := hs2
          simp only at *
          generalize W1.alloc (.cells #[kI rc, .bool rx] 59) = W2 at *
          by_cases hrc : rc = c
          · have FIN := Lib.hid (HD2.out.skip HR.out (by unfold keepP; simp [hrc]))
            have hdc : decide (rc = c) = true := decide_eq_true hrc
            clear HD2 hrc
            rw [hdc]
            clear hdc
            go_wp2_with fail
            exact ⟨⟨i, j + 1, by omega, by omega, rfl, by simp, FIN.out⟩, by simp only [RowKit.intOf]; omega⟩
          · have FIN := Lib.hid (HD2.out.keep HR.out (by unfold keepP; simp [hrc]) (by omega) (by have := HC.out; omega))
            have hdc : decide (rc = c) = false := decide_eq_false hrc
            have f0 := HD2.out.fz (off + i * 2)
            have f1 := HD2.out.fz (off + i * 2 + 1)
            obtain ⟨x0, e0⟩ := Option.isSome_iff_exists.1 (HD2.out.has (off + i * 2) (by have := HC.out; omega))
            obtain ⟨x1, e1⟩ := Option.isSome_iff_exists.1 (HD2.out.has (off + i * 2 + 1) (by have := HC.out; omega))
            clear HD2 hrc
            rw [hdc]
            clear hdc
            go_wp2_with fail
            exact ⟨⟨i + 1, j + 1, by omega, by omega, by simp, by simp, FIN.out⟩, by simp only [RowKit.intOf]; omega⟩
        · obtain rfl : j = q.length := by omega
          obtain ⟨w', qh', hcl, hq', hs'⟩ := hd.fin (cap := cap) hij HC.out.1 HC.out.2.1 HC.out.2.2
          have FIN := Lib.hid (And.intro hq' hs')
          have hci : (cap = i) = False := eq_false (by have := HC.out; omega)
          have ic : (i : Int) ≤ (cap : Int) := by have := HC.out; omega
          have ic2 : i ≤ cap := by omega
          have iq2 : i ≤ q.length := by omega
          clear hd hq' hs' hj hjl
          go_wp2_with fail
          go_ret
          exact ⟨_, qh', rfl, FIN.out.1, FIN.out.2⟩
end Go.Proofs.Ythgfbnopbfiifaa
