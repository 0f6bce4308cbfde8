/- Who is in the way, walked. Conditions: none. -/
import Derived.Test.YthgfbnopbfiifaaKey2
import Derived.Test.YthgfbnopbfiifaaSortK14
namespace Go.Proofs.Ythgfbnopbfiifaa
open Go Go.MapKept Go.RowKit Go.Proofs Go.Sort

theorem infoInt : (Try.prog.info? 3).map (fun i => (i.zero, i.size, i.bytes)) = some (some (.int .i64 0), 1, 8) := by kernel_rfl
theorem is_push {w : World} {v : Value} {T : List Int} {h A B : Heaplet} {x : Nat} (q : Int) (hv : ISl v T h) (s : Sat w (.blk x (.cells #[kI q] 3) :: (A ++ (h ++ B)))) (hl : T.length + 1 ≤ 1000000) :
    ∃ a' c' w' h', (∀ ty, (Builtin.append_ #[39, 39] ty #[v, .slice (some ⟨x, 0, none⟩) 1 1]).run Try.prog w = .ok (.slice a' (T.length + 1) c') w') ∧ ISl (.slice a' (T.length + 1) c') (T ++ [q]) h' ∧ Sat w' (A ++ (h' ++ B)) := by
  obtain ⟨i0, hi, hz, hsize, hby⟩ := info_parts infoInt
  unfold ISl at *
  rw [← fm_one] at hv ⊢
  obtain ⟨v', w', h', h1, h2, h3⟩ := sl_push (P := Try.prog) (fl := fun x : Int => [kI x]) (fun _ => rfl) Try.underlying39 hi hz hsize hby rfl (by decide) hv q s (by simp [Value.oneCell']) (by unfold maxLen; omega) (by omega)
  obtain ⟨a', c', rfl⟩ := sl_form h2
  have e : (T ++ [q]).length = T.length + 1 := by simp
  rw [e] at h1 h2
  rw [e]
  exact ⟨a', c', w', h', h1, h2, h3⟩
/-- Where an int lies. -/
theorem is_cell {v : Value} {T : List Int} {h F : Heaplet} {w : World} (hv : ISl v T h) (s : Sat w (h ++ F)) {i : Nat} {q : Int} (hq : T[i]? = some q) {a : Option Addr} {n cap : Nat} (e : v = .slice a n cap) : ∃ g, a = some ⟨g, 0, none⟩ ∧ w.cell? ⟨g, i, none⟩ = some (kI q) := by
  unfold ISl at hv
  rw [← fm_one] at hv
  obtain ⟨a', cap', e', hc⟩ := sl_cells (fl := fun x : Int => [kI x]) (fun _ => rfl) hv s
  rw [e] at e'
  cases e'
  obtain ⟨g, ea, _, hu⟩ := hc i q hq
  exact ⟨g, ea, by simpa using hu 0 _ rfl⟩
def wayP (h : Hds) (r : Rq) (c : Int) : Bool := !decide (c = r.c) && (r.x || hasX h c)
theorem way_step (h : Hds) (r : Rq) (K0 : List Int) (j : Nat) (c : Int) (hc : K0[j]? = some c) : (K0.take (j + 1)).filter (wayP h r) = (K0.take j).filter (wayP h r) ++ (if wayP h r c = true then [c] else []) := by
  rw [List.take_add_one, hc, List.filter_append]
  congr 1
  cases e : wayP h r c <;> simp [e]
set_option maxRecDepth 100000 in
set_option maxHeartbeats 4000000 in
theorem inWay_any {g : Nat} {l : LkM} {h O : Heaplet} {w : World} (hl : LkP g l h) (s : Sat w (h ++ O)) (r : Rq) (hr : ∀ p ∈ l.holds, -9223372036854775808 ≤ p.1 ∧ p.1 ≤ 9223372036854775807) (hn : l.holds.length ≤ 1000) :
    Calls Try.prog 24 #[.pointer (some ⟨g, 0, none⟩), .agg #[.int .i64 r.c, .bool r.x]] w fun e w' => ∃ v vh, e = .returned v ∧ ISl v (wayM l.holds r) vh ∧ Sat w' (vh ++ (h ++ O)) := by
  obtain ⟨rc, rx⟩ := r
  obtain ⟨hm, es, clk, L, R, c0, hL, hM, hs0, _, _⟩ := lkp_map hl s
  have hkeys : L.map (·.1) = l.holds.map (·.1) := by rw [← hL, seen_keys]
  have hlen : L.length = l.holds.length := by rw [← hL]; unfold seenL; rw [List.length_map]
  have s1 := s.new (.cells #[kI rc, .bool rx] 59)
  have s2 := s1.new (.cells #[.map (some hm)] (Try.keysA_ren.t 23))
  have s3 := (hs0.new (.cells #[kI rc, .bool rx] 59)).new (.cells #[.map (some hm)] (Try.keysA_ren.t 23))
  have c1 : (w.alloc (.cells #[kI rc, .bool rx] 59)).cell? ⟨g, 0, none⟩ = some (.map (some hm)) := by
    obtain ⟨hm', es', clk', L', R', c0', _⟩ := lkp_map hl (O := O) s
    obtain ⟨hm2, a2, cap2, k0, _⟩ := lkp_open hl s1.tail
    obtain ⟨m', es2, clk2, L2, qv2, qh2, _, _, _, rfl⟩ := hl
    have e1 : w.cell? ⟨g, 0, none⟩ = some (.map (some m')) := by rw [cell_of s.h0]; rfl
    rw [c0] at e1
    rw [show (w.alloc (.cells #[kI rc, .bool rx] 59)).cell? ⟨g, 0, none⟩ = some (.map (some m')) from by rw [cell_of s1.h1]; rfl, e1]
  have hsk := sorted_key hM (w.heap.size + 1) hm ((w.alloc (.cells #[kI rc, .bool rx] 59)).alloc (.cells #[.map (some hm)] (Try.keysA_ren.t 23))) (by have := cell_of s2.h0 0; rw [World.size_alloc] at this; rw [this]; rfl) s3.h2 (fun p hp => by
    have hp1 : p.1 ∈ l.holds.map (·.1) := by rw [← hkeys]; exact List.mem_map.2 ⟨p, hp, rfl⟩
    obtain ⟨q, hq, e⟩ := List.mem_map.1 hp1
    rw [← e]
    exact hr q hq) (by omega)
  rw [hkeys, hlen] at hsk
  obtain ⟨K0, hK0⟩ : ∃ K0, sortK (l.holds.map (·.1)) = K0 := ⟨_, rfl⟩
  have hway : wayM l.holds ⟨rc, rx⟩ = K0.filter (wayP l.holds ⟨rc, rx⟩) := by rw [← hK0]; rfl
  have hkl : K0.length = l.holds.length := by rw [← hK0, (sortK_perm _).length_eq, List.length_map]
  have hmem : ∀ c ∈ K0, ∃ d, getL c l.holds = some d := by
    intro c hc
    rw [← hK0, (sortK_perm _).mem_iff] at hc
    cases e : getL c l.holds with
    | some d => exact ⟨d, rfl⟩
    | none => exact absurd hc (getL_none.1 e)
  rw [hK0] at hsk
  rw [← hkl] at hsk
  rw [hway]
  have HSK := Lib.hid hsk
  have HS2 := Lib.hid s2
  have HLK := Lib.hid hl
  have HMEM := Lib.hid hmem
  have HKL : Hid (K0.length ≤ 1000) := Lib.hid (by omega)
  clear hl s hr hn c0 hL hM hs0 hkeys hlen s1 s2 s3 hsk hway hkl hmem hK0
  go_enter Try.func24, Try.ntmps24
  go_wp2_with fail
  refine (keys_key _ _).mono ?_
  rintro e w1 ⟨rfl, rfl⟩
  go_wp2_with fail
  refine (HSK.out).mono ?_
  rintro e w2 ⟨v13, h13, rfl, hv13, hs13, _⟩
  obtain ⟨a13, c13, rfl⟩ := sl_form hv13
  have hS := hs13 _ HS2.out
  have h0 : Sat w2 ([] ++ (h13 ++ (.blk w.heap.size (.cells #[kI rc, .bool rx] 59) :: (h ++ O)))) := (hS.perm List.perm_middle).tail
  have H0 := Lib.hid h0
  have HV13 := Lib.hid hv13
  clear hs13 hS h0 hv13 HS2 HSK
  go_wp2_with fail
  generalize w.heap.size = xb at *
  go_loopw [5, 15] (fun v5 v15 wr => ∃ (j : Nat) (A : List Int) (oh : Heaplet), j ≤ K0.length ∧ v15 = .int .i64 j ∧ A = (K0.take j).filter (wayP l.holds ⟨rc, rx⟩) ∧ ISl v5 A oh ∧ Sat wr (oh ++ (h13 ++ (.blk xb (.cells #[kI rc, .bool rx] 59) :: (h ++ O))))) (fun _ v15 _ => 200000 - (RowKit.intOf v15).toNat)
  case atStart => exact ⟨0, [], [], by omega, rfl, rfl, SliceIs.nil _ _, H0.out⟩
  case round =>
    clear H0
    obtain ⟨j, A, oh, hj, rfl, hA, hv5, hg⟩ := hrel
    have j0 : (0 : Int) ≤ (j : Int) := by omega
    have j9 : (j : Int) ≤ 1000 := by have := HKL.out; omega
    obtain ⟨a5, c5, rfl⟩ := sl_form hv5
    have HV5 := Lib.hid hv5
    have HG := Lib.hid hg
    by_cases hjl : j < K0.length
    · have j1 : (j : Int) < (K0.length : Int) := by omega
      obtain ⟨c, hc⟩ : ∃ c, K0[j]? = some c := ⟨_, List.getElem?_eq_getElem hjl⟩
      have hst := way_step l.holds ⟨rc, rx⟩ K0 j c hc
      rw [← hA] at hst
      have hal : A.length + 1 ≤ 1000000 := by
        rw [hA]
        have h1 := List.length_filter_le (wayP l.holds ⟨rc, rx⟩) (K0.take j)
        rw [List.length_take] at h1
        omega
      obtain ⟨g13, rfl, u0⟩ := is_cell HV13.out hg.right hc rfl
      obtain ⟨d, hd⟩ := HMEM.out c (List.mem_of_getElem? hc)
      have n0 : wr.cell? ⟨xb, 0, none⟩ = some (kI rc) := by rw [cell_of hg.right.right.h0]; rfl
      have n1 : wr.cell? ⟨xb, 1, none⟩ = some (.bool rx) := by rw [cell_of hg.right.right.h0]; rfl
      obtain ⟨hm', a', cap', c0, _, _, hld, _⟩ := lkp_open HLK.out hg.right.right.tail
      have hh := hld c
      rw [hd] at hh
      obtain ⟨hg', k0, d0, _, _⟩ := hh
      have hxx : hasX l.holds c = d.x := by unfold hasX; rw [hd]; rfl
      have HXX := Lib.hid hxx
      have HST := Lib.hid hst
      have HAL := Lib.hid hal
      clear hc hst hA hv5 hal hd hld hxx
      obtain ⟨dx, hdx⟩ : ∃ dx, d.x = dx := ⟨_, rfl⟩
      rw [hdx] at d0 HXX
      clear hdx
      have HWP : Hid (wayP l.holds ⟨rc, rx⟩ c = (!decide (c = rc) && (rx || dx))) := Lib.hid (by unfold wayP; rw [HXX.out])
      rw [HWP.out] at HST
      clear HXX hg
      go_upto_region 5 with (fail)
      go_cut [37] (fun v37 wx => v37 = .bool (!decide (c = rc) && (rx || dx)) ∧ wx = wr)
      case first =>
        clear HST HWP
        by_cases hcr : c = rc
        · subst hcr
          go_wp2_with fail
          go_meet
          exact ⟨by simp, rfl⟩
        · have hcr1 : (c = rc) = False := eq_false hcr
          have hcr2 : (c != rc) = true := by simp [hcr]
          cases rx
          · go_wp2_with fail
            go_meet
            exact ⟨by simp [hcr], rfl⟩
          · go_wp2_with fail
            go_meet
            exact ⟨by simp [hcr], rfl⟩
      case rest =>
        obtain ⟨rfl, rfl⟩ := hcut
        clear n0 n1 c0 k0 d0
        obtain ⟨bt, hbt⟩ : ∃ bt, (!decide (c = rc) && (rx || dx)) = bt := ⟨_, rfl⟩
        rw [hbt] at HST ⊢
        clear hbt
        cases bt with
        | false =>
          have FIN := Lib.hid HG.out
          clear HG
          go_wp2_with fail
          exact ⟨⟨j + 1, A, oh, by omega, by simp, by rw [HST.out]; simp, HV5.out, FIN.out⟩, by simp only [RowKit.intOf]; omega⟩
        | true =>
          obtain ⟨p7, q7, w7, h7, hap, hv7, hs7⟩ := is_push (A := []) c HV5.out (HG.out.new (.cells #[kI c] 3)) HAL.out
          have HAP := Lib.hid hap
          have FIN := Lib.hid (And.intro hv7 hs7)
          clear hap hv7 hs7 HG HV5
          go_wp2_with (at_builtin; refine wpList_append_run rfl _ _ _ _ rfl _ _ _ _ rfl rfl HAP.out ?_)
          exact ⟨⟨j + 1, A ++ [c], h7, by omega, by simp, by rw [HST.out]; simp, FIN.out.1, FIN.out.2⟩, by simp only [RowKit.intOf]; omega⟩
    · obtain rfl : j = K0.length := by omega
      rw [List.take_length] at hA
      have hvf : ISl (.slice a5 A.length c5) (K0.filter (wayP l.holds ⟨rc, rx⟩)) oh := by rw [← hA]; exact HV5.out
      have FIN := Lib.hid (And.intro hvf (show Sat wr (oh ++ (h ++ O)) from (sat_ap (h1 := oh) (h2 := [_]) (sat_ap hg).right).tail))
      clear hA hg hv5 hjl j0 j9 hj hvf
      go_wp2_with fail
      go_ret
      exact ⟨_, oh, rfl, FIN.out.1, FIN.out.2⟩
end Go.Proofs.Ythgfbnopbfiifaa
