/- The reference's locks: append, drop, Call walked. Conditions: none. -/
import Derived.Test.YtcndmiepbodpnaaRef2
namespace Go.Proofs.Ytcndmiepbodpnaa
open Go Go.MapKept Go.RowKit Go.Proofs

theorem infoLock : (Try.prog.info? 49).map (fun i => (i.zero, i.size, i.bytes)) = some (some (.agg #[.int .i64 0, .bool false, .int .i64 0, .int .i64 0]), 4, 32) := by kernel_rfl
/-- What is built beside: a slice v3 of l. -/
def OutIs (c : Nat) (v0 : Value) (h0 : Heaplet) (v3 : Value) (l : Lks) (F : Heaplet) (w : World) : Prop :=
  ∃ h3, SliceIs 49 4 v3 l.length (flatR l) h3 ∧ Sat w (.blk c (.cells #[v0] 43) :: (h0 ++ (h3 ++ F)))
theorem sat_push {x : Nat} {A B h3 : Heaplet} {w : World} {v3 : Value} {l : Lks} {q : Int × Lk} (hs : Sat w (.blk x (.cells (flatK q).toArray 49) :: (A ++ (h3 ++ B))))
    (hv : SliceIs 49 4 v3 l.length (flatR l) h3) (hl : l.length + 1 ≤ 1000000) :
    ∃ v' w' h', (∀ ty, (Builtin.append_ #[41, 41] ty #[v3, .slice (some ⟨x, 0, none⟩) 1 1]).run Try.prog w = .ok v' w') ∧ SliceIs 49 4 v' (l ++ [q]).length (flatR (l ++ [q])) h' ∧ Sat w' (A ++ (h' ++ B)) := by
  obtain ⟨i0, hi, hz, hsize, hby⟩ := info_parts infoLock
  have s1 : Sat w (h3 ++ (A ++ (.blk x (.cells (flatK q).toArray 49) :: B))) := by
    refine hs.perm ?_
    have p1 : (HItem.blk x (.cells (flatK q).toArray 49) :: (A ++ (h3 ++ B))).Perm (A ++ (h3 ++ (.blk x (.cells (flatK q).toArray 49) :: B))) :=
      (List.perm_middle (l₁ := A)).symm.trans (List.Perm.append_left A (List.perm_middle (l₁ := h3)).symm)
    exact p1.trans (List.perm_append_comm_assoc A h3 _)
  have hx : w.heap[x]? = some (.cells (flatK q).toArray 49) := hs.h0
  have hnews : ∀ j u, (flatK q)[j]? = some u → w.cell? ((⟨x, 0, none⟩ : Addr).add j) = some u := by
    intro j u hu
    have hadd : (⟨x, 0, none⟩ : Addr).add j = ⟨x, j, none⟩ := by unfold Addr.add; split <;> simp_all
    rw [hadd, cell_of hx]
    simpa using hu
  obtain ⟨v', w', h', hr, hsl, hsat⟩ := sat_append (P := Try.prog) (ty := 0) Try.underlying41 hi hz hsize hby rfl (by decide) hv s1 ⟨x, 0, none⟩ 1 1 (flatK q) rfl hnews (by simp [flatK, Value.oneCell']) (by decide) (by unfold maxLen; omega) (by omega)
  refine ⟨v', w', h', fun ty => hr, ?_, ?_⟩
  · have e : flatR (l ++ [q]) = flatR l ++ flatK q := by simp [flatR]
    rw [e, List.length_append]
    exact hsl
  · have s2 : Sat w' (h' ++ (A ++ (.blk x (.cells (flatK q).toArray 49) :: B))) := hsat
    have s3 := s2.perm (List.perm_append_comm_assoc h' A _)
    have s4 := s3.perm (List.Perm.append_left A (List.perm_middle (l₁ := h')))
    exact (s4.perm List.perm_middle).tail
section
variable {c : Nat} {v0 v3 : Value} {h0 F : Heaplet} {l : Lks} {w : World}
theorem OutIs.push (h : OutIs c v0 h0 v3 l F w) (q : Int × Lk) (hl : l.length + 1 ≤ 1000000) :
    ∃ v' w', (∀ ty, (Builtin.append_ #[41, 41] ty #[v3, .slice (some ⟨w.heap.size, 0, none⟩) 1 1]).run Try.prog (w.alloc (.cells (flatK q).toArray 49)) = .ok v' w') ∧ OutIs c v0 h0 v' (l ++ [q]) F w' := by
  obtain ⟨h3, hv, hs⟩ := h
  obtain ⟨v', w', h', hr, hv', hs'⟩ := sat_push (A := .blk c (.cells #[v0] 43) :: h0) (B := F) (q := q) (hs.new _) hv hl
  exact ⟨v', w', hr, h', hv', hs'⟩
theorem OutIs.cell0 (h : OutIs c v0 h0 v3 l F w) : w.cell? ⟨c, 0, none⟩ = some v0 := by
  obtain ⟨h3, hv, hs⟩ := h
  rw [cell_of hs.h0]; rfl
theorem OutIs.froz (h : OutIs c v0 h0 v3 l F w) : w.frozen? ⟨c, 0, none⟩ = false := by
  obtain ⟨h3, hv, hs⟩ := h
  exact unfrozen_of hs.h0 0
/-- The new slice takes the old one's place. -/
theorem OutIs.take (h : OutIs c v0 h0 v3 l F w) : RefIs c l F (w.setCell ⟨c, 0, none⟩ v3) := by
  obtain ⟨h3, hv, hs⟩ := h
  have s1 := hs.setCell (i := 0) v3
  refine ⟨v3, h3, hv, ?_⟩
  have s2 := s1.perm (List.perm_append_comm_assoc [_] h0 _)
  exact s2.right
/-- An empty slice is made. -/
theorem RefIs.out {R : Lks} (h : RefIs c R F w) : ∃ v0 h0, w.cell? ⟨c, 0, none⟩ = some v0 ∧ SliceIs 49 4 v0 R.length (flatR R) h0 ∧ OutIs c v0 h0 (.slice (some ⟨w.heap.size, 0, none⟩) 0 0) [] F (w.alloc (.cells #[] 49)) := by
  obtain ⟨v, hh, hv, hs⟩ := h
  refine ⟨v, hh, by rw [cell_of hs.h0]; rfl, hv, [.blk w.heap.size (.cells #[] 49)], ⟨rfl, .inr ⟨w.heap.size, 0, #[], rfl, by simp, by simp [maxLen], rfl, rfl, rfl⟩⟩, ?_⟩
  have s1 := hs.new (.cells #[] 49)
  refine s1.perm ?_
  exact (List.perm_middle (l₁ := HItem.blk c (.cells #[v] 43) :: hh)).symm
/-- The old slice's cells, still. -/
theorem OutIs.old {R : Lks} (h : OutIs c v0 h0 v3 l F w) (hv0 : SliceIs 49 4 v0 R.length (flatR R) h0) :
    ∃ a cap, v0 = .slice a R.length cap ∧ ∀ i q, R[i]? = some q → ∃ g, a = some ⟨g, 0, none⟩ ∧ w.cell? ⟨g, i * 4, none⟩ = some (kI q.1) ∧ w.cell? ⟨g, i * 4 + 1, none⟩ = some (.bool q.2.x) ∧ w.cell? ⟨g, i * 4 + 2, none⟩ = some (kI q.2.used) ∧ w.cell? ⟨g, i * 4 + 3, none⟩ = some (kI q.2.wait) := by
  obtain ⟨h3, hv, hs⟩ := h
  obtain ⟨a, cap, rfl⟩ := slice_form hv0
  refine ⟨a, cap, rfl, fun i q hq => ?_⟩
  obtain ⟨e0, e1, e2, e3⟩ := flatR_get R i q hq
  rcases hv0.2 with ⟨_, e, _⟩ | ⟨g, cap', cur, e, _, _, _, _, rfl⟩
  · have := (List.getElem?_eq_some_iff.1 hq).1
    omega
  · cases e
    exact ⟨g, rfl, (hv0.cell hs.tail rfl e0).2.2, (hv0.cell hs.tail rfl e1).2.2, (hv0.cell hs.tail rfl e2).2.2, (hv0.cell hs.tail rfl e3).2.2⟩
theorem OutIs.form (h : OutIs c v0 h0 v3 l F w) : ∃ a cap, v3 = .slice a l.length cap := by
  obtain ⟨h3, hv, hs⟩ := h
  exact slice_form hv
end
theorem del_filter {p : Int} : ∀ {R : Lks}, (R.map (·.1)).Nodup → delL p R = R.filter fun q => q.1 != p
  | [], _ => rfl
  | q :: r, h => by
    simp only [List.map_cons, List.nodup_cons] at h
    by_cases e : q.1 = p
    · have hn : p ∉ r.map (·.1) := by rw [← e]; exact h.1
      have : (r.filter fun q => q.1 != p) = r := by
        rw [List.filter_eq_self]
        intro x hx
        have : x.1 ≠ p := fun u => hn (List.mem_map.2 ⟨x, hx, u⟩)
        simpa using this
      simp [delL, e, this]
    · simp [delL, e, del_filter h.2]
set_option maxRecDepth 100000 in
set_option maxHeartbeats 4000000 in
theorem drop_ref (c : Nat) (R : Lks) (F : Heaplet) (p : Int) (w : World) (h : RefIs c R F w) (hl : R.length ≤ 100000) (hn : (R.map (·.1)).Nodup) :
    Calls Try.prog 26 #[.pointer (some ⟨c, 0, none⟩), .int .i64 p] w (Ret (.tuple #[]) (RefIs c (delL p R) F)) := by
  rw [del_filter hn]
  obtain ⟨v0, h0, c0, hv0, ho⟩ := h.out
  have HO := Lib.hid ho
  have HV := Lib.hid hv0
  clear h hn ho hv0
  go_enter Try.func26, Try.ntmps26
  go_wp2_with fail
  go_loopw [4, 5] (fun v4 v5 wr => ∃ r : Nat, r ≤ R.length ∧ v5 = .int .i64 r ∧ OutIs c v0 h0 v4 ((R.take r).filter fun q => q.1 != p) F wr) (fun _ v5 _ => 100000 - (RowKit.intOf v5).toNat)
  case atStart => exact ⟨0, by omega, rfl, HO.out⟩
  case round =>
    clear HO c0
    obtain ⟨r, hr, rfl, ho⟩ := hrel
    have r0 : (0 : Int) ≤ (r : Int) := by omega
    obtain ⟨a, cap, rfl, hcs⟩ := ho.old HV.out
    have c0 := ho.cell0
    have f0 := ho.froz
    by_cases hlr : r < R.length
    · have r1 : (r : Int) < (R.length : Int) := by omega
      obtain ⟨q, hq⟩ : ∃ q, R[r]? = some q := ⟨_, List.getElem?_eq_getElem hlr⟩
      obtain ⟨g, rfl, c1, c2, c3, c4⟩ := hcs r q hq
      have htk : (R.take (r + 1)).filter (fun q => q.1 != p) = (R.take r).filter (fun q => q.1 != p) ++ (if q.1 != p then [q] else []) := by
        rw [List.take_add_one, hq, List.filter_append]
        congr 1
        by_cases e : q.1 = p <;> simp [e]
      have hlen : ((R.take r).filter fun q => q.1 != p).length + 1 ≤ 1000000 := by
        have := List.length_filter_le (fun q : Int × Lk => q.1 != p) (R.take r)
        rw [List.length_take] at this
        omega
      by_cases e : q.1 = p
      · have eb : (q.1 == p) = true := by simpa using e
        rw [if_neg (by simp [e]), List.append_nil] at htk
        have fin := ho
        rw [← htk] at fin
        have Fin := Lib.hid fin
        clear ho fin hcs htk
        go_wp2_with fail
        exact ⟨⟨r + 1, by omega, by simp, Fin.out⟩, by simp only [RowKit.intOf]; omega⟩
      · have eb : (q.1 == p) = false := by simpa using e
        rw [if_pos (by simp [e])] at htk
        obtain ⟨v', w', hap, ho'⟩ := ho.push q hlen
        rw [← htk] at ho'
        obtain ⟨q1, kx, ku, kw⟩ := q
        have Fin := Lib.hid ho'
        have HAP : ∀ ty, (Builtin.append_ #[41, 41] ty #[_, .slice (some ⟨wr.heap.size, 0, none⟩) 1 1]).run Try.prog (wr.alloc (.cells #[kI q1, .bool kx, kI ku, kI kw] 49)) = .ok v' w' := hap
        have HAP := Lib.hid HAP
        clear ho ho' hcs htk hap
        go_wp2_with (at_builtin; refine wpList_append_run rfl _ _ _ _ rfl _ _ _ _ rfl rfl HAP.out ?_)
        exact ⟨⟨r + 1, by omega, by simp, Fin.out⟩, by simp only [RowKit.intOf]; omega⟩
    · obtain rfl : r = R.length := by omega
      rw [List.take_length] at ho
      obtain ⟨a4, ca4, rfl⟩ := ho.form
      have fin := ho.take
      have Fin := Lib.hid fin
      clear ho hcs fin hlr
      go_wp2_with fail
      refine bodyPost_end (results_none rfl _ _ _) rfl ?_
      exact ⟨rfl, Fin.out⟩
set_option maxRecDepth 100000 in
set_option maxHeartbeats 4000000 in
theorem call_ref (c : Nat) (R : Lks) (F : Heaplet) (p : Int) (a : Bool) (w : World) (h : RefIs c R F w) (hl : R.length ≤ 100000) (hn : (R.map (·.1)).Nodup) (hg : GoodL R) :
    Calls Try.prog 16 #[.pointer (some ⟨c, 0, none⟩), .int .i64 p, .bool a] w (Ret (.int .i64 (callM R p a).1) (RefIs c (callM R p a).2 F)) := by
  have HA := Lib.hid (at_ref c R F p w h hl)
  unfold callM
  cases hk : getL p R with
  | none =>
    have e : atR R p = -1 := by unfold atR; rw [hk]
    have H := Lib.hid h
    clear h
    go_enter Try.func16, Try.ntmps16
    go_wp2_with fail
    refine (HA.out).mono ?_
    rintro _ w1 ⟨rfl, rfl⟩
    rw [e]
    go_wp2_with fail
    go_ret
    exact ⟨rfl, H.out⟩
  | some k =>
    have hgd := hg p k hk
    have e : atR R p = (posL p R : Int) := by unfold atR; rw [hk]
    have hps := fun k' => putL_set p k' k R hk
    have hself := put_self hk
    have HDR := Lib.hid (drop_ref c R F p w h hl hn)
    obtain ⟨hlt, hpk⟩ := pos_lt hk
    obtain ⟨ad, cap, c0, hcs⟩ := h.cells
    obtain ⟨g, rfl, fz, _, c1, c2, c3⟩ := hcs _ _ hpk
    generalize posL p R = i at *
    have i0 : (0 : Int) ≤ (i : Int) := by omega
    have i1 : (i : Int) < (R.length : Int) := by omega
    have f1 := fz (i * 4 + 1)
    have f3 := fz (i * 4 + 3)
    obtain ⟨kx, ku, kw⟩ := k
    obtain ⟨hg1, hg2⟩ := hgd
    simp only at c1 c2 c3 hg1 hg2 ⊢
    have s1 := h.setAt hpk (f := 1) (q' := (p, ⟨false, ku, kw⟩)) (v := .bool false) (by decide) rfl c0
    have s2 := fun x : Int => h.setAt hpk (f := 3) (q' := (p, ⟨kx, ku, x⟩)) (v := kI x) (by decide) rfl c0
    rw [← hps] at s1
    simp only [← hps] at s2
    have S1 := Lib.hid s1
    have S2 := Lib.hid s2
    have H := Lib.hid h
    have HS := Lib.hid hself
    clear hcs h hk hpk fz hps s1 s2 hself
    cases a with
    | true =>
      simp only [Bool.not_true, Bool.false_and, Bool.true_and, Bool.false_eq_true, if_false, if_true, decide_eq_true_eq]
      by_cases hp : 0 < ku
      · rw [if_pos hp]
        go_enter Try.func16, Try.ntmps16
        go_wp2_with fail
        refine (HA.out).mono ?_
        rintro _ w1 ⟨rfl, rfl⟩
        rw [e]
        go_wp2_with fail
        go_ret
        exact ⟨rfl, S2.out 2⟩
      · rw [if_neg hp]
        go_enter Try.func16, Try.ntmps16
        go_wp2_with fail
        refine (HA.out).mono ?_
        rintro _ w1 ⟨rfl, rfl⟩
        rw [e]
        go_wp2_with fail
        refine (HDR.out).mono ?_
        rintro _ w1 ⟨rfl, hd⟩
        have HD := Lib.hid hd
        clear hd
        go_wp2_with fail
        go_ret
        exact ⟨rfl, HD.out⟩
    | false =>
      cases kx with
      | false =>
        simp only [Bool.not_false, Bool.and_self, if_true]
        go_enter Try.func16, Try.ntmps16
        go_wp2_with fail
        refine (HA.out).mono ?_
        rintro _ w1 ⟨rfl, rfl⟩
        rw [e]
        go_wp2_with fail
        go_ret
        exact ⟨rfl, H.out⟩
      | true =>
        simp only [Bool.not_false, Bool.not_true, Bool.and_false, Bool.false_and, Bool.false_eq_true, if_false]
        by_cases h2 : ku = 2
        · rw [if_pos h2]
          have hb : (ku == 2) = true := by simpa using h2
          by_cases hw : kw = 0
          · have hwb : (kw == 0) = true := by simpa using hw
            have em : max kw 1 = 1 := by omega
            rw [em]
            clear h2 hw
            go_enter Try.func16, Try.ntmps16
            go_wp2_with fail
            refine (HA.out).mono ?_
            rintro _ w1 ⟨rfl, rfl⟩
            rw [e]
            go_wp2_with fail
            go_ret
            exact ⟨rfl, S2.out 1⟩
          · have hwb : (kw == 0) = false := by simpa using hw
            have em : max kw 1 = kw := by omega
            rw [em, HS.out]
            clear h2 hw em
            go_enter Try.func16, Try.ntmps16
            go_wp2_with fail
            refine (HA.out).mono ?_
            rintro _ w1 ⟨rfl, rfl⟩
            rw [e]
            go_wp2_with fail
            go_ret
            exact ⟨rfl, H.out⟩
        · rw [if_neg h2]
          have hb : (ku == 2) = false := by simpa using h2
          clear h2
          go_enter Try.func16, Try.ntmps16
          go_wp2_with fail
          refine (HA.out).mono ?_
          rintro _ w1 ⟨rfl, rfl⟩
          rw [e]
          go_wp2_with fail
          go_ret
          exact ⟨rfl, S1.out⟩
end Go.Proofs.Ytcndmiepbodpnaa
