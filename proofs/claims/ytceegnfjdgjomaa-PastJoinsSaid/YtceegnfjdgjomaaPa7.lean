/- Lists of entries: Of, Needed walked. Conditions: none. -/
import Derived.Test.YtceegnfjdgjomaaPa6
namespace Go.Proofs.Ytceegnfjdgjomaa
open Go Go.MapKept Go.RowKit Go.Proofs Go.Sort

/-- A transaction's entries. -/
def ofM (l : List En) (t : Tx) : List En := l.filter fun x => decide (x.t = t) && goodM x
theorem ofM_step (l : List En) (t : Tx) (x : En) : ofM (l ++ [x]) t = ofM l t ++ (if (decide (x.t = t) && goodM x) = true then [x] else []) := by
  unfold ofM
  rw [List.filter_append]
  congr 1
  by_cases h : (decide (x.t = t) && goodM x) = true
  · simp [h]
  · simp [h]
theorem ofM_len (l : List En) (t : Tx) : (ofM l t).length ≤ l.length := List.length_filter_le _ _
theorem one_e (q : En) : ∀ u ∈ eC q, u.oneCell' = true := by
  intro u hu
  simp only [List.mem_cons, List.not_mem_nil, or_false] at hu
  rcases hu with rfl | rfl | rfl | rfl | rfl | rfl | rfl | rfl | rfl | rfl | rfl | rfl | rfl <;> rfl
theorem infoEn : (Try.prog.info? 43).map (fun i => (i.zero, i.size, i.bytes)) = some (some (.agg #[kI 0, kI 0, kI 0, kI 0, kI 0, kI 0, kI 0, kI 0, .bool false, .string ⟨#[]⟩, .bool false, .string ⟨#[]⟩, kI 0]), 13, 120) := by kernel_rfl
theorem en_push {R : List En} {v : Value} {h A B : Heaplet} {w : World} {x : Nat} (q : En) (hv : EnSl v R h) (s : Sat w (.blk x (eO q) :: (A ++ (h ++ B)))) (hlen : R.length + 1 ≤ 200000) :
    ∃ v' w' h', (∀ ty, (Builtin.append_ #[27, 27] ty #[v, .slice (some ⟨x, 0, none⟩) 1 1]).run Try.prog w = .ok v' w') ∧ EnSl v' (R ++ [q]) h' ∧ Sat w' (A ++ (h' ++ B)) := by
  obtain ⟨i0, hi, hz, hsize, hby⟩ := info_parts infoEn
  exact sl_push (P := Try.prog) eC_len Try.underlying27 hi hz hsize hby rfl (by decide) hv q s (one_e q) (by unfold maxLen; omega) (by omega)
set_option maxRecDepth 100000 in
set_option maxHeartbeats 4000000 in
theorem Of_any (v : Value) (l : List En) (t : Tx) (F : Heaplet) (w : World) (hs : Sat w F) (hE : EnsIn F v l) (hl : l.length ≤ 100000) (hf : FitL l) :
    Calls Try.prog 13 #[v, tV t] w fun e w' => ∃ v' h, e = .returned v' ∧ EnSl v' (ofM l t) h ∧ Sat w' (h ++ F) := by
  obtain ⟨a, cap, rfl, hc⟩ := hE
  have HC := Lib.hid hc
  have HFit := Lib.hid hf
  have hs1 : Sat (w.alloc (.cells #[kI t.c, kI t.e, kI t.n] 23)) ([] ++ (.blk w.heap.size (.cells #[kI t.c, kI t.e, kI t.n] 23) :: F)) := hs.new _
  have hn1 : EnSl (.slice none 0 0) (ofM [] t) [] := SliceIs.nil _ _
  have H0 := Lib.hid (And.intro hn1 hs1)
  have HEQ := Lib.hid eq_tx
  clear hc hs hs1 hf hn1
  go_enter Try.func13, Try.ntmps13
  go_wp2_with fail
  generalize w.alloc (.cells #[kI t.c, kI t.e, kI t.n] 23) = W0 at *
  generalize w.heap.size = m at *
  go_loopw [5, 10] (fun v5 v10 wr => ∃ (r : Nat) (h : Heaplet), r ≤ l.length ∧ v10 = .int .i64 r ∧ EnSl v5 (ofM (l.take r) t) h ∧ Sat wr (h ++ (.blk m (.cells #[kI t.c, kI t.e, kI t.n] 23) :: F))) (fun _ v10 _ => 200000 - (RowKit.intOf v10).toNat)
  case atStart => exact ⟨0, _, by omega, rfl, H0.out.1, H0.out.2⟩
  case round =>
    clear H0
    obtain ⟨r, h, hr, rfl, hv, hg⟩ := hrel
    have r0 : (0 : Int) ≤ (r : Int) := by omega
    by_cases hlr : r < l.length
    · have r1 : (r : Int) < (l.length : Int) := by omega
      obtain ⟨x, hx⟩ : ∃ x, l[r]? = some x := ⟨_, List.getElem?_eq_getElem hlr⟩
      obtain ⟨g, off, rfl, e0, e1, e2, e3, e4, e5, e6, e7, e8, e9, e10, e11, e12⟩ := HC.out wr hg.right.tail r x hx
      have htk : l.take (r + 1) = l.take r ++ [x] := by rw [List.take_add_one, hx]; rfl
      have hst := ofM_step (l.take r) t x
      rw [← htk] at hst
      have HST := Lib.hid hst
      have hfit := HFit.out.get hx
      have HX := Lib.hid hfit
      have HG := Lib.hid (hg.new (eO x))
      have HN := Lib.hid (enAt_new wr x)
      have HV := Lib.hid hv
      have hlen : (ofM (l.take r) t).length + 1 ≤ 200000 := by
        have := ofM_len (l.take r) t
        rw [List.length_take] at this
        omega
      have HLEN := Lib.hid hlen
      clear hx htk hg hfit hst hv hlen
      go_upto_region 5 with (fail)
      generalize wr.alloc (eO x) = W1 at *
      generalize wr.heap.size = g1 at *
      clear e0 e1 e2 e3 e4 e5 e6 e7 e8 e9 e10 e11 e12
      have hN := HN.out
      obtain ⟨n0, n1, n2, n3, n4, n5, n6, n7, n8, n9, n10, n11, n12⟩ := hN
      have m0 : W1.cell? ⟨m, 0, none⟩ = some (kI t.c) := by rw [cell_of HG.out.tail.right.h0]; rfl
      have m1 : W1.cell? ⟨m, 1, none⟩ = some (kI t.e) := by rw [cell_of HG.out.tail.right.h0]; rfl
      have m2 : W1.cell? ⟨m, 2, none⟩ = some (kI t.n) := by rw [cell_of HG.out.tail.right.h0]; rfl
      have heq := HEQ.out x.t t
      have hgd : ∀ W, (eqGuard .eql 23 (.tmp 15) (.tmp 16) (tV x.t) (tV t)).run Try.prog W = .ok () W := fun W => by first | rfl | (simp [go_sem, eqGuard])
      cases hbt : decide (x.t = t) with
      | false =>
        rw [hbt] at heq
        have hst := HST.out
        rw [hbt, Bool.false_and, if_neg (by simp), List.append_nil] at hst
        have FIN : Hid (EnSl u5 (ofM (l.take (r + 1)) t) h ∧ Sat W1 (h ++ (.blk m (.cells #[kI t.c, kI t.e, kI t.n] 23) :: F))) := Lib.hid ⟨by rw [hst]; exact HV.out, HG.out.tail⟩
        clear hst
        go_wp2_with fail
        exact ⟨⟨r + 1, h, by omega, by simp, FIN.out.1, FIN.out.2⟩, by simp only [RowKit.intOf]; omega⟩
      | true =>
        rw [hbt] at heq
        go_wp2_with fail
        refine (good_any x _ HX.out.1 HX.out.2).mono ?_
        rintro e w3 ⟨rfl, hg3⟩
        have HG3 := Lib.hid (HG.out.grown hg3)
        have HN3 := Lib.hid (HN.out.grown hg3)
        clear hg3 n0 n1 n2 n3 n4 n5 n6 n7 n8 n9 n10 n11 n12 m0 m1 m2
        clear HN HG
        cases hgo : goodM x with
        | false =>
          have hst := HST.out
          rw [hbt, hgo, Bool.and_false, if_neg (by simp), List.append_nil] at hst
          have FIN : Hid (EnSl u5 (ofM (l.take (r + 1)) t) h ∧ Sat w3 (h ++ (.blk m (.cells #[kI t.c, kI t.e, kI t.n] 23) :: F))) := Lib.hid ⟨by rw [hst]; exact HV.out, HG3.out.tail⟩
          clear hst
          go_wp2_with fail
          exact ⟨⟨r + 1, h, by omega, by simp, FIN.out.1, FIN.out.2⟩, by simp only [RowKit.intOf]; omega⟩
        | true =>
          have hst := HST.out
          rw [hbt, hgo, Bool.and_true, if_pos rfl] at hst
          obtain ⟨v7, w7, h7, hap, hv7, hs7⟩ := en_push (A := []) x HV.out (HG3.out.tail.new (eO x)) HLEN.out
          rw [← hst] at hv7
          have FIN := Lib.hid (And.intro hv7 (show Sat w7 (h7 ++ _) from hs7))
          have HAP := Lib.hid hap
          have hN := HN3.out
          obtain ⟨n0, n1, n2, n3, n4, n5, n6, n7, n8, n9, n10, n11, n12⟩ := hN
          clear hst hap hv7 hs7
          go_wp2_with (at_builtin; refine wpList_append_run rfl _ _ _ _ rfl _ _ _ _ rfl rfl HAP.out ?_)
          exact ⟨⟨r + 1, h7, by omega, by simp, FIN.out.1, FIN.out.2⟩, by simp only [RowKit.intOf]; omega⟩
    · obtain rfl : r = l.length := by omega
      rw [List.take_length] at hv
      have Fin := Lib.hid (And.intro hv hg)
      clear hv hg hlr
      go_wp2_with fail
      go_ret
      refine ⟨u5, h, rfl, Fin.out.1, ?_⟩
      exact (Fin.out.2.perm List.perm_middle).tail
/-- The number of the first entry that is needed. -/
def neededM (l : List En) (first : Int) : Int :=
  if withinM first 1 1099511627776 then (match l.findIdx? (fun x => goodM x && !endM l x.t) with | some i => first + i | none => 0) else 0
theorem needed_at {l : List En} {first : Int} {r : Nat} {x : En} (h1 : withinM first 1 1099511627776 = true) (hx : l[r]? = some x) (hp : (goodM x && !endM l x.t) = true) (hb : ∀ i y, i < r → l[i]? = some y → (goodM y && !endM l y.t) = false) : neededM l first = first + r := by
  unfold neededM
  rw [if_pos h1]
  have : l.findIdx? (fun x => goodM x && !endM l x.t) = some r := by
    rw [List.findIdx?_eq_some_iff_getElem]
    obtain ⟨hlt, e⟩ := List.getElem?_eq_some_iff.1 hx
    refine ⟨hlt, by rw [e]; exact hp, fun j hj => ?_⟩
    rw [hb j _ hj (List.getElem?_eq_getElem _)]
    simp
  rw [this]
theorem needed_none {l : List En} {first : Int} (h1 : withinM first 1 1099511627776 = true) (hb : ∀ i y, i < l.length → l[i]? = some y → (goodM y && !endM l y.t) = false) : neededM l first = 0 := by
  unfold neededM
  rw [if_pos h1]
  have : l.findIdx? (fun x => goodM x && !endM l x.t) = none := by
    rw [List.findIdx?_eq_none_iff]
    intro y hy
    obtain ⟨i, hi, e⟩ := List.getElem_of_mem hy
    exact hb i y hi (by rw [List.getElem?_eq_getElem hi, e])
  rw [this]
set_option maxRecDepth 100000 in
set_option maxHeartbeats 4000000 in
theorem Needed_any (v : Value) (l : List En) (first : Int) (F : Heaplet) (w : World) (hs : Sat w F) (hE : EnsIn F v l) (hl : l.length ≤ 100000) (hf : FitL l) :
    Calls Try.prog 14 #[v, .int .i64 first] w (Ret (.int .i64 (neededM l first)) (fun w' => Sat w' F)) := by
  have hfi := first_any first w
  cases h1 : withinM first 1 1099511627776 with
  | false =>
    rw [h1] at hfi
    have e0 : neededM l first = 0 := by unfold neededM; rw [h1]; rfl
    have HS := Lib.hid hs
    have E0 := Lib.hid e0
    have HFI := Lib.hid hfi
    clear hs hE hf hfi e0
    go_enter Try.func14, Try.ntmps14
    go_wp2_with (go_at_call 21; refine HFI.out.mono ?_; rintro e w3 ⟨rfl, rfl⟩)
    go_ret
    exact ⟨by rw [E0.out]; rfl, HS.out⟩
  | true =>
    rw [h1] at hfi
    have HFI := Lib.hid hfi
    have hb1 : 1 ≤ first ∧ first ≤ 1099511627776 := by simpa [withinM] using h1
    obtain ⟨fb1, fb2⟩ := hb1
    have HEE := Lib.hid (ended_any v l F w hs hE hl hf)
    have HE := Lib.hid hE
    have HFit := Lib.hid hf
    have H1 := Lib.hid h1
    obtain ⟨a, cap, rfl, hc⟩ := hE
    have HC := Lib.hid hc
    clear hfi hs hf h1 hc
    go_enter Try.func14, Try.ntmps14
    go_upto_region 3 with (go_at_call 21; refine HFI.out.mono ?_; rintro e w3 ⟨rfl, rfl⟩)
    go_wp2_with fail
    refine HEE.out.mono ?_
    rintro e w4 ⟨b, rfl, hem⟩
    have HEM := Lib.hid hem
    clear hem HEE HFI
    go_wp2_with fail
    go_loopw [15] (fun v15 wr => ∃ r : Nat, r ≤ l.length ∧ v15 = .int .i64 r ∧ EndMap b l F wr ∧ ∀ i y, i < r → l[i]? = some y → (goodM y && !endM l y.t) = false) (fun v15 _ => 200000 - (RowKit.intOf v15).toNat)
    case atStart => exact ⟨0, by omega, rfl, HEM.out, fun i y hi => by omega⟩
    case round =>
      clear HEM
      obtain ⟨r, hr, rfl, hg, hb⟩ := hrel
      have r0 : (0 : Int) ≤ (r : Int) := by omega
      have HB := Lib.hid hb
      clear hb
      by_cases hlr : r < l.length
      · have r1 : (r : Int) < (l.length : Int) := by omega
        obtain ⟨x, hx⟩ : ∃ x, l[r]? = some x := ⟨_, List.getElem?_eq_getElem hlr⟩
        obtain ⟨g, off, rfl, e0, e1, e2, e3, e4, e5, e6, e7, e8, e9, e10, e11, e12⟩ := HC.out wr hg.frame r x hx
        have hfit := HFit.out.get hx
        have HX := Lib.hid hfit
        have HXX := Lib.hid hx
        have HG := Lib.hid (hg.grown (Grown.alloc wr (eO x)))
        have HN := Lib.hid (enAt_new wr x)
        have hnx : (goodM x && !endM l x.t) = false → ∀ i y, i < r + 1 → l[i]? = some y → (goodM y && !endM l y.t) = false := by
          intro hp i y hi hy
          by_cases e : i = r
          · subst e
            rw [hx] at hy
            cases hy
            exact hp
          · exact HB.out i y (by omega) hy
        have HNX := Lib.hid hnx
        clear hx hg hfit hnx
        go_upto_region 7 with (fail)
        generalize wr.alloc (eO x) = W1 at *
        generalize wr.heap.size = g1 at *
        clear e0 e1 e2 e3 e4 e5 e6 e7 e8 e9 e10 e11 e12
        have hN := HN.out
        obtain ⟨n0, n1, n2, n3, n4, n5, n6, n7, n8, n9, n10, n11, n12⟩ := hN
        go_wp2_with fail
        refine (good_any x _ HX.out.1 HX.out.2).mono ?_
        rintro e w3 ⟨rfl, hg3⟩
        have HG3 := Lib.hid (HG.out.grown hg3)
        have HN3 := Lib.hid (HN.out.grown hg3)
        clear hg3 n0 n1 n2 n3 n4 n5 n6 n7 n8 n9 n10 n11 n12
        clear HN HG
        cases hgo : goodM x with
        | false =>
          have hx2 := HNX.out (by rw [hgo]; rfl)
          have FIN := Lib.hid hx2
          clear hx2
          go_wp2_with fail
          exact ⟨⟨r + 1, by omega, by simp, HG3.out, FIN.out⟩, by simp only [RowKit.intOf]; omega⟩
        | true =>
          have hlk := HG3.out.look x.t
          have hN := HN3.out
          obtain ⟨n0, n1, n2, n3, n4, n5, n6, n7, n8, n9, n10, n11, n12⟩ := hN
          cases hen : endM l x.t with
          | true =>
            rw [hen] at hlk
            have hx2 := HNX.out (by rw [hgo, hen]; rfl)
            have FIN := Lib.hid hx2
            clear hx2
            go_wp2_with fail
            exact ⟨⟨r + 1, by omega, by simp, HG3.out, FIN.out⟩, by simp only [RowKit.intOf]; omega⟩
          | false =>
            rw [hen] at hlk
            have hx2 := needed_at H1.out HXX.out (by rw [hgo, hen]; rfl) HB.out
            have FIN := Lib.hid hx2
            have FIS := Lib.hid HG3.out.frame
            clear hx2
            go_wp2_with fail
            go_ret
            exact ⟨by rw [FIN.out]; rfl, FIS.out⟩
      · obtain rfl : r = l.length := by omega
        have FIN := Lib.hid (needed_none H1.out HB.out)
        have FIS := Lib.hid hg.frame
        clear hg hlr
        go_wp2_with fail
        go_ret
        exact ⟨by rw [FIN.out]; rfl, FIS.out⟩
end Go.Proofs.Ytceegnfjdgjomaa
