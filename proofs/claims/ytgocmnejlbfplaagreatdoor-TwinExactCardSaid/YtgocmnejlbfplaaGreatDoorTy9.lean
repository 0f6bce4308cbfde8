/- Texts put together: Tw3. Conditions: none. -/
import Derived.Test.YtgocmnejlbfplaaGreatDoorTy8
namespace Go.Proofs.YtgocmnejlbfplaaGreatDoor
open Go Go.MapKept Go.RowKit Go.Proofs

theorem ba_cmp (a b : ByteArray) : (a.toList == b.toList) = decide (a = b) := by
  by_cases h : a = b
  · rw [decide_eq_true h, h]; exact beq_self_eq_true _
  · rw [decide_eq_false h]
    refine beq_eq_false_iff_ne.2 (fun e => h ?_)
    rw [ByteArray.toList_eq, ByteArray.toList_eq] at e
    exact ba_ext e
theorem sl_push1 {L : List Sl} {v : Value} {h B : Heaplet} {w : World} {x : Nat} (q : Sl) (hv : SlOwn v L h) (s : Sat w (.blk x (.cells #[.bool q.1, kS q.2] 59) :: (h ++ B))) (hlen : L.length + 1 ≤ 200000) :
    ∃ v' w' h', (∀ ty, (Builtin.append_ #[46, 46] ty #[v, .slice (some ⟨x, 0, none⟩) 1 1]).run Tryz.prog w = .ok v' w') ∧ SlOwn v' (L ++ [q]) h' ∧ Sat w' (h' ++ B) := by
  obtain ⟨i0, hin, hz, hsize, hby⟩ := info_parts infoSl
  exact sl_push (P := Tryz.prog) (fl := slC) (A := []) slC_len Tryz.underlying46 hin hz hsize hby rfl (by decide) hv q s (one_sl q) (by unfold maxLen; omega) (by omega)
theorem dec_results (tm : Array Value) (W9 : World) (g : Nat) (n c : Int) (sv : Value) (h1 : (tm[2]?).getD undef = .pointer (some ⟨g, 0, none⟩)) (h2 : (tm[3]?).getD undef = .int .i64 c) (r0 : W9.cell? ⟨g, 0, none⟩ = some (kI n)) (r1 : W9.cell? ⟨g, 1, none⟩ = some sv) :
    (results Tryz.f73 tm).run Tryz.prog W9 = .ok (.tuple #[pgV n sv, .int .i64 c]) W9 := by
  simp [results, Tryz.results73, go_sem, h1, h2, r0, r1]
/-- What Decode answers. -/
def DecRet (o : Option Pg) (F : Heaplet) (e : Ending) (w' : World) : Prop := ∃ (sv : Value) (h : Heaplet), Sat w' (h ++ F) ∧ match o with
  | some p => e = .returned (.tuple #[pgV p.lsn sv, .int .i64 0]) ∧ SlAt h sv p.slots
  | none => e = .returned (.tuple #[pgV 0 (.slice none 0 0), .int .i64 4])
/-- Behind so many slots: what is still to come. -/
def restS (k : Nat) (r : List UInt8) (done : List Sl) : Option (List Sl × List UInt8) := (parseS k r).map fun x => (done ++ x.1, x.2)
theorem restS_zero (r : List UInt8) (done : List Sl) : restS 0 r done = some (done, r) := by simp [restS, parseS]
theorem restS_nil (k : Nat) (done : List Sl) : restS (k + 1) [] done = none := by simp [restS, parseS]
theorem restS_vac (k : Nat) (r : List UInt8) (done : List Sl) : restS (k + 1) (255 :: r) done = restS k r (done ++ [(false, ⟨#[]⟩)]) := by
  simp only [restS, parseS, if_true, Option.map_map]
  congr 1
  funext x
  simp
theorem restS_short {k : Nat} {b : UInt8} {r : List UInt8} {done : List Sl} (h : b ≠ 255) (hl : r.length < b.toNat) : restS (k + 1) (b :: r) done = none := by
  simp only [restS, parseS, if_neg h, if_pos hl]
  rfl
theorem restS_used {k : Nat} {b : UInt8} {r : List UInt8} {done : List Sl} (h : b ≠ 255) (hl : ¬ r.length < b.toNat) : restS (k + 1) (b :: r) done = restS k (r.drop b.toNat) (done ++ [(true, ⟨(r.take b.toNat).toArray⟩)]) := by
  simp only [restS, parseS, if_neg h, if_neg hl, Option.map_map]
  congr 1
  funext x
  simp
theorem ext_list (s : ByteArray) (a b : Nat) : (s.extract a b).data.toList = (s.data.toList.take b).drop a := by
  rw [ByteArray.data_extract, Array.toList_extract, List.extract_eq_take_drop, List.drop_take]
/-- The image out of the slots that were read. -/
def finP (lsn : Nat) (l : List UInt8) : Option (List Sl × List UInt8) → Option Pg
  | none => none
  | some x => if (decide (lsn ≤ 1099511627776) && (goodP ⟨(lsn : Int), x.1⟩ && decide (encB ⟨(lsn : Int), x.1⟩ = l))) = true then some ⟨(lsn : Int), x.1⟩ else none
set_option maxRecDepth 100000 in
set_option maxHeartbeats 4000000 in
theorem dec_any (s : ByteArray) (h240 : s.size = 240) (F : Heaplet) (w : World) (hs : Sat w F) :
    Calls Tryz.prog 73 #[.string s] w (DecRet (decB s.data.toList) F) := by
  have h0 := hs.new (.cells #[kI 0, .slice none 0 0] 48)
  have HS0 := Lib.hid h0
  have hx8 : (s.extract 0 8).size = 8 := by rw [ByteArray.size_extract]; omega
  have HGET := Lib.hid (hget_any (s.extract 0 8) hx8)
  obtain ⟨l, hl⟩ : ∃ l, s.data.toList = l := ⟨_, rfl⟩
  have hll : l.length = 240 := by rw [← hl, Array.length_toList]; exact h240
  obtain ⟨b8, hb8⟩ : ∃ b8, l[8]? = some b8 := ⟨_, List.getElem?_eq_getElem (by omega)⟩
  obtain ⟨RP, hRP⟩ : ∃ RP, parseS b8.toNat (l.drop 9) = RP := ⟨_, rfl⟩
  obtain ⟨lsn, hlsn⟩ : ∃ lsn, getB (l.take 8) = lsn := ⟨_, rfl⟩
  have hdec : decB l = finP lsn l RP := by
    unfold decB
    rw [if_pos hll, List.getD_eq_getElem?_getD, hb8]
    simp only [Option.getD_some, hRP, hlsn]
    cases RP <;> rfl
  have HDEC := Lib.hid hdec
  rw [hl]
  obtain ⟨RD, hRD⟩ : ∃ RD, decB l = RD := ⟨_, rfl⟩
  rw [hRD] at HDEC ⊢
  have h9 : (s.extract 9 240).data.toList = l.drop 9 := by rw [ext_list, hl, List.take_of_length_le (by omega)]
  have hs8 : (s[8]'(by omega)).toNat = b8.toNat := by
    have : s.data.toList[8]? = some (s[8]'(by omega)) := by
      rw [Array.getElem?_toList]
      exact Array.getElem?_eq_getElem (by show 8 < s.size; omega)
    rw [hl, hb8] at this
    rw [Option.some.inj this]
  have HR0 : Hid (RP = restS b8.toNat (s.extract 9 240).data.toList []) := Lib.hid (by rw [h9, ← hRP]; unfold restS; cases parseS b8.toNat (l.drop 9) <;> simp)
  have hz9 : (s.extract 9 240).size ≤ 240 := by rw [ByteArray.size_extract]; omega
  have HLS := Lib.hid (And.intro hl hlsn)
  have HE : Hid (RP = none → RD = none) := Lib.hid (fun h => by rw [HDEC.out, h]; rfl)
  clear hs h0 hx8 hdec hll hb8 hRP hRD h9
  obtain ⟨pb, hpb⟩ : ∃ pb, w.heap.size = pb := ⟨_, rfl⟩
  rw [hpb] at HS0
  go_enter Tryz.func73, Tryz.ntmps73
  go_upto_block 0 with (go_at_call 91; refine (HGET.out _).mono ?_; rintro e w1 ⟨rfl, hb1⟩; have HS1 := Lib.hid (HS0.out.monoB hb1); clear hb1)
  have hcnt : b8.toNat < 256 := b8.toNat_lt
  clear HS0 HGET hs8 hpb
  generalize b8.toNat = cnt at *
  have HERR : Hid (∀ (W : World) (G : Heaplet), RD = none → Sat W (.blk pb (.cells #[kI 0, .slice none 0 0] 48) :: (G ++ F)) →
      (W.cell? ⟨pb, 0, none⟩ = some (kI 0) ∧ W.cell? ⟨pb, 1, none⟩ = some (.slice none 0 0) ∧ ∀ i, W.frozen? ⟨pb, i, none⟩ = false) ∧
      (((W.setCell ⟨pb, 0, none⟩ (kI 0)).setCell ⟨pb, 1, none⟩ (.slice none 0 0)).cell? ⟨pb, 0, none⟩ = some (kI 0) ∧ ((W.setCell ⟨pb, 0, none⟩ (kI 0)).setCell ⟨pb, 1, none⟩ (.slice none 0 0)).cell? ⟨pb, 1, none⟩ = some (.slice none 0 0) ∧
        DecRet RD F (.returned (.tuple #[pgV 0 (.slice none 0 0), .int .i64 4])) ((W.setCell ⟨pb, 0, none⟩ (kI 0)).setCell ⟨pb, 1, none⟩ (.slice none 0 0)))) := Lib.hid (fun W G hrd hW => by
    have h2 := (hW.setCell (i := 0) (kI 0)).setCell (i := 1) (.slice none 0 0)
    refine ⟨⟨by rw [cell_of hW.h0]; rfl, by rw [cell_of hW.h0]; rfl, unfrozen_of hW.h0⟩, by rw [cell_of h2.h0]; rfl, by rw [cell_of h2.h0]; rfl, ?_⟩
    rw [hrd]
    exact ⟨.slice none 0 0, G, h2.tail, rfl⟩)
  go_wp2_with fail
  go_loopw [5, 6, 22] (fun v5 v6 v22 wr => ∃ (c : Nat) (done : List Sl) (h : Heaplet) (r : ByteArray), c ≤ cnt ∧ v22 = .int .u8 c ∧ v6 = .string r ∧ SlOwn v5 done h ∧ Sat wr (.blk pb (.cells #[kI 0, .slice none 0 0] 48) :: (h ++ F)) ∧ RP = restS (cnt - c) r.data.toList done ∧ (done.length ≤ c ∧ (∀ x ∈ done, x.2.size ≤ 255) ∧ r.size ≤ 240)) (fun _ _ v22 _ => 1000 - (intOf v22).toNat)
  case atStart => exact ⟨0, [], [], s.extract 9 240, by omega, rfl, rfl, SliceIs.nil _ _, HS1.out, HR0.out, by simp, by simp, hz9⟩
  case round =>
    clear HS1 HR0 hz9
    obtain ⟨c, done, h, r, hc, rfl, rfl, hv, hs, hr, hd1, hd2, hr2⟩ := hrel
    obtain ⟨va, vc, rfl⟩ := sl_form hv
    have i0 : (0 : Int) ≤ (c : Int) := by omega
    have i2 : (c : Int) < 256 := by omega
    by_cases hlt : c < cnt
    · have i1 : (c : Int) < (cnt : Int) := by omega
      obtain ⟨k, hk⟩ : ∃ k, cnt - c = k + 1 := ⟨cnt - c - 1, by omega⟩
      rw [hk] at hr
      by_cases hz : r.size = 0
      · have hq : (r.toList == []) = true := by rw [ba_nil]; exact decide_eq_true hz
        have hnl : r.data.toList = [] := List.eq_nil_of_length_eq_zero (by rw [Array.length_toList]; exact hz)
        rw [hnl, restS_nil] at hr
        obtain ⟨⟨c0, c1, ff⟩, r0, r1, hfin⟩ := HERR.out wr h (HE.out hr) hs
        have HFIN := Lib.hid hfin
        have HR0' := Lib.hid r0
        have HR1' := Lib.hid r1
        clear r0 r1 hfin hs hv hr hnl hz
        go_wp2_with fail
        exact bodyPost_ret (v := .tuple #[pgV 0 (.slice none 0 0), .int .i64 4]) (dec_results _ _ pb 0 4 _ rfl rfl HR0'.out HR1'.out) rfl HFIN.out
      · have hq : (r.toList == []) = false := by rw [ba_nil]; exact decide_eq_false hz
        have hz1 : 0 < r.size := by omega
        have hz2 : (1 : Int) ≤ (r.size : Int) := by omega
        have hrl : r.data.toList.length = r.size := by rw [Array.length_toList]; rfl
        obtain ⟨b, rl, hbl⟩ : ∃ b rl, r.data.toList = b :: rl := by
          cases hq' : r.data.toList with
          | nil => rw [hq'] at hrl; simp at hrl; omega
          | cons b rl => exact ⟨b, rl, rfl⟩
        have hr0 : (r[0]'(by omega)).toNat = b.toNat := by
          have : r.data.toList[0]? = some (r[0]'(by omega)) := by
            rw [Array.getElem?_toList]
            exact Array.getElem?_eq_getElem (by show 0 < r.size; omega)
          rw [hbl] at this
          rw [← Option.some.inj this]
        have hx1 : (r.extract 1 r.size).data.toList = rl := by rw [ext_list, ← hrl, List.take_length, hbl]; rfl
        rw [hbl] at hr
        have hx2 : (r.extract 1 r.size).size = rl.length := by rw [← hx1, Array.length_toList]; rfl
        have hx3 : rl.length + 1 = r.size := by rw [← hrl, hbl]; rfl
        obtain ⟨bn, hbn⟩ : ∃ bn, b.toNat = bn := ⟨_, rfl⟩
        have hb9 : bn < 256 := by rw [← hbn]; exact b.toNat_lt
        have hb8 : (bn : Int) < 256 := by omega
        have hb0 : (0 : Int) ≤ (bn : Int) := by omega
        have h255 : b = 255 ↔ bn = 255 := by rw [← hbn, ← UInt8.toNat_inj]; rfl
        rw [hbn] at hr0
        clear hbl hrl hz
        have HX := Lib.hid (And.intro hx1 (And.intro hx3 (And.intro hbn (And.intro h255 hr))))
        clear hx1 hx3 hbn h255 hr hb9
        go_upto_block 2 with (fail)
        clear hr0 hq hz1 hz2
        have hx1 := HX.out.1
        generalize r.extract 1 r.size = r1 at *
        have hcn : (cnt : Int) < 256 := by omega
        by_cases he : bn = 255
        · subst he
          have hr := HX.out.2.2.2.2
          rw [HX.out.2.2.2.1.2 rfl, restS_vac] at hr
          obtain ⟨v7, w7, h7, hap, hv7, hs7⟩ := sl_push1 (false, ⟨#[]⟩) hv ((hs.perm (List.perm_middle (l₁ := h)).symm).new (.cells #[.bool false, kS ⟨#[]⟩] 59)) (by omega)
          have HAP := Lib.hid hap
          have HS7 := Lib.hid (hs7.perm (List.perm_middle (l₁ := h7)))
          have HNX : Hid (RP = restS (cnt - (c + 1)) r1.data.toList (done ++ [(false, ⟨#[]⟩)]) ∧ ((done ++ [((false, ⟨#[]⟩) : Sl)]).length ≤ c + 1 ∧ (∀ x ∈ done ++ [((false, ⟨#[]⟩) : Sl)], x.2.size ≤ 255) ∧ r1.size ≤ 240)) := Lib.hid (by
            refine ⟨by rw [hx1, show cnt - (c + 1) = k from by omega]; exact hr, by simp; omega, fun x hx => ?_, by have := HX.out.2.1; omega⟩
            rcases List.mem_append.1 hx with h1 | h1
            · exact hd2 x h1
            · rw [List.mem_singleton.1 h1]; decide)
          have HV7 := Lib.hid hv7
          have HI := Lib.hid (show c + 1 ≤ cnt from hlt)
          clear hv hs hap hv7 hs7 hr hx1 hx2 HX hd1 hd2 hr2 hk hlt hc
          go_wp2_with (at_builtin; refine wpList_append_run rfl _ _ _ _ rfl _ _ _ _ rfl rfl HAP.out ?_)
          exact ⟨⟨c + 1, _, h7, r1, HI.out, by simp, rfl, HV7.out, HS7.out, HNX.out.1, HNX.out.2⟩, by simp only [intOf]; omega⟩
        · have he1 : ((bn : Int) = 255) = False := eq_false (by omega)
          have he2 : (bn = 255) = False := eq_false he
          have he3 : ((bn : Int) == 255) = false := by rw [beq_eq_false_iff_ne]; omega
          have hne : b ≠ 255 := fun h => he (HX.out.2.2.2.1.1 h)
          have hr := HX.out.2.2.2.2
          by_cases hsh : rl.length < bn
          · rw [restS_short hne (by rw [HX.out.2.2.1]; exact hsh)] at hr
            obtain ⟨⟨c0, c1, ff⟩, r0, r1', hfin⟩ := HERR.out wr h (HE.out hr) hs
            have HFIN := Lib.hid hfin
            have HR0' := Lib.hid r0
            have HR1' := Lib.hid r1'
            have hsi : (rl.length : Int) < (bn : Int) := by omega
            clear r0 r1' hfin hs hv hr hx1 HX hd1 hd2 hr2 hk hlt hc hne he
            go_wp2_with fail
            exact bodyPost_ret (v := .tuple #[pgV 0 (.slice none 0 0), .int .i64 4]) (dec_results _ _ pb 0 4 _ rfl rfl HR0'.out HR1'.out) rfl HFIN.out
          · rw [restS_used hne (by rw [HX.out.2.2.1]; exact hsh), HX.out.2.2.1] at hr
            have hsi : ((rl.length : Int) < (bn : Int)) = False := eq_false (by omega)
            have hsn : (rl.length < bn) = False := eq_false hsh
            have hsj : (bn : Int) ≤ (rl.length : Int) := by omega
            have hy1 : (r1.extract 0 bn).data.toList = rl.take bn := by rw [ext_list, hx1]; rfl
            have hy2 : (r1.extract bn rl.length).data.toList = rl.drop bn := by rw [ext_list, hx1, List.take_of_length_le (by omega)]
            have hy3 : r1.extract 0 bn = ⟨(rl.take bn).toArray⟩ := by apply ba_ext; rw [hy1]
            obtain ⟨v7, w7, h7, hap, hv7, hs7⟩ := sl_push1 (true, r1.extract 0 bn) hv ((hs.perm (List.perm_middle (l₁ := h)).symm).new (.cells #[.bool true, kS (r1.extract 0 bn)] 59)) (by omega)
            have HAP := Lib.hid hap
            have HS7 := Lib.hid (hs7.perm (List.perm_middle (l₁ := h7)))
            have HNX : Hid (RP = restS (cnt - (c + 1)) (r1.extract bn rl.length).data.toList (done ++ [(true, r1.extract 0 bn)]) ∧ ((done ++ [((true, r1.extract 0 bn) : Sl)]).length ≤ c + 1 ∧ (∀ x ∈ done ++ [((true, r1.extract 0 bn) : Sl)], x.2.size ≤ 255) ∧ (r1.extract bn rl.length).size ≤ 240)) := Lib.hid (by
              refine ⟨by rw [hy2, hy3, show cnt - (c + 1) = k from by omega]; exact hr, by simp; omega, fun x hx => ?_, by rw [ByteArray.size_extract]; have := HX.out.2.1; omega⟩
              rcases List.mem_append.1 hx with h1 | h1
              · exact hd2 x h1
              · rw [List.mem_singleton.1 h1]
                show (r1.extract 0 bn).size ≤ 255
                rw [ByteArray.size_extract]; omega)
            have HV7 := Lib.hid hv7
            have HI := Lib.hid (show c + 1 ≤ cnt from hlt)
            clear hv hs hap hv7 hs7 hr hx1 HX hd1 hd2 hr2 hk hlt hc hy1 hy2 hy3 hne he hsh
            go_wp2_with (at_builtin; refine wpList_append_run rfl _ _ _ _ rfl _ _ _ _ rfl rfl HAP.out ?_)
            exact ⟨⟨c + 1, _, h7, _, HI.out, by simp, rfl, HV7.out, HS7.out, HNX.out.1, HNX.out.2⟩, by simp only [intOf]; omega⟩
    · obtain rfl : c = cnt := by omega
      have i1 : ((c : Int) < (c : Int)) = False := eq_false (by omega)
      rw [Nat.sub_self, restS_zero] at hr
      have HRD := HDEC.out
      rw [hr] at HRD
      have hlz : lsn < 18446744073709551616 := by
        have h1 := getB_lt (l.take 8)
        have h2 : (l.take 8).length ≤ 8 := by rw [List.length_take]; omega
        rw [HLS.out.2] at h1
        exact Nat.lt_of_lt_of_le h1 (Nat.pow_le_pow_right (by decide) h2)
      obtain ⟨nl, hnl⟩ : ∃ nl, IntKind.i64.wrap (lsn : Int) = nl := ⟨_, rfl⟩
      have hnb : -9223372036854775808 ≤ nl ∧ nl ≤ 9223372036854775807 := by rw [← hnl, IntKind.wrap_i64]; omega
      have hsl : SlAt (h ++ (.blk pb (.cells #[kI 0, .slice none 0 0] 48) :: F)) (.slice va done.length vc) done := slAt_own hv _
      have hs2 := (hs.perm (List.perm_middle (l₁ := h)).symm)
      have hs3 := hs2.new (.cells #[kI nl, .slice va done.length vc] 48)
      have HEN := Lib.hid (enc_any (p := ⟨nl, done⟩) (hsl.mono (F' := .blk wr.heap.size (.cells #[kI nl, .slice va done.length vc] 48) :: (h ++ (.blk pb (.cells #[kI 0, .slice none 0 0] 48) :: F))) (fun w hw => hw.tail)) hs3 (by show done.length ≤ 1000; omega) (fun x hx => by have := hd2 x hx; omega) hnb)
      have HS3 := Lib.hid hs3
      clear hs hs2 hs3 hsl hd2 hr2 hc hr hlt
      have d0 : (wr.alloc (.cells #[kI nl, .slice va done.length vc] 48)).cell? ⟨wr.heap.size, 0, none⟩ = some (kI nl) := by rw [cell_of HS3.out.h0]; rfl
      have d1 : (wr.alloc (.cells #[kI nl, .slice va done.length vc] 48)).cell? ⟨wr.heap.size, 1, none⟩ = some (.slice va done.length vc) := by rw [cell_of HS3.out.h0]; rfl
      go_upto_region 21 with (go_at_call 81; refine (HEN.out).mono ?_; rintro e w5 ⟨rfl, hb5⟩; have HS5 := Lib.hid (HS3.out.monoB hb5); clear hb5 d0 d1)
      by_cases hmx : lsn ≤ 1099511627776
      · have hmi : (lsn : Int) ≤ 1099511627776 := by omega
        obtain rfl : nl = (lsn : Int) := by rw [← hnl, IntKind.wrap_i64]; omega
        cases hg : goodP ⟨(lsn : Int), done⟩ with
        | false =>
          have hee : encE ⟨(lsn : Int), done⟩ = 1 := by unfold encE; rw [hg]; rfl
          have hrd : RD = none := by rw [HRD]; simp [finP, hg]
          obtain ⟨⟨c0, c1, ff⟩, r0, r1', hfin⟩ := HERR.out w5 h hrd (HS5.out.tail.perm (List.perm_middle (l₁ := h)))
          have HFIN := Lib.hid hfin
          have HR0' := Lib.hid r0
          have HR1' := Lib.hid r1'
          obtain ⟨em, hemm⟩ : ∃ em, encM ⟨(lsn : Int), done⟩ = em := ⟨_, rfl⟩
          rw [hee, hemm]
          clear r0 r1' hfin hv HRD hrd hnl hee hemm
          go_wp2_with fail
          exact bodyPost_ret (v := .tuple #[pgV 0 (.slice none 0 0), .int .i64 4]) (dec_results _ _ pb 0 4 _ rfl rfl HR0'.out HR1'.out) rfl HFIN.out
        | true =>
          have hee : encE ⟨(lsn : Int), done⟩ = 0 := by unfold encE; rw [hg]; rfl
          have hem : encM ⟨(lsn : Int), done⟩ = ⟨(encB ⟨(lsn : Int), done⟩).toArray⟩ := by unfold encM; rw [hg]; rfl
          rw [hee]
          by_cases heq : encM ⟨(lsn : Int), done⟩ = s
          · have hsl : encB ⟨(lsn : Int), done⟩ = l := by rw [← HLS.out.1, ← heq, hem]
            have hrd : RD = some ⟨(lsn : Int), done⟩ := by rw [HRD]; simp [finP, hg, hsl, hmx]
            have hp := HS5.out.tail.perm (List.perm_middle (l₁ := h))
            have g0 : w5.cell? ⟨wr.heap.size, 0, none⟩ = some (kI (lsn : Int)) := by rw [cell_of HS5.out.h0]; rfl
            have g1 : w5.cell? ⟨wr.heap.size, 1, none⟩ = some (.slice va done.length vc) := by rw [cell_of HS5.out.h0]; rfl
            have c0 : w5.cell? ⟨pb, 0, none⟩ = some (kI 0) := by rw [cell_of hp.h0]; rfl
            have c1 : w5.cell? ⟨pb, 1, none⟩ = some (.slice none 0 0) := by rw [cell_of hp.h0]; rfl
            have ff := unfrozen_of hp.h0
            have hp2 := (hp.setCell (i := 0) (kI (lsn : Int))).setCell (i := 1) (.slice va done.length vc)
            have HR0' : Hid (((w5.setCell ⟨pb, 0, none⟩ (kI (lsn : Int))).setCell ⟨pb, 1, none⟩ (.slice va done.length vc)).cell? ⟨pb, 0, none⟩ = some (kI (lsn : Int))) := Lib.hid (by rw [cell_of hp2.h0]; rfl)
            have HR1' : Hid (((w5.setCell ⟨pb, 0, none⟩ (kI (lsn : Int))).setCell ⟨pb, 1, none⟩ (.slice va done.length vc)).cell? ⟨pb, 1, none⟩ = some (.slice va done.length vc)) := Lib.hid (by rw [cell_of hp2.h0]; rfl)
            have HFIN : Hid (DecRet RD F (.returned (.tuple #[pgV (lsn : Int) (.slice va done.length vc), .int .i64 0])) ((w5.setCell ⟨pb, 0, none⟩ (kI (lsn : Int))).setCell ⟨pb, 1, none⟩ (.slice va done.length vc))) := Lib.hid (by
              rw [hrd]
              refine ⟨_, h, hp2.tail, rfl, ?_⟩
              have := slAt_own hv []
              rw [List.append_nil] at this
              exact this)
            rw [heq]
            clear hp hp2 hv HRD hrd hnl hsl hem heq hg
            go_wp2_with fail
            exact bodyPost_ret (v := .tuple #[pgV (lsn : Int) (.slice va done.length vc), .int .i64 0]) (dec_results _ _ pb (lsn : Int) 0 _ rfl rfl HR0'.out HR1'.out) rfl HFIN.out
          · have hsl : ¬ encB ⟨(lsn : Int), done⟩ = l := fun h => heq (by rw [hem]; apply ba_ext; rw [HLS.out.1]; exact h)
            have hrd : RD = none := by rw [HRD]; simp [finP, hg, hsl]
            obtain ⟨em, hemm⟩ : ∃ em, encM ⟨(lsn : Int), done⟩ = em := ⟨_, rfl⟩
            rw [hemm] at heq ⊢
            have hq : (em.toList == s.toList) = false := by rw [ba_cmp]; exact decide_eq_false heq
            have hq2 : (em = s) = False := eq_false heq
            clear hem hemm heq hsl hg
            obtain ⟨⟨c0, c1, ff⟩, r0, r1', hfin⟩ := HERR.out w5 h hrd (HS5.out.tail.perm (List.perm_middle (l₁ := h)))
            have HFIN := Lib.hid hfin
            have HR0' := Lib.hid r0
            have HR1' := Lib.hid r1'
            clear r0 r1' hfin hv HRD hrd hnl
            go_wp2_with fail
            exact bodyPost_ret (v := .tuple #[pgV 0 (.slice none 0 0), .int .i64 4]) (dec_results _ _ pb 0 4 _ rfl rfl HR0'.out HR1'.out) rfl HFIN.out
      · have hrd : RD = none := by rw [HRD]; simp [finP, hmx]
        have hmi : (1099511627776 : Int) < (lsn : Int) := by omega
        obtain ⟨em, hemm⟩ : ∃ em, encM ⟨nl, done⟩ = em := ⟨_, rfl⟩
        obtain ⟨ee, heem⟩ : ∃ ee, encE ⟨nl, done⟩ = ee := ⟨_, rfl⟩
        rw [hemm, heem]
        clear hemm heem
        obtain ⟨⟨c0, c1, ff⟩, r0, r1', hfin⟩ := HERR.out w5 h hrd (HS5.out.tail.perm (List.perm_middle (l₁ := h)))
        have HFIN := Lib.hid hfin
        have HR0' := Lib.hid r0
        have HR1' := Lib.hid r1'
        clear r0 r1' hfin hv HRD hrd hnl
        go_wp2_with fail
        exact bodyPost_ret (v := .tuple #[pgV 0 (.slice none 0 0), .int .i64 4]) (dec_results _ _ pb 0 4 _ rfl rfl HR0'.out HR1'.out) rfl HFIN.out
end Go.Proofs.YtgocmnejlbfplaaGreatDoor
