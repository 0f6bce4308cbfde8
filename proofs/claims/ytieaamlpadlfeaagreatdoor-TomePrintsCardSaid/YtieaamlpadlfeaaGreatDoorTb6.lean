/- The text of a word: tome.Text walked. Conditions: none. -/
import Derived.Test.YtieaamlpadlfeaaGreatDoorTb5
import Derived.Laws.IdiomStrings
import Derived.Deep.DeepCutAuto
namespace Go.Proofs.YtieaamlpadlfeaaGreatDoor
open Go Go.MapKept Go.RowKit Go.Proofs

attribute [local go_sem] Oper.semAt_some

/-- So far a word is read. -/
def TInv (x bs : Bs) (i : Nat) : Prop := ∀ s : Bs, s.flatMap wordC = x → ∃ k, k ≤ s.length ∧ bs = s.take k ∧ i = ((s.take k).flatMap wordC).length
theorem TInv.start (x : Bs) : TInv x [] 0 := fun s _ => ⟨0, by omega, by simp, by simp⟩
theorem wordC_len (c : UInt8) : 1 ≤ (wordC c).length := by unfold wordC; split <;> simp
/-- Where the word goes on. -/
theorem flat_at {s : Bs} {k : Nat} (hk : k < s.length) : s.flatMap wordC = (s.take k).flatMap wordC ++ (wordC s[k] ++ (s.drop (k + 1)).flatMap wordC) ∧ s.take (k + 1) = s.take k ++ [s[k]] := by
  have h1 : s = s.take k ++ s[k] :: s.drop (k + 1) := by rw [← List.drop_eq_getElem_cons hk, List.take_append_drop]
  refine ⟨?_, by rw [List.take_add_one, List.getElem?_eq_getElem hk]; rfl⟩
  conv => lhs; rw [h1]
  rw [List.flatMap_append, List.flatMap_cons]
theorem TInv.more {x bs : Bs} {i : Nat} (h : TInv x bs i) (hi : i < x.length) {s : Bs} (hs : s.flatMap wordC = x) : ∃ k, ∃ hk : k < s.length, bs = s.take k ∧ s.take (k + 1) = bs ++ [s[k]] ∧ x.drop i = wordC s[k] ++ (s.drop (k + 1)).flatMap wordC ∧ ((s.take (k + 1)).flatMap wordC).length = i + (wordC s[k]).length := by
  obtain ⟨k, hk, rfl, hl⟩ := h s hs
  have hk2 : k < s.length := by
    refine Decidable.byContradiction fun hc => ?_
    rw [List.take_of_length_le (by omega), hs] at hl
    omega
  obtain ⟨h1, h2⟩ := flat_at hk2
  refine ⟨k, hk2, rfl, h2, ?_, ?_⟩
  · rw [← hs, h1, hl, List.drop_left]
  · rw [h2, List.flatMap_append, List.length_append, ← hl]
    simp
theorem get_drop {x : Bs} {i : Nat} {b : UInt8} (h : x[i]? = some b) : ∃ r, x.drop i = b :: r := by
  have hl := (List.getElem?_eq_some_iff.1 h).1
  rw [List.drop_eq_getElem_cons hl]
  rw [List.getElem?_eq_getElem hl] at h
  cases h
  exact ⟨_, rfl⟩
theorem TInv.plain {x bs : Bs} {i : Nat} {b : UInt8} (h : TInv x bs i) (hb : x[i]? = some b) (h37 : b ≠ 37) : TInv x (bs ++ [b]) (i + 1) := fun s hs => by
  obtain ⟨k, hk, e1, e2, e3, e4⟩ := h.more (List.getElem?_eq_some_iff.1 hb).1 hs
  obtain ⟨r, hr⟩ := get_drop hb
  rw [hr] at e3
  have hp : wordC s[k] = [b] := by
    unfold wordC at e3 ⊢
    split
    · rename_i hp
      rw [if_pos hp] at e3
      simp only [List.cons_append, List.nil_append, List.cons.injEq] at e3
      rw [e3.1]
    · rename_i hp
      rw [if_neg hp] at e3
      simp only [List.cons_append, List.cons.injEq] at e3
      exact absurd e3.1 h37
  have hsk : s[k] = b := by
    unfold wordC at hp
    split at hp
    · simpa using hp
    · simp at hp
  exact ⟨k + 1, hk, by rw [e2, hsk], by rw [e4, hp]; rfl⟩
theorem TInv.hex_of {x bs : Bs} {i : Nat} (h : TInv x bs i) (hb : x[i]? = some 37) {s : Bs} (hs : s.flatMap wordC = x) : ∃ k, ∃ hk : k < s.length, s.take (k + 1) = bs ++ [s[k]] ∧ ((s.take (k + 1)).flatMap wordC).length = i + 3 ∧ (x.take (i + 3)).drop (i + 1) = [hexB (s[k].toNat / 16), hexB (s[k].toNat % 16)] := by
  obtain ⟨k, hk, e1, e2, e3, e4⟩ := h.more (List.getElem?_eq_some_iff.1 hb).1 hs
  obtain ⟨r, hr⟩ := get_drop hb
  have hp : wordC s[k] = [37, hexB (s[k].toNat / 16), hexB (s[k].toNat % 16)] := by
    unfold wordC at e3 ⊢
    split
    · rename_i hp
      rw [if_pos hp, hr] at e3
      simp only [List.cons_append, List.nil_append, List.cons.injEq] at e3
      exact absurd e3.1.symm (plainB_ne hp)
    · rfl
  refine ⟨k, hk, e2, by rw [e4, hp]; rfl, ?_⟩
  rw [hp] at e3
  rw [← List.drop_drop, List.drop_take, e3]
  simp
theorem TInv.hex {x bs : Bs} {i n : Nat} (h : TInv x bs i) (hb : x[i]? = some 37) (hn : puR ((x.take (i + 3)).drop (i + 1)) = some n) : TInv x (bs ++ [UInt8.ofNat n]) (i + 3) := fun s hs => by
  obtain ⟨k, hk, e1, e2, e3⟩ := h.hex_of hb hs
  have hc := s[k].toNat_lt
  rw [e3, puR_hex (by omega) (by omega)] at hn
  cases hn
  refine ⟨k + 1, hk, ?_, e2.symm⟩
  rw [e1]
  congr 2
  symm
  rw [show s[k].toNat / 16 * 16 + s[k].toNat % 16 = s[k].toNat by omega]
  exact UInt8.ofNat_toNat.symm
theorem TInv.none {x bs : Bs} {i : Nat} (h : TInv x bs i) (hb : x[i]? = some 37) (hn : puR ((x.take (i + 3)).drop (i + 1)) = none) : ∀ s : Bs, s.flatMap wordC ≠ x := fun s hs => by
  obtain ⟨k, hk, e1, e2, e3⟩ := h.hex_of hb hs
  have hc := s[k].toNat_lt
  rw [e3, puR_hex (by omega) (by omega)] at hn
  cases hn
theorem TInv.done {x bs : Bs} {i : Nat} (h : TInv x bs i) (hi : x.length ≤ i) {s : Bs} (hs : s.flatMap wordC = x) : bs = s := by
  refine Decidable.byContradiction fun hc => ?_
  obtain ⟨k, hk, e1, e2⟩ := h s hs
  by_cases e : k = s.length
  · rw [e, List.take_length] at e1
    exact hc e1
  · obtain ⟨h1, _⟩ := flat_at (s := s) (k := k) (by omega)
    have := congrArg List.length h1
    rw [List.length_append, List.length_append, ← e2, hs] at this
    have := wordC_len (s[k]'(by omega))
    omega
theorem ext_list (s : ByteArray) (a b : Nat) : (s.extract a b).data.toList = (s.data.toList.take b).drop a := by
  rw [ByteArray.data_extract, Array.toList_extract, List.extract_eq_take_drop, List.drop_take]
/-- A part of a string. -/
theorem run_cut (x : Bs) (lo hi : Int) (a b : Nat) (h0 : 0 ≤ lo) (h1 : lo ≤ hi) (h2 : hi ≤ x.length) (ha : lo.toNat = a) (hb : hi.toNat = b) (W : World) : (Instr.slice 9 (kL x) (some (.int .i64 lo)) (some (.int .i64 hi)) none).run Tryz.prog W = .ok (kL ((x.take b).drop a)) W := by
  have h := run_slice_string (P := Tryz.prog) (w := W) 9 ⟨x.toArray⟩ .i64 .i64 lo hi Tryz.underlying9 h0 h1 (by rw [size_bs]; exact h2)
  rw [ha, hb] at h
  rw [h]
  have e := ext_list ⟨x.toArray⟩ a b
  rw [data_bs] at e
  have e2 := ba_mk ((⟨x.toArray⟩ : ByteArray).extract a b)
  rw [e] at e2
  rw [← e2]
set_option maxRecDepth 100000 in
set_option maxHeartbeats 4000000 in
theorem text_any {F : Heaplet} {w : World} (hL : LibF F) (s : Sat w F) (x : Bs) (hx : x.length ≤ 900000) : Calls Tryz.prog 60 #[kL x] w (Ret (.tuple #[kL ((textS x).getD []), .int .i64 (if (textS x).isSome then 0 else 4)]) (fun W => Sat W F)) := by
  have HL := Lib.hid hL
  have HS := Lib.hid s
  have hx9 : (x.length : Int) ≤ 900000 := by omega
  obtain ⟨o, ho⟩ : ∃ o, textS x = o := ⟨_, rfl⟩
  rw [ho]
  have HO := Lib.hid ho
  have h37 : ∃ q, (x == [37]) = q := ⟨_, rfl⟩
  obtain ⟨q, hq⟩ := h37
  have HQ := Lib.hid hq
  clear hL s ho
  go_enter Tryz.func60, Tryz.ntmps60
  go_upto_block 0 with (fail)
  go_wp2_with fail
  go_loopw [4, 5] (fun v4 v5 wr => ∃ (i : Nat) (bs : Bs) (h : Heaplet), i ≤ x.length + 2 ∧ bs.length ≤ i ∧ v5 = .int .i64 (i : Int) ∧ SliceIs 5 1 v4 bs.length (bs.flatMap fB) h ∧ Sat wr (h ++ F) ∧ TInv x bs i ∧ (x = [37] → bs = [])) (fun _ v5 _ => 2000000 - (RowKit.intOf v5).toNat)
  case atStart => exact ⟨0, [], [], by omega, by simp, rfl, SliceIs.nil 5 1, HS.out, TInv.start x, fun _ => rfl⟩
  case round =>
    clear HS
    obtain ⟨i, bs, h, hi, hbi, rfl, hv, hs, hti, h9⟩ := hrel
    have i0 : (0 : Int) ≤ (i : Int) := by omega
    have i9 : (i : Int) ≤ 900002 := by omega
    obtain ⟨a, cap, rfl⟩ := sl_form hv
    by_cases hgo : i < x.length ∧ q = false
    · obtain ⟨hil, rfl⟩ := hgo
      clear h9
      have H37 : Hid (x ≠ [37]) := Lib.hid (by have := HQ.out; simpa using this)
      have i1 : (i : Int) < (x.length : Int) := by omega
      obtain ⟨b, hb⟩ : ∃ b, x[i]? = some b := ⟨_, List.getElem?_eq_getElem hil⟩
      have hgt : ∀ (h : i < (⟨x.toArray⟩ : ByteArray).size), (⟨x.toArray⟩ : ByteArray)[i]'h = b := fun h => by
        rw [List.getElem?_eq_getElem hil] at hb
        cases hb
        rfl
      by_cases h37 : b = 37
      · subst h37
        have k1 : (((37 : UInt8).toNat : Int) == 37) = true := rfl
        have hsl : ∀ W, (Instr.slice 9 (kL x) (some (.int .i64 (min ((i : Int) + 1) (x.length : Int)))) (some (.int .i64 (min ((i : Int) + 3) (x.length : Int)))) none).run Tryz.prog W = .ok (kL ((x.take (i + 3)).drop (i + 1))) W := fun W => by
          have h := run_cut x (min ((i : Int) + 1) (x.length : Int)) (min ((i : Int) + 3) (x.length : Int)) (min (i + 1) x.length) (min (i + 3) x.length) (by omega) (by omega) (by omega) (by omega) (by omega) W
          rw [h, Nat.min_eq_left (show i + 1 ≤ x.length by omega)]
          congr 2
          by_cases e : i + 3 ≤ x.length
          · rw [Nat.min_eq_left e]
          · rw [Nat.min_eq_right (by omega), List.take_length, List.take_of_length_le (show x.length ≤ i + 3 by omega)]
        obtain ⟨y, hy⟩ : ∃ y, (x.take (i + 3)).drop (i + 1) = y := ⟨_, rfl⟩
        have hyl : y.length ≤ 2 := by rw [← hy, List.length_drop, List.length_take]; omega
        rw [hy] at hsl
        have hpu := spu_any (HL.out.mono (fun W hW => hW.right)) hs y hyl
        obtain ⟨r, hr⟩ : ∃ r, puR y = r := ⟨_, rfl⟩
        rw [hr] at hpu
        have HY : Hid (puR ((x.take (i + 3)).drop (i + 1)) = r) := Lib.hid (by rw [hy]; exact hr)
        have HPU := Lib.hid hpu
        clear hpu hr hy hyl
        cases r with
        | none =>
          have hnone : o = none := by
            rw [← HO.out]
            refine textS_none (fun s hs => ?_)
            have hne : s ≠ [] := by
              rintro rfl
              have hq2 := HQ.out
              rw [← hs] at hq2
              exact absurd hq2 (by decide)
            unfold wordL at hs
            rw [if_neg hne] at hs
            exact hti.none hb HY.out s hs
          subst hnone
          clear hti hb hv hs hi hbi HY
          go_wp2_with (go_at_call 75; refine (HPU.out).mono ?_; rintro e w2 ⟨⟨N, rfl⟩, h2⟩; have H2 := Lib.hid h2.right; clear h2)
          go_ret2
          exact ⟨rfl, H2.out⟩
        | some n =>
          have hn8 : ((UInt8.ofNat n).toNat : Int) = (n : Int) % 256 := by rw [UInt8.toNat_ofNat']; omega
          have e8 : (Obj.cells #[.int .u8 ((n : Int) % 256)] 5) = .cells (fB (UInt8.ofNat n)).toArray 5 := by
            show _ = Obj.cells #[.int .u8 ((UInt8.ofNat n).toNat : Int)] 5
            rw [hn8]
          have HE8 := Lib.hid e8
          have HTI := Lib.hid (hti.hex hb HY.out)
          have HV := Lib.hid hv
          have HBD := Lib.hid (And.intro hi hbi)
          have HIL := Lib.hid hil
          clear hti hb hv hs hi hbi HY hn8 e8
          go_upto_region 12 with (go_at_call 75; refine (HPU.out).mono ?_; rintro e w2 ⟨rfl, h2⟩; have H2 := Lib.hid h2; clear h2)
          clear HPU hsl hgt
          obtain ⟨i1', hi1, hz, hsize, hby⟩ := info_parts infoBy
          have hs9 := H2.out.new (.cells #[.int .u8 ((n : Int) % 256)] 5)
          have hs8 : Sat (w2.alloc (.cells #[.int .u8 ((n : Int) % 256)] 5)) (.blk w2.heap.size (.cells (fB (UInt8.ofNat n)).toArray 5) :: ([] ++ (h ++ F))) := by
            have h9 := hs9
            rw [HE8.out] at h9 ⊢
            exact h9
          have hbd := HBD.out
          obtain ⟨v', w', k', hap, hv', s'⟩ := sl_push (P := Tryz.prog) (fl := fB) (fun _ => rfl) Tryz.underlying46 hi1 hz hsize hby rfl (by decide) HV.out (A := []) (B := F) (UInt8.ofNat n) hs8 (fun u hu => by rw [List.mem_singleton.1 hu]; rfl) (by unfold maxLen; omega) (by omega)
          have HAP := Lib.hid hap
          have FIN : Hid (i + 3 ≤ x.length + 2 ∧ (bs ++ [UInt8.ofNat n]).length ≤ i + 3 ∧ SliceIs 5 1 v' (bs ++ [UInt8.ofNat n]).length ((bs ++ [UInt8.ofNat n]).flatMap fB) k' ∧ Sat w' (k' ++ F) ∧ TInv x (bs ++ [UInt8.ofNat n]) (i + 3)) := Lib.hid ⟨by have := HIL.out; omega, by simp; omega, hv', s', HTI.out⟩
          clear hap s' hv' hi1 hz hsize hby hs9 hs8 hbd HV H2 HTI
          go_wp2_with (at_builtin; refine wpList_append_run rfl _ _ _ _ rfl _ _ _ _ rfl rfl HAP.out ?_)
          exact ⟨⟨i + 3, _, k', FIN.out.1, FIN.out.2.1, by simp; omega, FIN.out.2.2.1, FIN.out.2.2.2.1, FIN.out.2.2.2.2, fun h => absurd h H37.out⟩, by simp only [RowKit.intOf]; omega⟩
      · have k1 : ((b.toNat : Int) == 37) = false := by
          rw [beq_eq_false_iff_ne]
          intro e
          exact h37 (UInt8.toNat_inj.1 (by show b.toNat = 37; omega))
        obtain ⟨i1', hi1, hz, hsize, hby⟩ := info_parts infoBy
        obtain ⟨v', w', k', hap, hv', s'⟩ := sl_push (P := Tryz.prog) (fl := fB) (fun _ => rfl) Tryz.underlying46 hi1 hz hsize hby rfl (by decide) hv (A := []) (B := F) b (hs.new (.cells #[byV b] 5)) (fun u hu => by rw [List.mem_singleton.1 hu]; rfl) (by unfold maxLen; omega) (by omega)
        have HAP := Lib.hid hap
        have FIN : Hid (i + 1 ≤ x.length + 2 ∧ (bs ++ [b]).length ≤ i + 1 ∧ SliceIs 5 1 v' (bs ++ [b]).length ((bs ++ [b]).flatMap fB) k' ∧ Sat w' (k' ++ F) ∧ TInv x (bs ++ [b]) (i + 1)) := Lib.hid ⟨by omega, by simp; omega, hv', s', hti.plain hb h37⟩
        clear hap s' hv' hi1 hz hsize hby hti hb h37 hv hs hi hbi
        go_wp2_with (at_builtin; refine wpList_append_run rfl _ _ _ _ rfl _ _ _ _ rfl rfl HAP.out ?_)
        exact ⟨⟨i + 1, _, k', FIN.out.1, FIN.out.2.1, by simp, FIN.out.2.2.1, FIN.out.2.2.2.1, FIN.out.2.2.2.2, fun h => absurd h H37.out⟩, by simp only [RowKit.intOf]; omega⟩
    · have hcv : ∀ W, Sat W (h ++ F) → (convert 46 9 (.slice a bs.length cap)).run Tryz.prog W = .ok (kL bs) W := fun W hs => by
        cases bs with
        | nil =>
          rcases hv.2 with ⟨e, _⟩ | ⟨g, cap', cur, e, _⟩
          · cases e
            rfl
          · cases e
            exact run_convert_bytes_back (P := Tryz.prog) W 46 9 5 ⟨g, 0, none⟩ cap [] Tryz.underlying46 Tryz.underlying5 Tryz.underlying9 (fun j hj => absurd hj (by simp))
        | cons c t =>
          obtain ⟨g, cap', e⟩ := sl_some hv (by simp)
          cases e
          refine run_convert_bytes_back (P := Tryz.prog) W 46 9 5 ⟨g, 0, none⟩ cap (c :: t) Tryz.underlying46 Tryz.underlying5 Tryz.underlying9 (fun j hj => ?_)
          have := (hv.cell hs rfl (j := j) (u := byV ((c :: t)[j])) (by rw [fmB, List.getElem?_map, List.getElem?_eq_getElem hj]; rfl)).2.2
          have hadd : (⟨g, 0, none⟩ : Addr).add j = ⟨g, j, none⟩ := by unfold Addr.add; split <;> simp_all
          rw [hadd]
          exact this
      have hwd := word_at hs bs (by omega)
      obtain ⟨qq, hqq⟩ : ∃ qq, (wordL bs == x) = qq := ⟨_, rfl⟩
      have hof : o = if qq then some bs else none := by
        rw [← HO.out]
        cases qq with
        | true => exact textS_iff.2 (by simpa using hqq)
        | false =>
          rw [if_neg (by simp)]
          refine textS_none (fun s hsx => ?_)
          have hne : wordL bs ≠ x := by simpa using hqq
          by_cases e : s = []
          · subst e
            have hx1 : x = [37] := hsx.symm
            have hb0 : bs = [] := h9 hx1
            exact hne (by rw [hb0]; exact hsx)
          · unfold wordL at hsx
            rw [if_neg e] at hsx
            have hq2 : q = false := by
              rw [← HQ.out]
              have : x ≠ [37] := fun e2 => flatW_one (hsx.trans e2)
              simpa using this
            have hge : x.length ≤ i := by
              refine Decidable.byContradiction fun hc => hgo ⟨by omega, hq2⟩
            have hb := hti.done hge hsx
            refine hne ?_
            rw [hb]
            unfold wordL
            rw [if_neg e, hsx]
      have HWD := Lib.hid hwd
      have HOF := Lib.hid hof
      have HCV := Lib.hid hcv
      have hcv := hcv wr hs
      clear hof hwd h9 hti hv hs
      go_upto_region 3 with (fail)
      go_cut [16] (fun v wx => v = .bool false ∧ wx = wr)
      case first =>
        by_cases hil : i < x.length
        · obtain rfl : q = true := by
            cases q with
            | true => rfl
            | false => exact absurd ⟨hil, rfl⟩ hgo
          have i1 : (i : Int) < (x.length : Int) := by omega
          clear hgo hil hbi hi
          go_wp2_with fail
          go_meet
          exact ⟨rfl, rfl⟩
        · have i1 : ((i : Int) < (x.length : Int)) = False := eq_false (by omega)
          clear hgo hil hbi hi
          go_wp2_with fail
          go_meet
          exact ⟨rfl, rfl⟩
      case rest =>
        obtain ⟨rfl, hww⟩ := hcut
        cases hww
        clear hgo hi hbi
        cases qq with
        | true =>
          obtain rfl : o = some bs := HOF.out
          go_wp2_with (go_at_call 8; refine (HWD.out).mono ?_; rintro e w2 ⟨rfl, h2⟩; have hcv2 := HCV.out w2 h2; have H2 := Lib.hid h2.right; clear h2)
          go_ret2
          exact ⟨rfl, H2.out⟩
        | false =>
          obtain rfl : o = none := HOF.out
          go_wp2_with (go_at_call 8; refine (HWD.out).mono ?_; rintro e w2 ⟨rfl, h2⟩; have H2 := Lib.hid h2.right; clear h2)
          go_ret2
          exact ⟨rfl, H2.out⟩
end Go.Proofs.YtieaamlpadlfeaaGreatDoor
