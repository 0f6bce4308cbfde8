/- The document's Text walked. Conditions: none. -/
import Derived.Test.YtieaamlpadlfeaaGreatDoorTc2
import Derived.Deep.DeepCutAuto
namespace Go.Proofs.YtieaamlpadlfeaaGreatDoor
open Go Go.MapKept Go.RowKit Go.Proofs

attribute [local go_sem] Oper.semAt_some

theorem two_at {x : Bs} {i : Nat} {a b : UInt8} (ha : x[i + 1]? = some a) (hb : x[i + 2]? = some b) : (x.take (i + 3)).drop (i + 1) = [a, b] := by
  have hl := (List.getElem?_eq_some_iff.1 hb).1
  have e1 : x.take (i + 3) = x.take (i + 1) ++ ([a] ++ [b]) := by
    rw [show i + 3 = (i + 2) + 1 by omega, List.take_add_one, hb, List.take_add_one, ha]
    simp
  rw [e1, List.drop_append_of_le_length (by rw [List.length_take]; omega), List.drop_eq_nil_of_le (by rw [List.length_take]; omega)]
  rfl
theorem TInv.short {x bs : Bs} {i : Nat} (h : TInv x bs i) (hb : x[i]? = some 37) (hl : x.length ≤ i + 2) : ∀ s : Bs, s.flatMap wordC ≠ x := fun s hs => by
  obtain ⟨k, hk, _, _, e3⟩ := h.hex_of hb hs
  have := congrArg List.length e3
  rw [List.length_drop, List.length_take] at this
  simp only [List.length_cons, List.length_nil] at this
  omega
theorem TInv.hexR {x bs : Bs} {i : Nat} {a b : UInt8} (h : TInv x bs i) (hx : x[i]? = some 37) (ha : x[i + 1]? = some a) (hb : x[i + 2]? = some b) : (TInv x (bs ++ [UInt8.ofNat (16 * (valR a).toNat + (valR b).toNat)]) (i + 3)) ∧ (valR a < 0 ∨ valR b < 0 → ∀ s : Bs, s.flatMap wordC ≠ x) := by
  have key : ∀ s : Bs, s.flatMap wordC = x → ∃ k, ∃ hk : k < s.length, s.take (k + 1) = bs ++ [s[k]] ∧ ((s.take (k + 1)).flatMap wordC).length = i + 3 ∧ valR a = ((s[k].toNat / 16 : Nat) : Int) ∧ valR b = ((s[k].toNat % 16 : Nat) : Int) := fun s hs => by
    obtain ⟨k, hk, e1, e2, e3⟩ := h.hex_of hx hs
    rw [two_at ha hb] at e3
    have hc := s[k].toNat_lt
    simp only [List.cons.injEq, and_true] at e3
    exact ⟨k, hk, e1, e2, by rw [e3.1]; exact valR_hex _ (by omega), by rw [e3.2]; exact valR_hex _ (by omega)⟩
  refine ⟨fun s hs => ?_, fun hn s hs => ?_⟩
  · obtain ⟨k, hk, e1, e2, e3, e4⟩ := key s hs
    refine ⟨k + 1, hk, ?_, e2.symm⟩
    rw [e1, e3, e4]
    congr 2
    rw [Int.toNat_natCast, Int.toNat_natCast, show 16 * (s[k].toNat / 16) + s[k].toNat % 16 = s[k].toNat by omega]
    exact UInt8.ofNat_toNat
  · obtain ⟨k, hk, e1, e2, e3, e4⟩ := key s hs
    omega
set_option maxRecDepth 100000 in
set_option maxHeartbeats 4000000 in
theorem refText_any {F : Heaplet} {w : World} (s : Sat w F) (x : Bs) (hx : x.length ≤ 900000) : Calls Tryz.prog 51 #[kL x] w (Ret (.tuple #[kL ((textS x).getD []), .int .i64 (if (textS x).isSome then 0 else 4)]) (fun W => Sat W F)) := by
  by_cases h37 : x = [37]
  · subst h37
    have e : textS [37] = some [] := textS_iff.2 rfl
    rw [e]
    go_enter Tryz.func51, Tryz.ntmps51
    go_wp2_with fail
    go_ret2
    exact ⟨rfl, s⟩
  have hx9 : (x.length : Int) ≤ 900000 := by omega
  obtain ⟨o, ho⟩ : ∃ o, textS x = o := ⟨_, rfl⟩
  rw [ho]
  have HO := Lib.hid ho
  have hq : (x == [37]) = false := beq_eq_false_iff_ne.2 h37
  have H37 := Lib.hid h37
  have hnone : (∀ s : Bs, s.flatMap wordC ≠ x) → o = none := fun h => by
    rw [← ho]
    refine textS_none (fun s hs => ?_)
    have hne : s ≠ [] := by
      rintro rfl
      exact h37 hs.symm
    unfold wordL at hs
    rw [if_neg hne] at hs
    exact h s hs
  have HNO := Lib.hid hnone
  have HS := Lib.hid (s.new (.cells #[] 5))
  clear s ho h37 hnone
  go_enter Tryz.func51, Tryz.ntmps51
  go_upto_block 0 with (fail)
  go_wp2_with fail
  go_loopw [4, 5] (fun v4 v5 wr => ∃ (i : Nat) (bs : Bs) (h : Heaplet), i ≤ x.length ∧ bs.length ≤ i ∧ v5 = .int .i64 (i : Int) ∧ BOwn v4 bs h ∧ Sat wr (h ++ F) ∧ TInv x bs i) (fun _ v5 _ => 2000000 - (RowKit.intOf v5).toNat)
  case atStart => exact ⟨0, [], _, by omega, by simp, rfl, sl_new 5 1 w.heap.size, HS.out, TInv.start x⟩
  case round =>
    clear HS
    obtain ⟨i, bs, h, hi, hbi, rfl, hv, hs, hti⟩ := hrel
    have i0 : (0 : Int) ≤ (i : Int) := by omega
    have i9 : (i : Int) ≤ 900000 := by omega
    obtain ⟨a, cap, rfl⟩ := sl_form hv
    by_cases hil : i < x.length
    · have i1 : (i : Int) < (x.length : Int) := by omega
      obtain ⟨c, hc⟩ : ∃ c, x[i]? = some c := ⟨_, List.getElem?_eq_getElem hil⟩
      have hgt : ∀ (h : i < (⟨x.toArray⟩ : ByteArray).size), (⟨x.toArray⟩ : ByteArray)[i]'h = c := fun h => by
        rw [List.getElem?_eq_getElem hil] at hc
        cases hc
        rfl
      by_cases h37 : c = 37
      · subst h37
        have k1 : (((37 : UInt8).toNat : Int) != 37) = false := rfl
        by_cases hsh : x.length ≤ i + 2
        · have k2 : (x.length : Int) ≤ (i : Int) + 2 := by omega
          obtain rfl := HNO.out (hti.short hc hsh)
          have FIN := Lib.hid hs.right
          clear hsh hti hv hs hc hi hbi hil
          go_wp2_with fail
          go_ret2
          exact ⟨rfl, FIN.out⟩
        have k2 : ((x.length : Int) ≤ (i : Int) + 2) = False := eq_false (by omega)
        obtain ⟨c1, hc1⟩ : ∃ c, x[i + 1]? = some c := ⟨_, List.getElem?_eq_getElem (by omega)⟩
        obtain ⟨c2, hc2⟩ : ∃ c, x[i + 2]? = some c := ⟨_, List.getElem?_eq_getElem (by omega)⟩
        have hgt1 : ∀ (h : i + 1 < (⟨x.toArray⟩ : ByteArray).size), (⟨x.toArray⟩ : ByteArray)[i + 1]'h = c1 := fun h => by
          rw [List.getElem?_eq_getElem (by omega)] at hc1
          cases hc1
          rfl
        have hgt2 : ∀ (h : i + 2 < (⟨x.toArray⟩ : ByteArray).size), (⟨x.toArray⟩ : ByteArray)[i + 2]'h = c2 := fun h => by
          rw [List.getElem?_eq_getElem (by omega)] at hc2
          cases hc2
          rfl
        have j1 : (i : Int) + 1 < (x.length : Int) := by omega
        have j2 : (i : Int) + 2 < (x.length : Int) := by omega
        have HV1 := Lib.hid (fun W => rvalue_any c1 W)
        have HV2 := Lib.hid (fun W => rvalue_any c2 W)
        obtain ⟨u1, hu1⟩ : ∃ u, (c1.toNat : Int) = u := ⟨_, rfl⟩
        obtain ⟨u2, hu2⟩ : ∃ u, (c2.toNat : Int) = u := ⟨_, rfl⟩
        rw [hu1] at HV1
        rw [hu2] at HV2
        obtain ⟨hgo, hbad⟩ := hti.hexR hc hc1 hc2
        obtain ⟨b1, b2⟩ := valR_bds c1
        obtain ⟨b3, b4⟩ := valR_bds c2
        generalize valR c1 = p at *
        generalize valR c2 = q at *
        by_cases hp : p < 0
        · obtain rfl := HNO.out (hbad (.inl hp))
          have FIN := Lib.hid hs.right
          clear hgo hbad hsh hti hv hs hc hi hbi hil hc1 hc2
          go_wp2_with (go_at_call 65; (with_reducible refine (HV1.out _).mono ?_); rintro e w5 ⟨rfl, rfl⟩)
          go_ret2
          exact ⟨rfl, FIN.out⟩
        by_cases hq2 : q < 0
        · obtain rfl := HNO.out (hbad (.inr hq2))
          have FIN := Lib.hid hs.right
          have kp : (p < 0) = False := eq_false hp
          clear hgo hbad hsh hti hv hs hc hi hbi hil hc1 hc2 hp
          go_wp2_with (first | (go_at_call 65; (with_reducible refine (HV1.out _).mono ?_); rintro e w5 ⟨rfl, rfl⟩) | (go_at_call 65; (with_reducible refine (HV2.out _).mono ?_); rintro e w5 ⟨rfl, rfl⟩))
          go_ret2
          exact ⟨rfl, FIN.out⟩
        have kp : (p < 0) = False := eq_false hp
        have kq : (q < 0) = False := eq_false hq2
        obtain ⟨b, hb⟩ : ∃ b, UInt8.ofNat (16 * p.toNat + q.toNat) = b := ⟨_, rfl⟩
        have hbn : (b.toNat : Int) = 16 * p + q := by
          rw [← hb, UInt8.toNat_ofNat']
          omega
        rw [hb] at hgo
        have ht2 : ((i : Int) + 2).toNat = i + 2 := by omega
        have hja : (0 : Int) ≤ (i : Int) + 1 := by omega
        have hjb : (0 : Int) ≤ (i : Int) + 2 := by omega
        have hwa : IntKind.i64.wrap ((i : Int) + 1) = (i : Int) + 1 := (IntWalk.i64_left _).trans (IntWalk.wrap64_in _ (by omega))
        have hwb : IntKind.i64.wrap ((i : Int) + 2) = (i : Int) + 2 := (IntWalk.i64_left _).trans (IntWalk.wrap64_in _ (by omega))
        have hwc : IntKind.i64.wrap (16 * p) = 16 * p := (IntWalk.i64_left _).trans (IntWalk.wrap64_in _ (by omega))
        have hwd : IntKind.i64.wrap (16 * p + q) = 16 * p + q := (IntWalk.i64_left _).trans (IntWalk.wrap64_in _ (by omega))
        have hw1 : IntKind.u8.wrap (16 * p + q) = (b.toNat : Int) := by rw [IntKind.wrap_u8, hbn]; omega
        obtain ⟨a', cap', w', h', hap, hv', hs'⟩ := BOwn.pushN [b] hv hs.drew (by simp) (by omega) (by simp)
        generalize hNN : bs.length + List.length _ = NN at hap hv'
        have HAP : Hid (∀ ty, (Builtin.append_ #[46, 46] ty #[.slice a bs.length cap, .slice (some ⟨wr.heap.size, 0, none⟩) 1 1]).run Tryz.prog (wr.alloc (.cells #[.int .u8 (b.toNat : Int)] 5)).drew = .ok (.slice a' NN cap') w') := Lib.hid hap
        have FIN := Lib.hid (And.intro (show i + 3 ≤ x.length by omega) (And.intro (show (bs ++ [b]).length ≤ i + 3 by simp; omega) (And.intro hv' (And.intro hs' hgo))))
        have p0 : 0 ≤ p := by omega
        have q0 : 0 ≤ q := by omega
        clear hgo hbad hsh hti hv hs hc hi hbi hil hc1 hc2 hb hbn hap hv' hs' hNN hp hq2 b1 b3
        go_upto_region 11 with (first | (go_at_call 65; (with_reducible refine (HV1.out _).mono ?_); rintro e w5 ⟨rfl, rfl⟩) | (go_at_call 65; (with_reducible refine (HV2.out _).mono ?_); rintro e w5 ⟨rfl, rfl⟩))
        go_region_law (first
          | (refine step_append_run (by rfl) _ _ _ _ (by rfl) _ _ _ _ (by rfl) (by rfl) HAP.out ?_)
          | ((try go_simp); go_at_call 65; (with_reducible refine (HV1.out _).mono ?_); rintro e w5 ⟨rfl, rfl⟩; (try dsimp only))
          | ((try go_simp); go_at_call 65; (with_reducible refine (HV2.out _).mono ?_); rintro e w5 ⟨rfl, rfl⟩; (try dsimp only))
          | (trace_state; sorry))
        all_goals
          go_wp2_with fail
          exact ⟨⟨i + 3, _, h', FIN.out.1, FIN.out.2.1, by simp, FIN.out.2.2.1, FIN.out.2.2.2.1, FIN.out.2.2.2.2⟩, by simp only [RowKit.intOf]; omega⟩
      · have k1 : ((c.toNat : Int) != 37) = true := by
          rw [bne_iff_ne]
          intro e
          exact h37 (UInt8.toNat_inj.1 (by show c.toNat = 37; omega))
        obtain ⟨a', cap', w', h', hap, hv', hs'⟩ := BOwn.pushN [c] hv hs (by simp) (by omega) (by simp)
        generalize hNN : bs.length + List.length _ = NN at hap hv'
        have HAP := Lib.hid hap
        have FIN := Lib.hid (And.intro (show i + 1 ≤ x.length by omega) (And.intro (show (bs ++ [c]).length ≤ i + 1 by simp; omega) (And.intro hv' (And.intro hs' (hti.plain hc h37)))))
        clear hap hv' hs' hti hv hs hc hi hil hbi hNN h37
        go_wp2_with (at_builtin; refine wpList_append_run rfl _ _ _ _ rfl _ _ _ _ rfl rfl HAP.out ?_)
        exact ⟨⟨i + 1, _, h', FIN.out.1, FIN.out.2.1, by simp, FIN.out.2.2.1, FIN.out.2.2.2.1, FIN.out.2.2.2.2⟩, by simp only [RowKit.intOf]; omega⟩
    · have hie : x.length ≤ i := by omega
      have hwd := refWord_any hs bs (by omega)
      obtain ⟨qq, hqq⟩ : ∃ qq, (wordL bs == x) = qq := ⟨_, rfl⟩
      have hof : o = if qq then some bs else none := by
        rw [← HO.out]
        cases qq with
        | true => exact textS_iff.2 (by simpa using hqq)
        | false =>
          rw [if_neg (by simp)]
          refine textS_none (fun s hsx => ?_)
          have hne : wordL bs ≠ x := by simpa using hqq
          by_cases e : s = []
          · subst e
            exact H37.out hsx.symm
          · unfold wordL at hsx
            rw [if_neg e] at hsx
            have hb := hti.done hie hsx
            refine hne ?_
            rw [hb]
            unfold wordL
            rw [if_neg e, hsx]
      have hqn : (wordL bs != x) = !qq := by rw [bne, hqq]
      have hcv := hv.text wr hs
      have HCV := Lib.hid (fun W (hs : Sat W (h ++ F)) => hv.text W hs)
      have HWD := Lib.hid hwd
      have HOF := Lib.hid hof
      have i1 : ((i : Int) < (x.length : Int)) = False := eq_false (by omega)
      generalize wordL bs = wb at *
      clear hof hwd hti hv hs hi hie hil hbi
      cases qq with
      | true =>
        obtain rfl : o = some bs := HOF.out
        go_wp2_with (go_at_call 9; refine (HWD.out).mono ?_; rintro e w2 ⟨rfl, h2⟩; have hcv2 := HCV.out w2 h2; have H2 := Lib.hid h2.right; clear h2)
        go_ret2
        exact ⟨rfl, H2.out⟩
      | false =>
        obtain rfl : o = none := HOF.out
        go_wp2_with (go_at_call 9; refine (HWD.out).mono ?_; rintro e w2 ⟨rfl, h2⟩; have H2 := Lib.hid h2.right; clear h2)
        go_ret2
        exact ⟨rfl, H2.out⟩
end Go.Proofs.YtieaamlpadlfeaaGreatDoor
