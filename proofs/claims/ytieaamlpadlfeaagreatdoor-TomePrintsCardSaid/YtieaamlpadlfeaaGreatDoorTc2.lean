/- The document's Word walked. Conditions: none. -/
import Derived.Test.YtieaamlpadlfeaaGreatDoorTc1
import Derived.Test.YtieaamlpadlfeaaGreatDoorLater
namespace Go.Proofs.YtieaamlpadlfeaaGreatDoor
open Go Go.MapKept Go.RowKit Go.Proofs

attribute [local go_sem] Oper.semAt_some

theorem fB_one (xs : Bs) : ∀ u ∈ xs.flatMap fB, u.oneCell' = true := by
  intro u hu
  obtain ⟨x, _, hx⟩ := List.mem_flatMap.1 hu
  rw [List.mem_singleton.1 hx]
  rfl
/-- Bytes of a call's own. -/
abbrev BOwn (v : Value) (bs : Bs) (h : Heaplet) : Prop := SliceIs 5 1 v bs.length (bs.flatMap fB) h
theorem BOwn.pushN {v : Value} {ws : Bs} {h G : Heaplet} {w : World} (xs : Bs) (hv : BOwn v ws h) (s : Sat w (h ++ G)) (hne : 0 < xs.length) (hl : ws.length ≤ 10000000) (hl2 : xs.length ≤ 1000000) :
    ∃ a' cap' w' h', (∀ ty, (Builtin.append_ #[46, 46] ty #[v, .slice (some ⟨w.heap.size, 0, none⟩) xs.length xs.length]).run Tryz.prog (w.alloc (.cells (xs.flatMap fB).toArray 5)) = .ok (.slice a' (ws.length + xs.length) cap') w') ∧ BOwn (.slice a' (ws.length + xs.length) cap') (ws ++ xs) h' ∧ Sat w' (h' ++ G) := by
  have s1 := s.new (.cells (xs.flatMap fB).toArray 5)
  obtain ⟨i, hi, hz, hsize, hby⟩ := info_parts infoBy
  obtain ⟨v', w', h', hr, hv', s'⟩ := sat_append (P := Tryz.prog) (ty := 0) (F := .blk w.heap.size (.cells (xs.flatMap fB).toArray 5) :: G) Tryz.underlying46 hi hz hsize hby rfl (by decide) hv (s1.perm (List.perm_middle (l₁ := h)).symm) ⟨w.heap.size, 0, none⟩ xs.length xs.length (xs.flatMap fB) (fm_len (fl := fB) (sz := 1) (fun _ => rfl) xs) (fun j u hu => by
    have hadd : (⟨w.heap.size, 0, none⟩ : Addr).add j = ⟨w.heap.size, j, none⟩ := by unfold Addr.add; split <;> simp_all
    rw [hadd, cell_of s1.h0]
    simpa using hu) (fB_one xs) hne (by unfold maxLen; omega) (by omega)
  have hv2 : SliceIs 5 1 v' (ws ++ xs).length ((ws ++ xs).flatMap fB) h' := by
    rw [List.length_append, List.flatMap_append]
    exact hv'
  obtain ⟨a', cap', e⟩ := sl_form hv'
  subst e
  exact ⟨a', cap', w', h', fun ty => hr, hv2, (s'.perm List.perm_middle).tail⟩
set_option maxRecDepth 100000 in
/-- Bytes become a text. -/
theorem BOwn.text {v : Value} {bs : Bs} {h F : Heaplet} (hv : BOwn v bs h) (W : World) (hs : Sat W (h ++ F)) : (convert 46 9 v).run Tryz.prog W = .ok (kL bs) W := by
  cases bs with
  | nil =>
    rcases hv.2 with ⟨e, _⟩ | ⟨g, cap', cur, e, _⟩
    · cases e
      rfl
    · cases e
      exact run_convert_bytes_back (P := Tryz.prog) W 46 9 5 ⟨g, 0, none⟩ cap' [] Tryz.underlying46 Tryz.underlying5 Tryz.underlying9 (fun j hj => absurd hj (by simp))
  | cons c t =>
    obtain ⟨g, cap', e⟩ := sl_some hv (by simp)
    cases e
    refine run_convert_bytes_back (P := Tryz.prog) W 46 9 5 ⟨g, 0, none⟩ cap' (c :: t) Tryz.underlying46 Tryz.underlying5 Tryz.underlying9 (fun j hj => ?_)
    have := (hv.cell hs rfl (j := j) (u := byV ((c :: t)[j])) (by rw [fmB, List.getElem?_map, List.getElem?_eq_getElem hj]; rfl)).2.2
    have hadd : (⟨g, 0, none⟩ : Addr).add j = ⟨g, j, none⟩ := by unfold Addr.add; split <;> simp_all
    rw [hadd]
    exact this
theorem flat3 (l : Bs) : (l.flatMap wordC).length ≤ 3 * l.length := by
  induction l with
  | nil => simp
  | cons x l ih =>
    rw [List.flatMap_cons, List.length_append]
    have : (wordC x).length ≤ 3 := by unfold wordC; split <;> simp
    simp only [List.length_cons]
    omega
set_option maxRecDepth 100000 in
set_option maxHeartbeats 4000000 in
theorem refWord_any {F : Heaplet} {w : World} (s : Sat w F) (x : Bs) (hx : x.length ≤ 1000000) : Calls Tryz.prog 9 #[kL x] w (Ret (kL (wordL x)) (fun W => Sat W F)) := by
  by_cases h0 : x = []
  · subst h0
    go_enter Tryz.func9, Tryz.ntmps9
    go_wp2_with fail
    go_ret
    exact ⟨rfl, s⟩
  have hb : (x == []) = false := by
    cases x with
    | nil => exact absurd rfl h0
    | cons a b => rfl
  have hw : wordL x = x.flatMap wordC := by unfold wordL; rw [if_neg h0]
  rw [hw]
  obtain ⟨BS, hBS⟩ : ∃ BS, x.flatMap wordC = BS := ⟨_, rfl⟩
  rw [hBS]
  have HBS := Lib.hid hBS
  clear hBS
  have HS := Lib.hid (s.new (.cells #[] 5))
  have hx9 : (x.length : Int) ≤ 1000000 := by omega
  clear s h0 hw
  go_enter Tryz.func9, Tryz.ntmps9
  go_upto_block 0 with (fail)
  go_cut [3] (fun v wx => ∃ h, BOwn v BS h ∧ Sat wx (h ++ F))
  case first =>
    go_wp2_with fail
    go_loopw [3, 4] (fun v3 v4 wr => ∃ (i : Nat) (bs : Bs) (h : Heaplet), i ≤ x.length ∧ v4 = .int .i64 (i : Int) ∧ bs = (x.take i).flatMap wordC ∧ BOwn v3 bs h ∧ Sat wr (h ++ F)) (fun _ v4 _ => 2000000 - (RowKit.intOf v4).toNat)
    case atStart => exact ⟨0, [], _, by omega, rfl, by simp, sl_new 5 1 w.heap.size, HS.out⟩
    case round =>
      clear HS
      obtain ⟨i, bs, h, hi, rfl, hbs, hv, hs⟩ := hrel
      have i0 : (0 : Int) ≤ (i : Int) := by omega
      obtain ⟨a, cap, rfl⟩ := sl_form hv
      by_cases hil : i < x.length
      · have i1 : (i : Int) < (x.length : Int) := by omega
        have i9 : i < 2000000 := by omega
        obtain ⟨c, hc⟩ : ∃ c, x[i]? = some c := ⟨_, List.getElem?_eq_getElem hil⟩
        have hgt : ∀ (h : i < (⟨x.toArray⟩ : ByteArray).size), (⟨x.toArray⟩ : ByteArray)[i]'h = c := fun h => by
          rw [List.getElem?_eq_getElem hil] at hc
          cases hc
          rfl
        have htk : (x.take (i + 1)).flatMap wordC = bs ++ wordC c := by
          rw [List.take_add_one, hc, hbs]
          simp
        have hlen : bs.length ≤ 3 * (x.take i).length := by rw [hbs]; exact flat3 (x.take i)
        have hlt : (x.take i).length ≤ i := List.length_take_le _ _
        have hcn := c.toNat_lt
        by_cases hp : 32 < c.toNat ∧ c.toNat < 127 ∧ c ≠ 37
        · have hpl : plainB c = true := by
            unfold plainB
            simp only [Bool.and_eq_true, decide_eq_true_eq]
            exact ⟨⟨hp.1, hp.2.1⟩, fun e => hp.2.2 (UInt8.toNat_inj.1 e)⟩
          have hwc : wordC c = [c] := by unfold wordC; rw [if_pos hpl]
          obtain ⟨a', cap', w', h', hap, hv', hs'⟩ := BOwn.pushN [c] hv hs (by simp) (by omega) (by simp)
          rw [hwc] at htk
          generalize hNN : bs.length + List.length _ = NN at hap hv'
          have HAP := Lib.hid hap
          have FIN := Lib.hid (And.intro htk.symm (And.intro hv' hs'))
          have k1 : (32 : Int) < (c.toNat : Int) := by omega
          have k2 : (c.toNat : Int) < 127 := by omega
          have k3 : ((c.toNat : Int) != 37) = true := by
            rw [bne_iff_ne]
            intro e
            exact hp.2.2 (UInt8.toNat_inj.1 (by show c.toNat = 37; omega))
          have HIL := Lib.hid hil
          clear hap hv' hs' hp hpl hwc htk hlen hlt hv hs hc hi hcn hil hbs hNN
          go_wp2_with (at_builtin; refine wpList_append_run rfl _ _ _ _ rfl _ _ _ _ rfl rfl HAP.out ?_)
          exact ⟨⟨i + 1, _, h', HIL.out, by simp, FIN.out.1, FIN.out.2.1, FIN.out.2.2⟩, by simp only [RowKit.intOf]; omega⟩
        · have hpl : plainB c = false := by
            unfold plainB
            rw [Bool.eq_false_iff]
            intro e
            simp only [Bool.and_eq_true, decide_eq_true_eq] at e
            exact hp ⟨e.1.1, e.1.2, fun e2 => e.2 (by rw [e2]; rfl)⟩
          have hwc : wordC c = [37, hexB (c.toNat / 16), hexB (c.toNat % 16)] := by unfold wordC; rw [if_neg (by simp [hpl])]
          obtain ⟨a', cap', w', h', hap, hv', hs'⟩ := BOwn.pushN [37, hexB (c.toNat / 16), hexB (c.toNat % 16)] hv hs.drew (by simp) (by omega) (by simp)
          rw [hwc] at htk
          generalize hNN : bs.length + List.length _ = NN at hap hv'
          have HAP : Hid (∀ ty, (Builtin.append_ #[46, 46] ty #[.slice a bs.length cap, .slice (some ⟨wr.heap.size, 0, none⟩) 3 3]).run Tryz.prog (wr.alloc (.cells #[.int .u8 37, byV (hexB (c.toNat / 16)), byV (hexB (c.toNat % 16))] 5)).drew = .ok (.slice a' NN cap') w') := Lib.hid hap
          have FIN := Lib.hid (And.intro htk.symm (And.intro hv' hs'))
          have HIL := Lib.hid hil
          have HX1 := Lib.hid (fun W => hex_any (c.toNat / 16) W)
          have HX2 := Lib.hid (fun W => hex_any c.toNat W)
          rw [show c.toNat / 16 % 16 = c.toNat / 16 by omega] at HX1
          rw [show (((c.toNat / 16 : Nat)) : Int) = (c.toNat : Int) / 16 by omega] at HX1
          have HP := Lib.hid hp
          have hc0 : (0 : Int) ≤ (c.toNat : Int) := by omega
          clear hap hv' hs' hp hpl hwc htk hlen hlt hv hs hc hi hil hbs hNN
          have hw1 : IntKind.u8.wrap ((c.toNat : Int) / 16) = (c.toNat : Int) / 16 := by rw [IntKind.wrap_u8]; omega
          go_upto_region 7 with (fail)
          go_cut [29] (fun v wx => v = .bool false ∧ wx = wr)
          case first =>
            by_cases q1 : 32 < c.toNat
            · have k1 : (32 : Int) < (c.toNat : Int) := by omega
              by_cases q2 : c.toNat < 127
              · have k2 : (c.toNat : Int) < 127 := by omega
                have k3 : ((c.toNat : Int) != 37) = false := by
                  have : c = 37 := Decidable.byContradiction fun e => HP.out ⟨q1, q2, e⟩
                  rw [this]; rfl
                go_wp2_with fail
                go_meet
                exact ⟨rfl, rfl⟩
              · have k2 : ((c.toNat : Int) < 127) = False := eq_false (by omega)
                clear q2
                go_wp2_with fail
                go_meet
                exact ⟨rfl, rfl⟩
            · have k1 : ((32 : Int) < (c.toNat : Int)) = False := eq_false (by omega)
              clear q1
              go_wp2_with fail
              go_meet
              exact ⟨rfl, rfl⟩
          case rest =>
            obtain ⟨rfl, hww⟩ := hcut
            cases hww
            go_upto_region 9 with (fail)
            go_region_law (first
              | (refine step_append_run (by rfl) _ _ _ _ (by rfl) _ _ _ _ (by rfl) (by rfl) HAP.out ?_)
              | ((try go_simp); go_at_call 22; refine (HX2.out _).mono ?_; rintro e w5 ⟨rfl, rfl⟩; (try dsimp only))
              | ((try go_simp); go_at_call 22; refine (HX1.out _).mono ?_; rintro e w5 ⟨rfl, rfl⟩; (try dsimp only)))
            all_goals
              go_wp2_with fail
              exact ⟨⟨i + 1, _, h', HIL.out, by simp, FIN.out.1, FIN.out.2.1, FIN.out.2.2⟩, by simp only [RowKit.intOf]; omega⟩
      · obtain rfl : i = x.length := by omega
        rw [List.take_length, HBS.out] at hbs
        subst hbs
        have FIN := Lib.hid (And.intro hv hs)
        clear hv hs hil hi
        go_wp2_with fail
        go_meet
        exact ⟨_, FIN.out.1, FIN.out.2⟩
  case rest =>
    clear HS
    obtain ⟨h, hv, hs⟩ := hcut
    obtain ⟨a, cap, rfl⟩ := sl_form hv
    have hcv := hv.text wc hs
    have HF := Lib.hid hs.right
    clear hv hs
    go_wp2_with fail
    go_ret
    exact ⟨rfl, HF.out⟩
end Go.Proofs.YtieaamlpadlfeaaGreatDoor
