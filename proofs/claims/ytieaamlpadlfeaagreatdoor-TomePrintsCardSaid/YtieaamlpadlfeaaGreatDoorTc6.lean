/- The document's words, places, calls, forms walked. Conditions: none. -/
import Derived.Test.YtieaamlpadlfeaaGreatDoorTc5
import Derived.Test.YtieaamlpadlfeaaGreatDoorTb10
import Derived.Deep.DeepCutAuto
namespace Go.Proofs.YtieaamlpadlfeaaGreatDoor
open Go Go.MapKept Go.RowKit Go.Proofs

attribute [local go_sem] Oper.semAt_some

/-- A row of strings that lies: read as it is. -/
theorem WOwn.ws {v : Value} {ws : List Bs} {h : Heaplet} (hv : WOwn v ws h) : WsAt h v ws := by
  obtain ⟨hlen, h1 | ⟨g, cap, cur, rfl, hnc, hcm, hcur, htake, rfl⟩⟩ := id hv
  · obtain ⟨rfl, h0, rfl⟩ := h1
    obtain rfl : ws = [] := List.eq_nil_of_length_eq_zero h0
    exact ⟨none, 0, rfl, Nat.le_refl _, fun i x hi => by simp at hi⟩
  · refine ⟨_, cap, rfl, hnc, fun i x hi => ⟨g, 0, rfl, fun w hw => ?_⟩⟩
    have hu : (ws.flatMap fS)[i]? = some (kL x) := by
      have e : ws.flatMap fS = ws.map kL := by rw [← List.map_eq_flatMap]
      rw [e, List.getElem?_map, hi]
      rfl
    have hw2 : Sat w ([HItem.blk g (.cells cur 9)] ++ []) := hw
    have := (hv.cell hw2 rfl hu).2.2
    rw [Nat.zero_add]
    exact this
set_option maxRecDepth 100000 in
set_option maxHeartbeats 4000000 in
theorem rwords_any {F : Heaplet} {w : World} (s : Sat w F) (x : Bs) (hx : x.length ≤ 900000) : Calls Tryz.prog 37 #[kL x] w (fun e w' => ∃ v h, e = .returned v ∧ WOwn v (wordsL x) h ∧ Sat w' (h ++ F)) := by
  have hx9 : (x.length : Int) ≤ 900000 := by omega
  have HS := Lib.hid (s.new (.cells #[] 9))
  clear s
  go_enter Tryz.func37, Tryz.ntmps37
  go_upto_block 0 with (fail)
  go_wp2_with fail
  go_loopw [3, 4, 5] (fun v3 v4 v5 wr => ∃ (i fr : Nat) (ps : List Bs) (h : Heaplet), v5 = .int .i64 (i : Int) ∧ WOwn v3 ps h ∧ Sat wr (h ++ F) ∧ ps.length ≤ i ∧ ((v4 = .int .i64 (fr : Int) ∧ CutI 32 x fr i ps) ∨ (i = x.length + 1 ∧ ps = wordsL x))) (fun _ _ v5 _ => 2000000 - (RowKit.intOf v5).toNat)
  case atStart => exact ⟨0, 0, [], _, rfl, sl_new 9 1 w.heap.size, HS.out, by simp, .inl ⟨rfl, CutI.start 32 x⟩⟩
  case round =>
    clear HS
    obtain ⟨i, fr, ps, h, rfl, hv, hs, hpl, hc⟩ := hrel
    have i0 : (0 : Int) ≤ (i : Int) := by omega
    obtain ⟨a, cap, rfl⟩ := sl_form hv
    rcases hc with ⟨rfl, hc⟩ | ⟨rfl, rfl⟩
    · have hi := hc.2.1
      have hfr := hc.1
      have i1 : (i : Int) ≤ (x.length : Int) := by omega
      have i9 : (i : Int) ≤ 900000 := by omega
      have i8 : i < 2000000 := by omega
      by_cases hie : i = x.length
      · have k1 : ((i : Int) == (x.length : Int)) = true := beq_iff_eq.2 (by omega)
        have hdn : wordsL x = ps ++ [(x.take i).drop fr] := by
          have := (hie ▸ hc : CutI 32 x fr x.length ps).done
          rw [hie]
          exact this
        have hsl : ∀ W, (Instr.slice 9 (kL x) (some (.int .i64 (fr : Int))) (some (.int .i64 (i : Int))) none).run Tryz.prog W = .ok (kL ((x.take i).drop fr)) W := fun W => run_cut x fr i fr i (by omega) (by omega) (by omega) (by omega) (by omega) W
        generalize hpc : (x.take i).drop fr = pc at *
        obtain ⟨a', cap', w', h', hap, hv', hs'⟩ := WOwn.push pc hv hs (by omega)
        have HAP := Lib.hid hap
        have FIN : Hid (i + 1 = x.length + 1 ∧ (ps ++ [pc]) = wordsL x ∧ (ps ++ [pc]).length ≤ i + 1 ∧ WOwn (.slice a' (ps.length + 1) cap') (ps ++ [pc]) h' ∧ Sat w' (h' ++ F)) := Lib.hid ⟨by omega, hdn.symm, by simp; omega, hv', hs'⟩
        clear hie hdn hpc hap hv' hs' hc hi hfr hv hs hpl i8
        go_wp2_with (at_builtin; refine wpList_append_run rfl _ _ _ _ rfl _ _ _ _ rfl rfl HAP.out ?_)
        exact ⟨⟨i + 1, 0, _, h', by simp, FIN.out.2.2.2.1, FIN.out.2.2.2.2, FIN.out.2.2.1, .inr ⟨FIN.out.1, FIN.out.2.1⟩⟩, by simp only [RowKit.intOf]; omega⟩
      · have k1 : ((i : Int) == (x.length : Int)) = false := beq_eq_false_iff_ne.2 (by omega)
        obtain ⟨b, hb⟩ : ∃ b, x[i]? = some b := ⟨_, List.getElem?_eq_getElem (by omega)⟩
        have hgt : ∀ (h : i < (⟨x.toArray⟩ : ByteArray).size), (⟨x.toArray⟩ : ByteArray)[i]'h = b := fun h => by
          rw [List.getElem?_eq_getElem (by omega)] at hb
          cases hb
          rfl
        have i2 : (i : Int) < (x.length : Int) := by omega
        by_cases h32 : b = 32
        · subst h32
          have k2 : (((32 : UInt8).toNat : Int) == 32) = true := rfl
          have hcut := hc.cut hb
          have hsl : ∀ W, (Instr.slice 9 (kL x) (some (.int .i64 (fr : Int))) (some (.int .i64 (i : Int))) none).run Tryz.prog W = .ok (kL ((x.take i).drop fr)) W := fun W => run_cut x fr i fr i (by omega) (by omega) (by omega) (by omega) (by omega) W
          generalize hpc : (x.take i).drop fr = pc at *
          obtain ⟨a', cap', w', h', hap, hv', hs'⟩ := WOwn.push pc hv hs (by omega)
          have HAP := Lib.hid hap
          have FIN : Hid ((ps ++ [pc]).length ≤ i + 1 ∧ WOwn (.slice a' (ps.length + 1) cap') (ps ++ [pc]) h' ∧ Sat w' (h' ++ F) ∧ CutI 32 x (i + 1) (i + 1) (ps ++ [pc])) := Lib.hid ⟨by simp; omega, hv', hs', hcut⟩
          clear hie hpc hap hv' hs' hc hi hfr hv hs hpl i8 hb hcut
          go_wp2_with (at_builtin; refine wpList_append_run rfl _ _ _ _ rfl _ _ _ _ rfl rfl HAP.out ?_)
          exact ⟨⟨i + 1, i + 1, _, h', by simp, FIN.out.2.1, FIN.out.2.2.1, FIN.out.1, .inl ⟨by simp, FIN.out.2.2.2⟩⟩, by simp only [RowKit.intOf]; omega⟩
        · have k2 : ((b.toNat : Int) == 32) = false := by
            rw [beq_eq_false_iff_ne]
            intro e
            exact h32 (UInt8.toNat_inj.1 (by show b.toNat = 32; omega))
          have FIN : Hid (ps.length ≤ i + 1 ∧ WOwn (.slice a ps.length cap) ps h ∧ Sat wr (h ++ F) ∧ CutI 32 x fr (i + 1) ps) := Lib.hid ⟨by omega, hv, hs, hc.more hb h32⟩
          clear hie hc hi hfr hv hs hpl i8 hb h32
          go_wp2_with fail
          exact ⟨⟨i + 1, fr, _, h, by simp, FIN.out.2.1, FIN.out.2.2.1, FIN.out.1, .inl ⟨rfl, FIN.out.2.2.2⟩⟩, by simp only [RowKit.intOf]; omega⟩
    · have i1 : (((x.length + 1 : Nat) : Int) ≤ (x.length : Int)) = False := eq_false (by omega)
      have FIN := Lib.hid (And.intro hv hs)
      generalize (wordsL x).length = NN at *
      clear hv hs
      go_wp2_with fail
      go_ret
      exact ⟨.slice a NN cap, h, rfl, FIN.out.1, FIN.out.2⟩
set_option maxRecDepth 100000 in
/-- The place of a word among words. -/
theorem rplace_any {F : Heaplet} {w : World} {v : Value} {names : List Bs} (s : Sat w F) (hv : WsAt F v ([] :: names)) (hn : names.length ≤ 100) (x : Bs) : Calls Tryz.prog 38 #[v, kL x] w (Ret (.int .i64 (kindOf names x : Int)) (fun W => Sat W F)) := by
  obtain ⟨a, cap, rfl, hcap, hu⟩ := hv
  have HU := Lib.hid hu
  have HS := Lib.hid s
  have hl9 : (([] :: names : List Bs).length : Int) = (names.length : Int) + 1 := by simp
  have hn9 : (names.length : Int) ≤ 100 := by omega
  obtain ⟨k, hk⟩ : ∃ k, kindOf names x = k := ⟨_, rfl⟩
  rw [hk]
  have HK := Lib.hid hk
  generalize hln : ([] :: names : List Bs).length = ln at *
  clear s hu hk
  go_enter Tryz.func38, Tryz.ntmps38
  go_wp2_with fail
  go_loopw [5] (fun v5 wr => ∃ j : Nat, 1 ≤ j ∧ j ≤ names.length + 1 ∧ v5 = .int .i64 (j : Int) ∧ x ∉ names.take (j - 1) ∧ Sat wr F) (fun v5 _ => 2000000 - (RowKit.intOf v5).toNat)
  case atStart => exact ⟨1, by omega, by omega, rfl, by simp, HS.out⟩
  case round =>
    clear HS
    obtain ⟨j, hj1, hj, rfl, hno, hs⟩ := hrel
    have i0 : (0 : Int) ≤ (j : Int) := by omega
    by_cases hjl : j < names.length + 1
    · have i1 : (j : Int) < (ln : Int) := by omega
      have i8 : j < 2000000 := by omega
      obtain ⟨y, hy⟩ : ∃ y, names[j - 1]? = some y := ⟨_, List.getElem?_eq_getElem (by omega)⟩
      have hy2 : ([] :: names : List Bs)[j]? = some y := by
        obtain ⟨m, rfl⟩ : ∃ m, j = m + 1 := ⟨j - 1, by omega⟩
        rw [List.getElem?_cons_succ]
        exact hy
      obtain ⟨g, off, rfl, hc⟩ := HU.out j y hy2
      have c0 := hc wr hs
      by_cases hyx : y = x
      · subst hyx
        obtain rfl : k = j := by rw [← HK.out, kindOf_at hy hno]; omega
        have HS := Lib.hid hs
        clear hs hc hy hy2 hno hjl hj hj1 i8 hln hcap HK HU
        go_wp2_with fail
        go_ret
        exact ⟨rfl, HS.out⟩
      · have k1 : (y == x) = false := beq_eq_false_iff_ne.2 hyx
        have hmore := not_more hno hy hyx
        rw [show j - 1 + 1 = j + 1 - 1 by omega] at hmore
        have FIN := Lib.hid (And.intro (show 1 ≤ j + 1 by omega) (And.intro (show j + 1 ≤ names.length + 1 by omega) (And.intro hmore hs)))
        clear hs hc hy hy2 hno hjl hj hj1 i8 hln hcap HK HU hmore hyx
        go_wp2_with fail
        exact ⟨⟨j + 1, FIN.out.1, FIN.out.2.1, by simp, FIN.out.2.2.1, FIN.out.2.2.2⟩, by simp only [RowKit.intOf]; omega⟩
    · obtain rfl : j = names.length + 1 := by omega
      have i1 : (((names.length + 1 : Nat) : Int) < (ln : Int)) = False := eq_false (by omega)
      have i2 : ((names.length : Int) + 1 < (ln : Int)) = False := eq_false (by omega)
      obtain rfl : k = 0 := by
        rw [← HK.out]
        refine kindOf_none ?_
        rw [Nat.add_sub_cancel, List.take_length] at hno
        exact hno
      have HS := Lib.hid hs
      clear hs hno hjl hj hj1 hln hcap HK HU hl9
      go_wp2_with fail
      go_ret
      exact ⟨rfl, HS.out⟩
/-- The words of calls, in a row of their own. -/
theorem rcalls_any {F : Heaplet} {w : World} (s : Sat w F) : Calls Tryz.prog 35 #[] w (fun e w' => ∃ v h, e = .returned v ∧ WOwn v ([] :: callNames) h ∧ Sat w' (h ++ F)) := by
  have h1 := s.new (.cells (([] :: callNames : List Bs).flatMap fS).toArray 9)
  have HS := Lib.hid h1
  clear s h1
  go_enter Tryz.func35, Tryz.ntmps35
  go_wp2_with fail
  go_ret
  refine ⟨.slice (some ⟨w.heap.size, 0, none⟩) 10 10, [.blk w.heap.size (.cells (([] :: callNames : List Bs).flatMap fS).toArray 9)], rfl, ?_, HS.out⟩
  exact ⟨rfl, .inr ⟨w.heap.size, 10, _, rfl, Nat.le_refl _, by simp [maxLen], rfl, rfl, rfl⟩⟩
set_option maxRecDepth 100000 in
/-- What stands behind a call's word. -/
theorem rform_any {F : Heaplet} {w : World} (s : Sat w F) (k : Nat) (hk : k ≤ 9) : Calls Tryz.prog 36 #[.int .i64 (k : Int)] w (Ret (kL (formR k)) (fun W => Sat W F)) := by
  have h1 := s.new (.cells #[kL [], kL [], kL [112, 115], kL [112, 100], kL [112, 115, 100], kL [112, 115], kL [], kL [115], kL [], kL []] 9)
  have c0 : (w.alloc (.cells #[kL [], kL [], kL [112, 115], kL [112, 100], kL [112, 115, 100], kL [112, 115], kL [], kL [115], kL [], kL []] 9)).cell? ⟨w.heap.size, k, none⟩ = some (kL (formR k)) := by
    rw [cell_of h1.h0]
    have : ∀ j, j ≤ 9 → (#[kL [], kL [], kL [112, 115], kL [112, 100], kL [112, 115, 100], kL [112, 115], kL [], kL [115], kL [], kL []] : Array Value)[j]? = some (kL (formR j)) := by
      intro j hj
      have h2 : j = 0 ∨ j = 1 ∨ j = 2 ∨ j = 3 ∨ j = 4 ∨ j = 5 ∨ j = 6 ∨ j = 7 ∨ j = 8 ∨ j = 9 := by omega
      rcases h2 with rfl | rfl | rfl | rfl | rfl | rfl | rfl | rfl | rfl | rfl <;> rfl
    exact this k hk
  have HS := Lib.hid h1.tail
  have k0 : (0 : Int) ≤ (k : Int) := by omega
  have k1 : (k : Int) < 10 := by omega
  generalize formR k = fr at *
  clear s h1 hk
  go_enter Tryz.func36, Tryz.ntmps36
  go_wp2_with fail
  go_ret
  exact ⟨rfl, HS.out⟩
end Go.Proofs.YtieaamlpadlfeaaGreatDoor
