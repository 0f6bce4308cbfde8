/- The document's Script walked. Conditions: none. -/
import Derived.Test.YtieaamlpadlfeaaDoorTc9
import Derived.Test.YtieaamlpadlfeaaDoorTb14
namespace Go.Proofs.YtieaamlpadlfeaaDoor
open Go Go.MapKept Go.RowKit Go.Proofs Go.Shelf

attribute [local go_sem] Oper.semAt_some

set_option maxRecDepth 100000 in
theorem rscript_results (tm : Array Value) (W9 : World) (v : Value) (n c : Int) (h1 : (tm[2]?).getD undef = v) (h2 : (tm[3]?).getD undef = kI n) (h3 : (tm[4]?).getD undef = .int .i64 c) :
    (results Tryd.f14 tm).run Tryd.prog W9 = .ok (.tuple #[v, kI n, .int .i64 c]) W9 := by
  simp [results, Tryd.results14, go_sem, h1, h2, h3]
theorem rscript_end {PB : Ending → World → Prop} {v : Value} {n c : Int} {W : World} {a : Act} (hd : a.defers = []) (h1 : (a.tmps[2]?).getD undef = v) (h2 : (a.tmps[3]?).getD undef = kI n) (h3 : (a.tmps[4]?).getD undef = .int .i64 c) (hfin : PB (.returned (.tuple #[v, kI n, .int .i64 c])) W) : bodyPost Tryd.prog Tryd.f14 PB Exit.ret a W :=
  bodyPost_ret (rscript_results _ _ v n c h1 h2 h3) hd hfin
set_option maxRecDepth 100000 in
set_option maxHeartbeats 4000000 in
theorem rscript_long {F : Heaplet} {w : World} (s : Sat w F) (x : Bs) (hx : 131072 < x.length) : Calls Tryd.prog 14 #[kL x] w (ScriptRet F 5 [] 0) := by
  have FIN := Lib.hid s
  have hx9 : (131072 : Int) < (x.length : Int) := by omega
  clear s hx
  go_enter Tryd.func14, Tryd.ntmps14
  go_wp2_with fail
  exact rscript_end (v := .slice none 0 0) (n := 0) (c := 5) rfl rfl rfl rfl ⟨_, [], rfl, StAt.nil _ _ _, FIN.out⟩
/-- The line's end is reached: what comes next. -/
theorem line_next {x : Bs} {i fr : Nat} {ps : List Bs} (hc : CutI 10 x fr i ps) (h : i = x.length ∨ x[i]? = some 10) : CutI 10 x (i + 1) (i + 1) (ps ++ [(x.take i).drop fr]) ∨ (i = x.length ∧ ps ++ [(x.take i).drop fr] = cutL 10 x) := by
  rcases h with rfl | h
  · exact .inr ⟨rfl, hc.done.symm⟩
  · exact .inl (hc.cut h)
set_option maxRecDepth 100000 in
set_option maxHeartbeats 8000000 in
theorem rscript_any {F : Heaplet} {w : World} (s : Sat w F) (x : Bs) (hx : x.length ≤ 100000) :
    Calls Tryd.prog 14 #[kL x] w (if (scriptS (cutL 10 x)).1.length ≤ 600 then ScriptRet F 0 (scriptS (cutL 10 x)).1 (scriptS (cutL 10 x)).2 else ScriptRet F 51 [] 0) := by
  obtain ⟨PB, hPB⟩ : ∃ PB : Ending → World → Prop, (if (scriptS (cutL 10 x)).1.length ≤ 600 then ScriptRet F 0 (scriptS (cutL 10 x)).1 (scriptS (cutL 10 x)).2 else ScriptRet F 51 [] 0) = PB := ⟨_, rfl⟩
  rw [hPB]
  have HPB := Lib.hid hPB
  have hx9 : (x.length : Int) ≤ 100000 := by omega
  have HS := Lib.hid (s.new (.cells #[] 27))
  clear s hPB
  go_enter Tryd.func14, Tryd.ntmps14
  go_upto_block 0 with (fail)
  go_wp2_with fail
  go_loopw [5, 6, 7, 8] (fun v5 v6 v7 v8 wr => ∃ (i fr : Nat) (ps : List Bs) (rows : List (Value × StepM)) (h hf : Heaplet), v8 = .int .i64 (i : Int) ∧ v7 = .int .i64 (fr : Int) ∧ v6 = .int .i64 ((scriptS ps).2 : Int) ∧ rows.map (·.2) = (scriptS ps).1 ∧ SOwn v5 rows h hf ∧ Sat wr (h ++ (hf ++ F)) ∧ ps.length ≤ i ∧ (CutI 10 x fr i ps ∨ (i = x.length + 1 ∧ ps = cutL 10 x))) (fun _ _ _ v8 _ => 200000 - (RowKit.intOf v8).toNat)
  case atStart => exact ⟨0, 0, [], [], _, [], rfl, rfl, rfl, rfl, ⟨sl_new 27 9 w.heap.size, (fun r h => by cases h), (fun x h => by cases h)⟩, HS.out, by simp, .inl (CutI.start 10 x)⟩
  case round =>
    clear HS
    obtain ⟨i, fr, ps, rows, h, hf, rfl, rfl, rfl, hrw, hv, hs, hpl, hc⟩ := hrel
    have i0 : (0 : Int) ≤ (i : Int) := by omega
    have hrl : rows.length = (scriptS ps).1.length := by rw [← hrw, List.length_map]
    have hsl := scriptS_len ps
    obtain ⟨a, cap, rfl⟩ := sl_form hv.1
    rcases hc with hc | ⟨rfl, rfl⟩
    · have hi := hc.2.1
      have hfr := hc.1
      have i1 : (i : Int) ≤ (x.length : Int) := by omega
      have i9 : (i : Int) ≤ 100000 := by omega
      have i8 : i < 200000 := by omega
      obtain ⟨q, hq⟩ : ∃ q, decide (i = x.length ∨ x[i]? = some 10) = q := ⟨_, rfl⟩
      have HQ := Lib.hid hq
      have HC := Lib.hid hc
      have HV := Lib.hid hv
      have HS := Lib.hid hs
      have HRW := Lib.hid hrw
      have HN := Lib.hid (And.intro hi (And.intro hfr (And.intro hpl (And.intro hrl hsl))))
      obtain ⟨sk, hsk⟩ : ∃ sk, (scriptS ps).2 = sk := ⟨_, rfl⟩
      have HSK := Lib.hid hsk
      rw [hsk]
      clear hq hc hv hs hrw hi hfr hpl hrl hsl hsk
      go_upto_region 9 with (fail)
      go_cut [31] (fun v wx => v = .bool (!q) ∧ wx = wr)
      case first =>
        by_cases hie : i = x.length
        · obtain rfl : q = true := by rw [← HQ.out]; exact decide_eq_true (.inl hie)
          have k1 : ((i : Int) < (x.length : Int)) = False := eq_false (by omega)
          clear hie
          go_wp2_with fail
          go_meet
          exact ⟨rfl, rfl⟩
        · have k1 : (i : Int) < (x.length : Int) := by have := HN.out.1; omega
          obtain ⟨b, hb⟩ : ∃ b, x[i]? = some b := ⟨_, List.getElem?_eq_getElem (by omega)⟩
          have hgt : ∀ (h : i < (⟨x.toArray⟩ : ByteArray).size), (⟨x.toArray⟩ : ByteArray)[i]'h = b := fun h => by
            rw [List.getElem?_eq_getElem (by omega)] at hb
            cases hb
            rfl
          by_cases hbt : b = 10
          · obtain rfl : q = true := by rw [← HQ.out]; exact decide_eq_true (.inr (hbt ▸ hb))
            have k2 : ((b.toNat : Int) != 10) = false := by rw [hbt]; rfl
            clear hie hb hbt
            go_wp2_with fail
            go_meet
            exact ⟨rfl, rfl⟩
          · obtain rfl : q = false := by
              rw [← HQ.out]
              refine decide_eq_false (fun h => h.elim hie (fun h => hbt ?_))
              rw [hb] at h
              exact Option.some.inj h
            have k3 : ((b.toNat : Int) == 10) = false := by
              rw [beq_eq_false_iff_ne]
              intro e
              exact hbt (UInt8.toNat_inj.1 (by show b.toNat = 10; omega))
            have k2 : ((b.toNat : Int) != 10) = true := by rw [bne, k3]; rfl
            clear hie hb hbt
            go_wp2_with fail
            go_meet
            exact ⟨rfl, rfl⟩
      case rest =>
        obtain ⟨rfl, hww⟩ := hcut
        cases hww
        cases q with
        | false =>
          have hq := of_decide_eq_false HQ.out
          have hlt : i < x.length := by have := HN.out.1; exact Nat.lt_of_le_of_ne this (fun e => hq (.inl e))
          have FIN := Lib.hid (HC.out.more (List.getElem?_eq_getElem hlt) (fun e => hq (.inr (by rw [List.getElem?_eq_getElem hlt, e]))))
          clear hq hlt
          go_wp2_with fail
          exact ⟨⟨i + 1, fr, ps, rows, h, hf, by simp, rfl, by rw [HSK.out], HRW.out, HV.out, HS.out, by have := HN.out; omega, .inl FIN.out⟩, by simp only [RowKit.intOf]; omega⟩
        | true =>
          have hnx := line_next HC.out (of_decide_eq_true HQ.out)
          have hsl : ∀ W, (Instr.slice 9 (kL x) (some (.int .i64 (fr : Int))) (some (.int .i64 (i : Int))) none).run Tryd.prog W = .ok (kL ((x.take i).drop fr)) W := fun W => run_cut x fr i fr i (by have := HN.out; omega) (by have := HN.out; omega) (by omega) (by omega) (by omega) W
          have hpcl : ((x.take i).drop fr).length ≤ 100000 := by
            rw [List.length_drop, List.length_take]
            omega
          generalize (x.take i).drop fr = pc at *
          have hsn := scriptS_snoc ps pc
          have HNX : Hid (∃ fr', fr' = i + 1 ∧ (CutI 10 x fr' (i + 1) (ps ++ [pc]) ∨ (i + 1 = x.length + 1 ∧ ps ++ [pc] = cutL 10 x))) := Lib.hid ⟨_, rfl, hnx.imp id (fun h => ⟨by rw [h.1], h.2⟩)⟩
          have HPL : Hid ((ps ++ [pc]).length ≤ i + 1) := Lib.hid (by have := HN.out; simp only [List.length_append, List.length_singleton]; omega)
          clear hnx HC HQ
          by_cases hm : mute pc = true
          · rw [if_pos hm] at hsn
            have HSN := Lib.hid hsn
            clear hsn hpcl
            by_cases hy0 : pc = []
            · subst hy0
              clear hm
              go_wp2_with fail
              obtain ⟨fr', rfl, hn⟩ := HNX.out
              exact ⟨⟨i + 1, i + 1, _, rows, h, hf, by simp, by simp, by rw [HSN.out, HSK.out], by rw [HSN.out]; exact HRW.out, HV.out, HS.out, HPL.out, hn⟩, by simp only [RowKit.intOf]; omega⟩
            · obtain ⟨c, t, rfl⟩ : ∃ c t, pc = c :: t := by
                cases pc with
                | nil => exact absurd rfl hy0
                | cons c t => exact ⟨c, t, rfl⟩
              have hc : c = 35 := by simpa [mute] using hm
              subst hc
              have hgt : ∀ (h : 0 < (⟨(35 :: t : Bs).toArray⟩ : ByteArray).size), (⟨(35 :: t : Bs).toArray⟩ : ByteArray)[0]'h = 35 := fun _ => rfl
              clear hm hy0
              go_wp2_with fail
              obtain ⟨fr', rfl, hn⟩ := HNX.out
              exact ⟨⟨i + 1, i + 1, _, rows, h, hf, by simp, by simp, by rw [HSN.out, HSK.out], by rw [HSN.out]; exact HRW.out, HV.out, HS.out, HPL.out, hn⟩, by simp only [RowKit.intOf]; omega⟩
          · rw [if_neg hm] at hsn
            obtain ⟨c, t, rfl⟩ : ∃ c t, pc = c :: t := by
              cases pc with
              | nil => exact absurd rfl hm
              | cons c t => exact ⟨c, t, rfl⟩
            have k35 : ((c.toNat : Int) == 35) = false := by
              rw [beq_eq_false_iff_ne]
              intro e
              refine hm ?_
              have : c = 35 := UInt8.toNat_inj.1 (by show c.toNat = 35; omega)
              simp [mute, this]
            have hgt : ∀ (h : 0 < (⟨(c :: t).toArray⟩ : ByteArray).size), (⟨(c :: t).toArray⟩ : ByteArray)[0]'h = c := fun _ => rfl
            have HPAR := Lib.hid (refparse_any HS.out (c :: t) (by omega))
            obtain ⟨PO, hPO⟩ : ∃ PO, parseR (wordsL (c :: t)) = PO := ⟨_, rfl⟩
            rw [hPO] at HPAR hsn
            rw [HSK.out] at hsn
            have HSN := Lib.hid hsn
            have s0 : (0 : Int) ≤ (sk : Int) := by omega
            have s9 : (sk : Int) ≤ 200000 := by have := HN.out; have := HSK.out; omega
            clear hm hPO hsn hpcl
            cases PO with
            | none =>
              go_wp2_with (go_at_call 9; refine (HPAR.out).mono ?_; rintro e w5 ⟨rfl, h5⟩; have S5 := Lib.hid (h5.new zeroO).tail; clear h5)
              obtain ⟨fr', rfl, hn⟩ := HNX.out
              exact ⟨⟨i + 1, i + 1, _, rows, h, hf, by simp, by simp, by rw [HSN.out]; simp, by rw [HSN.out]; exact HRW.out, HV.out, S5.out, HPL.out, hn⟩, by simp only [RowKit.intOf]; omega⟩
            | some st =>
              go_upto_region 14 with (go_at_call 9; refine (HPAR.out).mono ?_; intro e w5 hpr; obtain ⟨fv, ph, rfl, hft, h5⟩ := hpr; obtain ⟨ph2, hco, hft2, h5b⟩ := hft.shrink h5; obtain ⟨fa, fc, rfl, -⟩ := id hft2; have S5 := Lib.hid h5b; have HFT := Lib.hid hft2; have HCO := Lib.hid hco; clear hft h5 h5b hft2 hco)
              obtain ⟨q0, q1, q2, q3, q4, ⟨q5, q6, q7, q8⟩⟩ := st
              have h6 := S5.out.new (stepO q0 q1 q2 q3 (.slice fa q4.length fc) q5 q6 q7 q8)
              have h7 := h6.new (.cells (fT (.slice fa q4.length fc, ⟨q0, q1, q2, q3, q4, ⟨q5, q6, q7, q8⟩⟩)).toArray 27)
              rw [World.size_alloc] at h7
              obtain ⟨y0, y1, y2, y3, y4, y5, y6, y7, y8⟩ := nine_of h6
              obtain ⟨a', cap', w7, h', hap, hv', h8⟩ := SOwn.push (x := w5.heap.size + 1) (G := .blk w5.heap.size (stepO q0 q1 q2 q3 (.slice fa q4.length fc) q5 q6 q7 q8) :: (hf ++ (ph2 ++ F))) (⟨q0, q1, q2, q3, q4, ⟨q5, q6, q7, q8⟩⟩ : StepM) HV.out HFT.out HCO.out (by (refine Sat.part h7 ?_; intro a; simp only [cnt_cons, cnt_append]; omega)) (by have := HN.out; omega)
              have h9 : Sat w7 (h' ++ ((hf ++ ph2) ++ F)) := (by (refine Sat.part h8 ?_; intro a; simp only [cnt_cons, cnt_append]; omega))
              have FIN := Lib.hid (And.intro hv' h9)
              have HAP : Hid (∀ ty, (Builtin.append_ #[35, 35] ty #[.slice a rows.length cap, .slice (some ⟨w5.heap.size + 1, 0, none⟩) 1 1]).run Tryd.prog ((w5.alloc (stepO q0 q1 q2 q3 (.slice fa q4.length fc) q5 q6 q7 q8)).alloc (.cells #[kI q0, kI q1, .bool q2, kI q3, .slice fa q4.length fc, kI q5, kI q6, kI q7, kL q8] 27)) = .ok (.slice a' (rows.length + 1) cap') w7) := Lib.hid hap
              clear h6 h7 h8 h9 hap hv' HPAR
              go_wp2_with (at_builtin; refine wpList_append_run rfl _ _ _ _ rfl _ _ _ _ rfl rfl HAP.out ?_)
              obtain ⟨fr', rfl, hn⟩ := HNX.out
              exact ⟨⟨i + 1, i + 1, _, _, h', _, by simp, by simp, by rw [HSN.out], by rw [HSN.out, List.map_append, HRW.out]; rfl, FIN.out.1, FIN.out.2, HPL.out, hn⟩, by simp only [RowKit.intOf]; omega⟩
    · have i1 : (((x.length + 1 : Nat) : Int) ≤ (x.length : Int)) = False := eq_false (by omega)
      rw [← hrl, ← hrw] at HPB
      generalize (scriptS (cutL 10 x)).2 = sk at *
      have HS := Lib.hid hs
      have HV := Lib.hid hv
      clear hs hv hpl hrl hsl hrw
      by_cases h600 : rows.length ≤ 600
      · rw [if_pos h600] at HPB
        have k0 : ((600 : Int) < (rows.length : Int)) = False := eq_false (by omega)
        clear h600
        go_wp2_with fail
        refine rscript_end (v := .slice a rows.length cap) (n := sk) (c := 0) rfl rfl rfl rfl ?_
        rw [← HPB.out]
        refine ⟨_, h ++ hf, rfl, HV.out.at, ?_⟩
        rw [List.append_assoc]
        exact HS.out
      · rw [if_neg h600] at HPB
        have k0 : (600 : Int) < (rows.length : Int) := by omega
        clear h600
        go_wp2_with fail
        refine rscript_end (v := .slice none 0 0) (n := 0) (c := 51) rfl rfl rfl rfl ?_
        rw [← HPB.out]
        exact ⟨_, [], rfl, StAt.nil _ _ _, HS.out.right.right⟩
end Go.Proofs.YtieaamlpadlfeaaDoor
