/- Texts put together: Tw13. Conditions: none. -/
import Derived.Test.YtgocmnejlbfplaaGreatDoorTy4
import Derived.Test.YtgocmnejlbfplaaGreatDoorTy22
namespace Go.Proofs.YtgocmnejlbfplaaGreatDoor
open Go Go.MapKept Go.RowKit Go.Proofs

attribute [local go_sem] Oper.semAt_some

abbrev vB (b : Bool) : Value := .bool b
/-- A leaf: a page's number, its image. -/
abbrev Lf := Int × Pg
abbrev lfV (n l : Int) (sv : Value) : Value := .agg #[kI n, kI l, sv]
/-- Where F holds, the leaves lie there. -/
def LvAt (F : Heaplet) (v : Value) (P : List Lf) : Prop := ∃ a cap, v = .slice a P.length cap ∧ ∀ (i : Nat) p, P[i]? = some p → ∃ g off sv, a = some ⟨g, off, none⟩ ∧ SlAt F sv p.2.slots ∧ ∀ w, Sat w F → w.cell? ⟨g, off + i * 3, none⟩ = some (kI p.1) ∧ w.cell? ⟨g, off + i * 3 + 1, none⟩ = some (kI p.2.lsn) ∧ w.cell? ⟨g, off + i * 3 + 2, none⟩ = some sv
theorem LvAt.mono {F F' : Heaplet} {v : Value} {P : List Lf} (h : LvAt F v P) (hF : ∀ w, Sat w F' → Sat w F) : LvAt F' v P := by
  obtain ⟨a, cap, e, hc⟩ := h
  refine ⟨a, cap, e, fun i p hp => ?_⟩
  obtain ⟨g, off, sv, e2, hs, hw⟩ := hc i p hp
  exact ⟨g, off, sv, e2, hs.mono hF, fun w s => hw w (hF w s)⟩
theorem und_mib : Tryz.prog.underlying 105 = some (.map 3 4) := by kernel_rfl
/-- A map that is true for these numbers alone. -/
def SeenAt (b : Nat) (S : List Int) (F : Heaplet) (w : World) : Prop := ∃ es clk D, MapOk (.int .i64) kI vB es clk D ∧ (∀ k, (getL k D).getD false = S.contains k) ∧ Sat w (.blk b (.map es clk) :: F)
section
variable {b : Nat} {S : List Int} {F : Heaplet} {w : World}
theorem SeenAt.frame (h : SeenAt b S F w) : Sat w F := by
  obtain ⟨es, clk, D, _, _, s⟩ := h
  exact s.tail
theorem SeenAt.grown {w' : World} (h : SeenAt b S F w) (k : Grown w w') : SeenAt b S F w' := by
  obtain ⟨es, clk, D, h1, h2, s⟩ := h
  exact ⟨es, clk, D, h1, h2, s.grown k⟩
theorem SeenAt.new (h : SeenAt b S F w) (o : Obj) : SeenAt b S (.blk w.heap.size o :: F) (w.alloc o) := by
  obtain ⟨es, clk, D, h1, h2, s⟩ := h
  exact ⟨es, clk, D, h1, h2, (s.new o).swap⟩
theorem SeenAt.part {F' : Heaplet} (h : SeenAt b S F w) (hF : ∀ a, cnt a F' ≤ cnt a F) : SeenAt b S F' w := by
  obtain ⟨es, clk, D, h1, h2, s⟩ := h
  exact ⟨es, clk, D, h1, h2, s.part (fun a => by have := hF a; simp only [cnt_cons]; omega)⟩
theorem SeenAt.look (h : SeenAt b S F w) (k : Int) : (Instr.lookup 105 (.map (some b)) (kI k) false).run Tryz.prog w = .ok (.bool (S.contains k)) w := by
  obtain ⟨es, clk, D, h1, h2, s⟩ := h
  rw [run_lookup_ok und_mib Tryz.underlying3 (z := .bool false) (by simp [go_sem]) s.h0 h1 k, ← h2 k]
  cases getL k D <;> rfl
theorem SeenAt.put (h : SeenAt b S F w) (k : Int) : ∃ w', (Instr.mapUpdate 105 (.map (some b)) (kI k) (.bool true)).run Tryz.prog w = .ok () w' ∧ SeenAt b (k :: S) F w' := by
  obtain ⟨es, clk, D, h1, h2, s⟩ := h
  obtain ⟨w', es', clk', hr, h1', s'⟩ := sat_update und_mib Tryz.underlying3 h1 s k true
  refine ⟨w', hr, es', clk', _, h1', fun j => ?_, s'⟩
  rw [getL_putL]
  by_cases e : j = k
  · subst e; rw [if_pos rfl, List.contains_cons, beq_self_eq_true]; rfl
  · rw [if_neg e, h2 j, List.contains_cons, beq_eq_false_iff_ne.2 e, Bool.false_or]
end

/-- Pages whose numbers fit into a machine's word. -/
def FitP (P : List Lf) : Prop := ∀ p ∈ P, p.2.slots.length ≤ 1000 ∧ (∀ x ∈ p.2.slots, x.2.size ≤ 1000000) ∧ -9223372036854775808 ≤ p.2.lsn ∧ p.2.lsn ≤ 9223372036854775807
/-- Whether all of them are pages that are there, each once, and good. -/
def fitPM (len : Nat) : List Int → List Lf → Bool
  | _, [] => true
  | S, p :: r => if (decide (p.1 < 0) || decide ((len : Int) ≤ p.1) || S.contains p.1 || !goodP p.2) = true then false else fitPM len (p.1 :: S) r
def fitsT (S : TS) (L : List Lf) : Bool := fitPM S.pages.length [] L && decide ((L.length : Int) ≤ S.twins)
set_option maxRecDepth 100000 in
set_option maxHeartbeats 4000000 in
theorem fits_any {tb pb : Nat} {S : TS} {M : PM} {G : Heaplet} {w : World} {v : Value} {P : List Lf} (h : StIs tb pb S M G w) (hv : LvAt G v P) (hl : P.length ≤ 1000) (hf : FitP P) (hp : S.pages.length ≤ 100000) :
    Calls Tryz.prog 41 #[.pointer (some ⟨tb, 0, none⟩), v] w (Ret (.bool (fitsT S P)) (Below w.heap.size w)) := by
  obtain ⟨a, cap, rfl, hc⟩ := hv
  have HC := Lib.hid hc
  have HF := Lib.hid hf
  have hl9 : (P.length : Int) ≤ 1000 := by omega
  obtain ⟨len, hlen⟩ : ∃ len, S.pages.length = len := ⟨_, rfl⟩
  rw [hlen] at hp
  have hp9 : (len : Int) ≤ 100000 := by omega
  obtain ⟨tw, htw⟩ : ∃ tw, S.twins = tw := ⟨_, rfl⟩
  obtain ⟨res, hres⟩ : ∃ res, fitPM len [] P = res := ⟨_, rfl⟩
  have hft : fitsT S P = (res && decide ((P.length : Int) ≤ tw)) := by unfold fitsT; rw [hlen, hres, htw]
  rw [hft]
  have hmm := @run_makeMap Tryz.prog
  obtain ⟨Z, pa, pc, hz, _, hcl, _⟩ := h.view
  have HOLD : Hid (∀ w', Sat w' (allOf w) → Sat w' G) := Lib.hid (fun w' hw => h.frame.monoB (Sat.below hw))
  have HCL : Hid (∀ w', Sat w' (allOf w) → w'.cell? ⟨tb, 3, none⟩ = some (.slice pa len pc) ∧ w'.cell? ⟨tb, 2, none⟩ = some (kI tw)) := Lib.hid (fun w' hw => by
    obtain ⟨_, _, h2, h3, _⟩ := hcl w' (hz.monoB (Sat.below hw))
    rw [hlen] at h3
    rw [htw] at h2
    exact ⟨h3, h2⟩)
  have HFIN : Hid (∀ w', Sat w' (allOf w) → Below w.heap.size w w') := Lib.hid (fun w' h => Sat.below h)
  obtain ⟨AW, hAW⟩ : ∃ AW, allOf w = AW := ⟨_, rfl⟩
  have H0 : Hid (SeenAt w.heap.size [] AW (w.alloc (.map #[] 0))) := Lib.hid ⟨#[], 0, [], mapOk_new kI_key kI_inj, (fun k => rfl), by rw [← hAW]; exact (sat_all w).new (.map #[] 0)⟩
  rw [hAW] at HOLD HFIN HCL
  obtain ⟨PB, hPB⟩ : ∃ PB : World → Prop, Below w.heap.size w = PB := ⟨_, rfl⟩
  have HFIN2 : Hid (∀ w', Sat w' AW → PB w') := Lib.hid (fun w' h => by rw [← hPB]; exact HFIN.out w' h)
  rw [hPB]
  have HRES := Lib.hid hres
  clear hAW hPB HFIN hc hz hcl hf hres hft hlen htw h hp
  go_enter Tryz.func41, Tryz.ntmps41
  go_wp2_with fail
  generalize w.alloc (.map #[] 0) = W0 at *
  generalize w.heap.size = m at *
  go_loopw [11] (fun v9 wr => ∃ (i : Nat) (S : List Int), i ≤ P.length ∧ v9 = .int .i64 i ∧ fitPM len S (P.drop i) = res ∧ SeenAt m S AW wr) (fun v9 _ => 2000 - (RowKit.intOf v9).toNat)
  case atStart => exact ⟨0, [], by omega, rfl, HRES.out, H0.out⟩
  case round =>
    clear H0 HRES
    obtain ⟨i, S, hi, rfl, hr, hse⟩ := hrel
    have i0 : (0 : Int) ≤ (i : Int) := by omega
    by_cases hil : i < P.length
    · have i1 : (i : Int) < (P.length : Int) := by omega
      obtain ⟨p, hp⟩ : ∃ p, P[i]? = some p := ⟨_, List.getElem?_eq_getElem hil⟩
      obtain ⟨g, off, sv, rfl, hsv, hu⟩ := HC.out i p hp
      obtain ⟨u0, u1, u2⟩ := hu wr (HOLD.out wr hse.frame)
      have hdr : P.drop i = p :: P.drop (i + 1) := by rw [List.drop_eq_getElem_cons hil]; congr 1; exact Option.some.inj ((List.getElem?_eq_getElem hil).symm.trans hp)
      rw [hdr] at hr
      have hfp := HF.out p (List.mem_of_getElem? hp)
      obtain ⟨n, q⟩ := p
      simp only at hsv u0 u1 u2 hfp
      have hsv2 := hsv
      obtain ⟨sa, sc, rfl, _⟩ := hsv2
      have hse1 := hse.new (.cells #[kI n, kI q.lsn, .slice sa q.slots.length sc] 55)
      have hsv1 : SlAt (.blk wr.heap.size (.cells #[kI n, kI q.lsn, .slice sa q.slots.length sc] 55) :: AW) (.slice sa q.slots.length sc) q.slots := hsv.mono (fun w' h => HOLD.out w' h.tail)
      have HG : Hid (∀ W, SeenAt m S (.blk wr.heap.size (.cells #[kI n, kI q.lsn, .slice sa q.slots.length sc] 55) :: AW) W → Calls Tryz.prog 64 #[pgV q.lsn (.slice sa q.slots.length sc)] W (Pur (.bool (goodP q)) W)) := Lib.hid (fun W hW => pgood_any hsv1 hW.frame hfp.1 hfp.2.1 hfp.2.2)
      have HS := Lib.hid hse1
      have HR := Lib.hid hr
      have HI := Lib.hid (And.intro hil hi)
      obtain ⟨t3, _⟩ := HCL.out _ hse1.frame.tail
      clear hu hdr hr hfp hsv hsv1 hse hse1 hi hp hil
      go_upto_region 5 with (fail)
      clear u0 u1 u2
      generalize wr.alloc (.cells #[kI n, kI q.lsn, .slice sa q.slots.length sc] 55) = W1 at *
      generalize wr.heap.size = xb at *
      have x0 : W1.cell? ⟨xb, 0, none⟩ = some (kI n) := by rw [cell_of HS.out.frame.h0]; rfl
      have x1 : W1.cell? ⟨xb, 1, none⟩ = some (kI q.lsn) := by rw [cell_of HS.out.frame.h0]; rfl
      have x2 : W1.cell? ⟨xb, 2, none⟩ = some (.slice sa q.slots.length sc) := by rw [cell_of HS.out.frame.h0]; rfl
      have HSN : Hid (∀ k, SeenAt m S (.blk xb (.cells #[kI n, kI q.lsn, .slice sa q.slots.length sc] 55) :: AW) (W1.drewN k)) := Lib.hid (fun k => HS.out.grown (Grown.drewN W1 k))
      by_cases h2 : n < 0
      · have hr := HR.out
        unfold fitPM at hr
        rw [if_pos (by simp only [decide_eq_true h2]; rfl)] at hr
        subst hr
        have HB : Hid (∀ k, PB (W1.drewN k)) := Lib.hid (fun k => HFIN2.out _ (HSN.out k).frame.tail)
        clear HR HS HG HSN
        go_quiet (fail)
        go_wp2_with fail
        go_ret
        exact ⟨rfl, HB.out _⟩
      · have h2' : (n < 0) = False := eq_false h2
        by_cases h3 : (len : Int) ≤ n
        · have hr := HR.out
          unfold fitPM at hr
          rw [if_pos (by simp only [decide_eq_true h3]; simp)] at hr
          subst hr
          have HB : Hid (∀ k, PB (W1.drewN k)) := Lib.hid (fun k => HFIN2.out _ (HSN.out k).frame.tail)
          clear HR HS HG HSN
          go_quiet (fail)
          go_wp2_with fail
          go_ret
          exact ⟨rfl, HB.out _⟩
        · have h3' : ((len : Int) ≤ n) = False := eq_false h3
          obtain ⟨c1, hc1⟩ : ∃ c1, S.contains n = c1 := ⟨_, rfl⟩
          have HC1 := Lib.hid hc1
          have hlk : ∀ k, (Instr.lookup 105 (.map (some m)) (kI n) false).run Tryz.prog (W1.drewN k) = .ok (.bool c1) (W1.drewN k) := fun k => by
            have := (HSN.out k).look n
            rw [hc1] at this
            exact this
          clear hc1
          cases c1 with
          | true =>
            have hr := HR.out
            unfold fitPM at hr
            rw [if_pos (by simp only [HC1.out]; simp)] at hr
            subst hr
            have HB : Hid (∀ k, PB (W1.drewN k)) := Lib.hid (fun k => HFIN2.out _ (HSN.out k).frame.tail)
            clear HR HS HG HSN HC1
            go_quiet (fail)
            go_wp2_with fail
            go_ret
            exact ⟨rfl, HB.out _⟩
          | false =>
            obtain ⟨gq, hgq⟩ : ∃ gq, goodP q = gq := ⟨_, rfl⟩
            rw [hgq] at HG
            have HGQ := Lib.hid hgq
            have HN := Lib.hid (And.intro h2 h3)
            have hcc : ∀ W, SeenAt m S (.blk xb (.cells #[kI n, kI q.lsn, .slice sa q.slots.length sc] 55) :: AW) W → W.cell? ⟨xb, 0, none⟩ = some (kI n) ∧ W.cell? ⟨xb, 1, none⟩ = some (kI q.lsn) ∧ W.cell? ⟨xb, 2, none⟩ = some (.slice sa q.slots.length sc) ∧ W.cell? ⟨tb, 3, none⟩ = some (.slice pa len pc) := fun W hW => by
              have hb := hW.frame.h0
              exact ⟨by rw [cell_of hb]; rfl, by rw [cell_of hb]; rfl, by rw [cell_of hb]; rfl, (HCL.out _ hW.frame.tail).1⟩
            have HCC := Lib.hid hcc
            have hs1 : SeenAt m S (.blk xb (.cells #[kI n, kI q.lsn, .slice sa q.slots.length sc] 55) :: AW) W1.drew := HSN.out 1
            have HS1 := Lib.hid hs1
            have K1 := Lib.hid (hcc _ HS.out)
            have K2 := Lib.hid (hcc _ hs1)
            have hl1 : (Instr.lookup 105 (.map (some m)) (kI n) false).run Tryz.prog W1.drew = .ok (.bool false) W1.drew := hlk 1
            clear hgq h2 h3 hcc hs1 hlk x0 x1 x2 t3
            go_cut [39] (fun v39 wx => v39 = .bool (!gq) ∧ SeenAt m S (.blk xb (.cells #[kI n, kI q.lsn, .slice sa q.slots.length sc] 55) :: AW) wx)
            case first =>
              go_region_held3 (fun w' => w'.cell? ⟨xb, 0, none⟩ = some (kI n) ∧ w'.cell? ⟨xb, 1, none⟩ = some (kI q.lsn) ∧ w'.cell? ⟨xb, 2, none⟩ = some (.slice sa q.slots.length sc) ∧ w'.cell? ⟨tb, 3, none⟩ = some (.slice pa len pc))
                (with_reducible first | exact K1.out | exact K2.out | exact K3.out)
                (first
                  | (go_at_call 64
                     with_reducible refine (HG.out _ HS1.out).mono ?_
                     rintro e w3 ⟨rfl, hg3⟩
                     have hs3 := HS1.out.grown hg3
                     have HS3 := Lib.hid hs3
                     have K3 := Lib.hid (HCC.out _ hs3)
                     clear hs3 hg3))
              all_goals
                clear K1 K2 K3 HCC HG hl1
                go_wp2_with fail
                go_meet
                exact ⟨rfl, HS3.out⟩
            case rest =>
              obtain ⟨rfl, hs⟩ := hcut
              clear K1 K2 HCC HG hl1 HS HSN HS1
              cases gq with
              | false =>
                have hr := HR.out
                unfold fitPM at hr
                rw [if_pos (by simp only [HGQ.out]; simp)] at hr
                subst hr
                have HB := Lib.hid (HFIN2.out _ hs.frame.tail)
                clear HC1 HR hs HGQ HN
                go_wp2_with fail
                go_ret
                exact ⟨rfl, HB.out⟩
              | true =>
                have hr := HR.out
                unfold fitPM at hr
                rw [if_neg (by have h8 := HN.out; simp only [HC1.out, HGQ.out]; simp; omega)] at hr
                have x0 : wc.cell? ⟨xb, 0, none⟩ = some (kI n) := by rw [cell_of hs.frame.h0]; rfl
                obtain ⟨w3, hup, hs3⟩ := hs.put n
                have FIN : Hid (fitPM len (n :: S) (P.drop (i + 1)) = res ∧ SeenAt m (n :: S) AW w3) := Lib.hid ⟨hr, hs3.part (fun a => by simp only [cnt_cons]; omega)⟩
                clear hr hs3 HC1 HR hs HGQ HN
                go_wp2_with fail
                exact ⟨⟨i + 1, n :: S, by have := HI.out; omega, by simp, FIN.out.1, FIN.out.2⟩, by simp only [RowKit.intOf]; have := HI.out; omega⟩
    · obtain rfl : i = P.length := by omega
      rw [List.drop_length] at hr
      have hr2 : true = res := hr
      subst hr2
      obtain ⟨_, t2⟩ := HCL.out _ hse.frame
      have HB := Lib.hid (HFIN2.out _ hse.frame)
      clear hr hse hi hil
      go_wp2_with fail
      go_ret
      exact ⟨by simp, HB.out⟩
end Go.Proofs.YtgocmnejlbfplaaGreatDoor
