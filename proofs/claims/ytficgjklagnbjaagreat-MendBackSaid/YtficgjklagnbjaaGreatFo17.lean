/- Texts put together: Me24, Me25. Conditions: none. -/
import Derived.Test.YtficgjklagnbjaaGreatFo13
import Derived.Test.YtficgjklagnbjaaGreatFo16
namespace Go.Proofs.YtficgjklagnbjaaGreat
open Go Go.MapKept Go.RowKit Go.Proofs Go.Sort

theorem arePM_ok : ∀ {P : List Lf} {S : List Int}, arePM S P = true → ∀ p ∈ P, goodP p.2 = true ∧ 0 ≤ p.1 ∧ p.1 < 1024
  | [], _, _, p, hp => by cases hp
  | q :: P, S, h, p, hp => by
    simp only [arePM] at h
    split at h
    · cases h
    · rename_i h1
      simp only [Bool.or_eq_true, not_or, Bool.not_eq_true', decide_eq_true_eq] at h1
      cases hp with
      | head => exact ⟨by simpa using h1.2, by omega, by omega⟩
      | tail _ hp => exact arePM_ok h p hp
theorem fitM_parts {l : List En} {P : List Lf} (h : fitM l P = true) : arePM [] P = true ∧ ∀ x ∈ l, goodM x = true ∧ (x.kind ≤ 2 → 0 ≤ idxF (atN x.page) P) := by
  unfold fitM at h
  simp only [Bool.and_eq_true, Bool.not_eq_true', List.any_eq_false] at h
  refine ⟨h.1, fun x hx => ?_⟩
  have := h.2 x hx
  unfold oddE at this
  simp only [Bool.or_eq_true, Bool.not_eq_true', Bool.and_eq_true, decide_eq_true_eq, not_or, not_and, Bool.not_eq_false] at this
  exact ⟨this.1, fun hk => by have := this.2 hk; omega⟩
theorem fitU_of {l : List En} {P : List Lf} (h : fitM l P = true) (hl : P.length ≤ 1000) (f : Tx × Int → Bool) : FitU l P ((losersM l).filter f) := by
  obtain ⟨h1, h2⟩ := fitM_parts h
  refine ⟨h2, fun p hp => (arePM_ok h1 p hp).1, hl, fun q hq => ?_⟩
  obtain ⟨t, n⟩ := q
  have := ((mem_losers l t n).1 (List.mem_filter.1 hq).1).2
  unfold lastOf at this
  intro h0
  rw [h0] at this
  cases this
theorem fitM_fit {l : List En} {P : List Lf} (h : fitM l P = true) : FitL l ∧ FitP P := by
  obtain ⟨h1, h2⟩ := fitM_parts h
  refine ⟨fun x hx => ?_, fun p hp => good_bd (arePM_ok h1 p hp).1⟩
  have := goodM_lsn (h2 x hx).1
  omega
/-- A tail of a slice of entries. -/
theorem ens_drop {F : Heaplet} {g n cap k : Nat} {l : List En} (h : EnsIn F (.slice (some ⟨g, 0, none⟩) n cap) l) : EnsIn F (.slice (some ⟨g, k * 13, none⟩) (n - k) (cap - k)) (l.drop k) := by
  obtain ⟨a, c, e, hc⟩ := h
  simp only [Value.slice.injEq] at e
  obtain ⟨rfl, rfl, rfl⟩ := e
  refine ⟨_, _, by rw [List.length_drop], fun w hw i q hq => ?_⟩
  rw [List.getElem?_drop] at hq
  obtain ⟨g', off, e, hE⟩ := hc w hw (k + i) q hq
  simp only [Option.some.injEq, Addr.mk.injEq] at e
  obtain ⟨rfl, rfl, _⟩ := e
  refine ⟨_, _, rfl, ?_⟩
  have e2 : k * 13 + i * 13 = 0 + (k + i) * 13 := by omega
  rw [e2]; exact hE
theorem endsM_pre : ∀ (L : List (Tx × Int)) (l : List En), ∃ m, (endsM l L).1 = l ++ m
  | [], l => ⟨[], by simp [endsM]⟩
  | q :: L, l => by
    simp only [endsM]
    split
    · exact ⟨[], by simp⟩
    · obtain ⟨m, hm⟩ := endsM_pre L (l ++ [endE q.1 (lastL l q.1)])
      exact ⟨_, by rw [hm, List.append_assoc]⟩
theorem undoM_pre (l : List En) (P : List Lf) (x : En) : ∃ m, (undoM l P x).1 = l ++ m := by
  unfold undoM
  split
  · exact ⟨[], by simp⟩
  · split
    · exact ⟨[], by simp⟩
    · split
      · exact ⟨[], by simp⟩
      · split
        · exact ⟨[], by simp⟩
        · exact ⟨_, rfl⟩
theorem allU_pre {L : List (Tx × Int)} : ∀ {f : Nat} {l lr : List En} {P Pr : List Lf} {c : Int}, allU L f l P = some (lr, Pr, c) → ∃ m, lr = l ++ m
  | 0, l, lr, P, Pr, c, h => by simp [allU] at h
  | f + 1, l, lr, P, Pr, c, h => by
    simp only [allU] at h
    split at h
    · cases h; exact ⟨[], by simp⟩
    · split at h
      · cases h; exact endsM_pre _ _
      · split at h
        · have h1 := Option.some.inj h
          obtain ⟨m, hm⟩ := undoM_pre l P (pickM l L).1
          rw [h1] at hm
          exact ⟨m, hm⟩
        · obtain ⟨m, hm⟩ := undoM_pre l P (pickM l L).1
          obtain ⟨m2, hm2⟩ := allU_pre h
          rw [hm] at hm2
          exact ⟨m ++ m2, by rw [hm2, List.append_assoc]⟩
theorem readM_lo (l : List En) : (readM l 1).losers = losersM l := by
  unfold readM withinM
  rfl
theorem endsM_bd : ∀ (L : List (Tx × Int)) (l : List En), (endsM l L).1.length ≤ l.length + L.length
  | [], l => by simp [endsM]
  | q :: L, l => by
    simp only [endsM]
    split
    · simp
    · have := endsM_bd L (l ++ [endE q.1 (lastL l q.1)])
      simp at this ⊢
      omega
theorem undoM_bd (l : List En) (P : List Lf) (x : En) : (undoM l P x).1.length ≤ l.length + 1 := by
  unfold undoM
  split
  · simp
  · split
    · simp
    · split
      · simp
      · split <;> simp
theorem allU_bd0 {L : List (Tx × Int)} : ∀ {f : Nat} {l lr : List En} {P Pr : List Lf} {c : Int}, allU L f l P = some (lr, Pr, c) → lr.length ≤ l.length + f + L.length
  | 0, l, lr, P, Pr, c, h => by simp [allU] at h
  | f + 1, l, lr, P, Pr, c, h => by
    simp only [allU] at h
    split at h
    · cases h; omega
    · split at h
      · cases h
        have := endsM_bd L l
        omega
      · split at h
        · have h1 := Option.some.inj h
          have := undoM_bd l P (pickM l L).1
          rw [h1] at this
          simp only at this
          omega
        · have h1 := allU_bd0 h
          have := undoM_bd l P (pickM l L).1
          omega
theorem allU_bd {L : List (Tx × Int)} {f : Nat} {l lr : List En} {P Pr : List Lf} {c : Int} (h : allU L f l P = some (lr, Pr, c)) (hl : l.length + f + L.length ≤ 100000) : lr.length ≤ 100000 := by
  have := allU_bd0 h
  omega
theorem ens_nil {F : Heaplet} {a : Option Addr} {n cap : Nat} {l : List En} (hn : l.length = n) (h0 : n = 0) : EnsIn F (.slice a n cap) l := by
  subst h0
  rw [List.eq_nil_of_length_eq_zero hn]
  exact ⟨a, cap, rfl, fun w hw i q hq => by simp at hq⟩
/-- Entries, leaves, an error. -/
def UnRet (A : List En) (P : List Lf) (c : Int) (F : Heaplet) (e : Ending) (w' : World) : Prop := ∃ av pv h1 h2, e = .returned (.tuple #[av, pv, .int .i64 c]) ∧ EnSl av A h1 ∧ LvOwn pv P h2 ∧ Sat w' (h1 ++ (h2 ++ F))
abbrev lfO (n l : Int) (sv : Value) : Obj := .cells #[kI n, kI l, sv] 54
set_option maxRecDepth 100000 in
set_option maxHeartbeats 4000000 in
theorem undoU_any {lv v : Value} {l lr : List En} {P Pr : List Lf} {rc cl : Int} {F : Heaplet} {w : World} {f : Nat} (hE : EnsIn F lv l) (hv : LvAt F v P) (s : Sat w F) (hl : P.length ≤ 1000) (hll : l.length + f + (losersM l).length ≤ 99999)
    (hfit : fitM l P = true) (hc0 : 0 ≤ cl) (hc8 : cl ≤ 8) (hA : allU ((losersM l).filter (keepL cl)) f l P = some (lr, Pr, rc)) :
    Calls Tryz.prog 15 #[lv, v, kI cl] w (UnRet (if rc = 0 then lr.drop l.length else []) (if rc = 0 then Pr else []) rc F) := by
  obtain ⟨RA, hRA⟩ : ∃ RA, (if rc = 0 then lr.drop l.length else []) = RA := ⟨_, rfl⟩
  obtain ⟨RP, hRP⟩ : ∃ RP, (if rc = 0 then Pr else []) = RP := ⟨_, rfl⟩
  rw [hRA, hRP]
  have HRR := Lib.hid (And.intro hRA hRP)
  clear hRA hRP
  have hfl := fitM_fit hfit
  have s1 := s.new (.cells #[kI cl] 3)
  have HFIT := Lib.hid (fit_any (hv.mono (fun w hw => hw.tail)) (hE.mono (fun w hw => hw.tail)) s1 hl hfl.2 (by omega) hfl.1)
  rw [hfit] at HFIT
  have HV := Lib.hid hv
  have HE := Lib.hid hE
  have HA := Lib.hid (And.intro hA (And.intro hll (And.intro hfit hfl)))
  have HS1 := Lib.hid s1
  obtain ⟨a, cap, rfl, hc⟩ := hv
  have HC := Lib.hid hc
  obtain ⟨la, lc, rfl, _⟩ := hE0 hE
  have hc9 : (8 < cl) = False := eq_false (by omega)
  have hc10 : (cl < 0) = False := eq_false (by omega)
  have x0 : (w.alloc (.cells #[kI cl] 3)).cell? ⟨w.heap.size, 0, none⟩ = some (kI cl) := by rw [cell_of s1.h0]; rfl
  have hl9 : (P.length : Int) ≤ 1000 := by omega
  clear s s1 hE hc hfit hfl hA hll
  go_enter Tryz.func15, Tryz.ntmps15
  go_upto_region 1 with (fail)
  generalize w.alloc (.cells #[kI cl] 3) = W1 at *
  generalize w.heap.size = g at *
  go_upto_region 3 with (go_at_call 27; refine (HFIT.out).mono ?_; rintro e w2 ⟨rfl, hb⟩; have HS2 := Lib.hid (HS1.out.monoB hb); clear hb HFIT HS1 x0; have x0 : w2.cell? ⟨g, 0, none⟩ = some (kI cl) := (by rw [cell_of HS2.out.h0]; rfl))
  have HCL := Lib.hid (clone_en (HE.out.mono (fun w hw => Sat.tail hw)) HS2.out (by have := HA.out.2.1; omega))
  go_upto_region 4 with (go_at_call 28; refine (HCL.out).mono ?_; rintro e w3 ⟨lv3, h3, rfl, hv3, hs3⟩; have HS3 := Lib.hid (And.intro hv3 hs3); obtain ⟨la3, lc3, rfl⟩ := sl_form hv3; clear hv3 hs3 HCL HS2 x0)
  have HU : Hid (UdSt w3.heap.size l [] (.slice none 0 0) (.blk g (.cells #[kI cl] 3) :: F) (w3.alloc (udO (.slice la3 l.length lc3) (.slice none 0 0) (.slice none 0 0)))) := Lib.hid (UdSt.mk HS3.out.1 LvOwn.nil (HS3.out.2.new _))
  generalize w3.alloc (.cells #[.slice la3 l.length lc3, .slice none 0 0, .slice none 0 0] 85) = W4 at *
  generalize w3.heap.size = ub at *
  go_wp2_with fail
  clear HS3
  go_loopw [31] (fun v31 wr => ∃ i : Nat, i ≤ P.length ∧ v31 = .int .i64 i ∧ UdSt ub l (P.take i) (.slice none 0 0) (.blk g (.cells #[kI cl] 3) :: F) wr) (fun v31 _ => 2000 - (RowKit.intOf v31).toNat)
  case atStart => exact ⟨0, by omega, rfl, HU.out⟩
  case round =>
    clear HU
    obtain ⟨i, hi, rfl, hU⟩ := hrel
    have i0 : (0 : Int) ≤ (i : Int) := by omega
    by_cases hil : i < P.length
    · have i1 : (i : Int) < (P.length : Int) := by omega
      obtain ⟨p, hp⟩ : ∃ p, P[i]? = some p := ⟨_, List.getElem?_eq_getElem hil⟩
      obtain ⟨n, q⟩ := p
      obtain ⟨pg, off, sv, rfl, hsv, hu⟩ := HC.out i _ hp
      simp only at hsv hu
      have hfp := HA.out.2.2.2.2 _ (List.mem_of_getElem? hp)
      simp only at hfp
      have htk : P.take (i + 1) = P.take i ++ [(n, q)] := by rw [List.take_add_one, hp]; rfl
      obtain ⟨lv, pv, h, hq, h1, h2, s⟩ := hU
      obtain ⟨sa, sc, rfl, _⟩ := id hsv
      obtain ⟨u0, u1, u2⟩ := hu wr s.tail.right.right.tail
      have s1 := s.new (lfO n q.lsn (.slice sa q.slots.length sc))
      have HCS := Lib.hid (clone_sl (hsv.mono (fun w hw => (Sat.right (Sat.right (Sat.tail (Sat.tail hw)))).tail)) s1 hfp.1)
      have HV2 := Lib.hid (And.intro h1 (And.intro h2 htk))
      have HS1 := Lib.hid s1
      have z2 : (wr.alloc (lfO n q.lsn (.slice sa q.slots.length sc))).cell? ⟨wr.heap.size, 2, none⟩ = some (.slice sa q.slots.length sc) := by rw [cell_of s1.h0]; rfl
      clear hsv hu hfp hp s s1 h1 h2 htk hi
      go_upto_region 7 with (fail)
      clear u0 u1 u2
      generalize wr.alloc (.cells #[kI n, kI q.lsn, .slice sa q.slots.length sc] 54) = W5 at *
      generalize wr.heap.size = xb at *
      go_upto_region 8 with (go_at_call 29; refine (HCS.out).mono ?_; rintro e w6 ⟨sv6, h6, rfl, hv6, hs6⟩; have HS6 := Lib.hid (And.intro hv6 hs6); obtain ⟨sa6, sc6, rfl⟩ := sl_form hv6; have hs7 : Sat w6 (.blk xb (lfO n q.lsn (.slice sa q.slots.length sc)) :: (h6 ++ (.blk ub (udO lv pv (.slice none 0 0)) :: (h ++ (hq ++ (.blk g (.cells #[kI cl] 3) :: F)))))) := HS6.out.2.perm List.perm_middle; have ff := unfrozen_of hs7.h0; clear z2; have z2 : w6.cell? ⟨xb, 2, none⟩ = some (.slice sa q.slots.length sc) := (by rw [cell_of hs7.h0]; rfl); have HS7 : Hid (Sat (w6.setCell ⟨xb, 2, none⟩ (.slice sa6 q.slots.length sc6)) (.blk xb (lfO n q.lsn (.slice sa6 q.slots.length sc6)) :: (h6 ++ (.blk ub (udO lv pv (.slice none 0 0)) :: (h ++ (hq ++ (.blk g (.cells #[kI cl] 3) :: F))))))) := Lib.hid (hs7.setCell (i := 2) (.slice sa6 q.slots.length sc6)); clear hs6 hs7 hv6 HCS HS1)
      clear ff z2
      generalize w6.setCell ⟨xb, 2, none⟩ (.slice sa6 q.slots.length sc6) = W7 at *
      obtain ⟨pa, pc, rfl⟩ := LvOwn.form HV2.out.2.1
      have hpln : (P.take i).length = i := by rw [List.length_take]; omega
      have HPL := Lib.hid hpln
      rw [hpln] at HV2 HS7
      have hND : Sat (W7.alloc (lfO n q.lsn (.slice sa6 q.slots.length sc6))).drew (.blk W7.heap.size (lfO n q.lsn (.slice sa6 q.slots.length sc6)) :: (hq ++ (h6 ++ (.blk xb (lfO n q.lsn (.slice sa6 q.slots.length sc6)) :: .blk ub (udO lv (.slice pa i pc) (.slice none 0 0)) :: (h ++ (.blk g (.cells #[kI cl] 3) :: F)))))) := by
        have h0 := (HS7.out.new (lfO n q.lsn (.slice sa6 q.slots.length sc6))).drew
        (refine Sat.part h0 ?_; intro a; simp only [cnt_cons, cnt_append]; omega)
      have hsl6 : SlAt h6 (.slice sa6 q.slots.length sc6) q.slots := (slAt_own HS6.out.1 []).mono (fun w hw => by rw [List.append_nil]; exact hw)
      obtain ⟨v5, w5, h5, hap, hown5, hs5⟩ := lv_push (hn := h6) (n := n) (q := q) HV2.out.2.1 hND hsl6 (by rw [HPL.out]; omega)
      have hs8 : Sat w5 (.blk ub (udO lv (.slice pa i pc) (.slice none 0 0)) :: (h ++ (h5 ++ (.blk g (.cells #[kI cl] 3) :: F)))) := by (refine Sat.part hs5 ?_; intro a; simp only [cnt_cons, cnt_append]; omega)
      have k0 : W7.cell? ⟨ub, 1, none⟩ = some (.slice pa i pc) := by rw [cell_of (HS7.out.get (b := ub) (o := udO lv (.slice pa i pc) (.slice none 0 0)) (by simp))]; rfl
      have k1 : w5.cell? ⟨ub, 1, none⟩ = some (.slice pa i pc) := by rw [cell_of hs8.h0]; rfl
      have k2 : w5.frozen? ⟨ub, 1, none⟩ = false := unfrozen_of hs8.h0 1
      have k3 : (W7.alloc (lfO n q.lsn (.slice sa6 q.slots.length sc6))).cell? ⟨ub, 1, none⟩ = some (.slice pa i pc) := by rw [cell_of ((HS7.out.new (lfO n q.lsn (.slice sa6 q.slots.length sc6))).get (b := ub) (o := udO lv (.slice pa i pc) (.slice none 0 0)) (by simp))]; rfl
      have x0 : W7.cell? ⟨xb, 0, none⟩ = some (kI n) := by rw [cell_of HS7.out.h0]; rfl
      have x1 : W7.cell? ⟨xb, 1, none⟩ = some (kI q.lsn) := by rw [cell_of HS7.out.h0]; rfl
      have x2 : W7.cell? ⟨xb, 2, none⟩ = some (.slice sa6 q.slots.length sc6) := by rw [cell_of HS7.out.h0]; rfl
      have hs9 := hs8.setCell (i := 1) v5
      have hap : ∀ ty, (Builtin.append_ #[30, 30] ty #[.slice pa i pc, .slice (some ⟨W7.heap.size, 0, none⟩) 1 1]).run Tryz.prog (W7.alloc (lfO n q.lsn (.slice sa6 q.slots.length sc6))).drew = .ok v5 w5 := hap
      have HAP := Lib.hid hap
      obtain ⟨a5, c5, rfl⟩ := LvOwn.form hown5
      have e5 : (P.take i ++ [(n, q)]).length = i + 1 := by rw [List.length_append, HPL.out]; rfl
      have FIN : Hid (UdSt ub l (P.take (i + 1)) (.slice none 0 0) (.blk g (.cells #[kI cl] 3) :: F) (w5.setCell ⟨ub, 1, none⟩ (.slice a5 (i + 1) c5))) := Lib.hid (by
        rw [HV2.out.2.2]
        rw [e5] at hown5 hs9
        exact UdSt.mk HV2.out.1 hown5 hs9)
      rw [e5] at HAP
      clear hap hown5 hs5 hs8 hs9 hND hsl6 HS6 HS7 HV2 HPL hpln e5
      go_region_law ((refine step_append_run (by rfl) _ _ _ _ (by rfl) _ _ _ w5 (by rfl) (by rfl) HAP.out ?_))
      all_goals
        go_wp2_with fail
        exact ⟨⟨i + 1, by omega, by simp, FIN.out⟩, by simp only [RowKit.intOf]; omega⟩
    · obtain rfl : i = P.length := by omega
      rw [List.take_length] at hU
      obtain ⟨lv, pv, h, hq, h1, h2, s⟩ := hU
      have hfl := HA.out.2.2.2
      have HRD := Lib.hid (Read_any (.slice la l.length lc) l 1 _ wr s (HE.out.mono (fun w hw => (Sat.right (Sat.right (Sat.tail hw))).tail)) (by have := HA.out.2.1; omega) hfl.1)
      have HV2 := Lib.hid (And.intro h1 h2)
      clear h1 h2 s hfl hi hil
      go_upto_region 11 with (first
        | (go_at_call 31; refine (HRD.out).mono ?_; rintro e w5 ⟨vv, vh, rfl, ⟨lov, dov, pgv, loh, doh, pgh, rfl, hlo, hdo, hpg, rfl⟩, hs5⟩; obtain ⟨da, dc, rfl⟩ := sl_form hdo; obtain ⟨fa, fc, rfl⟩ := sl_form hpg; clear hdo hpg; rw [readM_lo] at hlo; have hs6 : Sat w5 (loh ++ (.blk g (.cells #[kI cl] 3) :: .blk ub (udO lv pv (.slice none 0 0)) :: (h ++ (hq ++ F)))) := (by (refine Sat.part hs5 ?_; intro a; simp only [cnt_cons, cnt_append]; omega)); have HDL := Lib.hid (del_any hlo hs6 (by have := HA.out.2.1; omega)); obtain ⟨oa, oc, rfl⟩ := sl_form hlo; clear hs5 hs6 hlo HRD; have hfd : ∀ W, (Instr.field 93 (.agg #[.slice oa (losersM l).length oc, .slice da (readM l 1).done.length dc, .slice fa (readM l 1).pages.length fc]) 0).run Tryz.prog W = .ok (.slice oa (losersM l).length oc) W := (fun _ => by kernel_rfl))
        | (go_at_call 30; refine (HDL.out).mono ?_; rintro e w6 ⟨sv6, h6, rfl, hv6, hs6⟩; have hs7 : Sat w6 (.blk ub (udO lv pv (.slice none 0 0)) :: (h ++ (hq ++ (h6 ++ F)))) := (by (refine Sat.part hs6 ?_; intro a; simp only [cnt_cons, cnt_append]; omega)); have ff := unfrozen_of hs7.h0; have z2 : w6.cell? ⟨ub, 2, none⟩ = some (.slice none 0 0) := (by rw [cell_of hs7.h0]; rfl); have HS7 := Lib.hid (And.intro hv6 hs7); obtain ⟨sa6, sc6, rfl⟩ := sl_form hv6; clear hv6 hs6 hs7 HDL))
      have hs8 : Sat (w6.setCell ⟨ub, 2, none⟩ (.slice sa6 ((losersM l).filter (keepL cl)).length sc6)) (.blk ub (udO lv pv (.slice sa6 ((losersM l).filter (keepL cl)).length sc6)) :: (h ++ (hq ++ (h6 ++ F)))) := HS7.out.2.setCell (i := 2) (.slice sa6 ((losersM l).filter (keepL cl)).length sc6)
      have hUd : UdSt ub l P (.slice sa6 ((losersM l).filter (keepL cl)).length sc6) (h6 ++ F) (w6.setCell ⟨ub, 2, none⟩ (.slice sa6 ((losersM l).filter (keepL cl)).length sc6)) := UdSt.mk HV2.out.1 HV2.out.2 hs8
      have HAL := Lib.hid (allU_any HA.out.1 hUd (lo_in HS7.out.1 F) (by have h0 := HA.out.2.1; have h1 := List.length_filter_le (keepL cl) (losersM l); omega) (fitU_of HA.out.2.2.1 hl _))
      obtain ⟨ml, hml⟩ := allU_pre HA.out.1
      have HML := Lib.hid hml
      clear z2 ff HS7 hs8 hUd hml HV2
      generalize w6.setCell ⟨ub, 2, none⟩ (.slice sa6 ((losersM l).filter (keepL cl)).length sc6) = W8 at *
      by_cases hc : rc = 0
      · subst hc
        have h1 : lr.drop l.length = RA := by have := HRR.out.1; rw [if_pos rfl] at this; exact this
        have h2 : Pr = RP := by have := HRR.out.2; rw [if_pos rfl] at this; exact this
        subst h1; subst h2
        go_upto_region 14 with (go_at_call 33; refine (HAL.out).mono ?_; rintro e w9 ⟨rfl, hU9⟩; have HU9 := Lib.hid hU9; clear hU9 HAL)
        obtain ⟨lv, pv, h, hq, h1, h2, s⟩ := HU9.out
        have hlr : lr.length = l.length + ml.length := by have := congrArg List.length HML.out; simpa using this
        have hlrb : lr.length ≤ 100000 := allU_bd HA.out.1 (by have h0 := HA.out.2.1; have h1 := List.length_filter_le (keepL cl) (losersM l); omega)
        have HLR := Lib.hid hlrb
        have n0 : (0 : Int) ≤ (l.length : Int) := by omega
        have n1 : (l.length : Int) ≤ (lr.length : Int) := by omega
        have n2 : l.length ≤ lr.length := by omega
        have HLN := Lib.hid hlr
        clear hlr hlrb
        rcases h1.2 with ⟨e2, e3, e4⟩ | ⟨eg, ecap, cur, e2, hnc, hcm, hcs, htake, e4⟩
        · subst e2
          have hlr0 : lr = [] := List.eq_nil_of_length_eq_zero e3
          subst hlr0
          have hl0 : l = [] := List.eq_nil_of_length_eq_zero (by have := HLN.out; simp at this; omega)
          subst hl0
          obtain ⟨pa2, pc2, rfl⟩ := LvOwn.form h2
          have hcell : ∀ W, Sat W (.blk ub (udO (.slice none 0 0) (.slice pa2 Pr.length pc2) (.slice sa6 ((losersM ([] : List En)).filter (keepL cl)).length sc6)) :: (h ++ (hq ++ (h6 ++ F)))) → W.cell? ⟨ub, 0, none⟩ = some (.slice none 0 0) ∧ W.cell? ⟨ub, 1, none⟩ = some (.slice pa2 Pr.length pc2) := fun W hW => ⟨by rw [cell_of hW.h0]; rfl, by rw [cell_of hW.h0]; rfl⟩
          have HC9 := Lib.hid hcell
          have hens : EnsIn (.blk ub (udO (.slice none 0 0) (.slice pa2 Pr.length pc2) (.slice sa6 ((losersM ([] : List En)).filter (keepL cl)).length sc6)) :: (h ++ (hq ++ (h6 ++ F)))) (.slice none 0 0) (([] : List En).drop ([] : List En).length) := ens_nil rfl rfl
          have HCL := Lib.hid (clone_en hens s.drew (by rw [List.length_drop]; have := HML.out; have := HA.out.2.1; have := HLR.out; omega))
          have K1 := Lib.hid (hcell _ s)
          have K2 := Lib.hid (hcell _ s.drew)
          have HQ := Lib.hid h2
          clear hcell hens s h1 h2 HC HE HV HA HRR HML hfd HU9 HLN
          go_region_held3 (fun w' => w'.cell? ⟨ub, 0, none⟩ = some (.slice none 0 0) ∧ w'.cell? ⟨ub, 1, none⟩ = some (.slice pa2 Pr.length pc2))
            (with_reducible first | exact K1.out | exact K2.out | exact K3.out)
            (first
              | (go_at_call 28
                 refine (HCL.out).mono ?_
                 rintro e w4 ⟨v4, h4, rfl, hv4, hs4⟩
                 have K3 := Lib.hid (HC9.out _ hs4.right)
                 have HS4 := Lib.hid (And.intro hv4 hs4)))
          all_goals
            have FIN : Hid (EnSl v4 (([] : List En).drop ([] : List En).length) h4 ∧ LvOwn (.slice pa2 Pr.length pc2) Pr hq ∧ Sat w4 (h4 ++ (hq ++ F))) := Lib.hid ⟨HS4.out.1, HQ.out, by (refine Sat.part HS4.out.2 ?_; intro a; simp only [cnt_cons, cnt_append]; omega)⟩
            clear HS4 K1 K2 K3 HQ HCL HC9
            go_wp2_with fail
            go_ret3
            exact ⟨_, _, h4, hq, rfl, FIN.out.1, FIN.out.2.1, FIN.out.2.2⟩
        · subst e2
          have m1 : (l.length : Int) ≤ (ecap : Int) := by omega
          have m2 : l.length ≤ ecap := by omega
          by_cases hck : ecap = l.length
          · have hdn : lr.length = l.length := by have := HLN.out; omega
            have HDN := Lib.hid hdn
            clear hdn
            obtain ⟨pa2, pc2, rfl⟩ := LvOwn.form h2
            have hcell : ∀ W, Sat W (.blk ub (udO (.slice (some ⟨eg, 0, none⟩) lr.length ecap) (.slice pa2 Pr.length pc2) (.slice sa6 ((losersM l).filter (keepL cl)).length sc6)) :: (h ++ (hq ++ (h6 ++ F)))) → W.cell? ⟨ub, 0, none⟩ = some (.slice (some ⟨eg, 0, none⟩) lr.length ecap) ∧ W.cell? ⟨ub, 1, none⟩ = some (.slice pa2 Pr.length pc2) := fun W hW => ⟨by rw [cell_of hW.h0]; rfl, by rw [cell_of hW.h0]; rfl⟩
            have HC9 := Lib.hid hcell
            have hens : EnsIn (.blk ub (udO (.slice (some ⟨eg, 0, none⟩) lr.length ecap) (.slice pa2 Pr.length pc2) (.slice sa6 ((losersM l).filter (keepL cl)).length sc6)) :: (h ++ (hq ++ (h6 ++ F)))) (.slice (some ⟨eg, 0, none⟩) (lr.length - l.length) (ecap - l.length)) (lr.drop l.length) := ens_nil (by rw [List.length_drop]) (by have := HDN.out; omega)
            have HCL := Lib.hid (clone_en hens s.drew (by rw [List.length_drop]; have := HML.out; have := HA.out.2.1; have := HLR.out; omega))
            have K1 := Lib.hid (hcell _ s)
            have K2 := Lib.hid (hcell _ s.drew)
            have HQ := Lib.hid h2
            have hck2 : (ecap = l.length) = True := eq_true hck
            clear hck
            clear hcell hens s h1 h2 HC HE HV HA HRR HML hfd HU9 HLN hnc hcm hcs htake
            go_region_held3 (fun w' => w'.cell? ⟨ub, 0, none⟩ = some (.slice (some ⟨eg, 0, none⟩) lr.length ecap) ∧ w'.cell? ⟨ub, 1, none⟩ = some (.slice pa2 Pr.length pc2))
              (with_reducible first | exact K1.out | exact K2.out | exact K3.out)
              (first
                | (go_at_call 28
                   refine (HCL.out).mono ?_
                   rintro e w4 ⟨v4, h4, rfl, hv4, hs4⟩
                   have K3 := Lib.hid (HC9.out _ hs4.right)
                   have HS4 := Lib.hid (And.intro hv4 hs4)))
            all_goals
              have FIN : Hid (EnSl v4 (lr.drop l.length) h4 ∧ LvOwn (.slice pa2 Pr.length pc2) Pr hq ∧ Sat w4 (h4 ++ (hq ++ F))) := Lib.hid ⟨HS4.out.1, HQ.out, by (refine Sat.part HS4.out.2 ?_; intro a; simp only [cnt_cons, cnt_append]; omega)⟩
              clear HS4 K1 K2 K3 HQ HCL HC9
              go_wp2_with fail
              go_ret3
              exact ⟨_, _, h4, hq, rfl, FIN.out.1, FIN.out.2.1, FIN.out.2.2⟩
          · have hck2 : (ecap = l.length) = False := eq_false hck
            obtain ⟨pa2, pc2, rfl⟩ := LvOwn.form h2
            have hcell : ∀ W, Sat W (.blk ub (udO (.slice (some ⟨eg, 0, none⟩) lr.length ecap) (.slice pa2 Pr.length pc2) (.slice sa6 ((losersM l).filter (keepL cl)).length sc6)) :: (h ++ (hq ++ (h6 ++ F)))) → W.cell? ⟨ub, 0, none⟩ = some (.slice (some ⟨eg, 0, none⟩) lr.length ecap) ∧ W.cell? ⟨ub, 1, none⟩ = some (.slice pa2 Pr.length pc2) := fun W hW => ⟨by rw [cell_of hW.h0]; rfl, by rw [cell_of hW.h0]; rfl⟩
            have HC9 := Lib.hid hcell
            have hens : EnsIn (.blk ub (udO (.slice (some ⟨eg, 0, none⟩) lr.length ecap) (.slice pa2 Pr.length pc2) (.slice sa6 ((losersM l).filter (keepL cl)).length sc6)) :: (h ++ (hq ++ (h6 ++ F)))) (.slice (some ⟨eg, l.length * 13, none⟩) (lr.length - l.length) (ecap - l.length)) (lr.drop l.length) := ens_drop ((ens_in h1 _).mono (fun w hw => hw.tail))
            have HCL := Lib.hid (clone_en hens s.drew (by rw [List.length_drop]; have := HML.out; have := HA.out.2.1; have := HLR.out; omega))
            have K1 := Lib.hid (hcell _ s)
            have K2 := Lib.hid (hcell _ s.drew)
            have HQ := Lib.hid h2
            clear hck
            clear hcell hens s h1 h2 HC HE HV HA HRR HML hfd HU9 HLN hnc hcm hcs htake
            go_region_held3 (fun w' => w'.cell? ⟨ub, 0, none⟩ = some (.slice (some ⟨eg, 0, none⟩) lr.length ecap) ∧ w'.cell? ⟨ub, 1, none⟩ = some (.slice pa2 Pr.length pc2))
              (with_reducible first | exact K1.out | exact K2.out | exact K3.out)
              (first
                | (go_at_call 28
                   refine (HCL.out).mono ?_
                   rintro e w4 ⟨v4, h4, rfl, hv4, hs4⟩
                   have K3 := Lib.hid (HC9.out _ hs4.right)
                   have HS4 := Lib.hid (And.intro hv4 hs4)))
            all_goals
              have FIN : Hid (EnSl v4 (lr.drop l.length) h4 ∧ LvOwn (.slice pa2 Pr.length pc2) Pr hq ∧ Sat w4 (h4 ++ (hq ++ F))) := Lib.hid ⟨HS4.out.1, HQ.out, by (refine Sat.part HS4.out.2 ?_; intro a; simp only [cnt_cons, cnt_append]; omega)⟩
              clear HS4 K1 K2 K3 HQ HCL HC9
              go_wp2_with fail
              go_ret3
              exact ⟨_, _, h4, hq, rfl, FIN.out.1, FIN.out.2.1, FIN.out.2.2⟩

      · have hb1 : (rc == 0) = false := beq_eq_false_iff_ne.2 hc
        have hb2 : (rc != 0) = true := by rw [bne, hb1]; rfl
        have h1 : [] = RA := by have := HRR.out.1; rw [if_neg hc] at this; exact this
        have h2 : [] = RP := by have := HRR.out.2; rw [if_neg hc] at this; exact this
        subst h1; subst h2
        clear hc HRR HML HC HV HE HA
        go_wp2_with (go_at_call 33; refine (HAL.out).mono ?_; rintro e w9 ⟨rfl, hU9⟩; have HU9 := Lib.hid hU9; clear hU9 HAL)
        obtain ⟨lv, pv, h, hq, h1, h2, s⟩ := HU9.out
        have FIN : Hid (Sat w9 F) := Lib.hid s.tail.right.right.right
        clear h1 h2 s HU9
        go_ret3
        exact ⟨_, _, [], [], rfl, SliceIs.nil _ _, LvOwn.nil, FIN.out⟩
end Go.Proofs.YtficgjklagnbjaaGreat
namespace Go.Proofs.YtficgjklagnbjaaGreat
open Go Go.MapKept Go.RowKit Go.Proofs Go.Sort

theorem keep0 (L : List (Tx × Int)) : L.filter (keepL 0) = L := by
  rw [List.filter_eq_self]
  intro q _
  rfl
set_option maxRecDepth 100000 in
set_option maxHeartbeats 4000000 in
theorem restart_any {lv v : Value} {l lr : List En} {P P1 Pr : List Lf} {rc : Int} {F : Heaplet} {w : World} {f : Nat} (hE : EnsIn F lv l) (hv : LvAt F v P) (s : Sat w F) (hl : P.length ≤ 1000) (hp : FitP P) (hll : l.length + f + (losersM l).length ≤ 99999) (hf : FitL l)
    (hr : redoL l P = (P1, 0)) (hl1 : P1.length ≤ 1000) (hfit : fitM l P1 = true) (hA : allU (losersM l) f l P1 = some (lr, Pr, rc)) :
    Calls Tryz.prog 11 #[lv, v] w (UnRet (if rc = 0 then lr.drop l.length else []) (if rc = 0 then Pr else []) rc F) := by
  have HR := Lib.hid (redoL_any hv hE s hl hp (by omega) hf)
  rw [hr] at HR
  obtain ⟨RA, hRA⟩ : ∃ RA, (if rc = 0 then lr.drop l.length else []) = RA := ⟨_, rfl⟩
  obtain ⟨RP, hRP⟩ : ∃ RP, (if rc = 0 then Pr else []) = RP := ⟨_, rfl⟩
  have HUN : Hid (∀ (v1 : Value) (h1 : Heaplet) (W : World), LvOwn v1 P1 h1 → Sat W (h1 ++ F) → Calls Tryz.prog 15 #[lv, v1, kI 0] W (UnRet RA RP rc (h1 ++ F))) := Lib.hid (fun v1 h1 W hv1 hW => by
    have := undoU_any (hE.right h1) (hv1.at F) hW hl1 hll hfit (by omega : (0 : Int) ≤ 0) (by omega) (by rw [keep0]; exact hA)
    rw [hRA, hRP] at this; exact this)
  rw [hRA, hRP]
  clear hE hv s hr hfit hA hRA hRP hf hp
  go_enter Tryz.func11, Tryz.ntmps11
  go_wp2_with (first
    | (go_at_call 24; refine (HR.out).mono ?_; rintro e w1 ⟨v1, h1, rfl, hv1, hs1⟩; have HUN2 := Lib.hid (HUN.out _ _ _ hv1 hs1); obtain ⟨a1, c1, rfl⟩ := LvOwn.form hv1; clear hv1 hs1 HR)
    | (go_at_call 15; refine (HUN2.out).mono ?_; rintro e w2 ⟨av, pv, h3, h2, rfl, hav, hpv, hs2⟩; have FIN := Lib.hid (And.intro hav (And.intro hpv hs2)); clear HUN HUN2; obtain ⟨aa, ac, rfl⟩ := sl_form hav; obtain ⟨pa, pc, rfl⟩ := LvOwn.form hpv; clear hav hpv hs2))
  go_ret3
  exact ⟨_, _, h3, h2, rfl, FIN.out.1, FIN.out.2.1, by (refine Sat.part FIN.out.2.2 ?_; intro a; simp only [cnt_append]; omega)⟩
end Go.Proofs.YtficgjklagnbjaaGreat
