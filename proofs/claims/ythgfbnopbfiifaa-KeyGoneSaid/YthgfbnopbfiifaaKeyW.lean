/- Who waits for whom: walked. Conditions: none. -/
import Derived.Test.YthgfbnopbfiifaaKeyW0
import Derived.Test.YthgfbnopbfiifaaKeyC2
namespace Go.Proofs.Ythgfbnopbfiifaa
open Go Go.MapKept Go.RowKit Go.Proofs Go.Sort Go.Shelf

theorem Sat.mid {w : World} {A B : Heaplet} {y : HItem} (s : Sat w (A ++ (y :: B))) : Sat w (A ++ B) := (s.perm List.perm_middle).tail
/-- While the pages are gone over. -/
def WtE (b m : Nat) (es : Array MapEntry) (clk : Nat) (D : List (Int × Nat)) (K : KtM) (rr : Nat) (F : Heaplet) (n : Nat) (v3 : Value) (wx : World) : Prop :=
  ∃ (lp : List (Int × Nat)) (since : Nat) (seen : Array Nat) (c0 : Nat) (A : EL) (oh : Heaplet), IterOk kI pt es since seen c0 lp ∧ since ≤ clk ∧ lp.length = n ∧ (∀ q ∈ lp, q ∈ D) ∧ ESl v3 A oh ∧ A.length + 128 * n ≤ 128 * D.length ∧ (∀ x ∈ A, EdIn K.tab x) ∧
    (∀ x, EdIn K.tab x → x ∈ A ∨ ∃ q ∈ lp, ∃ l, getL q.1 K.tab = some l ∧ x ∈ edL l l.queue.length) ∧ KtAt b m es clk D K (.blk rr (.mapIter (some m) since seen c0) :: (oh ++ F)) wx
def rqO (r : Rq) : Obj := .cells #[kI r.c, .bool r.x] 59
set_option maxRecDepth 100000 in
set_option maxHeartbeats 16000000 in
theorem waits_any {b : Nat} {K : KtM} {F : Heaplet} {w : World} (h : KtIs b K F w) (hf : ∀ p l, getL p K.tab = some l → Fit8 l) (hl : K.tab.length ≤ 1100) :
    Calls Try.prog 16 #[.pointer (some ⟨b, 0, none⟩)] w fun e w' => ∃ v L vh, e = .returned v ∧ ESl v L vh ∧ L.Pairwise LtE ∧ (∀ x, x ∈ L ↔ EdIn K.tab x) ∧ L.length ≤ 1000000 ∧ KtIs b K (vh ++ F) w' := by
  obtain ⟨m, es, clk, D, hat⟩ := h.at_
  have hkeys := hat.keys
  have hmok := hat.mapOk
  have c0 := hat.table
  have hDl : D.length = K.tab.length := by
    have := congrArg List.length hkeys
    simpa using this
  obtain ⟨A, hs, hmem, back⟩ := hat.split
  obtain ⟨hrun, hs2⟩ := sat_range (P := Try.prog) (t := 49) (b := m) (es := es) (clk := clk) Try.underlying49 hs (List.mem_append_left _ hmem)
  have hat2 : KtAt b m es clk D K (.blk w.heap.size (.mapIter (some m) clk #[] clk) :: ([] ++ F)) (w.alloc (.mapIter (some m) clk #[] clk)) := back (hs2.perm List.perm_middle.symm)
  have hal : ∀ x : Int × Int, EdIn K.tab x → x ∈ ([] : EL) ∨ ∃ q ∈ D, ∃ l, getL q.1 K.tab = some l ∧ x ∈ edL l l.queue.length := by
    intro x hx
    obtain ⟨p, l, hpl, hx⟩ := hx
    have hpk : p ∈ D.map (·.1) := by rw [hkeys]; exact List.mem_map.2 ⟨_, getL_mem hpl, rfl⟩
    obtain ⟨q, hq, e⟩ := List.mem_map.1 hpk
    exact .inr ⟨q, hq, l, by rw [e]; exact hpl, hx⟩
  have hLV : WtE b m es clk D K w.heap.size F D.length (.slice none 0 0) (w.alloc (.mapIter (some m) clk #[] clk)) :=
    ⟨D, clk, #[], clk, [], [], iter_start hmok, Nat.le_refl _, rfl, fun q hq => hq, SliceIs.nil _ _, by simp, fun x hx => (by cases hx), hal, hat2⟩
  have H0 := Lib.hid hLV
  have HF := Lib.hid hf
  have HL : Hid (D.length ≤ 1100) := Lib.hid (by omega)
  have HM := Lib.hid hmok
  clear h hf hl hat hkeys hmok hDl hs hmem back hs2 hat2 hLV hal
  go_enter Try.func16, Try.ntmps16
  go_wp2_with fail
  clear c0 hrun
  generalize w.heap.size = rr at *
  go_loopg [3] (D.length) (fun n v3 wx => WtE b m es clk D K rr F n v3 wx)
  case atStart => exact H0.out
  case round =>
    clear H0
    obtain ⟨lp, since, seen, c0, A, oh, hit, hle, hln, hsub, hv3, hlen, hin, hall, hat⟩ := hrel
    obtain ⟨A1, hs, hmem, back⟩ := hat.split
    obtain ⟨a3, cap3, rfl⟩ := sl_form hv3
    rcases sat_next (P := Try.prog) HM.out hit (hs.perm List.perm_middle) (List.mem_append_left _ hmem) hle 0 with ⟨rfl, hrn⟩ | ⟨q, lp', seen', w', hp, hit', hrn, hs', hen⟩
    · have hs1 : Sat wr (oh ++ ((A1 ++ [.blk rr (.mapIter (some m) since seen c0)]) ++ F)) := sat_ap (h1 := A1 ++ [.blk rr (.mapIter (some m) since seen c0)]) (h2 := oh) (by simpa using hs)
      have hb : ∀ x ∈ A, (0 ≤ x.1 ∧ x.1 < 16) ∧ 0 ≤ x.2 ∧ x.2 < 16 := by
        intro x hx
        obtain ⟨p, l, hpl, hx⟩ := hin x hx
        exact edL_bd (HF.out p l hpl) hx
      have hAl : A.length ≤ 1000000 := by have := HL.out; omega
      have HSORT := Lib.hid (sort_edges hv3 hs1 hb hAl)
      have HBK : Hid (∀ h' w2, Sat w2 (h' ++ ((A1 ++ [.blk rr (.mapIter (some m) since seen c0)]) ++ F)) → KtIs b K (h' ++ F) w2) := Lib.hid (fun h' w2 hs2 => by
        have hs3 := sat_ap (h1 := h') (h2 := A1 ++ [.blk rr (.mapIter (some m) since seen c0)]) hs2
        have h2 : KtAt b m es clk D K (.blk rr (.mapIter (some m) since seen c0) :: (h' ++ F)) w2 := back (by simpa using hs3)
        exact KtIs.weaken (D := [_]) h2.is)
      have hno : ∀ x, EdIn K.tab x → x ∈ A := by
        intro x hx
        rcases hall x hx with h1 | ⟨q, hq, _⟩
        · exact h1
        · cases hq
      have HIN : Hid (∀ x, x ∈ A ↔ EdIn K.tab x) := Lib.hid (fun x => ⟨hin x, hno x⟩)
      have HAL := Lib.hid hAl
      clear hit hle hln hsub hv3 hlen hin hall hat hs hmem back hs1 hb hAl hno
      go_wp2_with fail
      refine (HSORT.out).mono ?_
      rintro e w2 ⟨rfl, A', oh', hv', hA1, hA2, hA3, hs2⟩
      have HC := Lib.hid (compact_any hv' hs2 (by rw [hA1]; exact HAL.out))
      have HD := Lib.hid (dd_sorted A' hA3)
      have HP := Lib.hid (And.intro hA1 hA2)
      clear HSORT hv' hs2 hA1 hA2 hA3
      go_wp2_with fail
      refine (HC.out).mono ?_
      rintro e w3 ⟨v4, h4, rfl, hv4, hs4⟩
      have FIN : Hid (ESl v4 (dd A') h4 ∧ KtIs b K (h4 ++ F) w3) := Lib.hid ⟨hv4, HBK.out _ _ hs4⟩
      clear HC HBK hv4 hs4
      go_wp2_with fail
      go_ret
      exact ⟨v4, dd A', h4, rfl, FIN.out.1, HD.out.1, fun x => by rw [HD.out.2, HP.out.2.mem_iff]; exact HIN.out x, by have h1 := dd_len A'; have h2 := HP.out.1; have h3 := HAL.out; omega, FIN.out.2⟩
    · obtain ⟨page, g⟩ := q
      have hat2 : KtAt b m es clk D K (.blk rr (.mapIter (some m) since seen' clk) :: (oh ++ F)) w' := back (hs'.perm List.perm_middle.symm)
      have hpD : (page, g) ∈ D := hsub _ (hp.mem_iff.2 (.head _))
      obtain ⟨l, hh, R, hgl, hlp, hs2, bk⟩ := hat2.look hpD
      have hfit := HF.out page l hgl
      have hgk : lp'.length < gk := by have := hp.length_eq; simp only [List.length_cons] at this; omega
      obtain ⟨qa, qc, hq1, hq2⟩ := lkp_rq hlp
      obtain ⟨hm, hc0, hld⟩ := lkp_all hlp
      have c1 := hq1 _ _ hs2
      have hqc : l.queue.length ≤ qc := by
        obtain ⟨qv, qh, R', hqv, _, c1', _⟩ := lkp_queue hlp hs2
        obtain ⟨a', cap', rfl, hc⟩ := hqv.form
        rw [c1] at c1'
        cases c1'
        exact hc
      have HFIT := Lib.hid (And.intro hfit hqc)
      have HLP := Lib.hid hlp
      have HQ1 := Lib.hid hq1
      have HQ2 := Lib.hid hq2
      have HC0 := Lib.hid hc0
      have HLD := Lib.hid hld
      have hAl : A.length ≤ 140800 := by have := HL.out; omega
      have HAL := Lib.hid hAl
      have H2 : Hid (ESl (.slice a3 A.length cap3) (A ++ edL l 0) oh ∧ Sat w' (hh ++ (R ++ (.blk rr (.mapIter (some m) since seen' clk) :: (oh ++ F))))) := Lib.hid ⟨by rw [edL_zero, List.append_nil]; exact hv3, hs2⟩
      have HFIN : Hid (∀ v oh2 w2, ESl v (A ++ edL l l.queue.length) oh2 → Sat w2 (hh ++ (R ++ (.blk rr (.mapIter (some m) since seen' clk) :: (oh2 ++ F)))) → WtE b m es clk D K rr F lp'.length v w2) := Lib.hid (fun v oh2 w2 hv hs => by
        refine ⟨lp', since, seen', clk, A ++ edL l l.queue.length, oh2, hit', hle, rfl, fun q hq => hsub q (hp.mem_iff.2 (.tail _ hq)), hv, ?_, ?_, ?_, bk _ _ hs⟩
        · have h1 := edL_len hfit (n := l.queue.length) hfit.lens.2
          have h2 := hfit.lens.2
          have h3 := hp.length_eq
          rw [List.length_append]
          simp only [List.length_cons] at h3
          omega
        · intro x hx
          rcases List.mem_append.1 hx with hx | hx
          · exact hin x hx
          · exact ⟨page, l, hgl, hx⟩
        · intro x hx
          rcases hall x hx with h1 | ⟨q, hq, l', hl', hx'⟩
          · exact .inl (List.mem_append_left _ h1)
          · rcases List.mem_cons.1 (hp.mem_iff.1 hq) with rfl | hq
            · rw [hgl] at hl'
              cases hl'
              exact .inl (List.mem_append_right _ hx')
            · exact .inr ⟨q, hq, l', hl', hx'⟩)
      clear hit hle hln hsub hv3 hlen hin hall hat hs hmem back hp hit' hs' hat2 hpD hgl hlp hs2 bk hfit hq1 hq2 hc0 hld hqc hAl
      generalize (HItem.blk rr (.mapIter (some m) since seen' clk)) = it at *
      go_wp2_with fail
      clear hrn hen c1
      go_loopw [3, 28] (fun v3 v28 wx => ∃ (i : Nat) (oh2 : Heaplet), i ≤ l.queue.length ∧ v28 = .int .i64 i ∧ ESl v3 (A ++ edL l i) oh2 ∧ Sat wx (hh ++ (R ++ (it :: (oh2 ++ F))))) (fun _ v28 _ => 200000 - (RowKit.intOf v28).toNat)
      case atStart => exact ⟨0, oh, by omega, rfl, H2.out.1, H2.out.2⟩
      case round =>
        clear H2
        obtain ⟨i, oh2, hi, rfl, hv, hs⟩ := hrel
        obtain ⟨a3, cap3, rfl⟩ := sl_form hv
        have j0 : (0 : Int) ≤ (i : Int) := by omega
        have j8 : (i : Int) ≤ 8 := by have := HFIT.out.1.lens.2; omega
        by_cases hil : i < l.queue.length
        · have j1 : (i : Int) < (l.queue.length : Int) := by omega
          have j2 : (i : Int) ≤ (qc : Int) := by have := HFIT.out.2; omega
          have j3 : i ≤ qc := by have := HFIT.out.2; omega
          obtain ⟨r, hr⟩ : ∃ r, l.queue[i]? = some r := ⟨_, List.getElem?_eq_getElem hil⟩
          obtain ⟨qg, qoff, e7, u0, u1⟩ := HQ2.out _ wr hs i r hr
          subst e7
          have c1 := HQ1.out _ _ hs
          have HR := Lib.hid hr
          have hs1 := hs.new (rqO r)
          have HV := Lib.hid hv
          have HS1 := Lib.hid hs1
          have c2 : (wr.alloc (rqO r)).cell? ⟨g, 1, none⟩ = some (.slice (some ⟨qg, qoff, none⟩) l.queue.length qc) := HQ1.out _ _ hs1.tail
          clear hs hs1 hv hr
          go_upto_region 10 with (fail)
          have HS2 : Hid (Sat (wr.alloc (rqO r)) (hh ++ (R ++ (it :: (oh2 ++ (.blk wr.heap.size (rqO r) :: F)))))) := Lib.hid (by
            have h1 := (List.perm_middle (a := HItem.blk wr.heap.size (rqO r)) (l₁ := hh ++ (R ++ (it :: oh2))) (l₂ := F)).symm
            exact HS1.out.perm (by simpa using h1))
          unfold rqO at *
          generalize wr.alloc (.cells #[kI r.c, .bool r.x] 59) = W1 at *
          generalize wr.heap.size = rb at *
          have H3 : Hid (ESl (.slice a3 (A ++ edL l i).length cap3) ((A ++ edL l i) ++ edQ l r 0) oh2) := Lib.hid (by
            have e : edQ l r 0 = [] := rfl
            rw [e, List.append_nil]; exact HV.out)
          clear HS1 u0 u1 HV c1
          go_wp2_with fail
          clear c2
          go_loopw [3, 40] (fun v3 v40 wx => ∃ (j : Nat) (oh3 : Heaplet), j ≤ i ∧ v40 = .int .i64 j ∧ ESl v3 ((A ++ edL l i) ++ edQ l r j) oh3 ∧ Sat wx (hh ++ (R ++ (it :: (oh3 ++ (.blk rb (.cells #[kI r.c, .bool r.x] 59) :: F)))))) (fun _ v40 _ => 200000 - (RowKit.intOf v40).toNat)
          case atStart => exact ⟨0, oh2, by omega, rfl, H3.out, HS2.out⟩
          case round =>
            clear H3 HS2
            obtain ⟨j, oh3, hj, rfl, hv, hs⟩ := hrel
            obtain ⟨a4, cap4, rfl⟩ := sl_form hv
            have k0 : (0 : Int) ≤ (j : Int) := by omega
            have k8 : (j : Int) ≤ 8 := by omega
            by_cases hji : j < i
            · have k1 : (j : Int) < (i : Int) := by omega
              obtain ⟨q, hq⟩ : ∃ q, l.queue[j]? = some q := ⟨_, List.getElem?_eq_getElem (by omega)⟩
              obtain ⟨qg2, qoff2, e8, u0, u1⟩ := HQ2.out _ wr hs j q hq
              cases e8
              have hsl : ((A ++ edL l i) ++ edQ l r j).length + 1 ≤ 1000000 := by
                have h1 := edL_len HFIT.out.1 (n := i) (by omega)
                have h2 := edQ_len l r j
                have h3 := HAL.out
                simp only [List.length_append]
                omega
              have hs1 := hs.new (.cells #[kI q.c, .bool q.x] 59)
              have n0 : (wr.alloc (.cells #[kI q.c, .bool q.x] 59)).cell? ⟨wr.heap.size, 0, none⟩ = some (kI q.c) := by rw [cell_of hs1.h0]; rfl
              have n1 : (wr.alloc (.cells #[kI q.c, .bool q.x] 59)).cell? ⟨rb, 0, none⟩ = some (kI r.c) := by rw [cell_of (hs1.tail.right.right.tail.right.h0)]; rfl
              have hs2 := hs1.new (.cells #[kI r.c, kI q.c] 47)
              have hs3 : Sat ((wr.alloc (.cells #[kI q.c, .bool q.x] 59)).alloc (.cells #[kI r.c, kI q.c] 47)) (.blk (wr.alloc (.cells #[kI q.c, .bool q.x] 59)).heap.size (.cells #[kI r.c, kI q.c] 47) :: ((.blk wr.heap.size (.cells #[kI q.c, .bool q.x] 59) :: (hh ++ (R ++ [it]))) ++ (oh3 ++ (.blk rb (.cells #[kI r.c, .bool r.x] 59) :: F)))) := by simpa using hs2
              obtain ⟨a5, cap5, w5, oh5, hap, hv5, hs5⟩ := ed_push (r.c, q.c) hv hs3 hsl
              have FIN : Hid (ESl (.slice a5 (((A ++ edL l i) ++ edQ l r j).length + 1) cap5) ((A ++ edL l i) ++ edQ l r (j + 1)) oh5 ∧ Sat w5 (hh ++ (R ++ (it :: (oh5 ++ (.blk rb (.cells #[kI r.c, .bool r.x] 59) :: F)))))) := Lib.hid ⟨by
                rw [edQ_succ hq, ← List.append_assoc]; exact hv5, by
                have h1 := hs5.tail
                simpa using h1⟩
              have HAP := Lib.hid hap
              clear hs1 hs2 hs3 hap hv5 hs5 hv hs hsl hq
              go_upto_region 13 with (fail)
              generalize wr.alloc (.cells #[kI q.c, .bool q.x] 59) = W2 at *
              generalize wr.heap.size = qb at *
              clear u0 u1
              go_wp2_with (at_builtin; refine wpList_append_run rfl _ _ _ _ rfl _ _ _ _ rfl rfl HAP.out ?_)
              exact ⟨⟨j + 1, oh5, by omega, by simp, (by have h := FIN.out.1; simp only [List.length_append, Nat.add_assoc] at h ⊢; exact h), FIN.out.2⟩, by simp only [RowKit.intOf]; omega⟩
            · have hji2 : j = i := by omega
              rw [hji2] at hv k8 k0 ⊢
              clear hji2 hj hji
              have r0 : wr.cell? ⟨rb, 0, none⟩ = some (kI r.c) := by rw [cell_of (hs.right.right.tail.right.h0)]; rfl
              have r1 : wr.cell? ⟨rb, 1, none⟩ = some (.bool r.x) := by rw [cell_of (hs.right.right.tail.right.h0)]; rfl
              have HW := Lib.hid (inWay_any HLP.out hs r (fun p hp => by have := HFIT.out.1.1 p hp; omega) (by have := HFIT.out.1.lens.1; omega))
              have HV := Lib.hid hv
              clear hv hs
              go_wp2_with fail
              refine (HW.out).mono ?_
              rintro e w2 ⟨vw, vh, rfl, hvw, hs2⟩
              obtain ⟨aw, capw, rfl⟩ := sl_form hvw
              have hwl := way_len HFIT.out.1 r
              have HVW := Lib.hid hvw
              have H4 : Hid (ESl (.slice a4 ((A ++ edL l i) ++ edQ l r i).length cap4) (((A ++ edL l i) ++ edQ l r i) ++ edW l r ((wayM l.holds r).take 0)) oh3 ∧ Sat w2 (vh ++ (hh ++ (R ++ (it :: (oh3 ++ (.blk rb (.cells #[kI r.c, .bool r.x] 59) :: F))))))) := Lib.hid ⟨by
                have e : edW l r ((wayM l.holds r).take 0) = [] := rfl
                rw [e, List.append_nil]; exact HV.out, hs2⟩
              have HMEM : Hid (∀ c ∈ wayM l.holds r, ∃ d, getL c l.holds = some d) := Lib.hid (fun c hc => by
                obtain ⟨d, hd, _⟩ := way_mem hc
                exact ⟨d, hd⟩)
              clear HW hvw hs2 r0 r1 HV
              obtain ⟨K0, hK0⟩ : ∃ K0, wayM l.holds r = K0 := ⟨_, rfl⟩
              have HK0 := Lib.hid hK0
              rw [hK0] at hwl HVW H4 HMEM ⊢
              clear hK0
              have hwl2 : (K0.length : Int) ≤ 8 := by omega
              go_wp2_with fail
              go_loopw [3, 57] (fun v3 v57 wx => ∃ (j : Nat) (oh4 : Heaplet), j ≤ K0.length ∧ v57 = .int .i64 j ∧ ESl v3 (((A ++ edL l i) ++ edQ l r i) ++ edW l r (K0.take j)) oh4 ∧ Sat wx (vh ++ (hh ++ (R ++ (it :: (oh4 ++ (.blk rb (.cells #[kI r.c, .bool r.x] 59) :: F))))))) (fun _ v57 _ => 200000 - (RowKit.intOf v57).toNat)
              case atStart => exact ⟨0, oh3, by omega, rfl, (by have h := H4.out.1; simp only [List.length_append, Nat.add_assoc] at h ⊢; exact h), H4.out.2⟩
              case round =>
                clear H4
                obtain ⟨n, oh4, hn, rfl, hv, hs⟩ := hrel
                obtain ⟨a6, cap6, rfl⟩ := sl_form hv
                have n0 : (0 : Int) ≤ (n : Int) := by omega
                have n8 : (n : Int) ≤ 8 := by omega
                by_cases hnl : n < K0.length
                · have n1 : (n : Int) < (K0.length : Int) := by omega
                  obtain ⟨c, hc⟩ : ∃ c, K0[n]? = some c := ⟨_, List.getElem?_eq_getElem hnl⟩
                  obtain ⟨g7, e9, x0⟩ := is_cell HVW.out hs hc rfl
                  cases e9
                  obtain ⟨d, hd⟩ := HMEM.out c (List.mem_of_getElem? hc)
                  have hlc := HLD.out c
                  rw [hd] at hlc
                  obtain ⟨hg, hlc⟩ := hlc
                  obtain ⟨hlk, _, d1, _⟩ := hlc _ _ hs.right
                  unfold lookH at hlk
                  have c0 := HC0.out _ _ hs.right
                  have r0 : wr.cell? ⟨rb, 0, none⟩ = some (kI r.c) := by rw [cell_of (hs.right.right.right.tail.right.h0)]; rfl
                  have hst := edW_succ (l := l) (r := r) hc
                  have hbo : busyO l.holds c = d.busy := by unfold busyO; rw [hd]; rfl
                  rw [hbo] at hst
                  have hsl : ((((A ++ edL l i) ++ edQ l r i) ++ edW l r (K0.take n))).length + 1 ≤ 1000000 := by
                    have h1 := edL_len HFIT.out.1 (n := i) (by omega)
                    have h2 := edQ_len l r i
                    have h3 := HAL.out
                    have h4 := edW_len l r (K0.take n)
                    have h5 : (K0.take n).length ≤ 8 := by rw [List.length_take]; omega
                    simp only [List.length_append]
                    omega
                  have HST := Lib.hid hst
                  have HV := Lib.hid hv
                  have HS := Lib.hid hs
                  have HSL := Lib.hid hsl
                  obtain ⟨db, hdb⟩ : ∃ db, d.busy = db := ⟨_, rfl⟩
                  rw [hdb] at d1 HST
                  clear hc hd hlc hst hbo hsl hv hs hdb
                  cases db with
                  | false =>
                    have FIN : Hid (ESl (.slice a6 ((((A ++ edL l i) ++ edQ l r i) ++ edW l r (K0.take n))).length cap6) (((A ++ edL l i) ++ edQ l r i) ++ edW l r (K0.take (n + 1))) oh4) := Lib.hid (by
                      rw [HST.out]; simp only [Bool.false_eq_true, if_false, List.append_nil]; exact HV.out)
                    clear HST HV HSL
                    go_wp2_with fail
                    exact ⟨⟨n + 1, oh4, by omega, by simp, FIN.out, HS.out⟩, by simp only [RowKit.intOf]; omega⟩
                  | true =>
                    have hs2 := HS.out.new (.cells #[kI r.c, kI c] 47)
                    have hs3 : Sat (wr.alloc (.cells #[kI r.c, kI c] 47)) (.blk wr.heap.size (.cells #[kI r.c, kI c] 47) :: ((vh ++ (hh ++ (R ++ [it]))) ++ (oh4 ++ (.blk rb (.cells #[kI r.c, .bool r.x] 59) :: F)))) := by simpa using hs2
                    obtain ⟨a5, cap5, w5, oh5, hap, hv5, hs5⟩ := ed_push (r.c, c) HV.out hs3 HSL.out
                    have FIN : Hid (ESl (.slice a5 ((((A ++ edL l i) ++ edQ l r i) ++ edW l r (K0.take n)).length + 1) cap5) (((A ++ edL l i) ++ edQ l r i) ++ edW l r (K0.take (n + 1))) oh5 ∧ Sat w5 (vh ++ (hh ++ (R ++ (it :: (oh5 ++ (.blk rb (.cells #[kI r.c, .bool r.x] 59) :: F))))))) := Lib.hid ⟨by
                      rw [HST.out, if_pos rfl, ← List.append_assoc]; exact hv5, by simpa using hs5⟩
                    have HAP := Lib.hid hap
                    clear hs2 hs3 hap hv5 hs5 HST HV HSL HS
                    go_wp2_with (at_builtin; refine wpList_append_run rfl _ _ _ _ rfl _ _ _ _ rfl rfl HAP.out ?_)
                    exact ⟨⟨n + 1, oh5, by omega, by simp, (by have h := FIN.out.1; simp only [List.length_append, Nat.add_assoc] at h ⊢; exact h), FIN.out.2⟩, by simp only [RowKit.intOf]; omega⟩
                · obtain rfl : n = K0.length := by omega
                  rw [List.take_length] at hv
                  have FIN : Hid (ESl (.slice a6 (((A ++ edL l i) ++ edQ l r i) ++ edW l r (K0.take K0.length)).length cap6) (A ++ edL l (i + 1)) oh4 ∧ Sat wr (hh ++ (R ++ (it :: (oh4 ++ F))))) := Lib.hid ⟨by
                    rw [List.take_length, edL_succ HR.out, HK0.out, ← List.append_assoc, ← List.append_assoc]; exact hv, by
                    have h1 := hs.right
                    have h2 : Sat wr ((hh ++ (R ++ (it :: oh4))) ++ (.blk rb (.cells #[kI r.c, .bool r.x] 59) :: F)) := by simpa using h1
                    have h3 := h2.mid
                    simpa using h3⟩
                  clear hv hs hn hnl
                  go_wp2_with fail
                  exact ⟨⟨i + 1, oh4, by omega, by simp, FIN.out.1, FIN.out.2⟩, by simp only [RowKit.intOf]; omega⟩
        · obtain rfl : i = l.queue.length := by omega
          have FIN := Lib.hid (HFIN.out _ _ _ hv hs)
          clear hv hs hi hil
          go_wp2_with fail
          go_roundg lp'.length
          case measure => exact hgk
          case rel => exact FIN.out
end Go.Proofs.Ythgfbnopbfiifaa
