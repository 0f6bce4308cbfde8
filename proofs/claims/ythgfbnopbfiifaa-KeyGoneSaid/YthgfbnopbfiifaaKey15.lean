/- A client leaves: walked. Conditions: none. -/
import Derived.Test.YthgfbnopbfiifaaKey14
import Derived.Test.YthgfbnopbfiifaaKeyL
import Derived.Test.YthgfbnopbfiifaaSortI
namespace Go.Proofs.Ythgfbnopbfiifaa
open Go Go.MapKept Go.RowKit Go.Proofs Go.Sort

theorem KtIs.weaken {b : Nat} {K : KtM} {D F : Heaplet} {w : World} (h : KtIs b K (D ++ F) w) : KtIs b K F w := by
  obtain ⟨A, s, back⟩ := h.split
  exact back (sat_ap s).right
theorem KtIs.permF {b : Nat} {K : KtM} {F F' : Heaplet} {w : World} (h : KtIs b K F w) (p : F.Perm F') : KtIs b K F' w := by
  obtain ⟨A, s, back⟩ := h.split
  exact back (s.perm (p.append_left A))
theorem leave_nil (c : Int) (all : Bool) (w : World) : Calls Try.prog 23 #[.pointer none, .int .i64 c, .bool all] w (Ret (.tuple #[]) (Same w)) := by
  go_enter Try.func23, Try.ntmps23
  go_wp2
  refine bodyPost_ret (results_none rfl _ _ _) rfl ?_
  exact ⟨rfl, rfl⟩
/-- While the pages are gone over. -/
def LvI (b m : Nat) (es : Array MapEntry) (clk : Nat) (D : List (Int × Nat)) (K : KtM) (c : Int) (all : Bool) (rr : Nat) (F : Heaplet) (n : Nat) (v6 : Value) (wx : World) : Prop :=
  ∃ (lp : List (Int × Nat)) (since : Nat) (seen : Array Nat) (c0 : Nat) (ts : List Int) (th : Heaplet), IterOk kI pt es since seen c0 lp ∧ since ≤ clk ∧ lp.length = n ∧ (∀ q ∈ lp, q ∈ D) ∧ (lp.map (·.1)).Nodup ∧ ISl v6 ts th ∧ ts.Perm (touT K.tab (lp.map (·.1)) c all) ∧
    KtAt b m es clk D ⟨mixT K.tab (lp.map (·.1)) c all, K.ws⟩ (.blk rr (.mapIter (some m) since seen c0) :: (th ++ F)) wx
/-- While the touched pages are settled. -/
def StI (b : Nat) (K1 : KtM) (ss : List Int) (F : Heaplet) (v : Value) (wx : World) : Prop :=
  ∃ (j : Nat) (K' : KtM), j ≤ ss.length ∧ v = .int .i64 j ∧ K' = (ss.take j).foldl settleAt K1 ∧ K'.ws.length ≤ 600000 + 40 * j ∧ (∀ p l, getL p K'.tab = some l → Fit8 l) ∧ (∀ p ∈ ss, (getL p K'.tab).isSome = true) ∧ KtIs b K' F wx
theorem stI_step {K1 : KtM} {ss : List Int} {j : Nat} {p : Int} (hp : ss[j]? = some p) {K' : KtM} {l : LkM} (e : K' = (ss.take j).foldl settleAt K1) (hl : getL p K'.tab = some l) :
    (ss.take (j + 1)).foldl settleAt K1 = settled K' p l.holds l.queue := by
  rw [List.take_add_one, hp, List.foldl_append, ← e]
  show settleAt K' p = _
  unfold settleAt lockOf
  rw [hl]; rfl
set_option maxRecDepth 100000 in
set_option maxHeartbeats 16000000 in
theorem leave_any {b : Nat} {K : KtM} {F : Heaplet} {w : World} (h : KtIs b K F w) (c : Int) (all : Bool) (hf : ∀ p l, getL p K.tab = some l → Fit8 l) (hr : ∀ q ∈ K.tab, 0 ≤ q.1 ∧ q.1 < 1024) (hw : K.ws.length ≤ 600000) (hl : K.tab.length ≤ 1100) :
    Calls Try.prog 23 #[.pointer (some ⟨b, 0, none⟩), .int .i64 c, .bool all] w (Ret (.tuple #[]) (KtIs b (leaveM K c all) F)) := by
  obtain ⟨m, es, clk, D, hat⟩ := h.at_
  have hkeys := hat.keys
  have hmok := hat.mapOk
  have c0 := hat.table
  have hnd := h.nodup
  have hDl : D.length = K.tab.length := by
    have := congrArg List.length hkeys
    simpa using this
  obtain ⟨A, hs, hmem, back⟩ := hat.split
  obtain ⟨hrun, hs2⟩ := sat_range (P := Try.prog) (t := 49) (b := m) (es := es) (clk := clk) Try.underlying49 hs (List.mem_append_left _ hmem)
  have hat2 : KtAt b m es clk D K (.blk w.heap.size (.mapIter (some m) clk #[] clk) :: ([] ++ F)) (w.alloc (.mapIter (some m) clk #[] clk)) := back (hs2.perm List.perm_middle.symm)
  have hall : ∀ q ∈ K.tab, q.1 ∈ D.map (·.1) := fun q hq => by rw [hkeys]; exact List.mem_map.2 ⟨q, hq, rfl⟩
  have hLV : LvI b m es clk D K c all w.heap.size F D.length (.slice none 0 0) (w.alloc (.mapIter (some m) clk #[] clk)) :=
    ⟨D, clk, #[], clk, [], [], iter_start hmok, Nat.le_refl _, rfl, fun q hq => hq, hmok.nodup, SliceIs.nil _ _, by rw [tou_start _ _ _ hall], by rw [mix_start _ _ _ hall]; exact hat2⟩
  have H0 := Lib.hid hLV
  have HF := Lib.hid hf
  have HR := Lib.hid hr
  have HW := Lib.hid hw
  have HL := Lib.hid (And.intro hl hDl)
  have HM := Lib.hid hmok
  have HND := Lib.hid hnd
  clear h hf hr hw hl hat hkeys hmok hnd hDl hs hmem back hs2 hat2 hall hLV
  go_enter Try.func23, Try.ntmps23
  go_wp2_with fail
  clear c0 hrun
  generalize w.heap.size = rr at *
  go_loopg [6] (D.length) (fun n v6 wx => LvI b m es clk D K c all rr F n v6 wx)
  case atStart => exact H0.out
  case round =>
    clear H0
    obtain ⟨lp, since, seen, c0, ts, th, hit, hle, hln, hsub, hlnd, hv6, htp, hat⟩ := hrel
    obtain ⟨A, hs, hmem, back⟩ := hat.split
    obtain ⟨a6, cap6, rfl⟩ := sl_form hv6
    rcases sat_next (P := Try.prog) HM.out hit (hs.perm List.perm_middle) (List.mem_append_left _ hmem) hle 0 with ⟨rfl, hrn⟩ | ⟨q, lp', seen', w', hp, hit', hrn, hs', hen⟩
    · have hs1 : Sat wr (th ++ ((A ++ [.blk rr (.mapIter (some m) since seen c0)]) ++ F)) := sat_ap (h1 := A ++ [.blk rr (.mapIter (some m) since seen c0)]) (h2 := th) (by simpa using hs)
      have htn : ts.length ≤ 1100 := by
        have h1 := htp.length_eq
        have h2 : (touT K.tab (([] : List (Int × Nat)).map (·.1)) c all).length ≤ K.tab.length := by
          unfold touT
          rw [List.length_map]
          exact List.length_filter_le _ _
        have := HL.out.1
        omega
      have hsort := sort_ints hv6 hs1 (by omega)
      have hss : sortK ts = sortK ((K.tab.filter fun q => touchL c all q.2).map (·.1)) := by
        rw [sortK_of_perm htp, List.map_nil, tou_end]
      obtain ⟨K1, hK1⟩ : ∃ K1 : KtM, K1 = ⟨K.tab.map fun q => (q.1, leftL c all q.2), K.ws⟩ := ⟨_, rfl⟩
      have hlv : leaveM K c all = (sortK ts).foldl settleAt K1 := by rw [hK1, hss]; rfl
      have hlen : (sortK ts).length = ts.length := (sortK_perm ts).length_eq
      have hk1 : ∀ th' w2, Sat w2 (th' ++ ((A ++ [.blk rr (.mapIter (some m) since seen c0)]) ++ F)) → KtIs b K1 (th' ++ F) w2 := by
        intro th' w2 hs2
        have hs3 := sat_ap (h1 := th') (h2 := A ++ [.blk rr (.mapIter (some m) since seen c0)]) hs2
        have h2 : KtAt b m es clk D ⟨mixT K.tab (([] : List (Int × Nat)).map (·.1)) c all, K.ws⟩ (.blk rr (.mapIter (some m) since seen c0) :: (th' ++ F)) w2 := back (by simpa using hs3)
        rw [List.map_nil, mix_end, ← hK1] at h2
        exact KtIs.weaken (D := [_]) h2.is
      have hfit1 : ∀ p l, getL p K1.tab = some l → Fit8 l := by
        intro p l hpl
        rw [hK1] at hpl
        simp only at hpl
        have h2 := getL_seen (fun l => leftL c all l) p K.tab
        unfold seenL at h2
        rw [h2] at hpl
        cases e : getL p K.tab with
        | none => rw [e] at hpl; cases hpl
        | some l0 =>
          rw [e] at hpl
          have e2 : leftL c all l0 = l := Option.some.inj hpl
          rw [← e2]
          exact leftL_fit (HF.out p l0 e) c all
      have hmem1 : ∀ p ∈ sortK ts, (getL p K1.tab).isSome = true := by
        intro p hp
        rw [hss, (sortK_perm _).mem_iff] at hp
        obtain ⟨q, hq, e⟩ := List.mem_map.1 hp
        have hq2 := (List.mem_filter.1 hq).1
        cases e2 : getL p K1.tab with
        | some l => rfl
        | none =>
          refine absurd ?_ (getL_none.1 e2)
          rw [hK1, ← e]
          simp only [List.map_map]
          exact List.mem_map.2 ⟨q, hq2, rfl⟩
      have HSORT := Lib.hid hsort
      have HK1 := Lib.hid hk1
      have HLV := Lib.hid hlv
      have HLEN := Lib.hid (And.intro hlen htn)
      have HX := Lib.hid (And.intro hfit1 (And.intro hmem1 (show K1.ws.length ≤ 600000 by rw [hK1]; exact HW.out)))
      have tn : (ts.length : Int) ≤ 1100 := by omega
      clear hs1 htn hsort hss hK1 hlv hlen hk1 hfit1 hmem1 hit hle hln hsub hlnd hv6 htp hat hs hmem back
      generalize sortK ts = ss at *
      obtain ⟨res, hres⟩ : ∃ res, ss.foldl settleAt K1 = res := ⟨_, rfl⟩
      have HRES := Lib.hid hres
      clear hres
      go_wp2_with fail
      refine (HSORT.out).mono ?_
      rintro e w2 ⟨rfl, th', hv', hs2⟩
      have hk2 := HK1.out th' w2 hs2
      have HV := Lib.hid hv'
      have H0 : Hid (StI b K1 ss (th' ++ F) (.int .i64 0) w2) := Lib.hid ⟨0, K1, by omega, rfl, rfl, by have := HX.out.2.2; omega, HX.out.1, HX.out.2.1, hk2⟩
      clear hk2 hv' hs2 HSORT HK1
      go_wp2_with fail
      clear hrn
      go_loopw [74] (fun v74 wx => StI b K1 ss (th' ++ F) v74 wx) (fun v74 _ => 200000 - (RowKit.intOf v74).toNat)
      case atStart => exact H0.out
      case round =>
        clear H0
        obtain ⟨j, K', hj, rfl, hK, hwl, hfit, hmem, hk⟩ := hrel
        have j0 : (0 : Int) ≤ (j : Int) := by omega
        have j9 : (j : Int) ≤ 1100 := by have := HLEN.out; omega
        by_cases hjl : j < ts.length
        · have j1 : (j : Int) < (ts.length : Int) := by omega
          obtain ⟨p, hp⟩ : ∃ p, ss[j]? = some p := ⟨_, List.getElem?_eq_getElem (by have := HLEN.out.1; omega)⟩
          obtain ⟨g6, e6, u0⟩ := is_cell HV.out hk.frame hp rfl
          obtain ⟨l, hl⟩ := Option.isSome_iff_exists.1 (hmem p (List.mem_of_getElem? hp))
          have hst := stI_step hp hK hl
          obtain ⟨m2, g2, O2, hpg, hol, _, bk⟩ := hk.page hl
          have hset := settle_any p hpg hol ((hfit p l hl).fitK (by have := HLEN.out; omega))
          obtain ⟨hsf, hsl⟩ := settle_fit p l.queue l.holds K'.ws (hfit p l hl)
          have hq8 := (hfit p l hl).lens.2
          have hnew : ∀ w3, PgIs b m2 g2 (settleM p l.queue l.holds K'.ws).1 (settleM p l.queue l.holds K'.ws).2 O2 w3 → StI b K1 ss (th' ++ F) (.int .i64 ((j : Int) + 1)) w3 := by
            intro w3 h3
            refine ⟨j + 1, settled K' p l.holds l.queue, by have := HLEN.out.1; omega, by simp, hst.symm, ?_, ?_, ?_, bk _ _ _ h3⟩
            · show (settleM p l.queue l.holds K'.ws).2.length ≤ _
              omega
            · intro p' l' hpl
              unfold settled at hpl
              simp only [getL_putL] at hpl
              by_cases e : p' = p
              · rw [if_pos e] at hpl
                have e2 := Option.some.inj hpl
                rw [← e2]; exact hsf
              · rw [if_neg e] at hpl
                exact hfit p' l' hpl
            · intro p' hp'
              unfold settled
              simp only [getL_putL]
              by_cases e : p' = p
              · rw [if_pos e]; rfl
              · rw [if_neg e]; exact hmem p' hp'
          have HSET := Lib.hid hset
          have HNEW := Lib.hid hnew
          subst e6
          clear hp hl hst hpg hol bk hset hsf hsl hq8 hnew hK hwl hfit hmem hk
          go_wp2_with fail
          refine (HSET.out).mono ?_
          rintro e w3 ⟨rfl, h3⟩
          have FIN := Lib.hid (HNEW.out w3 h3)
          clear h3 HSET HNEW u0
          go_wp2_with fail
          exact ⟨FIN.out, by simp only [RowKit.intOf]; omega⟩
        · obtain rfl : j = ss.length := by have := HLEN.out.1; omega
          rw [List.take_length, HRES.out] at hK
          subst hK
          have FIN := Lib.hid hk.weaken
          clear hwl hfit hmem hk hj
          go_wp2_with fail
          refine bodyPost_end (results_none rfl _ _ _) rfl ?_
          have hfin := HLV.out
          rw [HRES.out] at hfin
          rw [hfin]
          exact ⟨rfl, FIN.out⟩
    · obtain ⟨page, g⟩ := q
      have hat2 : KtAt b m es clk D ⟨mixT K.tab (lp.map (·.1)) c all, K.ws⟩ (.blk rr (.mapIter (some m) since seen' clk) :: (th ++ F)) w' := back (hs'.perm List.perm_middle.symm)
      have hpD : (page, g) ∈ D := hsub _ (hp.mem_iff.2 (.head _))
      obtain ⟨l, O, hgl0, hpg, hol, hOF, bk⟩ := hat2.page hpD
      have hpS : page ∈ lp.map (·.1) := List.mem_map.2 ⟨_, hp.mem_iff.2 (.head _), rfl⟩
      have hgl : getL page K.tab = some l := by rw [← mix_get hpS]; exact hgl0
      have hfit := HF.out page l hgl
      have hgk : lp'.length < gk := by have := hp.length_eq; simp only [List.length_cons] at this; omega
      have hpn : ((page, g) :: lp').map (·.1) |>.Nodup := (hp.map _).nodup_iff.1 hlnd
      have hnp : page ∉ lp'.map (·.1) ∧ (lp'.map (·.1)).Nodup := by simpa using hpn
      have hSS : ∀ x, x ∈ lp.map (·.1) ↔ x = page ∨ x ∈ lp'.map (·.1) := by
        intro x
        rw [(hp.map (·.1)).mem_iff]
        simp
      have hmp := mix_put (c := c) (all := all) hSS hnp.1 HND.out hgl
      have hts := htp.append_right (if touchL c all l = true then [page] else [])
      have htk := (tou_step (c := c) (all := all) hSS hnp.1 HND.out hgl).symm
      have FACT := Lib.hid (And.intro hgk (And.intro hnp (And.intro (fun q hq => hsub q (hp.mem_iff.2 (.tail _ hq))) (And.intro hit' (hts.trans htk)))))
      have HBK : Hid (∀ l' w2, l' = leftL c all l → PgIs b m g l' K.ws O w2 → KtAt b m es clk D ⟨mixT K.tab (lp'.map (·.1)) c all, K.ws⟩ (.blk rr (.mapIter (some m) since seen' clk) :: (th ++ F)) w2) := Lib.hid (fun l' w2 e hp2 => by
        have := bk l' K.ws w2 hp2
        rw [e] at this
        simp only at this
        rw [hmp] at this
        exact this)
      have HV6 := Lib.hid hv6
      have HFIT := Lib.hid hfit
      have HLE := Lib.hid hle
      have HPG := Lib.hid hpg
      obtain ⟨wv, wh, hh, hw, hlp, s⟩ := hpg
      obtain ⟨qv, qh, R, hqv, hsq, c1, fz, back2⟩ := lkp_queue hlp (PgIs.sw s)
      obtain ⟨qa, qcap, rfl, hqc⟩ := hqv.form
      have hql : (l.queue.length : Int) ≤ 8 := by have := hfit.lens.2; omega
      have k1 : (w'.alloc (.cells #[kI c] 3)).cell? ⟨g, 1, none⟩ = some (.slice qa l.queue.length qcap) := by
        obtain ⟨a', cap', h1, _⟩ := lkp_rq hlp
        have h2 := h1 _ _ (PgIs.sw s)
        rw [c1] at h2
        cases h2
        exact h1 _ _ (((PgIs.sw s).new (.cells #[kI c] 3)).perm List.perm_middle.symm)
      have s1 := hsq.drew.new (.cells #[kI c] 3)
      have hdel := del_any (c := c) hqv (s1.perm List.perm_middle.symm) (by omega)
      unfold isV at hdel
      have HDEL := Lib.hid hdel
      have HB2 : Hid (∀ v' qh' w3, QSl v' (l.queue.filter (keepP c)) qh' → Sat w3 (qh' ++ (.blk w'.drew.heap.size (.cells #[kI c] 3) :: (R ++ (.blk b (tbO m wv) :: (wh ++ O))))) → w3.cell? ⟨g, 1, none⟩ = some (.slice qa l.queue.length qcap) ∧ w3.frozen? ⟨g, 1, none⟩ = false ∧ PgIs b m g ⟨l.holds, l.queue.filter (keepP c)⟩ K.ws O (w3.setCell ⟨g, 1, none⟩ v')) := Lib.hid (fun v' qh' w3 hq' s' => by
        obtain ⟨x1, x2, h'', hl'', s''⟩ := back2 v' _ qh' w3 _ hq' (s'.perm List.perm_middle).tail
        exact ⟨x1, x2, wv, wh, h'', hw, hl'', PgIs.ws s''⟩)
      clear hat2 hpD hgl hgl0 hol hOF bk hpS hfit hgk hpn hnp hSS hmp hts htk hit hit' hle hln hsub hlnd hv6 htp hat hs hmem back hp hs' hw hlp s hqv hsq fz back2 s1 hdel hqc
      go_upto_region 6 with (fail)
      go_cut [] (fun wx => PgIs b m g ⟨l.holds, l.queue.filter (keepP c)⟩ K.ws O wx)
      case first =>
        clear HBK FACT HV6 HPG
        go_region_with (first | (go_at_call 19; refine (isOf_call c _).mono ?_; rintro e w3 ⟨rfl, rfl⟩) | (go_at_call 34; refine (HDEL.out).mono ?_; rintro e w3 ⟨v', qh', rfl, hq', hs'⟩; have HX := Lib.hid (HB2.out v' qh' w3 hq' hs'); obtain ⟨a', cap', rfl, _⟩ := hq'.form; have x1 := HX.out.1; have x2 := HX.out.2.1; clear hq' hs'))
        all_goals
          have FIN := Lib.hid HX.out.2.2
          clear HX
          go_wp2_with fail
          go_meet
          exact FIN.out
      case rest =>
        clear HDEL HB2 HPG c1 k1 hen hrn
        have HPG := Lib.hid hcut
        obtain ⟨wv, wh, hh, hw, hlp, s⟩ := hcut
        obtain ⟨hm, hc0, hld⟩ := lkp_all hlp
        have c0 := hc0 _ _ (PgIs.sw s)
        have hlc := hld c
        obtain ⟨hb, hhb⟩ : ∃ hb, (all && (getL c l.holds).isSome) = hb := ⟨_, rfl⟩
        have HHB := Lib.hid hhb
        have HS := Lib.hid (And.intro hw (And.intro hlp s))
        go_upto_region 7 with (fail)
        go_cut [10] (fun v10 wx => v10 = .bool hb ∧ wx = wc)
        case first =>
          cases all with
          | false =>
            have e : hb = false := by rw [← hhb]; rfl
            subst e
            clear hld hlc hhb HHB hw hlp s hc0 c0
            go_wp2_with fail
            go_meet
            exact ⟨rfl, rfl⟩
          | true =>
            cases e : getL c l.holds with
            | none =>
              simp only [e] at hlc
              have hlk := hlc _ _ (PgIs.sw s)
              unfold lookH at hlk
              have e2 : hb = false := by rw [← hhb, e]; rfl
              subst e2
              clear hld hlc hhb HHB hw hlp s hc0 e
              go_wp2_with fail
              go_meet
              exact ⟨rfl, rfl⟩
            | some d =>
              simp only [e] at hlc
              obtain ⟨hg, hlc⟩ := hlc
              have hlk := (hlc _ _ (PgIs.sw s)).1
              unfold lookH at hlk
              have e2 : hb = true := by rw [← hhb, e]; rfl
              subst e2
              clear hld hlc hhb HHB hw hlp s hc0 e
              go_wp2_with fail
              go_meet
              exact ⟨rfl, rfl⟩
        case rest =>
          obtain ⟨rfl, rfl⟩ := hcut
          clear hld hlc hw hlp s hc0 c0 hhb
          have hleft : leftL c all l = ⟨if hb = true then delL c l.holds else l.holds, l.queue.filter (keepP c)⟩ := by
            rw [← HHB.out]
            unfold leftL
            cases all with
            | false => rfl
            | true =>
              cases e : getL c l.holds with
              | none => rw [delL_none c l.holds e]; rfl
              | some d => rfl
          have HLEFT := Lib.hid hleft
          clear hleft
          go_upto_if 50 with (fail)
          go_cut [] (fun wx => PgIs b m g (leftL c all l) K.ws O wx)
          case first =>
            cases hb with
            | false =>
              have FIN : Hid (PgIs b m g (leftL c all l) K.ws O wc) := Lib.hid (by rw [HLEFT.out]; exact HPG.out)
              clear HPG HHB HLEFT
              go_wp2_with fail
              go_meet
              exact FIN.out
            | true =>
              obtain ⟨hw, hlp, s⟩ := HS.out
              obtain ⟨hm', w1, h1', k0, k1, hdel, hl1, s1⟩ := lkp_del hlp c (PgIs.sw s)
              have FIN : Hid (PgIs b m g (leftL c all l) K.ws O w1) := Lib.hid (by rw [HLEFT.out]; exact ⟨wv, wh, h1', hw, hl1, PgIs.ws s1⟩)
              have hdel0 : (Builtin.delete_ #[53, 3] 0 #[.map (some hm'), .int .i64 c]).run Try.prog wc = .ok (.tuple #[]) w1 := hdel 0
              clear HPG HHB HLEFT hw hlp s hl1 s1 hdel k1 HS
              go_wp2_with fail
              go_meet
              exact FIN.out
          case rest =>
            clear HPG HS
            have hpg := hcut
            rw [HLEFT.out] at hcut
            obtain ⟨wv, wh, hh, hw, hlp, s⟩ := hcut
            obtain ⟨qa2, qc2, hq1, _⟩ := lkp_rq hlp
            have c1 := hq1 _ _ (PgIs.sw s)
            obtain ⟨fl, hfl⟩ : ∃ fl, (l.queue.filter (keepP c)).length = fl := ⟨_, rfl⟩
            simp only [hfl] at c1
            obtain ⟨tb, htb⟩ : ∃ tb, touchL c all l = tb := ⟨_, rfl⟩
            have htb2 : tb = (hb || decide (fl < l.queue.length)) := by
              rw [← htb, ← HHB.out, ← hfl]; rfl
            have HPG := Lib.hid hpg
            have HTB := Lib.hid htb
            have HTB2 := Lib.hid htb2
            have hfb : (fl : Int) ≤ 8 := by
              have h1 := List.length_filter_le (keepP c) l.queue
              have := HFIT.out.lens.2
              omega
            clear hw hlp s hq1 hfl htb htb2 hpg HHB HLEFT
            go_upto_region 10 with (fail)
            go_cut [65] (fun v65 wx => v65 = .bool tb ∧ wx = wc)
            case first =>
              cases hb with
              | true =>
                have e : tb = true := by rw [HTB2.out]; rfl
                subst e
                clear HTB2
                go_wp2_with fail
                go_meet
                exact ⟨rfl, rfl⟩
              | false =>
                by_cases hlt : fl < l.queue.length
                · have hlt2 : (fl : Int) < (l.queue.length : Int) := by omega
                  have e : tb = true := by rw [HTB2.out]; simpa using hlt
                  subst e
                  clear HTB2 hlt
                  go_wp2_with fail
                  go_meet
                  exact ⟨rfl, rfl⟩
                · have hlt2 : ((fl : Int) < (l.queue.length : Int)) = False := eq_false (by omega)
                  have e : tb = false := by rw [HTB2.out]; simpa using hlt
                  subst e
                  clear HTB2 hlt
                  go_wp2_with fail
                  go_meet
                  exact ⟨rfl, rfl⟩
            case rest =>
              obtain ⟨rfl, rfl⟩ := hcut
              clear c1
              have hk := HBK.out _ _ rfl HPG.out
              have hts := FACT.out.2.2.2.2
              rw [HTB.out] at hts
              cases tb with
              | false =>
                have FIN : Hid (LvI b m es clk D K c all rr F lp'.length (.slice a6 ts.length cap6) wc) := Lib.hid ⟨lp', since, seen', clk, ts, th, FACT.out.2.2.2.1, HLE.out, rfl, FACT.out.2.2.1, FACT.out.2.1.2, HV6.out, by simpa using hts, hk⟩
                clear hk hts HPG HTB HTB2 HV6
                go_wp2_with fail
                go_roundg lp'.length
                case measure => exact FACT.out.1
                case rel => exact FIN.out
              | true =>
                obtain ⟨A2, s2, _, back⟩ := hk.split
                have s3 : Sat (wc.alloc (.cells #[kI page] 3)) (.blk wc.heap.size (.cells #[kI page] 3) :: ((A2 ++ [.blk rr (.mapIter (some m) since seen' clk)]) ++ (th ++ F))) := by
                  have := s2.new (.cells #[kI page] 3)
                  simpa using this
                have htl : ts.length + 1 ≤ 1000000 := by
                  have h1 := hts.length_eq
                  have h2 : (touT K.tab (lp'.map (·.1)) c all).length ≤ K.tab.length := by
                    unfold touT
                    rw [List.length_map]
                    exact List.length_filter_le _ _
                  have := HL.out.1
                  simp only [if_true, List.length_append, List.length_cons, List.length_nil] at h1
                  omega
                obtain ⟨p7, q7, w7, h7, hap, hv7, hs7⟩ := is_push page HV6.out s3 htl
                have hk7 : KtAt b m es clk D ⟨mixT K.tab (lp'.map (·.1)) c all, K.ws⟩ (.blk rr (.mapIter (some m) since seen' clk) :: (h7 ++ F)) w7 := back (by simpa using hs7)
                have FIN : Hid (LvI b m es clk D K c all rr F lp'.length (.slice p7 (ts.length + 1) q7) w7) := Lib.hid ⟨lp', since, seen', clk, ts ++ [page], h7, FACT.out.2.2.2.1, HLE.out, rfl, FACT.out.2.2.1, FACT.out.2.1.2, hv7, by simpa using hts, hk7⟩
                have HAP := Lib.hid hap
                clear hk hts HPG HTB HTB2 HV6 s2 back s3 htl hap hv7 hs7 hk7
                go_wp2_with (at_builtin; refine wpList_append_run rfl _ _ _ _ rfl _ _ _ _ rfl rfl HAP.out ?_)
                go_roundg lp'.length
                case measure => exact FACT.out.1
                case rel => exact FIN.out
theorem cancel_any {b : Nat} {K : KtM} {F : Heaplet} {w : World} (h : KtIs b K F w) (c : Int) (hf : ∀ p l, getL p K.tab = some l → Fit8 l) (hr : ∀ q ∈ K.tab, 0 ≤ q.1 ∧ q.1 < 1024) (hw : K.ws.length ≤ 600000) (hl : K.tab.length ≤ 1100) :
    Calls Try.prog 12 #[.pointer (some ⟨b, 0, none⟩), .int .i64 c] w (Ret (.tuple #[]) (KtIs b (leaveM K c false) F)) := by
  have H := Lib.hid (leave_any h c false hf hr hw hl)
  clear h hf hr hw hl
  go_enter Try.func12, Try.ntmps12
  go_wp2_with fail
  refine (H.out).mono ?_
  rintro e w1 ⟨rfl, h1⟩
  have FIN := Lib.hid h1
  clear h1
  go_wp2_with fail
  refine bodyPost_end (results_none rfl _ _ _) rfl ?_
  exact ⟨rfl, FIN.out⟩
theorem gone_any {b : Nat} {K : KtM} {F : Heaplet} {w : World} (h : KtIs b K F w) (c : Int) (hf : ∀ p l, getL p K.tab = some l → Fit8 l) (hr : ∀ q ∈ K.tab, 0 ≤ q.1 ∧ q.1 < 1024) (hw : K.ws.length ≤ 600000) (hl : K.tab.length ≤ 1100) :
    Calls Try.prog 13 #[.pointer (some ⟨b, 0, none⟩), .int .i64 c] w (Ret (.tuple #[]) (KtIs b (leaveM K c true) F)) := by
  have H := Lib.hid (leave_any h c true hf hr hw hl)
  clear h hf hr hw hl
  go_enter Try.func13, Try.ntmps13
  go_wp2_with fail
  refine (H.out).mono ?_
  rintro e w1 ⟨rfl, h1⟩
  have FIN := Lib.hid h1
  clear h1
  go_wp2_with fail
  refine bodyPost_end (results_none rfl _ _ _) rfl ?_
  exact ⟨rfl, FIN.out⟩
theorem cancel_nil (c : Int) (w : World) : Calls Try.prog 12 #[.pointer none, .int .i64 c] w (Ret (.tuple #[]) (Same w)) := by
  have H := Lib.hid (leave_nil c false w)
  go_enter Try.func12, Try.ntmps12
  go_wp2_with fail
  refine (H.out).mono ?_
  rintro e w1 ⟨rfl, rfl⟩
  go_wp2_with fail
  refine bodyPost_end (results_none rfl _ _ _) rfl ?_
  exact ⟨rfl, rfl⟩
theorem gone_nil (c : Int) (w : World) : Calls Try.prog 13 #[.pointer none, .int .i64 c] w (Ret (.tuple #[]) (Same w)) := by
  have H := Lib.hid (leave_nil c true w)
  go_enter Try.func13, Try.ntmps13
  go_wp2_with fail
  refine (H.out).mono ?_
  rintro e w1 ⟨rfl, rfl⟩
  go_wp2_with fail
  refine bodyPost_end (results_none rfl _ _ _) rfl ?_
  exact ⟨rfl, rfl⟩
end Go.Proofs.Ythgfbnopbfiifaa
