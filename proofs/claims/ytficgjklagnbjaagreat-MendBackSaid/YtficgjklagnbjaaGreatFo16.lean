/- Texts put together: Pa13, LosM. Conditions: none. -/
import Derived.Test.YtficgjklagnbjaaGreatFo15
namespace Go.Proofs.YtficgjklagnbjaaGreat
open Go Go.MapKept Go.RowKit Go.Proofs Go.Sort Go.Shelf

/-- What Read hands back. -/
def ViewIs (v : Value) (V : VM) (h : Heaplet) : Prop := ∃ lv dv pv lh dh ph, v = .agg #[lv, dv, pv] ∧ LSl lv V.losers lh ∧ TSl dv V.done dh ∧ FSl pv V.pages ph ∧ h = lh ++ (dh ++ ph)
set_option maxRecDepth 100000 in
set_option maxHeartbeats 4000000 in
theorem Read_no (v : Value) (l : List En) (first : Int) (F : Heaplet) (w : World) (hs : Sat w F) (h1 : withinM first 1 1099511627776 = false) :
    Calls Tryz.prog 31 #[v, .int .i64 first] w fun e w' => ∃ v' h, e = .returned v' ∧ ViewIs v' (readM l first) h ∧ Sat w' (h ++ F) := by
  have hfi := first_any first (w.alloc (vwO (.slice none 0 0) (.slice none 0 0) (.slice none 0 0)))
  rw [h1] at hfi
  have e0 : readM l first = ⟨[], [], []⟩ := by unfold readM; rw [h1]; rfl
  rw [e0]
  have hvw : ViewIs (.agg #[.slice none 0 0, .slice none 0 0, .slice none 0 0]) ⟨[], [], []⟩ [] := ⟨_, _, _, [], [], [], rfl, SliceIs.nil _ _, SliceIs.nil _ _, SliceIs.nil _ _, rfl⟩
  have HVW := Lib.hid hvw
  have HFI := Lib.hid hfi
  have s1 := hs.new (vwO (.slice none 0 0) (.slice none 0 0) (.slice none 0 0))
  have HS := Lib.hid s1
  clear hs hfi h1 e0 s1 hvw
  go_enter Tryz.func31, Tryz.ntmps31
  go_wp2_with (go_at_call 51; refine HFI.out.mono ?_; rintro e w3 ⟨rfl, rfl⟩)
  refine bodyPost_ret (v := .agg #[.slice none 0 0, .slice none 0 0, .slice none 0 0]) ?_ rfl ⟨_, [], rfl, HVW.out, HS.out.tail⟩
  have hh := HS.out.h0
  generalize w.alloc (vwO (.slice none 0 0) (.slice none 0 0) (.slice none 0 0)) = W0 at *
  generalize w.heap.size = vr at *
  have c0 : W0.cell? ⟨vr, 0, none⟩ = some (.slice none 0 0) := by rw [cell_of hh]; rfl
  have c1 : W0.cell? ⟨vr, 1, none⟩ = some (.slice none 0 0) := by rw [cell_of hh]; rfl
  have c2 : W0.cell? ⟨vr, 2, none⟩ = some (.slice none 0 0) := by rw [cell_of hh]; rfl
  simp [results, Tryz.results31, go_sem, c0, c1, c2]
theorem enAt_oldG {w : World} {g : Nat} {x : En} {G : Heaplet} (s : Sat w (.blk g (eO x) :: G)) : EnAt w g x := enAt_of s.h0
theorem RdIs.drop {vb pb lb eb : Nat} {l : List En} {DL : List (Tx × Int)} {R : List Tx} {DP : List (Int × Int)} {G : Heaplet} {w : World} {x : HItem} (h : RdIs vb pb lb eb l DL R DP (x :: G) w) : RdIs vb pb lb eb l DL R DP G w := by
  obtain ⟨v, h, es0, clk0, D0, es1, clk1, es2, clk2, h0, h1, h2, h3, h4, s⟩ := h
  refine ⟨v, h, es0, clk0, D0, es1, clk1, es2, clk2, h0, h1, h2, h3, h4, s.sub ?_⟩
  exact ((((List.Sublist.append_left (List.sublist_cons_self x G) h).cons_cons _).cons_cons _).cons_cons _).cons_cons _
theorem page_bd {x : En} (h : (goodM x && !isEndM x) = true) : 0 ≤ x.page ∧ x.page ≤ 1023 := by
  rw [Bool.and_eq_true, Bool.not_eq_true'] at h
  obtain ⟨hg, he⟩ := h
  have hk : x.kind ≠ 3 ∧ x.kind ≠ 4 := by
    unfold isEndM at he
    rw [Bool.or_eq_false_iff] at he
    exact ⟨by simpa using he.1, by simpa using he.2⟩
  unfold goodM at hg
  rw [Bool.and_eq_true] at hg
  have h2 := hg.2
  have hc : changeM x = true := by
    by_cases k1 : x.kind = 1
    · rw [if_pos k1, Bool.and_eq_true] at h2; exact h2.1
    · rw [if_neg k1] at h2
      by_cases k2 : x.kind = 2
      · rw [if_pos k2, Bool.and_eq_true] at h2; exact h2.1
      · rw [if_neg k2, if_neg (by omega)] at h2; cases h2
  unfold changeM withinM at hc
  simp only [Bool.and_eq_true, decide_eq_true_eq] at hc
  exact hc.1.1.1
theorem pagM_bd (first : Int) : ∀ m : List En, ∀ p ∈ pagM first m, 0 ≤ p.1 ∧ p.1 ≤ 1023 := by
  refine snoc_ind (by intro p hp; simp [pagM, firstM] at hp) fun m x ih => ?_
  intro p hp
  rw [pagM_snoc] at hp
  unfold stepP at hp
  split at hp
  · rename_i h
    have hk : p.1 ∈ (putL x.page (first + m.length) (pagM first m)).map (·.1) := List.mem_map.2 ⟨p, hp, rfl⟩
    rw [keys_putL] at hk
    have hx : 0 ≤ x.page ∧ x.page ≤ 1023 := by
      refine page_bd ?_
      simp only [Bool.and_eq_true] at h ⊢
      exact ⟨h.1, h.2.2⟩
    split at hk
    · obtain ⟨q, hq, e⟩ := List.mem_map.1 hk
      rw [← e]; exact ih q hq
    · rcases List.mem_append.1 hk with hk | hk
      · obtain ⟨q, hq, e⟩ := List.mem_map.1 hk
        rw [← e]; exact ih q hq
      · rw [List.mem_singleton] at hk
        rw [hk]; exact hx
  · exact ih p hp
theorem losersM_len (l : List En) : (losersM l).length = (lastM l l).length := by
  unfold losersM
  rw [List.length_map, (sortT_perm _).length_eq, List.length_map]
theorem pagesM_len (l : List En) (first : Int) : (pagesM l first).length = (pagM first l).length := by
  unfold pagesM
  rw [List.length_map, (sortK_perm _).length_eq, List.length_map]
theorem rd2_start {h6 dh G : Heaplet} {bx vb pb lb eb : HItem} {w : World} (s : Sat w (h6 ++ (bx :: vb :: pb :: lb :: eb :: (dh ++ G)))) : Sat w (vb :: (pb :: lb :: (h6 ++ (dh ++ G)))) := by
  have p := List.perm_append_comm_assoc h6 [bx, vb, pb, lb, eb] (dh ++ G)
  refine (s.perm p).sub ?_
  exact .cons _ (((List.Sublist.cons _ (List.Sublist.refl _)).cons_cons _).cons_cons _ |>.cons_cons _)
theorem rd3_start {h7 R : Heaplet} {bx vb : HItem} {w : World} (s : Sat w (h7 ++ (bx :: vb :: R))) : Sat w (vb :: (h7 ++ R)) := by
  have p := List.perm_append_comm_assoc h7 [bx, vb] R
  exact (s.perm p).tail
theorem rd4_end {vb pb lb vr : HItem} {ph h7 lh h6 dh F : Heaplet} {w : World} (s : Sat w (vb :: (ph ++ (h7 ++ (lh ++ (pb :: lb :: (h6 ++ (dh ++ (vr :: F))))))))) : Sat w (vr :: ((lh ++ (dh ++ ph)) ++ F)) := by
  have s1 : Sat w (ph ++ (lh ++ (dh ++ (vr :: F)))) := by
    refine s.tail.sub (List.Sublist.append_left ?_ ph)
    refine List.Sublist.trans (List.Sublist.append_left ?_ lh) (List.sublist_append_right h7 _)
    exact .cons _ (.cons _ (List.sublist_append_right h6 _))
  refine s1.perm ?_
  have p1 : (ph ++ (lh ++ (dh ++ (vr :: F)))).Perm (lh ++ (dh ++ (ph ++ (vr :: F)))) := (List.perm_append_comm_assoc ph lh _).trans (List.Perm.append_left lh (List.perm_append_comm_assoc ph dh _))
  refine p1.trans ?_
  have e : lh ++ (dh ++ (ph ++ (vr :: F))) = (lh ++ (dh ++ ph)) ++ (vr :: F) := by simp
  rw [e]
  exact List.perm_middle
set_option maxRecDepth 100000 in
set_option maxHeartbeats 8000000 in
theorem Read_yes (v : Value) (l : List En) (first : Int) (F : Heaplet) (w : World) (hs : Sat w F) (hE : EnsIn F v l) (hl : l.length ≤ 100000) (hf : FitL l) (h1 : withinM first 1 1099511627776 = true) :
    Calls Tryz.prog 31 #[v, .int .i64 first] w fun e w' => ∃ v' h, e = .returned v' ∧ ViewIs v' (readM l first) h ∧ Sat w' (h ++ F) := by
  have hfi := first_any first (w.alloc (vwO (.slice none 0 0) (.slice none 0 0) (.slice none 0 0)))
  rw [h1] at hfi
  have e0 : readM l first = ⟨losersM l, doneM l, pagesM l first⟩ := by unfold readM; rw [h1]; rfl
  rw [e0]
  have hb1 : 1 ≤ first ∧ first ≤ 1099511627776 := by simpa [withinM] using h1
  obtain ⟨fb1, fb2⟩ := hb1
  have HFI := Lib.hid hfi
  have s1 := hs.new (vwO (.slice none 0 0) (.slice none 0 0) (.slice none 0 0))
  have hee := ended_any v l _ _ s1 (hE.cons _) hl hf
  have HEE := Lib.hid hee
  have HFit := Lib.hid hf
  obtain ⟨a, cap, rfl, hc⟩ := hE
  have HC := Lib.hid hc
  have hmm := @run_makeMap Tryz.prog
  clear hs hfi h1 e0 s1 hee hf hc
  go_enter Tryz.func31, Tryz.ntmps31
  go_upto_region 3 with (go_at_call 51; refine HFI.out.mono ?_; rintro e w3 ⟨rfl, rfl⟩)
  generalize w.alloc (vwO (.slice none 0 0) (.slice none 0 0) (.slice none 0 0)) = W0 at *
  generalize w.heap.size = vr at *
  go_wp2_with fail
  refine HEE.out.mono ?_
  rintro e w3 ⟨eb, rfl, hem⟩
  have hrd : RdIs (w3.heap.size + 1 + 1) (w3.heap.size + 1) w3.heap.size eb l [] [] [] (.blk vr (vwO (.slice none 0 0) (.slice none 0 0) (.slice none 0 0)) :: F) (((w3.alloc (.map #[] 0)).alloc (.map #[] 0)).alloc (vwO (.slice none 0 0) (.slice none 0 0) (.slice none 0 0))) := by
    obtain ⟨es, clk, D, m1, m2, ms⟩ := hem
    have := ((ms.new (.map #[] 0)).new (.map #[] 0)).new (vwO (.slice none 0 0) (.slice none 0 0) (.slice none 0 0))
    rw [World.size_alloc, World.size_alloc] at this
    exact ⟨.slice none 0 0, [], es, clk, D, #[], 0, #[], 0, m1, m2, mapOkS_new, mapOk_new kI_key kI_inj, SliceIs.nil _ _, this⟩
  have HRD := Lib.hid hrd
  obtain ⟨G, hG⟩ : ∃ G, HItem.blk vr (vwO (.slice none 0 0) (.slice none 0 0) (.slice none 0 0)) :: F = G := ⟨_, rfl⟩
  rw [hG] at HRD
  have HG : Hid (HItem.blk vr (vwO (.slice none 0 0) (.slice none 0 0) (.slice none 0 0)) :: F = G) := Lib.hid hG
  have HCG : Hid (∀ w, Sat w G → ∀ i q, l[i]? = some q → ∃ g off, a = some ⟨g, off, none⟩ ∧ EnO w g (off + i * 13) q) := Lib.hid (fun w hw => HC.out w (by rw [← hG] at hw; exact hw.tail))
  clear hem hrd HEE HFI hG HC
  go_wp2_with fail
  generalize ((w3.alloc (.map #[] 0)).alloc (.map #[] 0)).alloc (.cells #[.slice none 0 0, .slice none 0 0, .slice none 0 0] 93) = W4 at *
  generalize w3.heap.size + 1 + 1 = vb at *
  generalize w3.heap.size + 1 = pb at *
  generalize w3.heap.size = lb at *
  go_loopw [27] (fun v27 wr => ∃ r : Nat, r ≤ l.length ∧ v27 = .int .i64 r ∧ RdIs vb pb lb eb l (lastM l (l.take r)) (doneM (l.take r)) (pagM first (l.take r)) G wr) (fun v27 _ => 200000 - (RowKit.intOf v27).toNat)
  case atStart => exact ⟨0, by omega, rfl, HRD.out⟩
  case round =>
    clear HRD
    obtain ⟨r, hr, rfl, hg⟩ := hrel
    have r0 : (0 : Int) ≤ (r : Int) := by omega
    by_cases hlr : r < l.length
    · have r1 : (r : Int) < (l.length : Int) := by omega
      obtain ⟨x, hx⟩ : ∃ x, l[r]? = some x := ⟨_, List.getElem?_eq_getElem hlr⟩
      obtain ⟨g, off, rfl, e0, e1, e2, e3, e4, e5, e6, e7, e8, e9, e10, e11, e12⟩ := HCG.out wr hg.frame r x hx
      have htk : l.take (r + 1) = l.take r ++ [x] := by rw [List.take_add_one, hx]; rfl
      have hl1 : (doneM (l.take r)).length ≤ 100000 := by
        have := doneM_len (l.take r)
        rw [List.length_take] at this
        omega
      have hL : lastM l (l.take (r + 1)) = stepL l (lastM l (l.take r)) x := by rw [htk, lastM_snoc]
      have hD : doneM (l.take (r + 1)) = stepD (doneM (l.take r)) x := by rw [htk, doneM_snoc]
      have hP : pagM first (l.take (r + 1)) = stepP first (pagM first (l.take r)) r x := by
        rw [htk, pagM_snoc]; congr 1; rw [List.length_take]; omega
      have HST := Lib.hid (And.intro hL (And.intro hD hP))
      have HL1 := Lib.hid hl1
      have hfit := HFit.out.get hx
      have HX := Lib.hid hfit
      have HN := Lib.hid (hg.new (eO x))
      clear hx htk hg hfit hL hD hP hl1
      generalize lastM l (l.take r) = DL at *
      generalize doneM (l.take r) = R at *
      generalize pagM first (l.take r) = DP at *
      go_upto_region 10 with (fail)
      generalize wr.alloc (eO x) = W1 at *
      generalize wr.heap.size = g1 at *
      clear e0 e1 e2 e3 e4 e5 e6 e7 e8 e9 e10 e11 e12
      obtain ⟨n0, n1, n2, n3, n4, n5, n6, n7, n8, n9, n10, n11, n12⟩ := enAt_of HN.out.frame.h0
      go_wp2_with fail
      refine (good_any x _ HX.out.1 HX.out.2).mono ?_
      rintro e w5 ⟨rfl, hg5⟩
      have HN5 := Lib.hid (HN.out.grown hg5)
      clear hg5 n0 n1 n2 n3 n4 n5 n6 n7 n8 n9 n10 n11 n12
      clear HN HX
      cases hgo : goodM x with
      | false =>
        have hst := HST.out
        unfold stepL stepD stepP at hst
        simp only [hgo, Bool.false_and, Bool.false_eq_true, if_false] at hst
        have FIN : Hid (RdIs vb pb lb eb l (lastM l (l.take (r + 1))) (doneM (l.take (r + 1))) (pagM first (l.take (r + 1))) G w5) := Lib.hid (by rw [hst.1, hst.2.1, hst.2.2]; exact HN5.out.drop)
        clear hst
        go_wp2_with fail
        exact ⟨⟨r + 1, by omega, by simp, FIN.out⟩, by simp only [RowKit.intOf]; omega⟩
      | true =>
        have HGO := Lib.hid hgo
        clear hgo
        obtain ⟨n0, n1, n2, n3, n4, n5, n6, n7, n8, n9, n10, n11, n12⟩ := enAt_of HN5.out.frame.h0
        have hle := HN5.out.lookE x.t
        go_upto_if 39 with (fail)
        go_cut [9] (fun v9 wx => v9 = .int .i64 r ∧ RdIs vb pb lb eb l (stepL l DL x) R DP (.blk g1 (eO x) :: G) wx)
        case first =>
          cases hen : endM l x.t with
          | true =>
            have e : stepL l DL x = DL := by unfold stepL; rw [hen]; simp
            have FIN : Hid (RdIs vb pb lb eb l (stepL l DL x) R DP (.blk g1 (eO x) :: G) w5) := Lib.hid (by rw [e]; exact HN5.out)
            clear e
            go_wp2_with fail
            go_meet
            exact ⟨rfl, FIN.out⟩
          | false =>
            have e : stepL l DL x = putL x.t x.lsn DL := by unfold stepL; rw [hen, HGO.out]; simp
            obtain ⟨w6, hu, hr6⟩ := HN5.out.last x.t x.lsn
            rw [← e] at hr6
            have FIN := Lib.hid hr6
            clear e hr6
            go_wp2_with fail
            go_meet
            exact ⟨rfl, FIN.out⟩
        case rest =>
          obtain ⟨rfl, hr6⟩ := hcut
          clear HN5 hle n0 n1 n2 n3 n4 n5 n6 n7 n8 n9 n10 n11 n12
          have HR6 := Lib.hid hr6
          clear hr6
          obtain ⟨kb, hkb⟩ : ∃ kb, (x.kind == 3) = kb := ⟨_, rfl⟩
          have HKB := Lib.hid hkb
          go_upto_region 13 with (fail)
          go_cut [9, 55] (fun v9 v55 wx => v9 = .int .i64 r ∧ v55 = .bool (kb && !hasM R x.t) ∧ RdIs vb pb lb eb l (stepL l DL x) R DP (.blk g1 (eO x) :: G) wx)
          case first =>
            obtain ⟨n0, n1, n2, n3, n4, n5, n6, n7, n8, n9, n10, n11, n12⟩ := enAt_of HR6.out.frame.h0
            obtain ⟨sa, sc, hsl, htx⟩ := HR6.out.slice
            have HCT := Lib.hid (contains_any sa sc R x.t wc htx HL1.out)
            clear htx
            cases kb with
            | false =>
              go_wp2_with fail
              go_meet
              exact ⟨rfl, rfl, HR6.out⟩
            | true =>
              go_wp2_with fail
              refine HCT.out.mono ?_
              rintro e w7 ⟨rfl, hg7⟩
              have HR7 := Lib.hid (HR6.out.grown hg7)
              clear hg7
              go_wp2_with fail
              go_meet
              exact ⟨rfl, rfl, HR7.out⟩
          case rest =>
            clear HR6 hkb
            obtain ⟨rfl, rfl, hr7⟩ := hcut
            obtain ⟨db, hdb⟩ : ∃ db, (kb && !hasM R x.t) = db := ⟨_, rfl⟩
            have hsd : stepD R x = if db = true then R ++ [x.t] else R := by unfold stepD; rw [HGO.out, HKB.out, Bool.true_and, hdb]
            have HSD := Lib.hid hsd
            have HR7 := Lib.hid hr7
            rw [hdb]
            clear hr7 hsd hdb
            go_upto_if 55 with (fail)
            go_cut [9] (fun v9 wx => v9 = .int .i64 r ∧ RdIs vb pb lb eb l (stepL l DL x) (stepD R x) DP (.blk g1 (eO x) :: G) wx)
            case first =>
              cases db with
              | false =>
                have e := HSD.out
                rw [if_neg (by simp)] at e
                have FIN : Hid (RdIs vb pb lb eb l (stepL l DL x) (stepD R x) DP (.blk g1 (eO x) :: G) wc) := Lib.hid (by rw [e]; exact HR7.out)
                clear e
                go_wp2_with fail
                go_meet
                exact ⟨rfl, FIN.out⟩
              | true =>
                have e := HSD.out
                rw [if_pos rfl] at e
                obtain ⟨n0, n1, n2, n3, n4, n5, n6, n7, n8, n9, n10, n11, n12⟩ := enAt_of HR7.out.frame.h0
                obtain ⟨sa, sc, hsl, _⟩ := HR7.out.slice
                obtain ⟨a8, n8', c8, w8, hap, k1, k2, hr8⟩ := HR7.out.push x.t (by have := HL1.out; omega) hsl
                rw [← e] at hr8
                have HAP := Lib.hid hap
                have FIN := Lib.hid hr8
                clear e hap hr8
                go_wp2_with (at_builtin; refine wpList_append_run rfl _ _ _ _ rfl _ _ _ _ rfl rfl HAP.out ?_)
                go_meet
                exact ⟨rfl, FIN.out⟩
            case rest =>
              clear HR7
              obtain ⟨rfl, hr8⟩ := hcut
              have HR8 := Lib.hid hr8
              clear hr8
              obtain ⟨n0, n1, n2, n3, n4, n5, n6, n7, n8, n9, n10, n11, n12⟩ := enAt_of HR8.out.frame.h0
              have hlk := HR8.out.lookP x.page
              obtain ⟨pb1, hpb1⟩ : ∃ b, (getL x.page DP).isSome = b := ⟨_, rfl⟩
              obtain ⟨pv1, hpv1⟩ : ∃ z, ((getL x.page DP).map kI).getD (kI 0) = z := ⟨_, rfl⟩
              have hpn : (getL x.page DP).isNone = !pb1 := by rw [← hpb1]; cases getL x.page DP <;> rfl
              obtain ⟨ie, hie⟩ : ∃ b, isEndM x = b := ⟨_, rfl⟩
              have hsp : stepP first DP r x = if (!pb1 && !ie) = true then putL x.page (first + r) DP else DP := by unfold stepP; rw [HGO.out, hpn, hie, Bool.true_and]
              have HSP := Lib.hid hsp
              have HIE := Lib.hid hie
              rw [hpb1, hpv1] at hlk
              clear hpb1 hpv1 hpn hsp hie
              go_upto_region 16 with (fail)
              go_cut [9, 76] (fun v9 v76 wx => v9 = .int .i64 r ∧ v76 = .bool (!pb1 && !ie) ∧ RdIs vb pb lb eb l (stepL l DL x) (stepD R x) DP (.blk g1 (eO x) :: G) wx)
              case first =>
                cases pb1 with
                | true =>
                  go_wp2_with fail
                  go_meet
                  exact ⟨rfl, rfl, HR8.out⟩
                | false =>
                  go_wp2_with fail
                  refine (isEnd_any x _).mono ?_
                  rintro e w9 ⟨rfl, hg9⟩
                  have HR9 := Lib.hid (HR8.out.grown hg9)
                  clear hg9
                  rw [HIE.out]
                  go_wp2_with fail
                  go_meet
                  exact ⟨rfl, rfl, HR9.out⟩
              case rest =>
                clear HR8 hlk n0 n1 n2 n3 n4 n5 n6 n7 n8 n9 n10 n11 n12
                obtain ⟨rfl, rfl, hr9⟩ := hcut
                obtain ⟨qb, hqb⟩ : ∃ qb, (!pb1 && !ie) = qb := ⟨_, rfl⟩
                rw [hqb]
                have hst := HST.out
                have hsp := HSP.out
                rw [hqb] at hsp
                cases qb with
                | false =>
                  rw [if_neg (by simp)] at hsp
                  have FIN : Hid (RdIs vb pb lb eb l (lastM l (l.take (r + 1))) (doneM (l.take (r + 1))) (pagM first (l.take (r + 1))) G wc) := Lib.hid (by rw [hst.1, hst.2.1, hst.2.2, hsp]; exact hr9.drop)
                  clear hst hsp hr9 hqb
                  go_wp2_with fail
                  exact ⟨⟨r + 1, by omega, by simp, FIN.out⟩, by simp only [RowKit.intOf]; omega⟩
                | true =>
                  rw [if_pos rfl] at hsp
                  obtain ⟨n0, n1, n2, n3, n4, n5, n6, n7, n8, n9, n10, n11, n12⟩ := enAt_of hr9.frame.h0
                  obtain ⟨w10, hu, hr10⟩ := hr9.page x.page (first + r)
                  have FIN : Hid (RdIs vb pb lb eb l (lastM l (l.take (r + 1))) (doneM (l.take (r + 1))) (pagM first (l.take (r + 1))) G w10) := Lib.hid (by rw [hst.1, hst.2.1, hst.2.2, hsp]; exact hr10.drop)
                  clear hst hsp hr9 hr10 hqb
                  go_wp2_with fail
                  exact ⟨⟨r + 1, by omega, by simp, FIN.out⟩, by simp only [RowKit.intOf]; omega⟩
    · obtain rfl : r = l.length := by omega
      rw [List.take_length] at hg
      obtain ⟨dv, dh, es0, clk0, D0, es1, clk1, es2, clk2, m0, m01, m1, m2, hdv, s⟩ := hg
      clear hlr m0 m01
      have hbx := s.new (.cells #[.map (some lb)] 118)
      have hll := lastM_len l l
      have hpl := pagM_len first l
      have hsk := sorted_keysT wr.heap.size lb es1 clk1 (lastM l l) (wr.alloc (.cells #[.map (some lb)] 118)) (by rw [cell_of hbx.h0]; rfl) hbx.h3 m1 (by omega)
      have HSK := Lib.hid hsk
      have HBX := Lib.hid hbx
      have HM := Lib.hid (And.intro m1 (And.intro m2 hdv))
      have HPL := Lib.hid (And.intro hll hpl)
      clear hsk hbx s m1 m2 hdv hll hpl
      have hkb := fun W => keysT_box (some lb) W
      go_wp2_with (first | (go_at_call 56; refine (hkb _).mono ?_; rintro e w5 ⟨rfl, rfl⟩) | fail)
      generalize wr.alloc (.cells #[.map (some lb)] 118) = W5 at *
      generalize wr.heap.size = bx at *
      refine HSK.out.mono ?_
      rintro e w6 ⟨v6, h6, rfl, hv6, hs6⟩
      have hs2 := rd2_start (hs6.news HBX.out)
      obtain ⟨a6, c6, rfl⟩ := sl_form hv6
      obtain ⟨REST, hREST⟩ : ∃ REST, HItem.blk pb (.map es2 clk2) :: .blk lb (.map es1 clk1) :: (h6 ++ (dh ++ G)) = REST := ⟨_, rfl⟩
      rw [hREST] at hs2
      obtain ⟨names, hnm⟩ : ∃ names, sortT ((lastM l l).map (·.1)) = names := ⟨_, rfl⟩
      rw [hnm] at hv6 ⊢
      have hnl : names.length = (losersM l).length := by rw [losersM_len, ← hnm, (sortT_perm _).length_eq, List.length_map]
      have hlo : ∀ (i : Nat) t, names[i]? = some t → (losersM l)[i]? = some (t, (getL t (lastM l l)).getD 0) := by
        intro i t ht
        unfold losersM
        rw [List.getElem?_map, hnm, ht]; rfl
      have hRF : ∀ w, Sat w REST → TxsAt w a6 names ∧ ∀ t, (Instr.lookup 118 (.map (some lb)) (tV t) false).run Tryz.prog w = .ok (kI ((getL t (lastM l l)).getD 0)) w := by
        intro w hw
        rw [← hREST] at hw
        refine ⟨?_, fun t => ?_⟩
        · obtain ⟨a', cap', e, ht⟩ := txs_at hv6 hw.tail.tail
          cases e
          exact ht
        · obtain ⟨d, hd⟩ := und_tx
          rw [lookS und_mti keys_tx hd (z := kI 0) (zeroI _) hw.h1 HM.out.1 t]
          cases getL t (lastM l l) <;> rfl
      have HRF := Lib.hid hRF
      have HLO := Lib.hid hlo
      have HRE := Lib.hid hREST
      have HS2 := Lib.hid hs2
      have HLL : Hid (names.length ≤ 100000) := Lib.hid (by rw [hnl, losersM_len]; have := HPL.out; omega)
      have HNL := Lib.hid hnl
      clear hRF hlo hREST hs2 hs6 hv6 hnm HSK HBX hnl
      go_wp2_with fail
      go_loopw [88] (fun v88 wr => ∃ (r : Nat) (lv : Value) (lh : Heaplet), r ≤ names.length ∧ v88 = .int .i64 r ∧ LSl lv ((losersM l).take r) lh ∧ Sat wr (.blk vb (vwO lv dv (.slice none 0 0)) :: (lh ++ REST))) (fun v88 _ => 200000 - (RowKit.intOf v88).toNat)
      case atStart => exact ⟨0, _, [], by omega, rfl, SliceIs.nil _ _, HS2.out⟩
      case round =>
        clear HS2
        obtain ⟨r, lv, lh, hr, rfl, hlv, hg⟩ := hrel
        have r0 : (0 : Int) ≤ (r : Int) := by omega
        by_cases hlr : r < names.length
        · have r1 : (r : Int) < (names.length : Int) := by omega
          obtain ⟨t, ht⟩ : ∃ t, names[r]? = some t := ⟨_, List.getElem?_eq_getElem hlr⟩
          obtain ⟨htx, hlk⟩ := HRF.out _ hg.tail.right
          obtain ⟨g, off, rfl, e0, e1, e2⟩ := htx r t ht
          have htk : (losersM l).take (r + 1) = (losersM l).take r ++ [(t, (getL t (lastM l l)).getD 0)] := by rw [List.take_add_one, HLO.out r t ht]; rfl
          obtain ⟨n, hn⟩ : ∃ n, (getL t (lastM l l)).getD 0 = n := ⟨_, rfl⟩
          rw [hn] at htk
          have hlen : ((losersM l).take r).length + 1 ≤ 200000 := by
            rw [List.length_take]; have := HLL.out; omega
          obtain ⟨la, lc, rfl⟩ := sl_form hlv
          have HN := Lib.hid (hg.new (.cells #[kI t.c, kI t.e, kI t.n] 56))
          have HLV := Lib.hid hlv
          have HTK := Lib.hid htk
          have HLEN := Lib.hid hlen
          clear hlk htx ht htk hlv hg hlen
          go_upto_region 22 with (fail)
          generalize wr.alloc (.cells #[kI t.c, kI t.e, kI t.n] 56) = W1 at *
          generalize wr.heap.size = g1 at *
          clear e0 e1 e2
          have hND := HN.out.drew
          obtain ⟨v3, w3, h3, hap, hv3, hs3⟩ := lo_push (A := [.blk g1 (.cells #[kI t.c, kI t.e, kI t.n] 56), .blk vb (vwO (.slice la ((losersM l).take r).length lc) dv (.slice none 0 0))]) (t, n) HLV.out (hND.new (.cells #[kI t.c, kI t.e, kI t.n, kI n] 89)) HLEN.out
          rw [← HTK.out] at hv3
          have hs4 : Sat w3 (.blk vb (vwO (.slice la ((losersM l).take r).length lc) dv (.slice none 0 0)) :: (h3 ++ REST)) := Sat.tail hs3
          have k1 : w3.cell? ⟨vb, 0, none⟩ = some (.slice la ((losersM l).take r).length lc) := by rw [cell_of hs4.h0]; rfl
          have k2 : w3.frozen? ⟨vb, 0, none⟩ = false := unfrozen_of hs4.h0 0
          have hlkD := (HRF.out _ hND.tail.tail.right).2 t
          rw [hn] at hlkD
          have n0 : W1.cell? ⟨g1, 0, none⟩ = some (kI t.c) := by rw [cell_of HN.out.h0]; rfl
          have n1 : W1.cell? ⟨g1, 1, none⟩ = some (kI t.e) := by rw [cell_of HN.out.h0]; rfl
          have n2 : W1.cell? ⟨g1, 2, none⟩ = some (kI t.n) := by rw [cell_of HN.out.h0]; rfl
          have n3 : W1.cell? ⟨vb, 0, none⟩ = some (.slice la ((losersM l).take r).length lc) := by rw [cell_of HN.out.h1]; rfl
          have n4 : (W1.alloc (.cells #[kI t.c, kI t.e, kI t.n, kI n] 89)).cell? ⟨vb, 0, none⟩ = some (.slice la ((losersM l).take r).length lc) := by rw [cell_of (HN.out.new _).h2]; rfl
          have hs5 : Sat w3 (.blk g1 (.cells #[kI t.c, kI t.e, kI t.n] 56) :: (.blk vb (vwO (.slice la ((losersM l).take r).length lc) dv (.slice none 0 0)) :: (h3 ++ REST))) := hs3
          obtain ⟨a3, c3, rfl⟩ := sl_form hv3
          have hs6 := hs5.swap.setCell (i := 0) (.slice a3 ((losersM l).take (r + 1)).length c3)
          have hT : ∀ (w : World) (H : Heaplet), Sat w (.blk g1 (.cells #[kI t.c, kI t.e, kI t.n] 56) :: H) → w.cell? ⟨g1, 0, none⟩ = some (kI t.c) ∧ w.cell? ⟨g1, 1, none⟩ = some (kI t.e) ∧ w.cell? ⟨g1, 2, none⟩ = some (kI t.n) := fun w H hw => ⟨by rw [cell_of hw.h0]; rfl, by rw [cell_of hw.h0]; rfl, by rw [cell_of hw.h0]; rfl⟩
          have HT0 := Lib.hid (hT _ _ hND)
          have HT1 := Lib.hid (hT _ _ ((HN.out.new (.cells #[kI t.c, kI t.e, kI t.n, kI n] 89)).swap))
          have HT2 := Lib.hid (hT _ _ hs5)
          have HT3 := Lib.hid (hT _ _ hs6.swap)
          have HAP := Lib.hid hap
          have FIN := Lib.hid (And.intro hv3 hs6.swap.tail)
          generalize ((losersM l).take (r + 1)).length = n3' at *
          generalize ((losersM l).take r).length = n2' at *
          clear hap hv3 hs3 hs4 hs5 hs6 hT hND HN HLV HTK hn
          go_region_law ((refine step_append_run (by rfl) _ _ _ _ (by rfl) _ _ _ w3 (by rfl) (by rfl) HAP.out ?_))
          all_goals
            have hll0 := HLL.out
            go_wp2_with fail
            exact ⟨⟨r + 1, _, h3, by omega, by simp, FIN.out.1, FIN.out.2⟩, by simp only [RowKit.intOf]; omega⟩
        · obtain rfl : r = names.length := by omega
          have hfull : (losersM l).take names.length = losersM l := by rw [HNL.out]; exact List.take_length
          rw [hfull] at hlv
          have hbx := hg.new (.cells #[.map (some pb)] (Tryz.keysA_ren.t 23))
          have hbp : Sat wr (.blk pb (.map es2 clk2) :: .blk lb (.map es1 clk1) :: (h6 ++ (dh ++ G))) := by rw [HRE.out]; exact hg.tail.right
          have hsk := sorted_past HM.out.2.1 wr.heap.size pb (wr.alloc (.cells #[.map (some pb)] (Tryz.keysA_ren.t 23))) (by rw [cell_of hbx.h0]; rfl) ((hbp.new _).h1) (fun p hp => by have := pagM_bd first l p hp; omega) (by have := HPL.out; omega)
          have HSK := Lib.hid hsk
          have HBX := Lib.hid hbx
          have HLV := Lib.hid hlv
          have hkb2 := fun W => keys_past (some pb) W
          clear hfull hsk hbx hbp hlv hg hkb hlr HRF HLO
          go_wp2_with (first | (go_at_call 59; refine (hkb2 _).mono ?_; rintro e w5 ⟨rfl, rfl⟩) | fail)
          generalize wr.alloc (.cells #[.map (some pb)] (Tryz.keysA_ren.t 23)) = W7 at *
          generalize wr.heap.size = bx7 at *
          refine HSK.out.mono ?_
          rintro e w8 ⟨v7, h7, rfl, hv7, hnew, _⟩
          have hs8 := rd3_start (hnew _ HBX.out)
          obtain ⟨a7, c7, rfl⟩ := sl_form hv7
          obtain ⟨REST2, hREST2⟩ : ∃ R2, h7 ++ (lh ++ REST) = R2 := ⟨_, rfl⟩
          rw [hREST2] at hs8
          obtain ⟨nm2, hnm2⟩ : ∃ nm2, sortK ((pagM first l).map (·.1)) = nm2 := ⟨_, rfl⟩
          rw [hnm2] at hv7
          have hnl2 : nm2.length = (pagM first l).length := by rw [← hnm2, (sortK_perm _).length_eq, List.length_map]
          have hnp : nm2.length = (pagesM l first).length := by rw [pagesM_len, hnl2]
          rw [← hnl2] at hv7 ⊢
          have hlo : ∀ (i : Nat) q, nm2[i]? = some q → (pagesM l first)[i]? = some (q, (getL q (pagM first l)).getD 0) := by
            intro i q hq
            unfold pagesM
            rw [List.getElem?_map, hnm2, hq]; rfl
          have hRF : ∀ w, Sat w REST2 → (∀ (i : Nat) q, nm2[i]? = some q → ∃ g, a7 = some ⟨g, 0, none⟩ ∧ w.cell? ⟨g, i, none⟩ = some (kI q)) ∧ ∀ q, (Instr.lookup 119 (.map (some pb)) (kI q) false).run Tryz.prog w = .ok (kI ((getL q (pagM first l)).getD 0)) w := by
            intro w hw
            rw [← hREST2] at hw
            refine ⟨fun i q hq => ?_, fun q => ?_⟩
            · obtain ⟨a', cap', e, hcell⟩ := sl_cells (fl := fun x : Int => [kI x]) (fun _ => rfl) (by rw [fm_one]; exact hv7) hw
              cases e
              obtain ⟨g, ea, _, hu⟩ := hcell i q hq
              refine ⟨g, ea, ?_⟩
              have := hu 0 _ rfl
              simpa using this
            · have hr := hw.right.right
              rw [← HRE.out] at hr
              rw [run_lookup_ok und_mii Tryz.underlying3 (zeroI _) hr.h0 HM.out.2.1 q]
              cases getL q (pagM first l) <;> rfl
          have HRF := Lib.hid hRF
          have HLO := Lib.hid hlo
          have HR2 := Lib.hid hREST2
          have HS8 := Lib.hid hs8
          have HLL2 : Hid (nm2.length ≤ 100000) := Lib.hid (by rw [hnl2]; have := HPL.out; omega)
          have HNP := Lib.hid hnp
          clear hRF hlo hREST2 hs8 hv7 hnm2 hnl2 hnp hnew HSK HBX hkb2
          go_wp2_with fail
          go_loopw [107] (fun v107 wr => ∃ (r : Nat) (pv : Value) (ph : Heaplet), r ≤ nm2.length ∧ v107 = .int .i64 r ∧ FSl pv ((pagesM l first).take r) ph ∧ Sat wr (.blk vb (vwO lv dv pv) :: (ph ++ REST2))) (fun v107 _ => 200000 - (RowKit.intOf v107).toNat)
          case atStart => exact ⟨0, _, [], by omega, rfl, SliceIs.nil _ _, HS8.out⟩
          case round =>
            clear HS8
            obtain ⟨r, pv, ph, hr, rfl, hpv, hg⟩ := hrel
            have r0 : (0 : Int) ≤ (r : Int) := by omega
            by_cases hlr : r < nm2.length
            · have r1 : (r : Int) < (nm2.length : Int) := by omega
              obtain ⟨q, hq⟩ : ∃ q, nm2[r]? = some q := ⟨_, List.getElem?_eq_getElem hlr⟩
              obtain ⟨hcells, hlk⟩ := HRF.out _ hg.tail.right
              obtain ⟨g, rfl, e0⟩ := hcells r q hq
              have hlkq := hlk q
              have htk : (pagesM l first).take (r + 1) = (pagesM l first).take r ++ [(q, (getL q (pagM first l)).getD 0)] := by rw [List.take_add_one, HLO.out r q hq]; rfl
              obtain ⟨n, hn⟩ : ∃ n, (getL q (pagM first l)).getD 0 = n := ⟨_, rfl⟩
              rw [hn] at htk hlkq
              have hlen : ((pagesM l first).take r).length + 1 ≤ 200000 := by
                rw [List.length_take]; have := HLL2.out; omega
              obtain ⟨pa, pc, rfl⟩ := sl_form hpv
              have n3 : wr.cell? ⟨vb, 2, none⟩ = some (.slice pa ((pagesM l first).take r).length pc) := by rw [cell_of hg.h0]; rfl
              obtain ⟨v3, w3, h3, hap, hv3, hs3⟩ := fi_push (A := [.blk vb (vwO lv dv (.slice pa ((pagesM l first).take r).length pc))]) (q, n) hpv (hg.new (.cells #[kI q, kI n] 132)) hlen
              rw [← htk] at hv3
              have hs4 : Sat w3 (.blk vb (vwO lv dv (.slice pa ((pagesM l first).take r).length pc)) :: (h3 ++ REST2)) := hs3
              have k1 : w3.cell? ⟨vb, 2, none⟩ = some (.slice pa ((pagesM l first).take r).length pc) := by rw [cell_of hs4.h0]; rfl
              have k2 : w3.frozen? ⟨vb, 2, none⟩ = false := unfrozen_of hs4.h0 2
              obtain ⟨a3, c3, rfl⟩ := sl_form hv3
              have HAP := Lib.hid hap
              have FIN := Lib.hid (And.intro hv3 (hs4.setCell (i := 2) (.slice a3 ((pagesM l first).take (r + 1)).length c3)))
              generalize ((pagesM l first).take (r + 1)).length = n3' at *
              generalize ((pagesM l first).take r).length = n2' at *
              have hll0 := HLL2.out
              clear hap hv3 hs3 hs4 hg hpv htk hlk hcells hq hn hlen
              go_wp2_with (at_builtin; refine wpList_append_run rfl _ _ _ _ rfl _ _ _ _ rfl rfl HAP.out ?_)
              exact ⟨⟨r + 1, _, h3, by omega, by simp, FIN.out.1, FIN.out.2⟩, by simp only [RowKit.intOf]; omega⟩
            · obtain rfl : r = nm2.length := by omega
              have hfull : (pagesM l first).take nm2.length = pagesM l first := by rw [HNP.out]; exact List.take_length
              rw [hfull] at hpv
              have hend : Sat wr (.blk vr (vwO (.slice none 0 0) (.slice none 0 0) (.slice none 0 0)) :: ((lh ++ (dh ++ ph)) ++ F)) := by
                have hg2 := hg
                rw [← HR2.out, ← HRE.out, ← HG.out] at hg2
                exact rd4_end hg2
              have c0 : wr.cell? ⟨vb, 0, none⟩ = some lv := by rw [cell_of hg.h0]; rfl
              have c1 : wr.cell? ⟨vb, 1, none⟩ = some dv := by rw [cell_of hg.h0]; rfl
              have c2 : wr.cell? ⟨vb, 2, none⟩ = some pv := by rw [cell_of hg.h0]; rfl
              have d0 : wr.cell? ⟨vr, 0, none⟩ = some (.slice none 0 0) := by rw [cell_of hend.h0]; rfl
              have d1 : wr.cell? ⟨vr, 1, none⟩ = some (.slice none 0 0) := by rw [cell_of hend.h0]; rfl
              have d2 : wr.cell? ⟨vr, 2, none⟩ = some (.slice none 0 0) := by rw [cell_of hend.h0]; rfl
              have f0 : wr.frozen? ⟨vr, 0, none⟩ = false := unfrozen_of hend.h0 0
              have f1 : wr.frozen? ⟨vr, 1, none⟩ = false := unfrozen_of hend.h0 1
              have f2 : wr.frozen? ⟨vr, 2, none⟩ = false := unfrozen_of hend.h0 2
              have hfinS := (((hend.setCell (i := 0) lv).setCell (i := 1) dv).setCell (i := 2) pv)
              have HFS := Lib.hid hfinS
              have HV : Hid (ViewIs (.agg #[lv, dv, pv]) ⟨losersM l, doneM l, pagesM l first⟩ (lh ++ (dh ++ ph))) := Lib.hid ⟨_, _, _, lh, dh, ph, rfl, HLV.out, HM.out.2.2, hpv, rfl⟩
              obtain ⟨la', lc', rfl⟩ := sl_form HLV.out
              obtain ⟨da', dc', rfl⟩ := sl_form HM.out.2.2
              obtain ⟨pa', pc', rfl⟩ := sl_form hpv
              clear hfull hpv hg hend hfinS HLV HRF HLO
              go_wp2_with fail
              refine bodyPost_ret ?_ rfl ⟨_, _, rfl, HV.out, HFS.out.tail⟩
              have hh := HFS.out.h0
              generalize ((wr.setCell ⟨vr, 0, none⟩ _).setCell ⟨vr, 1, none⟩ _).setCell ⟨vr, 2, none⟩ _ = W9 at *
              have q0 := cell_of hh 0
              have q1 := cell_of hh 1
              have q2 := cell_of hh 2
              simp at q0 q1 q2
              simp [results, Tryz.results31, go_sem, q0, q1, q2]
theorem Read_any (v : Value) (l : List En) (first : Int) (F : Heaplet) (w : World) (hs : Sat w F) (hE : EnsIn F v l) (hl : l.length ≤ 100000) (hf : FitL l) :
    Calls Tryz.prog 31 #[v, .int .i64 first] w fun e w' => ∃ v' h, e = .returned v' ∧ ViewIs v' (readM l first) h ∧ Sat w' (h ++ F) := by
  cases h1 : withinM first 1 1099511627776 with
  | false => exact Read_no v l first F w hs h1
  | true => exact Read_yes v l first F w hs hE hl hf h1
end Go.Proofs.YtficgjklagnbjaaGreat
namespace Go.Proofs.YtficgjklagnbjaaGreat
open Go Go.MapKept Go.RowKit Go.Proofs Go.Sort Go.Shelf

theorem ofM_snoc (m : List En) (t : Tx) (x : En) : ofM (m ++ [x]) t = if (goodM x && decide (x.t = t)) = true then ofM m t ++ [x] else ofM m t := by
  rw [ofM_step, Bool.and_comm]
  split <;> simp
/-- The last entry of a name. -/
def lastOf (m : List En) (t : Tx) : Option Int := (ofM m t).getLast?.map (·.lsn)
theorem lastOf_snoc (m : List En) (t : Tx) (x : En) : lastOf (m ++ [x]) t = if goodM x = true ∧ x.t = t then some x.lsn else lastOf m t := by
  unfold lastOf
  rw [ofM_snoc]
  by_cases h : goodM x = true ∧ x.t = t
  · rw [if_pos h, if_pos (by simp [h.1, h.2])]; simp
  · rw [if_neg h, if_neg (by simpa using h)]
theorem lastM_get (l : List En) (t : Tx) : ∀ m : List En, getL t (lastM l m) = if endM l t = true then none else lastOf m t := by
  refine snoc_ind (by simp [lastM, getL, lastOf, ofM]) fun m x ih => ?_
  rw [lastM_snoc, lastOf_snoc]
  unfold stepL
  cases hg : goodM x with
  | false => simp [ih]
  | true =>
    by_cases ht : x.t = t
    · subst ht
      cases he : endM l x.t with
      | true => simp [ih, he]
      | false => simp [getL_putL]
    · have ht' : ¬ t = x.t := fun e => ht e.symm
      cases he : endM l x.t with
      | true => simp [ih, ht]
      | false => simp [getL_putL, ih, ht, ht']
theorem lastM_nodup (l : List En) : ∀ m : List En, ((lastM l m).map (·.1)).Nodup := by
  refine snoc_ind (by simp [lastM]) fun m x ih => ?_
  rw [lastM_snoc]
  unfold stepL
  split
  · exact nodup_putL _ _ ih
  · exact ih
theorem pagM_nodup (first : Int) : ∀ m : List En, ((pagM first m).map (·.1)).Nodup := by
  refine snoc_ind (by simp [pagM, firstM]) fun m x ih => ?_
  rw [pagM_snoc]
  unfold stepP
  split
  · exact nodup_putL _ _ ih
  · exact ih
theorem sortT_strict {l : List Tx} (h : l.Nodup) : (sortT l).Pairwise LtT := by
  have h1 := sortT_sorted l
  have h2 : (sortT l).Nodup := (sortT_perm l).nodup_iff.2 h
  refine (h1.and h2).imp ?_
  rintro a b ⟨h3, h4⟩
  by_cases h5 : LtT a b
  · exact h5
  · exact absurd (ltT_tri h5 h3) h4
theorem losers_strict (l : List En) : (losersM l).Pairwise fun a b => LtT a.1 b.1 := by
  unfold losersM
  rw [List.pairwise_map]
  exact sortT_strict (lastM_nodup l l)
theorem pages_strict (l : List En) (first : Int) : (pagesM l first).Pairwise fun a b => a.1 < b.1 := by
  unfold pagesM
  rw [List.pairwise_map]
  have h2 : (sortK ((pagM first l).map (·.1))).Nodup := (sortK_perm _).nodup_iff.2 (pagM_nodup first l)
  have h1 := sortK_sorted ((pagM first l).map (fun x : Int × Int => x.1))
  refine (List.Pairwise.and h1 h2).imp ?_
  intro a b h3
  show a < b
  have h4 : a ≤ b := h3.1
  have h5 : a ≠ b := h3.2
  omega
theorem mem_losers (l : List En) (t : Tx) (n : Int) : (t, n) ∈ losersM l ↔ endM l t = false ∧ lastOf l t = some n := by
  have hget := lastM_get l t l
  unfold losersM
  rw [List.mem_map]
  constructor
  · rintro ⟨u, hu, e⟩
    rw [Prod.mk.injEq] at e
    obtain ⟨rfl, e⟩ := e
    rw [(sortT_perm _).mem_iff] at hu
    cases hg : getL u (lastM l l) with
    | none => exact absurd hu (getL_none.1 hg)
    | some k =>
      rw [hg] at e hget
      simp only [Option.getD_some] at e
      subst e
      cases he : endM l u with
      | true => rw [he] at hget; simp at hget
      | false => rw [he] at hget; exact ⟨rfl, by simpa using hget.symm⟩
  · rintro ⟨h1, h2⟩
    rw [h1] at hget
    simp only [Bool.false_eq_true, if_false] at hget
    rw [h2] at hget
    refine ⟨t, ?_, by rw [hget]; rfl⟩
    rw [(sortT_perm _).mem_iff]
    exact List.mem_map.2 ⟨_, getL_mem hget, rfl⟩
end Go.Proofs.YtficgjklagnbjaaGreat
