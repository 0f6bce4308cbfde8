/- LatchExact walked. Conditions: none. -/
import Derived.Test.YtcndmiepbodpnaaExact2
import Derived.Test.YtcndmiepbodpnaaArgs16
import Derived.Deep.CutBlock
import Derived.Deep.RegionHeld3
namespace Go.Proofs.Ytcndmiepbodpnaa
open Go Go.MapKept Go.RowKit Go.Proofs

theorem cells_of {w : World} {b : Nat} {v : Value} {page : Int} {x : Bool} {t : TypeId} {z : Nat × Nat} (h : w.heap[b]? = some (.cells #[v, kI page, .bool x] t z)) : w.cell? ⟨b, 1, none⟩ = some (kI page) ∧ w.cell? ⟨b, 2, none⟩ = some (.bool x) := by
  rw [cell_of h, cell_of h]
  exact ⟨rfl, rfl⟩
theorem RefIs.froz {c : Nat} {R : Lks} {F : Heaplet} {w : World} (h : RefIs c R F w) : w.frozen? ⟨c, 0, none⟩ = false := by
  obtain ⟨v, hh, hv, hs⟩ := h
  exact unfrozen_of hs.h0 0
theorem RefIs.clear {c : Nat} {R : Lks} {F : Heaplet} {w : World} (h : RefIs c R F w) : RefIs c [] F (w.setCell ⟨c, 0, none⟩ (.slice none 0 0)) := by
  obtain ⟨v, hh, hv, hs⟩ := h
  have s1 := hs.setCell (i := 0) (.slice none 0 0)
  exact ⟨_, [], SliceIs.nil _ _, (s1.perm (List.perm_append_comm_assoc [_] hh _)).right⟩
theorem Both.still {b c : Nat} {D R : Lks} {F : Heaplet} {w w' : World} (h : Both b c D R F w) (e : Still w w') : Both b c D R F w' := by
  obtain ⟨v, hh, hv, m, L, eL, es, clk, hm, hs⟩ := h
  exact ⟨v, hh, hv, m, L, eL, es, clk, hm, hs.of_heap e.1 e.2⟩
/-- The loop's fact. -/
def ExL (b c k : Nat) (W w : World) : Prop := ∃ D R, ExI D k ∧ Twin D R ∧ Both b c D R (allOf W) w
set_option maxRecDepth 100000 in
set_option maxHeartbeats 40000000 in
theorem exact_walk (p : Option Addr) (len cap : Nat) (V0 V1 : Nat → Int) (V2 : Nat → Bool) (W : World) (ha : Acts16 W p len V0 V1 V2) :
    Calls Try.prog 5 #[.slice p len cap] W fun e W' => e = .returned (.bool true) ∧ Below W.heap.size W W' := by
  have Ha := Lib.hid ha
  have hlen := ha.1
  clear ha
  go_enter Try.func5, Try.ntmps5
  go_wp2_with fail
  refine (awake16 (allOf W) W (sat_all W)).mono ?_
  rintro e w0 ⟨rfl, hs⟩
  go_wp2_with fail
  refine (latch_new (allOf W) w0 hs).mono ?_
  rintro e w1 ⟨b, rfl, hL⟩
  clear hs
  have h2 : ExL b w1.heap.size 0 W _ := ⟨[], [], ExI.nil, twin_nil, Both.start (hL.new (.cells #[.slice none 0 0] 43))⟩
  have H0 := Lib.hid h2
  clear h2 hL
  go_wp2_with fail
  generalize w1.heap.size = c at *
  go_loopw [5] (fun v5 wr => ∃ k : Nat, k ≤ len ∧ k ≤ 200 ∧ v5 = .int .i64 k ∧ ExL b c k W wr) (fun v5 _ => 200 - (RowKit.intOf v5).toNat)
  case atStart => exact ⟨0, by omega, by omega, rfl, H0.out⟩
  case round =>
    obtain ⟨k, hk1, hk2, rfl, D, R, hI, hT, hB⟩ := hrel
    clear H0
    have j0 : (0 : Int) ≤ (k : Int) := by omega
    by_cases hlt : k < len ∧ k < 200
    · obtain ⟨hlt1, hlt2⟩ := hlt
      obtain ⟨ba, off, rfl, hba, ⟨hA, _, _⟩, ⟨hC, hC0, hC1⟩, hE⟩ := (Ha.out).2 k hlt1
      have hs := hB.frame
      have c0 : wr.cell? ⟨ba, off + k * 3, none⟩ = some (kI (V0 k)) := (hs.cellOld (a := ⟨ba, off + k * 3, none⟩) hba).trans hA
      have c1 : wr.cell? ⟨ba, off + k * 3 + 1, none⟩ = some (kI (V1 k)) := (hs.cellOld (a := ⟨ba, off + k * 3 + 1, none⟩) hba).trans hC
      have c2 : wr.cell? ⟨ba, off + k * 3 + 2, none⟩ = some (.bool (V2 k)) := (hs.cellOld (a := ⟨ba, off + k * 3 + 2, none⟩) hba).trans hE
      have hn := hB.new (.cells #[kI (V0 k), kI (V1 k), .bool (V2 k)] 27)
      have HN := Lib.hid hn
      have HI := Lib.hid hI
      have HT := Lib.hid hT
      clear hA hC hE hs hn hB hI hT
      generalize V0 k = kind at *
      generalize V1 k = page at *
      generalize V2 k = x at *
      go_upto_block 2 with (fail)
      clear c0 c1 c2
      go_cut [] (fun wx => ExL b c (k + 1) W wx ∧ wx.cell? ⟨wr.heap.size, 1, none⟩ = some (kI page) ∧ wx.cell? ⟨wr.heap.size, 2, none⟩ = some (.bool x))
      case first =>
        have HRL : R.length ≤ 100000 := by have := HT.out.len; have := HI.out.len; omega
        by_cases k1 : kind = 1
        · have b1 : (kind == 1) = true := by simpa using k1
          clear k1
          as_aux_lemma =>
            obtain ⟨F1, hl, back1, _⟩ := HN.out.latch
            have HU := Lib.hid (grant_any b D F1 page x _ hl)
            have tw := HT.out.grant page x
            have BACK := Lib.hid back1
            clear hl back1
            go_wp2_with fail
            refine (HU.out).mono ?_
            rintro e w5 ⟨rfl, h5⟩
            have hb5 := BACK.out _ _ h5
            have d1 := (cells_of hb5.frame.h0).1
            have d2 := (cells_of hb5.frame.h0).2
            obtain ⟨F2, hr, back2, _⟩ := hb5.ref
            have HG := Lib.hid (grant_ref c R F2 page x _ hr HRL)
            clear hr h5 hb5 BACK HU
            go_wp2_with fail
            refine (HG.out).mono ?_
            rintro e w6 ⟨rfl, h6⟩
            have hb6 := back2 _ _ h6
            have hc6 := cells_of hb6.frame.h0
            have fin : ExL b c (k + 1) W w6 := ⟨_, _, HI.out.grant hC0 hC1 x, tw, Both.drop (E := [_]) hb6⟩
            have Fin := Lib.hid fin
            have HC6 := Lib.hid hc6
            clear fin h6 hb6 hc6 tw HG back2 d1 d2
            go_wp2_with fail
            go_meet
            exact ⟨Fin.out, HC6.out⟩
        · have b1 : (kind == 1) = false := by simpa using k1
          by_cases k2 : kind = 2
          · have b2 : (kind == 2) = true := by simpa using k2
            clear k1 k2
            as_aux_lemma =>
              have HB := HN.out.drewN 1
              have hd := cells_of HB.frame.h0
              have ha := cells_of HN.out.frame.h0
              obtain ⟨F1, hl, back1, _⟩ := HB.latch
              have HU := Lib.hid (use_any b D F1 page x _ hl)
              obtain ⟨e0, tw⟩ := HT.out.use page x
              have BACK := Lib.hid back1
              clear hl back1 HB
              go_upto_region 14 with (fail)
              generalize hg : wr.heap.size = g at *
              go_region_held3 (fun w' => w'.cell? ⟨g, 1, none⟩ = some (kI page) ∧ w'.cell? ⟨g, 2, none⟩ = some (.bool x))
                (first | exact hd | exact ha | exact hc5 | exact hc6)
                (first
                  | (go_at_call 13; refine (HU.out).mono ?_; rintro e w5 ⟨rfl, h5⟩; have hb5 := BACK.out _ _ h5; have hc5 := cells_of hb5.frame.h0)
                  | (go_at_call 15; obtain ⟨F2, hr, back2, _⟩ := hb5.ref; refine (use_ref c R F2 page x _ hr HRL (HT.out.good HI.out.good)).mono ?_; rintro e w6 ⟨rfl, h6⟩; have hb6 := back2 _ _ h6; have hc6 := cells_of hb6.frame.h0))
              have fin : ExL b c (k + 1) W w6 := ⟨_, _, HI.out.use hC0 hC1 x, tw, Both.drop (E := [_]) hb6⟩
              try rw [e0]
              have Fin := Lib.hid fin
              have HC6 := Lib.hid hc6
              clear fin h5 hb5 hc5 hr back2 h6 hb6 hc6 tw e0 hd ha HU BACK
              go_wp2_with fail
              go_meet
              exact ⟨Fin.out, HC6.out⟩
          · have b2 : (kind == 2) = false := by simpa using k2
            by_cases k3 : kind = 3
            · have b3 : (kind == 3) = true := by simpa using k3
              clear k1 k2 k3
              as_aux_lemma =>
                have HB := HN.out.drewN 1
                have hd := cells_of HB.frame.h0
                have ha := cells_of HN.out.frame.h0
                obtain ⟨F1, hl, back1, _⟩ := HB.latch
                have HU := Lib.hid (call_any b D F1 page x _ hl)
                obtain ⟨e0, tw⟩ := HT.out.call page x
                have BACK := Lib.hid back1
                clear hl back1 HB
                go_upto_region 17 with (fail)
                generalize hg : wr.heap.size = g at *
                go_region_held3 (fun w' => w'.cell? ⟨g, 1, none⟩ = some (kI page) ∧ w'.cell? ⟨g, 2, none⟩ = some (.bool x))
                  (first | exact hd | exact ha | exact hc5 | exact hc6)
                  (first
                    | (go_at_call 11; refine (HU.out).mono ?_; rintro e w5 ⟨rfl, h5⟩; have hb5 := BACK.out _ _ h5; have hc5 := cells_of hb5.frame.h0)
                    | (go_at_call 16; obtain ⟨F2, hr, back2, _⟩ := hb5.ref; refine (call_ref c R F2 page x _ hr HRL HT.out.st.nodup (HT.out.good HI.out.good)).mono ?_; rintro e w6 ⟨rfl, h6⟩; have hb6 := back2 _ _ h6; have hc6 := cells_of hb6.frame.h0))
                have fin : ExL b c (k + 1) W w6 := ⟨_, _, HI.out.call hC0 hC1 x, tw, Both.drop (E := [_]) hb6⟩
                try rw [e0]
                have Fin := Lib.hid fin
                have HC6 := Lib.hid hc6
                clear fin h5 hb5 hc5 hr back2 h6 hb6 hc6 tw e0 hd ha HU BACK
                go_wp2_with fail
                go_meet
                exact ⟨Fin.out, HC6.out⟩
            · have b3 : (kind == 3) = false := by simpa using k3
              by_cases k4 : kind = 4
              · have b4 : (kind == 4) = true := by simpa using k4
                clear k1 k2 k3 k4
                as_aux_lemma =>
                  obtain ⟨F1, hl, _, back1⟩ := HN.out.latch
                  have hlen2 := HI.out.len
                  have HU := Lib.hid (end_any b D F1 _ hl HI.out.bd (by omega))
                  obtain ⟨e0, tw⟩ := HT.out.fin
                  rw [letR_eq HT.out.st.nodup] at e0
                  rw [stayR_eq] at tw
                  rw [e0] at HU
                  have BACK := Lib.hid back1
                  clear hl back1 e0
                  go_wp2_with fail
                  refine (HU.out).mono ?_
                  rintro e w5 ⟨v1, hh1, rfl, s1, h5⟩
                  have hb5 := BACK.out _ _ _ h5
                  obtain ⟨F2, hr, _, back2⟩ := hb5.ref
                  have HG := Lib.hid (end_ref c R F2 _ hr HRL HT.out.st.nodup (HT.out.good HI.out.good))
                  have BACK2 := Lib.hid back2
                  have S1 := Lib.hid s1
                  clear hr h5 hb5 BACK HU back2 s1
                  go_wp2_with fail
                  refine (HG.out).mono ?_
                  rintro e w6 ⟨v2, hh2, rfl, s2, h6⟩
                  have hb6 := BACK2.out _ _ _ h6
                  have hlT : (letR R).length ≤ 100000 := Nat.le_trans (letR_len R) HRL
                  have HLT := Lib.hid (lets_any (letR R) v1 v2 hh1 hh2 _ _ w6 S1.out hb6.frame.comm s2 hb6.frame hlT)
                  have fin : Both b c (endM D).2 (stayR R) (.blk wr.heap.size (.cells #[kI kind, kI page, .bool x] 27) :: allOf W) w6 := Both.drop (E := hh1) (Both.drop (E := hh2) hb6)
                  have Fin := Lib.hid fin
                  clear h6 hb6 fin s2 HG BACK2
                  go_wp2_with fail
                  refine (HLT.out).mono ?_
                  rintro e w7 ⟨rfl, h7⟩
                  have hb7 := Fin.out.still h7
                  have hc6 := cells_of hb7.frame.h0
                  have fin : ExL b c (k + 1) W w7 := ⟨_, _, HI.out.fin, tw, Both.drop (E := [_]) hb7⟩
                  have FIN := Lib.hid fin
                  have HC6 := Lib.hid hc6
                  clear fin hb7 hc6 h7 tw HLT
                  go_wp2_with fail
                  go_meet
                  exact ⟨FIN.out, HC6.out⟩
              · have b4 : (kind == 4) = false := by simpa using k4
                by_cases k5 : kind = 5
                · have b5 : (kind == 5) = true := by simpa using k5
                  clear k1 k2 k3 k4 k5
                  as_aux_lemma =>
                    obtain ⟨F1, hl, back1, _⟩ := HN.out.latch
                    have HU := Lib.hid (clear_any b D F1 _ hl)
                    have BACK := Lib.hid back1
                    clear hl back1
                    go_wp2_with fail
                    refine (HU.out).mono ?_
                    rintro e w5 ⟨rfl, h5⟩
                    have hb5 := BACK.out _ _ h5
                    obtain ⟨F2, hr, back2, _⟩ := hb5.ref
                    obtain ⟨ad, cp, e0, _⟩ := hr.cells
                    have f0 := hr.froz
                    have hb6 := back2 _ _ hr.clear
                    have hc6 := cells_of hb6.frame.h0
                    have fin : ExL b c (k + 1) W _ := ⟨_, _, ⟨by simp, (fun p k h => by simp [getL] at h), by simp, by simp⟩, twin_nil, Both.drop (E := [_]) hb6⟩
                    have FIN := Lib.hid fin
                    have HC6 := Lib.hid hc6
                    clear fin hb6 hc6 h5 hb5 hr back2 BACK HU
                    go_wp2_with fail
                    go_meet
                    exact ⟨FIN.out, HC6.out⟩
                · have b5 : (kind == 5) = false := by simpa using k5
                  clear k1 k2 k3 k4 k5
                  as_aux_lemma =>
                    have hc6 := cells_of HN.out.frame.h0
                    have fin : ExL b c (k + 1) W _ := ⟨_, _, HI.out.mono, HT.out, Both.drop (E := [_]) HN.out⟩
                    have FIN := Lib.hid fin
                    have HC6 := Lib.hid hc6
                    clear fin hc6
                    go_wp2_with fail
                    go_meet
                    exact ⟨FIN.out, HC6.out⟩
      case rest =>
        as_aux_lemma =>
          clear HN HI HT
          obtain ⟨⟨D, R, hI, hT, hB⟩, hcl⟩ := hcut
          have hRL : R.length ≤ 100000 := by have := hT.len; have := hI.len; omega
          obtain ⟨F1, hl, _, _⟩ := hB.latch
          obtain ⟨F2, hr, _, _⟩ := hB.ref
          have q1 := fun n => has_q b D F1 page x _ (hl.drewN n)
          have q2 := fun n => has_rq c R F2 page x _ (hr.drewN n) hRL
          have q3 := fun n => used_q b D F1 page _ (hl.drewN n)
          have q4 := fun n => used_rq c R F2 page _ (hr.drewN n) hRL
          rw [hT.has] at q2
          rw [hT.used] at q4
          have Q1 := Lib.hid q1
          have Q2 := Lib.hid q2
          have Q3 := Lib.hid q3
          have Q4 := Lib.hid q4
          have HIT := Lib.hid (And.intro hI hT)
          have HB := Lib.hid hB
          clear q1 q2 q3 q4 hI hT hB hl hr
          obtain ⟨d1, d2⟩ := hcl
          generalize wr.heap.size = g at *
          generalize hasM D page x = a1 at *
          generalize usedM D page = a2 at *
          go_upto_region 25 with (fail)
          go_quiet (first | (go_at_call 10; exact Calls.quiet_of_same (Q1.out _)) | (go_at_call 20; exact Calls.quiet_of_same (Q2.out _)) | (go_at_call 21; exact Calls.quiet_of_same (Q3.out _)) | (go_at_call 22; exact Calls.quiet_of_same (Q4.out _)))
          go_wp2_with fail
          go_roundw
          case rel => exact ⟨k + 1, by omega, by omega, by simp, D, R, HIT.out.1, HIT.out.2, HB.out.drewN _⟩
          case measure => simp only [RowKit.intOf]; omega
    · have hd : ¬ k < len ∨ ¬ k < 200 := by omega
      as_aux_lemma =>
        have hkeys := hT.keys
        have hln := hT.len
        have hRL : R.length ≤ 100000 := by have := hI.len; omega
        have hbd := hI.bd
        obtain ⟨v, hh, hv, m, L, rfl, hl⟩ := hB
        rw [bare_keys] at hkeys
        have hll : L.length = R.length := by rw [← hln]; unfold bareL; rw [List.length_map]
        have hpg := pages_any b m L _ wr hl (fun p hp => hbd (p.1, p.2.2) (List.mem_map.2 ⟨p, hp, rfl⟩)) (by omega)
        rw [hkeys, hll] at hpg
        have HPG := Lib.hid hpg
        have HV := Lib.hid hv
        clear hpg hv hl hkeys hln hbd hI hT hll
        by_cases hlt1 : k < len
        all_goals
          go_wp2_with fail
          refine (HPG.out).mono ?_
          rintro e w5 ⟨pv, ph, rfl, hsl, hp5, _⟩
          obtain ⟨pa, pc, rfl⟩ := slice_form hsl
          have hf := hp5.frame
          have hr : RefIs c R (ph ++ allOf W) w5 := ⟨v, hh, HV.out, hf.perm (List.perm_append_comm_assoc ph (HItem.blk c _ :: hh) (allOf W))⟩
          obtain ⟨ra, rc, c0, hcs⟩ := hr.cells
          have HSL := Lib.hid hsl
          have HF := Lib.hid hf
          have HCS := Lib.hid hcs
          have HBE := Lib.hid hr.frame.right
          clear hsl hf hcs hr hp5 HPG
          go_wp2_with fail
          go_loopw [8] (fun v8 wx => ∃ j : Nat, j ≤ R.length ∧ v8 = .int .i64 j ∧ ∃ n, wx = w5.drewN n) (fun v8 _ => 100000 - (RowKit.intOf v8).toNat)
          case atStart => exact ⟨0, by omega, rfl, 0, rfl⟩
          case round =>
            obtain ⟨j, hj, rfl, n, rfl⟩ := hrel
            have jj0 : (0 : Int) ≤ (j : Int) := by omega
            have c0n : (w5.drewN n).cell? ⟨c, 0, none⟩ = some (.slice ra R.length rc) := c0
            by_cases hlj : j < R.length
            · have jj1 : (j : Int) < (R.length : Int) := by omega
              obtain ⟨q, hq⟩ : ∃ q, R[j]? = some q := ⟨_, List.getElem?_eq_getElem hlj⟩
              obtain ⟨rg, rfl, _, d1, _, _, _⟩ := HCS.out j q hq
              obtain ⟨pg, pc', e2⟩ := slice_some HSL.out (by omega)
              cases e2
              have d2 := (HSL.out.cell HF.out rfl (j := j) (u := kI q.1) (by simp [hq])).2.2
              have d1n : (w5.drewN n).cell? ⟨rg, j * 4, none⟩ = some (kI q.1) := d1
              have d2n : (w5.drewN n).cell? ⟨pg, j, none⟩ = some (kI q.1) := d2
              clear hq
              go_upto_region 33 with (fail)
              go_quiet (fail)
              go_wp2_with fail
              go_roundw
              case rel => exact ⟨j + 1, by omega, by simp, _, rfl⟩
              case measure => simp only [RowKit.intOf]; omega
            · obtain rfl : j = R.length := by omega
              go_wp2_with fail
              go_ret
              exact ⟨rfl, (HBE.out.of_heap (w' := w5.drewN n) rfl ⟨rfl, rfl, rfl⟩).below⟩
end Go.Proofs.Ytcndmiepbodpnaa
