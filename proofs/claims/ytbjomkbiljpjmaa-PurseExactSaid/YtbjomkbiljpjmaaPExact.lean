/- PurseExact walked. Conditions: none. -/
import Derived.Test.YtbjomkbiljpjmaaPExact1
import Derived.Test.YtbjomkbiljpjmaaPRows
import Derived.Test.YtbjomkbiljpjmaaRoundQ
namespace Go.Proofs.Ytbjomkbiljpjmaa
open Go Go.MapKept Go.RowKit Go.Proofs Go.Shelf

attribute [local go_sem] Oper.semAt_some

def askD (D : Pts) (s k n room : Int) : Pts := if askOk s n room then putL k (of D k + n) D else D
def askS (s n room : Int) : Int := if askOk s n room then s + n else s
theorem ask_any (b : Nat) (D : Pts) (s : Int) (F : Heaplet) (k n room : Int) (w : World) (hp : PurseIs b D s F w) (hr : room ≤ 9223372036854775807) :
    Calls Try.prog 14 #[.pointer (some ⟨b, 0, none⟩), .int .i64 k, .int .i64 n, .int .i64 room] w (Ret (.bool (askOk s n room)) (PurseIs b (askD D s k n room) (askS s n room) F)) := by
  unfold askD askS
  cases hok : askOk s n room with
  | true => exact ask_yes b D s F k n room w hp hr hok
  | false => exact (ask_no b D s F k n room w hp hr hok).mono fun e w' h => ⟨h.1, by have := h.2; unfold Same at this; rw [← this]; exact hp⟩
theorem Twin.ask {D R : Pts} {s : Int} (h : Twin D R) (hi : PInv D s) (k n room : Int) : Twin (askD D s k n room) (askR R s k n room) := by
  unfold askD askR
  cases hok : askOk s n room with
  | false => exact h
  | true =>
    obtain ⟨h1, _⟩ := of_decide_eq_true hok
    have := of_bd hi k
    simp only [if_true]
    rw [of_eq h]
    exact h.put k _ (by omega)
theorem askD_in {D : Pts} {s k n room : Int} (h : KeysIn D) (h0 : -9223372036854775808 ≤ k) (h1 : k ≤ 9223372036854775807) : KeysIn (askD D s k n room) := by
  unfold askD
  split
  · exact h.put h0 h1
  · exact h
theorem askD_len (D : Pts) (s k n room : Int) : (askD D s k n room).length ≤ D.length + 1 := by
  unfold askD
  split
  · exact put_len _ _ _
  · omega
/-- Between two rounds of the going over. -/
def PExI (R : Pts) (B : Nat) (HX : Nat → Heaplet) (pre : Pts) (W : World) : Prop := B ≤ W.heap.size ∧ pre <+: R ∧ Sat W (HX pre.length)
theorem PExI.grown {R : Pts} {B : Nat} {HX : Nat → Heaplet} {pre : Pts} {W W' : World} {row : Option Nat} (h : PExI R B HX pre W) (hu : ∀ n, Under B (HX n)) (hg : W.grownBy W' row)
    (hr : ∀ r, row = some r → B ≤ r ∧ ∃ o : Obj, W.heap[r]? = some o ∧ o.isCells = false) : PExI R B HX pre W' :=
  ⟨Nat.le_trans h.1 hg.size, h.2.1, h.2.2.ownGrown (hu _) hg hr⟩
def PExX (R : Pts) (c : Code) (pre : Pts) (_ : World) : Prop := c = .ret ∧ ¬ pre <+: R
theorem KeepsOthers.drewN (W : World) (n : Nat) : KeepsOthers W (W.drewN n) := ⟨Nat.le_refl _, fun _ _ h _ => h⟩
theorem KeepsAbove.drewN (B : Nat) (W : World) (n : Nat) : KeepsAbove B W (W.drewN n) := ⟨Nat.le_refl _, fun _ _ _ h _ => h⟩
set_option maxRecDepth 100000 in
set_option maxHeartbeats 40000000 in
theorem pexact_walk (p : Option Addr) (len cap : Nat) (A : Nat → Nat → Int) (Wi : World) (ha : IntsAt Wi p len 4 A) :
    Calls Try.prog 10 #[.slice p len cap] Wi (Ret (.bool true) (RowKit.Below Wi.heap.size Wi)) := by
  have Ha := Lib.hid ha
  have hlen := ha.1
  clear ha
  refine (callsIn_wide (n := 9)).1 ?_
  refine callsIn_of_wp_marks Try.func10 rfl trivial ?_ rfl
  simp only [Try.ntmps10, List.size_toArray, List.length_cons, List.length_nil, Nat.reduceAdd, Nat.reduceSub, Array.replicate_succ, Array.replicate_zero, List.push_toArray, List.append_toArray, List.nil_append, List.cons_append]
  refine wpIn_wide.2 ?_
  have h0 := (sat_all Wi).new (.cells #[.bool false] 4)
  go_wp2_with fail
  refine (awake_any _ _ h0).mono ?_
  rintro e w1 ⟨rfl, hs1⟩
  clear h0
  go_wp2_with fail
  refine (new_any _ _ hs1).mono ?_
  rintro e w2 ⟨b, rfl, hp⟩
  have hp1 := (hp.new (.cells #[.slice none 0 0] 79)).new (.cells #[.pointer (some ⟨w2.heap.size, 0, none⟩)] 76)
  obtain ⟨c, hc⟩ : ∃ c, w2.heap.size = c := ⟨_, rfl⟩
  obtain ⟨H1, hH1⟩ : ∃ H1, HItem.blk (c + 1) (.cells #[.pointer (some ⟨c, 0, none⟩)] 76) :: .blk Wi.heap.size (.cells #[.bool false] 4) :: allOf Wi = H1 := ⟨_, rfl⟩
  rw [World.size_alloc, hc] at hp1
  have hp2 : PurseIs b [] 0 (.blk c (.cells #[.slice none 0 0] 79) :: H1) _ := hp1.permF (by rw [← hH1]; exact List.Perm.swap _ _ _)
  have hJ : ExP b c 0 H1 _ := ⟨[], 0, [], Both.start hp2, twin_nil, (fun _ h => by cases h), Nat.le_refl _⟩
  have hH : ∀ w, Sat w H1 → w.cell? ⟨c + 1, 0, none⟩ = some (.pointer (some ⟨c, 0, none⟩)) ∧ Sat w (allOf Wi) ∧ w.cell? ⟨Wi.heap.size, 0, none⟩ = some (.bool false) ∧ w.frozen? ⟨Wi.heap.size, 0, none⟩ = false := by
    intro w hw
    rw [← hH1] at hw
    exact ⟨by rw [cell_of hw.h0]; rfl, hw.tail.tail, by rw [cell_of hw.h1]; rfl, unfrozen_of hw.h1 0⟩
  have HH1 := Lib.hid hH1
  have HH := Lib.hid hH
  have HJ := Lib.hid hJ
  clear hs1 hp hp1 hp2 hH1 hJ hH
  go_upto_block 0 with (fail)
  clear hc
  go_cut [] from 5 to 82 (fun wx => ExP b c 200 H1 wx)
  case first =>
    go_wp2_with fail
    go_loopw [5] (fun i wr => ∃ k : Nat, k ≤ len ∧ k ≤ 200 ∧ i = .int .i64 k ∧ ExP b c k H1 wr) (fun i _ => 200 - (intOf i).toNat)
    case atStart => exact ⟨0, by omega, by omega, rfl, HJ.out⟩
    case round =>
      obtain ⟨k, hk1, hk2, rfl, D, s, R, hB, hT, hKD, hDl⟩ := hrel
      clear HJ
      by_cases hlt : k < len ∧ k < 200
      · obtain ⟨hlt1, hlt2⟩ := hlt
        obtain ⟨ba, off, rfl, hba, hA⟩ := (Ha.out).2 k hlt1
        obtain ⟨cp, hs, _⟩ := HH.out _ hB.frame
        have c0 : wr.cell? ⟨ba, off + k * 4, none⟩ = some (kI (A k 0)) := (hs.cellOld (a := ⟨ba, off + k * 4 + 0, none⟩) hba).trans (hA 0 (by omega)).1
        have c1 := (hs.cellOld (a := ⟨ba, off + k * 4 + 1, none⟩) hba).trans (hA 1 (by omega)).1
        have c2 := (hs.cellOld (a := ⟨ba, off + k * 4 + 2, none⟩) hba).trans (hA 2 (by omega)).1
        have c3 := (hs.cellOld (a := ⟨ba, off + k * 4 + 3, none⟩) hba).trans (hA 3 (by omega)).1
        have hr := (hA 3 (by omega)).2.2
        have hk3 := (hA 1 (by omega)).2
        have hk0 : (0 : Int) ≤ (k : Int) := by omega
        have hn := hB.new (.cells #[kI (A k 0), kI (A k 1), kI (A k 2), kI (A k 3)] 29)
        have HN := Lib.hid hn
        have HT := Lib.hid hT
        have HKD := Lib.hid hKD
        have hRl : R.length ≤ 100000 := by have := hT.len; omega
        clear hs hA hB hn hT hKD
        generalize A k 0 = kind at *
        generalize A k 1 = who at *
        generalize A k 2 = x at *
        generalize A k 3 = room at *
        go_upto_block 2 with (fail)
        clear c0 c1 c2 c3
        go_cut [] from 16 to 66 (fun wx => ExP b c (k + 1) H1 wx ∧ wx.cell? ⟨wr.heap.size, 1, none⟩ = some (kI who))
        case first =>
          have hb1 : Both b c D s R (.blk wr.heap.size (.cells #[kI kind, kI who, kI x, kI room] 29) :: H1) _ := HN.out.drewN 1
          by_cases k1 : kind = 1
          · have b1 : (kind == 1) = true := by simpa using k1
            clear k1
            as_aux_lemma =>
              have hd := act_cells hb1.frame.h0
              have ha := act_cells HN.out.frame.h0
              have hcd := (HH.out _ hb1.frame.tail).1
              have hca := (HH.out _ HN.out.frame.tail).1
              obtain ⟨F1, hl, back1⟩ := hb1.purse
              have HU := Lib.hid (ask_any b D s F1 who x room _ hl hr)
              have tw := HT.out.ask hb1.inv who x room
              have kd := askD_in (s := s) (n := x) (room := room) HKD.out hk3.1 hk3.2
              have ld := askD_len D s who x room
              have BACK := Lib.hid back1
              have HIV := Lib.hid (HT.out.inv hb1.inv)
              clear hl back1 hb1
              go_upto_region 11 with (fail)
              generalize hg : wr.heap.size = g at *
              go_region_held3 (fun w' => w'.cell? ⟨g, 1, none⟩ = some (kI who) ∧ w'.cell? ⟨g, 2, none⟩ = some (kI x) ∧ w'.cell? ⟨g, 3, none⟩ = some (kI room) ∧ w'.cell? ⟨c + 1, 0, none⟩ = some (.pointer (some ⟨c, 0, none⟩)))
                (first | exact ⟨hd.1, hd.2.1, hd.2.2, hcd⟩ | exact ⟨ha.1, ha.2.1, ha.2.2, hca⟩ | exact ⟨hc5.1, hc5.2.1, hc5.2.2, hp5⟩ | exact ⟨hc6.1, hc6.2.1, hc6.2.2, hp6⟩)
                (first
                  | (go_at_call 14; refine (HU.out).mono ?_; rintro e w5 ⟨rfl, h5⟩; have hb5 := BACK.out _ _ _ h5; have hc5 := act_cells hb5.frame.h0; have hp5 := (HH.out _ hb5.frame.tail).1)
                  | (go_at_call 44; obtain ⟨F2, hr2, back2⟩ := hb5.ref; refine (ask_ref c R s F2 who x room _ hr2 HIV.out hRl hr).mono ?_; rintro e w6 ⟨rfl, h6⟩; have hb6 := back2 _ _ h6; have hc6 := act_cells hb6.frame.h0; have hp6 := (HH.out _ hb6.frame.tail).1))
              have fin : ExP b c (k + 1) H1 w6 := ⟨_, _, _, Both.drop (E := [_]) hb6, tw, kd, by omega⟩
              have Fin := Lib.hid fin
              have HC6 := Lib.hid hc6.1
              clear fin h5 hb5 hc5 hp5 hr2 back2 h6 hb6 hc6 hp6 tw kd ld hd ha hcd hca HU BACK HIV HN
              go_wp2_with fail
              go_meet
              exact ⟨Fin.out, HC6.out⟩
          · have b1 : (kind == 1) = false := by simpa using k1
            by_cases k2 : kind = 2
            · have b2 : (kind == 2) = true := by simpa using k2
              clear k1 k2
              as_aux_lemma =>
                have hd := act_cells hb1.frame.h0
                have ha := act_cells HN.out.frame.h0
                have hcd := (HH.out _ hb1.frame.tail).1
                have hca := (HH.out _ HN.out.frame.tail).1
                obtain ⟨F1, hl, back1⟩ := hb1.purse
                have HU := Lib.hid (take_any b D s F1 who x _ hl)
                obtain ⟨e0, tw⟩ := HT.out.take hb1.inv who x
                have kd := HKD.out.take (n := x) hk3.1 hk3.2
                have ld := take_len D who x
                have BACK := Lib.hid back1
                have HIV := Lib.hid (HT.out.inv hb1.inv)
                clear hl back1 hb1
                go_upto_region 14 with (fail)
                generalize hg : wr.heap.size = g at *
                go_region_held3 (fun w' => w'.cell? ⟨g, 1, none⟩ = some (kI who) ∧ w'.cell? ⟨g, 2, none⟩ = some (kI x) ∧ w'.cell? ⟨g, 3, none⟩ = some (kI room) ∧ w'.cell? ⟨c + 1, 0, none⟩ = some (.pointer (some ⟨c, 0, none⟩)))
                  (first | exact ⟨hd.1, hd.2.1, hd.2.2, hcd⟩ | exact ⟨ha.1, ha.2.1, ha.2.2, hca⟩ | exact ⟨hc5.1, hc5.2.1, hc5.2.2, hp5⟩ | exact ⟨hc6.1, hc6.2.1, hc6.2.2, hp6⟩)
                  (first
                    | (go_at_call 15; refine (HU.out).mono ?_; rintro e w5 ⟨rfl, h5⟩; have hb5 := BACK.out _ _ _ h5; have hc5 := act_cells hb5.frame.h0; have hp5 := (HH.out _ hb5.frame.tail).1)
                    | (go_at_call 45; obtain ⟨F2, hr2, back2⟩ := hb5.ref; refine (take_ref c R s F2 who x _ hr2 HIV.out hRl).mono ?_; rintro e w6 ⟨rfl, h6⟩; have hb6 := back2 _ _ h6; have hc6 := act_cells hb6.frame.h0; have hp6 := (HH.out _ hb6.frame.tail).1))
                try rw [e0]
                have fin : ExP b c (k + 1) H1 w6 := ⟨_, _, _, Both.drop (E := [_]) hb6, tw, kd, by omega⟩
                have Fin := Lib.hid fin
                have HC6 := Lib.hid hc6.1
                clear fin h5 hb5 hc5 hp5 hr2 back2 h6 hb6 hc6 hp6 tw kd ld hd ha hcd hca HU BACK HIV HN e0
                go_wp2_with fail
                go_meet
                exact ⟨Fin.out, HC6.out⟩
            · have b2 : (kind == 2) = false := by simpa using k2
              clear k1 k2 hb1
              as_aux_lemma =>
                have hc6 := (act_cells HN.out.frame.h0).1
                have fin : ExP b c (k + 1) H1 _ := ⟨_, _, _, Both.drop (E := [_]) HN.out, HT.out, HKD.out, by omega⟩
                have FIN := Lib.hid fin
                have HC6 := Lib.hid hc6
                clear fin hc6 HN
                go_wp2_with fail
                go_meet
                exact ⟨FIN.out, HC6.out⟩
        case rest =>
          as_aux_lemma =>
            clear HN HT HKD hDl hRl
            obtain ⟨⟨D, s, R, hB, hT, hKD, hDl⟩, d1⟩ := hcut
            have hRl : R.length ≤ 100000 := by have := hT.len; omega
            obtain ⟨F1, hl, _⟩ := hB.purse
            obtain ⟨F2, hr2, _⟩ := hB.ref
            have q1 := fun n => of_q b D s F1 who _ (hl.drewN n)
            have q2 := fun n => of_rq c R F2 who _ (hr2.drewN n) hRl
            have q3 := fun n => sum_q b D s F1 _ (hl.drewN n)
            have q4 := fun n => sum_rq c R s F2 _ (hr2.drewN n) (hT.inv hB.inv) hRl
            rw [of_eq hT] at q2
            have Q1 := Lib.hid q1
            have Q2 := Lib.hid q2
            have Q3 := Lib.hid q3
            have Q4 := Lib.hid q4
            have cp2 := (HH.out _ hB.frame).1
            have FIN : Hid (∀ n, ExP b c (k + 1) H1 (wc.drewN n)) := Lib.hid fun n => ⟨D, s, R, hB.drewN n, hT, hKD, hDl⟩
            clear q1 q2 q3 q4 hB hT hKD hl hr2 cp
            generalize wr.heap.size = g at *
            generalize of D who = a1 at *
            go_upto_region 16 with (fail)
            go_quiet (first | (go_at_call 16; exact Calls.quiet_of_same (Q1.out _)) | (go_at_call 46; exact Calls.quiet_of_same (Q2.out _)) | (go_at_call 17; exact Calls.quiet_of_same (Q3.out _)) | (go_at_call 47; exact Calls.quiet_of_same (Q4.out _)))
            go_wp2_with fail
            go_roundw
            case rel => exact ⟨k + 1, by omega, by omega, by go_num, FIN.out _⟩
            case measure => simp [intOf]; omega
      · have hx : ¬ (k < len) ∨ (k < len ∧ ¬ (k < 200)) := by omega
        have HE : Hid (ExP b c 200 H1 wr) := Lib.hid ⟨D, s, R, hB, hT, hKD, by omega⟩
        clear hB hlt hKD hT
        rcases hx with hx | ⟨hx1, hx⟩
        all_goals
          go_wp2_with fail
          go_meet
          exact HE.out
  case rest =>
    clear HJ
    obtain ⟨D, s, R, hB, hT, hKD, hDl⟩ := hcut
    have hrow := hT.rows
    have hRl : R.length ≤ 100000 := by have := hT.len; omega
    have hfn : ∀ w, (binOp .eql 73 (.func (.func 63) #[] #[.pointer (some ⟨wc.heap.size, 0, none⟩)]) .nilFunc).run Try.prog w = .ok (.bool false) w := fun w => by kernel_rfl
    obtain ⟨cp, _⟩ := HH.out _ hB.frame
    have HB := Lib.hid hB
    have HKD := Lib.hid hKD
    have HROW := Lib.hid hrow
    clear hB hKD hT hrow
    go_wp2_with fail
    refine (purse_all b _).mono ?_
    rintro e w4 ⟨rfl, rfl⟩
    clear cp
    go_wp2_with fail
    obtain ⟨v, hh, hv, hpi, m, es, clk, hm, hs⟩ := HB.out
    have hs4 := (hs.new (.cells #[.pointer (some ⟨b, 0, none⟩)] 25)).new (.cells #[.int .i64 0] 3)
    simp only [World.size_alloc] at hs4
    generalize hk2 : wc.heap.size = k2 at *
    obtain ⟨Q, hQ⟩ : ∃ Q, HItem.blk k2 (.cells #[.pointer (some ⟨b, 0, none⟩)] 25) :: .blk b (.cells #[.map (some m), kI s] 85) :: .blk m (.map es clk) :: .blk c (.cells #[v] 79) :: (hh ++ H1) = Q := ⟨_, rfl⟩
    rw [hQ] at hs4
    obtain ⟨HX, hHX⟩ : ∃ HX : Nat → Heaplet, HX = fun n : Nat => HItem.blk (k2 + 1) (.cells #[kI (n : Int)] 3) :: Q := ⟨_, rfl⟩
    have hsX : Sat ((wc.alloc (.cells #[.pointer (some ⟨b, 0, none⟩)] 25)).alloc (.cells #[.int .i64 0] 3)) (HX 0) := by rw [hHX]; exact hs4
    have hsz : ((wc.alloc (.cells #[.pointer (some ⟨b, 0, none⟩)] 25)).alloc (.cells #[.int .i64 0] 3)).heap.size = k2 + 2 := by simp [hk2]
    generalize (wc.alloc (.cells #[.pointer (some ⟨b, 0, none⟩)] 25)).alloc (.cells #[.int .i64 0] 3) = Wl at *
    have hu : ∀ n, Under Wl.heap.size (HX n) := by
      intro n
      have := Sat.under hsX
      rw [hHX] at this ⊢
      intro d o ho
      simp only [List.mem_cons, HItem.blk.injEq] at ho
      rcases ho with ⟨rfl, _⟩ | ho
      · exact this _ _ (.head _)
      · exact this _ _ (.tail _ ho)
    obtain ⟨ra, rc, hve, _⟩ := part_cells hv hs.tail.tail.tail
    subst hve
    have hX : ∀ W n, Sat W (HX n) → W.cell? ⟨k2 + 1, 0, none⟩ = some (kI n) ∧ W.frozen? ⟨k2 + 1, 0, none⟩ = false ∧ W.cell? ⟨c + 1, 0, none⟩ = some (.pointer (some ⟨c, 0, none⟩)) ∧ W.cell? ⟨c, 0, none⟩ = some (.slice ra R.length rc) ∧ CellsP W ra R ∧
        W.cell? ⟨k2, 0, none⟩ = some (.pointer (some ⟨b, 0, none⟩)) ∧ W.cell? ⟨b, 0, none⟩ = some (.map (some m)) ∧ W.heap[m]? = some (.map es clk) ∧ Sat W H1 := by
      intro W n hW
      rw [hHX] at hW
      have h3 := hW.tail
      rw [← hQ] at h3
      have h4 := h3.tail.tail.tail
      obtain ⟨ra', rc', e', hc'⟩ := part_cells hv h4.tail
      cases e'
      exact ⟨by rw [cell_of hW.h0]; rfl, unfrozen_of hW.h0 0, (HH.out W h4.tail.right).1, by rw [cell_of h4.h0]; rfl, hc', by rw [cell_of h3.h0]; rfl, by rw [cell_of h3.h1]; rfl, h3.h2, h4.tail.right⟩
    have hstep : ∀ W (n n' : Nat), Sat W (HX n) → Sat (W.setCell ⟨k2 + 1, 0, none⟩ (kI n')) (HX n') := by
      intro W n n' hW
      rw [hHX] at hW ⊢
      exact hW.setCell (i := 0) (kI n')
    have HXF := Lib.hid hX
    have HSTEP := Lib.hid hstep
    obtain ⟨_, _, _, _, _, q2, qb, qm, qH⟩ := hX _ _ hsX
    have hwi : Wi.heap.size < Wl.heap.size := World.block_lt_of_cell? Wl ⟨Wi.heap.size, 0, none⟩ (HH.out Wl qH).2.2.1
    clear qH
    have HSX := Lib.hid hsX
    have HUN := Lib.hid hu
    have hlo : k2 + 2 ≤ Wl.heap.size := by omega
    clear hX hstep hsX hu hs hs4 hsz hHX hQ HB hv
    have hst := purse_all_stops (9 - 1) (by omega) k2 b m es clk D Wl q2 qb qm hm HKD.out (by omega)
    rw [HROW.out] at hst
    clear q2 qb qm
    refine (wpIn_wide (n := 9)).1 ?_
    apply wpIn_rangeFunc_ownG (F := Fence.wide) (n := 9) rfl (by omega) (gf := 63) (lb := #[.pointer (some ⟨k2, 0, none⟩)]) rfl trivial (enters_of Try.func63 (by kernel_rfl) rfl)
      hst KeepsAbove.trans (fun W l o o' _ h1 h2 h3 => KeepsAbove.put _ W l o o' h1 h2 h3) (Below.refl _ _) (fun _ => rfl)
      (PExI R Wl.heap.size HX)
      (PExX R)
      (fun s W W' row hI hg hr => hI.grown (HUN.out) hg hr)
      (fun c s W W' row hI _ _ => hI)
      ⟨Nat.le_refl _, List.nil_prefix, HSX.out⟩ _ ?assign ?body ?done ?stop
    case assign =>
      intro l x W K hK
      have HK := Lib.hid hK
      clear hK
      gi_wp2
      exact HK.out
    case body =>
      rintro l pre x W ⟨hB, hpre, hsW⟩ hlen
      obtain ⟨d0, e0, d1, d2, hcs, _, _, _, hH1⟩ := HXF.out W _ hsW
      obtain ⟨_, _, f0, f1⟩ := HH.out W hH1
      have HPRE := Lib.hid hpre
      have HSW := Lib.hid hsW
      have n0 : (0 : Int) ≤ (pre.length : Int) := by omega
      have hlt : pre.length < R.length := by rw [← HROW.out, rowsP_len]; exact hlen
      have hl1 : 1 ≤ 9 - 1 - 1 := by omega
      clear hst hpre hsW hH1
      obtain ⟨q, hq⟩ : ∃ q, R[pre.length]? = some q := ⟨_, List.getElem?_eq_getElem hlt⟩
      obtain ⟨g, rfl, c1, c2⟩ := hcs _ q hq
      have n1 : (pre.length : Int) < (R.length : Int) := by omega
      have HQ := Lib.hid hq
      clear hq
      obtain ⟨q1, q2⟩ := q
      obtain ⟨x1, x2⟩ := x
      simp only at c1 c2
      have hl2 : (9 - 1 - 1 : Nat) = 7 := rfl
      have hpl : pre.length ≤ 100000 := by omega
      have hnd : (x1 = q1 ∧ x2 = q2) ∨ ¬ (pre ++ [(x1, x2)] <+: R) := by
        by_cases hp : pre ++ [(x1, x2)] <+: R
        · left
          obtain ⟨tl, htl⟩ := hp
          have := HQ.out
          rw [← htl, List.append_assoc, List.getElem?_append_right (Nat.le_refl _)] at this
          simp at this
          exact this
        · exact .inr hp
      have hng : (x1 = q1 ∧ x2 = q2) → ∀ nq, PExI R Wl.heap.size HX (pre ++ [(x1, x2)]) ((W.drewN nq).setCell ⟨k2 + 1, 0, none⟩ (kI ((pre.length : Int) + 1))) := by
        rintro ⟨rfl, rfl⟩ nq
        refine ⟨by simpa [World.setCell] using hB, ?_, by simpa using HSTEP.out (W.drewN nq) _ (pre.length + 1) (HSW.out.of_heap rfl ⟨rfl, rfl, rfl⟩)⟩
        obtain ⟨tl, htl⟩ := HPRE.out
        have := HQ.out
        rw [← htl, List.getElem?_append_right (Nat.le_refl _), Nat.sub_self] at this
        cases tl with
        | nil => simp at this
        | cons y tl =>
          simp at this
          subst this
          exact ⟨tl, by rw [← htl]; simp⟩
      have HND := Lib.hid hnd
      have HNG := Lib.hid hng
      clear hnd hng
      by_cases z1 : q1 = x1
      · have t1 : (q1 == x1) = true := by simpa using z1
        have t1' : (q1 != x1) = false := by simpa using z1
        by_cases z2 : q2 = x2
        · have t2 : (q2 == x2) = true := by simpa using z2
          have t2' : (q2 != x2) = false := by simpa using z2
          have HI := HNG.out ⟨z1.symm, z2.symm⟩
          have HI := Lib.hid HI
          clear z1 z2 HNG HND
          gi_wp2_with fail
          refine wpIn_region_quietR (by kernel_rfl) (by kernel_rfl) (by kernel_rfl) ?_
          repeat (quiet_step_in (fail))
          refine wpQuietIn_nil ?_
          rintro _ ⟨nq, rfl⟩
          have e0 : (W.drewN nq).frozen? ⟨k2 + 1, 0, none⟩ = false := e0
          have f1 : (W.drewN nq).frozen? ⟨Wi.heap.size, 0, none⟩ = false := f1
          have d0 : (W.drewN nq).cell? ⟨k2 + 1, 0, none⟩ = some (kI pre.length) := d0
          gi_wp2_with fail
          refine ⟨((KeepsOthers.drewN W nq).trans (KeepsOthers.setCell _ _ _)).from _, (KeepsAbove.drewN _ W nq).trans (KeepsAbove.setCell (by omega) _ _ _), ?_⟩
          have e9 : (pre.length : Int) + 1 = wrap64 ((pre.length : Int) + 1) := by rw [IntWalk.wrap64_in _ (by omega)]
          first | exact HI.out nq | (rw [← e9]; exact HI.out nq)
        · have t2 : (q2 == x2) = false := by simpa using z2
          have t2' : (q2 != x2) = true := by simpa using z2
          have HN := Lib.hid (HND.out.resolve_left (fun e => z2 e.2.symm))
          clear z1 z2 HNG HND
          gi_wp2_with fail
          refine wpIn_region_quietR (by kernel_rfl) (by kernel_rfl) (by kernel_rfl) ?_
          repeat (quiet_step_in (fail))
          refine wpQuietIn_nil ?_
          rintro _ ⟨nq, rfl⟩
          have e0 : (W.drewN nq).frozen? ⟨k2 + 1, 0, none⟩ = false := e0
          have f1 : (W.drewN nq).frozen? ⟨Wi.heap.size, 0, none⟩ = false := f1
          have d0 : (W.drewN nq).cell? ⟨k2 + 1, 0, none⟩ = some (kI pre.length) := d0
          gi_wp2_with fail
          exact ⟨((KeepsOthers.drewN W nq).trans (KeepsOthers.setCell _ _ _)).from _, rfl, HN.out⟩
      · have t1 : (q1 == x1) = false := by simpa using z1
        have t1' : (q1 != x1) = true := by simpa using z1
        have HN := Lib.hid (HND.out.resolve_left (fun e => z1 e.1.symm))
        clear z1 HNG HND
        gi_wp2_with fail
        refine wpIn_region_quietR (by kernel_rfl) (by kernel_rfl) (by kernel_rfl) ?_
        repeat (quiet_step_in (fail))
        refine wpQuietIn_nil ?_
        rintro _ ⟨nq, rfl⟩
        have e0 : (W.drewN nq).frozen? ⟨k2 + 1, 0, none⟩ = false := e0
        have f1 : (W.drewN nq).frozen? ⟨Wi.heap.size, 0, none⟩ = false := f1
        have d0 : (W.drewN nq).cell? ⟨k2 + 1, 0, none⟩ = some (kI pre.length) := d0
        gi_wp2_with fail
        exact ⟨((KeepsOthers.drewN W nq).trans (KeepsOthers.setCell _ _ _)).from _, rfl, HN.out⟩
    case done =>
      rintro Dk ys W hDk rfl ⟨hB, _, hsW⟩ hK
      obtain ⟨d0, e0, d1, d2, hcs, _, _, _, hH1⟩ := HXF.out W _ hsW
      obtain ⟨_, _, f0, f1⟩ := HH.out W hH1
      have n0 : (0 : Int) ≤ (ys.length : Int) := by omega
      have hb1 : Sat (W.setCell ⟨Wi.heap.size, 0, none⟩ (.bool true)).drew (allOf Wi) ∧ (W.setCell ⟨Wi.heap.size, 0, none⟩ (.bool true)).drew.cell? ⟨Wi.heap.size, 0, none⟩ = some (.bool true) ∧ (W.setCell ⟨Wi.heap.size, 0, none⟩ (.bool true)).drew.heap[Dk]? = some (.deferred (some [])) := by
        have h1 := hH1
        rw [← HH1.out] at h1
        have h2 := (h1.tail.setCell (i := 0) (.bool true)).drew
        refine ⟨h2.tail, by rw [cell_of h2.h0]; rfl, ?_⟩
        exact (KeepsOthers.setCell W ⟨Wi.heap.size, 0, none⟩ (.bool true)).same Dk _ hK rfl
      obtain ⟨hb2, hb3, hb4⟩ := hb1
      have hb5 : Sat ((W.setCell ⟨Wi.heap.size, 0, none⟩ (.bool true)).drew.putObj Dk (.deferred none)) (allOf Wi) := by
        refine hb2.ownGrown (B := Wi.heap.size) (fun c o ho => (sat_all Wi).lt ho) (grownBy_putObj' _ Dk (.deferred none)) (fun r e => by cases e; exact ⟨by omega, _, hb4, rfl⟩)
      have hb6 : ((W.setCell ⟨Wi.heap.size, 0, none⟩ (.bool true)).drew.putObj Dk (.deferred none)).cell? ⟨Wi.heap.size, 0, none⟩ = some (.bool true) :=
        cell_kept hb3 (grownBy_putObj' _ Dk (.deferred none)) (fun r e => by cases e; exact ⟨_, hb4, rfl⟩)
      have HB4 := Lib.hid hb4
      have HB5 := Lib.hid hb5.below
      clear hb2 hb3 hb4 hb5 hK hsW hst hcs hH1
      go_wp2_with fail
      refine wp_region_noPanic ?_
      go_region_with (fail)
      all_goals
        refine NoPanic.normal ?_
        go_wp2_with fail
        refine ⟨by simp, .inl ⟨_, _, rfl, run_takeDeferred HB4.out, ?_⟩⟩
        refine ⟨_, ?_, rfl, HB5.out⟩
        simp [results, Try.f10, go_sem, hb6]
    case stop =>
      rintro Dk c pre W hDk hpre ⟨rfl, hn⟩ hK
      exact absurd hpre hn
end Go.Proofs.Ytbjomkbiljpjmaa
