/- LatchKeeps walked: what is needed stays held, who owes tells it at the end. Conditions: none. -/
import Derived.Test.YtcndmiepbodpnaaLKeepsW
import Derived.Test.YtcndmiepbodpnaaArgs16
import Derived.Deep.DeepCutAuto
import Derived.Deep.CutBlock
import Derived.Deep.RegionWith
namespace Go.Proofs.Ytcndmiepbodpnaa
open Go Go.MapKept Go.RowKit Go.Proofs

/-- The loop's fact. -/
def LKI (b nb ob : Nat) (k : Nat) (W w : World) : Prop := ∃ D, LInv D ∧ D.length ≤ k ∧ LK b nb ob D (usedM D) (owesB D) (allOf W) w
theorem len_grant (D : Lks) (p : Int) (x : Bool) : (grantM D p x).length ≤ D.length + 1 := by
  unfold grantM
  split <;> exact len_put ..
theorem len_use (D : Lks) (p : Int) (x : Bool) : (useM D p x).2.length ≤ D.length + 1 := by
  unfold useM
  split
  · split
    · exact len_put ..
    · exact Nat.le_succ _
  · exact Nat.le_succ _
theorem len_call (D : Lks) (p : Int) (a : Bool) : (callM D p a).2.length ≤ D.length + 1 := by
  unfold callM
  have h1 := len_del p D
  have h2 := fun k => len_put p (k : Lk) D
  split
  · exact Nat.le_succ _
  · (repeat' split) <;> first | exact Nat.le_succ _ | exact h2 _ | exact Nat.le_succ_of_le h1
set_option maxRecDepth 100000 in
set_option maxHeartbeats 40000000 in
theorem lkeeps_walk (p : Option Addr) (len cap : Nat) (V0 V1 : Nat → Int) (V2 : Nat → Bool) (W : World) (ha : Acts16 W p len V0 V1 V2) :
    Calls Try.prog 6 #[.slice p len cap] W fun e W' => e = .returned (.bool true) ∧ Below W.heap.size W W' := by
  have Ha := Lib.hid ha
  have hlen := ha.1
  clear ha
  go_enter Try.func6, Try.ntmps6
  go_wp2_with fail
  refine (awake16 (allOf W) W (sat_all W)).mono ?_
  rintro e w0 ⟨rfl, hs⟩
  go_wp2_with fail
  refine (latch_new (allOf W) w0 hs).mono ?_
  rintro e w1 ⟨b, rfl, hL⟩
  clear hs
  have h1 := (hL.new (.cells #[.int .i64 0, .int .i64 0, .int .i64 0, .int .i64 0, .int .i64 0, .int .i64 0] 50)).new (.cells #[.bool false, .bool false, .bool false, .bool false, .bool false, .bool false] 51)
  rw [World.size_alloc] at h1
  have h2 : LKI b w1.heap.size (w1.heap.size + 1) 0 W _ := ⟨[], linv_nil, Nat.le_refl _, LK.start h1⟩
  have H0 := Lib.hid h2
  clear h1 h2 hL
  go_wp2_with fail
  generalize w1.heap.size + 1 = ob at *
  generalize w1.heap.size = nb at *
  go_loopw [6] (fun v6 wr => ∃ k : Nat, k ≤ len ∧ k ≤ 200 ∧ v6 = .int .i64 k ∧ LKI b nb ob k W wr) (fun v6 _ => 200 - (RowKit.intOf v6).toNat)
  case atStart => exact ⟨0, by omega, by omega, rfl, H0.out⟩
  case round =>
    obtain ⟨k, hk1, hk2, rfl, hI⟩ := hrel
    clear H0
    have j0 : (0 : Int) ≤ (k : Int) := by omega
    by_cases hlt : k < len ∧ k < 200
    · obtain ⟨hlt1, hlt2⟩ := hlt
      obtain ⟨ba, off, rfl, hba, ⟨hA, _, _⟩, ⟨hB, hB0, hB1⟩, hC⟩ := (Ha.out).2 k hlt1
      obtain ⟨D, hI1, hI2, hL⟩ := hI
      have c0 : wr.cell? ⟨ba, off + k * 3, none⟩ = some (kI (V0 k)) := (hL.frame.tail.tail.cellOld (a := ⟨ba, off + k * 3, none⟩) hba).trans hA
      have c1 : wr.cell? ⟨ba, off + k * 3 + 1, none⟩ = some (kI (V1 k)) := (hL.frame.tail.tail.cellOld (a := ⟨ba, off + k * 3 + 1, none⟩) hba).trans hB
      have c2 : wr.cell? ⟨ba, off + k * 3 + 2, none⟩ = some (.bool (V2 k)) := (hL.frame.tail.tail.cellOld (a := ⟨ba, off + k * 3 + 2, none⟩) hba).trans hC
      generalize V0 k = kind at *
      generalize V1 k = v1 at *
      generalize V2 k = x at *
      obtain ⟨q, hq, q0, q1⟩ : ∃ q, wrap64 ((IntKind.u64.wrap v1).tmod 6) = q ∧ 0 ≤ q ∧ q < 6 := ⟨_, rfl, umod_bd v1 6 (by omega) (by omega)⟩
      have HI1 := Lib.hid hI1
      have HL := Lib.hid hL
      have HQ := Lib.hid hq
      clear hA hB hC hI1 hL hq
      go_upto_block 2 with (fail)
      rw [HQ.out]
      clear HQ
      go_cut [] (fun wx => LKI b nb ob (k + 1) W wx)
      case first =>
        have d0 := HL.out.need q0 q1
        clear c0 c1 c2
        by_cases k1 : kind = 1
        · have b1 : (kind == 1) = true := by simpa using k1
          clear k1
          as_aux_lemma =>
            have g := keeps_grant HI1.out q0 q1 x
            have G := Lib.hid g
            clear g
            cases x
            all_goals
              go_wp2_with fail
              refine (grant_any b D _ q _ wr HL.out).mono ?_
              rintro e w5 ⟨rfl, h5⟩
              first
                | have fin : LKI b nb ob (k + 1) W w5 := ⟨_, G.out.1, by (have := len_grant D q (true || usedM D q == 2); omega), LK.ext h5 (fun j _ _ => (G.out.2.1 j).symm) (fun j _ _ => (G.out.2.2 j).symm)⟩
                | have fin : LKI b nb ob (k + 1) W w5 := ⟨_, G.out.1, by (have := len_grant D q (false || usedM D q == 2); omega), LK.ext h5 (fun j _ _ => (G.out.2.1 j).symm) (fun j _ _ => (G.out.2.2 j).symm)⟩
              have Fin := Lib.hid fin
              clear fin h5
              go_wp2_with fail
              go_meet
              exact Fin.out
        · have b1 : (kind == 1) = false := by simpa using k1
          clear k1
          by_cases k2 : kind = 2
          · have b2 : (kind == 2) = true := by simpa using k2
            clear k2
            as_aux_lemma =>
              have g := keeps_use HI1.out q0 q1 x
              have hu := use_any b D _ q x wr HL.out
              have hl := len_use D q x
              unfold needU at g
              generalize useM D q x = r at *
              obtain ⟨r1, D'⟩ := r
              simp only at g hu hl
              obtain ⟨g1, g2, g3, g4⟩ := g
              have HU := Lib.hid hu
              have G1 := Lib.hid g1
              have G2 := Lib.hid g2
              have G3 := Lib.hid g3
              clear g1 g2 g3 hu
              rcases g4 with rfl | rfl
              · cases x
                · go_wp2_with fail
                  refine (HU.out).mono ?_
                  rintro e w5 ⟨rfl, h5⟩
                  replace h5 : LK b nb ob D' (usedM D) (owesB D) (allOf W) w5 := h5
                  have d1 := h5.need q0 q1
                  have f1 := h5.fneed q.toNat
                  have fin : LKI b nb ob (k + 1) W (w5.setCell ⟨nb, q.toNat, none⟩ (kI (max (usedM D q) 1))) := ⟨D', G1.out, by omega, LK.ext (h5.setNeed q0 q1 (max (usedM D q) 1)) (fun j _ _ => by rw [G2.out j]; by_cases e : j = q <;> simp [e]) (fun j _ _ => (G3.out j).symm)⟩
                  have Fin := Lib.hid fin
                  clear h5 fin
                  go_wp2_with fail
                  go_meet
                  exact Fin.out
                · go_wp2_with fail
                  refine (HU.out).mono ?_
                  rintro e w5 ⟨rfl, h5⟩
                  replace h5 : LK b nb ob D' (usedM D) (owesB D) (allOf W) w5 := h5
                  have d1 := h5.need q0 q1
                  have f1 := h5.fneed q.toNat
                  have fin : LKI b nb ob (k + 1) W ((w5.setCell ⟨nb, q.toNat, none⟩ (kI (max (usedM D q) 1))).setCell ⟨nb, q.toNat, none⟩ (kI 2)) := ⟨D', G1.out, by omega, LK.ext ((h5.setNeed q0 q1 (max (usedM D q) 1)).setNeed q0 q1 2) (fun j _ _ => by rw [G2.out j]; by_cases e : j = q <;> simp [e]) (fun j _ _ => (G3.out j).symm)⟩
                  have Fin := Lib.hid fin
                  clear h5 fin
                  go_wp2_with fail
                  go_meet
                  exact Fin.out
              · go_wp2_with fail
                refine (HU.out).mono ?_
                rintro e w5 ⟨rfl, h5⟩
                have fin : LKI b nb ob (k + 1) W w5 := ⟨_, G1.out, by omega, LK.ext h5 (fun j _ _ => by rw [G2.out j]; simp) (fun j _ _ => (G3.out j).symm)⟩
                have Fin := Lib.hid fin
                clear fin h5
                go_wp2_with fail
                go_meet
                exact Fin.out
          · have b2 : (kind == 2) = false := by simpa using k2
            clear k2
            by_cases k3 : kind = 3
            · have b3 : (kind == 3) = true := by simpa using k3
              clear k3
              as_aux_lemma =>
                have g := keeps_call HI1.out q0 q1 x
                have hc := call_any b D _ q x wr HL.out
                have hl := len_call D q x
                generalize callM D q x = r at *
                obtain ⟨r1, D'⟩ := r
                simp only at g hc hl
                obtain ⟨g1, g2, g3, g4⟩ := g
                have HC := Lib.hid hc
                have G1 := Lib.hid g1
                have G2 := Lib.hid g2
                have G3 := Lib.hid g3
                clear g1 g2 g3 hc
                rcases g4 with rfl | ⟨rfl, u⟩ | ⟨rfl, u⟩ | ⟨rfl, u⟩
                · go_wp2_with fail
                  refine (HC.out).mono ?_
                  rintro e w5 ⟨rfl, h5⟩
                  have fin : LKI b nb ob (k + 1) W w5 := ⟨_, G1.out, by omega, LK.ext h5 (fun j _ _ => (G2.out j).symm) (fun j _ _ => by rw [G3.out j]; simp)⟩
                  have Fin := Lib.hid fin
                  clear fin h5
                  go_wp2_with fail
                  go_meet
                  exact Fin.out
                · go_wp2_with fail
                  refine (HC.out).mono ?_
                  rintro e w5 ⟨rfl, h5⟩
                  replace h5 : LK b nb ob D' (usedM D) (owesB D) (allOf W) w5 := h5
                  have d1 := h5.need q0 q1
                  rw [u] at d1
                  have fin : LKI b nb ob (k + 1) W w5 := ⟨_, G1.out, by omega, LK.ext h5 (fun j _ _ => (G2.out j).symm) (fun j _ _ => by rw [G3.out j]; simp)⟩
                  have Fin := Lib.hid fin
                  clear fin h5 d0
                  go_wp2_with fail
                  go_meet
                  exact Fin.out
                · go_wp2_with fail
                  refine (HC.out).mono ?_
                  rintro e w5 ⟨rfl, h5⟩
                  replace h5 : LK b nb ob D' (usedM D) (owesB D) (allOf W) w5 := h5
                  have d1 := h5.need q0 q1
                  have ub : (usedM D q == 2) = false := by simpa using u
                  have fin : LKI b nb ob (k + 1) W w5 := ⟨_, G1.out, by omega, LK.ext h5 (fun j _ _ => (G2.out j).symm) (fun j _ _ => by rw [G3.out j]; simp)⟩
                  have Fin := Lib.hid fin
                  clear fin h5 d0 u
                  go_wp2_with fail
                  go_meet
                  exact Fin.out
                · go_wp2_with fail
                  refine (HC.out).mono ?_
                  rintro e w5 ⟨rfl, h5⟩
                  replace h5 : LK b nb ob D' (usedM D) (owesB D) (allOf W) w5 := h5
                  have d2 := h5.owed q0 q1
                  have f1 := h5.fowed q.toNat
                  have h6 := h5.setOwed q0 q1 true
                  have d1 := h6.need q0 q1
                  have ub : (usedM D q == 0) = false := by simpa using u
                  have fin : LKI b nb ob (k + 1) W (w5.setCell ⟨ob, q.toNat, none⟩ (.bool true)) := ⟨_, G1.out, by omega, LK.ext h6 (fun j _ _ => (G2.out j).symm) (fun j _ _ => by rw [G3.out j]; by_cases e : j = q <;> simp [e])⟩
                  have Fin := Lib.hid fin
                  clear fin h5 h6 d0 u
                  go_wp2_with fail
                  go_meet
                  exact Fin.out
            · have b3 : (kind == 3) = false := by simpa using k3
              clear k3
              by_cases k4 : kind = 4
              · have b4 : (kind == 4) = true := by simpa using k4
                clear k4
                as_aux_lemma =>
                  have g := keeps_end HI1.out
                  have he := end_any b D _ wr HL.out (fun p hp => by have := HI1.out.keys p hp; omega) (by omega)
                  generalize endM D = r at *
                  obtain ⟨T, D'⟩ := r
                  simp only at g he
                  obtain ⟨g1, g2, g3, g4, g5, g6⟩ := g
                  have hT : T.length ≤ 6 := by rw [g4]; exact Nat.le_trans (List.length_filter_le _ _) (by decide)
                  have HE := Lib.hid he
                  have G1 := Lib.hid g1
                  have G2 := Lib.hid g2
                  have G3 := Lib.hid g3
                  have G4 := Lib.hid g4
                  have G5 := Lib.hid g5
                  clear g1 g2 g3 g4 g5 he
                  go_wp2_with fail
                  refine (HE.out).mono ?_
                  rintro e w5 ⟨v, hh, rfl, hsl, h5⟩
                  obtain ⟨a, ca, rfl⟩ := slice_form hsl
                  have h6 : LK b nb ob D' (usedM D) (owesB D) (hh ++ allOf W) w5 := LK.bring h5
                  have HSL := Lib.hid hsl
                  have H6 := Lib.hid h6
                  clear hsl h5 h6 d0 HE
                  go_wp2_with fail
                  go_loopw [11, 12] (fun v11 v12 wx => ∃ r : Nat, r ≤ 6 ∧ v12 = .int .i64 r ∧ v11 = .int .i64 ((six.take r).filter (owesB D)).length ∧ LK b nb ob D' (fun j => if j < r then 0 else usedM D j) (fun j => if j < r then false else owesB D j) (hh ++ allOf W) wx) (fun _ v12 _ => 6 - (RowKit.intOf v12).toNat)
                  case atStart => exact ⟨0, by omega, rfl, rfl, LK.ext H6.out (fun j a _ => by rw [if_neg (by omega)]) (fun j a _ => by rw [if_neg (by omega)])⟩
                  case round =>
                    as_aux_lemma =>
                      obtain ⟨r, hr, rfl, rfl, hR⟩ := hrel
                      have r0 : (0 : Int) ≤ (r : Int) := by omega
                      by_cases hlr : r < 6
                      · have r1 : (r : Int) < 6 := by omega
                        have e1 : ((r : Int)).toNat = r := by simp
                        have c1 := hR.owed r0 r1
                        have c2 := hR.fowed r
                        have h7 := hR.setOwed r0 r1 false
                        have c4 := h7.need r0 r1
                        have h8 := h7.setNeed r0 r1 0
                        rw [e1] at c1 c4 h7 h8
                        have c3 := h7.fneed r
                        have hs := six_take (owesB D) r hlr
                        have h9 : LK b nb ob D' (fun j => if j < ((r + 1 : Nat) : Int) then 0 else usedM D j) (fun j => if j < ((r + 1 : Nat) : Int) then false else owesB D j) (hh ++ allOf W) _ := LK.ext h8 (fun j _ _ => by
                          by_cases e : j = r
                          · rw [if_pos e, if_pos (by omega)]
                          · rw [if_neg e]
                            by_cases e2 : j < r
                            · rw [if_pos e2, if_pos (by omega)]
                            · rw [if_neg e2, if_neg (by omega)]) (fun j _ _ => by
                          by_cases e : j = r
                          · rw [if_pos e, if_pos (by omega)]
                          · rw [if_neg e]
                            by_cases e2 : j < r
                            · rw [if_pos e2, if_pos (by omega)]
                            · rw [if_neg e2, if_neg (by omega)])
                        have hcnt : ((six.take r).filter (owesB D)).length ≤ 6 := Nat.le_trans (List.length_filter_le _ _) (by rw [List.length_take]; omega)
                        rw [if_neg (Int.lt_irrefl _)] at c1
                        have H9 := Lib.hid h9
                        have HS := Lib.hid hs
                        clear h7 h8 h9 hR hs
                        generalize ((six.take r).filter (owesB D)).length = n at *
                        generalize owesB D r = o at *
                        cases o
                        all_goals
                          go_wp2_with fail
                          go_roundw
                          case rel => exact ⟨r + 1, by omega, by simp, by rw [HS.out]; simp, H9.out⟩
                          case measure => simp only [RowKit.intOf]; omega
                      · obtain rfl : r = 6 := by omega
                        have e6 : ((six.take 6).filter (owesB D)).length = T.length := by rw [G4.out]; rfl
                        rw [e6]
                        have hR' : LK b nb ob D' (fun _ => 0) (fun _ => false) (hh ++ allOf W) wr := LK.ext hR (fun j _ h => by rw [if_pos (by exact_mod_cast h)]) (fun j _ h => by rw [if_pos (by exact_mod_cast h)])
                        have HR := Lib.hid hR'
                        rw [show ((6 : Nat) : Int) = 6 from rfl]
                        clear hR hR' e6 H6 hlr
                        go_wp2_with fail
                        go_loopw [13] (fun v13 wx => ∃ j : Nat, j ≤ T.length ∧ v13 = .int .i64 j ∧ LK b nb ob D' (fun _ => 0) (fun _ => false) (hh ++ allOf W) wx) (fun v13 _ => 100000000 + T.length - (RowKit.intOf v13).toNat)
                        case atStart => exact ⟨0, by omega, rfl, HR.out⟩
                        case round =>
                          as_aux_lemma =>
                            obtain ⟨j, hj, rfl, hR⟩ := hrel
                            have jj0 : (0 : Int) ≤ (j : Int) := by omega
                            clear HR
                            by_cases hlj : j < T.length
                            · have jj1 : (j : Int) < (T.length : Int) := by omega
                              obtain ⟨y, hy⟩ : ∃ y, T[j]? = some y := ⟨_, List.getElem?_eq_getElem hlj⟩
                              obtain ⟨t1, t2⟩ := flatLet_get T j y hy
                              obtain ⟨u1, u2⟩ := G5.out y (List.mem_of_getElem? hy)
                              have hcells : ∃ g, a = some ⟨g, 0, none⟩ ∧ wr.cell? ⟨g, j * 2, none⟩ = some (kI y.1) ∧ wr.cell? ⟨g, j * 2 + 1, none⟩ = some (.bool y.2) := by
                                have hsl := HSL.out
                                rcases hsl.2 with ⟨e1, e0, _⟩ | ⟨g, cap', cur, e1, _⟩
                                · omega
                                · cases e1
                                  exact ⟨g, rfl, (hsl.cell hR.rest rfl t1).2.2, (hsl.cell hR.rest rfl t2).2.2⟩
                              obtain ⟨ag, rfl, c1, c2⟩ := hcells
                              obtain ⟨y1, y2⟩ := y
                              have hh := fun (n : Nat) (x : Bool) => has_q b D' _ y1 x _ (hR.drewN n)
                              simp only at c1 c2 u1 u2
                              have eh : ∀ x, hasM D' y1 x = (!x && y2) := by intro x; cases x <;> simp [u1, u2]
                              simp only [eh] at hh
                              have HH := Lib.hid hh
                              have HR := Lib.hid hR
                              clear hh eh u1 u2 t1 t2 hy hR G1 G2 G3 G4 G5
                              cases y2
                              all_goals
                                go_upto_region 40 with (fail)
                                go_quiet ((go_at_call 10; exact Calls.quiet_of_same (HH.out _ _)))
                                go_wp2_with fail
                                go_roundw
                                case rel => exact ⟨j + 1, by omega, by simp, HR.out.drewN _⟩
                                case measure => simp only [RowKit.intOf]; omega
                            · obtain rfl : j = T.length := by omega
                              have fin : LKI b nb ob (k + 1) W wr := ⟨D', G1.out, by omega, LK.ext hR.drop (fun j _ _ => (G2.out j).symm) (fun j _ _ => (G3.out j).symm)⟩
                              have Fin := Lib.hid fin
                              clear fin hR hlj
                              go_wp2_with fail
                              go_meet
                              exact Fin.out
              · have b4 : (kind == 4) = false := by simpa using k4
                clear k4
                as_aux_lemma =>
                  have fin : LKI b nb ob (k + 1) W wr := ⟨D, HI1.out, by omega, HL.out⟩
                  have Fin := Lib.hid fin
                  clear fin
                  go_wp2_with fail
                  go_meet
                  exact Fin.out
      case rest =>
        as_aux_lemma =>
          clear HL HI1 c0 c1 c2
          obtain ⟨D, hI1, hI2, hL⟩ := hcut
          have HI1 := Lib.hid hI1
          have HL := Lib.hid hL
          clear hI1 hL
          go_wp2_with fail
          go_loopw [14] (fun v14 wx => ∃ r : Nat, r ≤ 6 ∧ v14 = .int .i64 r ∧ LK b nb ob D (usedM D) (owesB D) (allOf W) wx) (fun v14 _ => 6 - (RowKit.intOf v14).toNat)
          case atStart => exact ⟨0, by omega, rfl, HL.out⟩
          case round =>
            obtain ⟨r, hr, rfl, hR⟩ := hrel
            have r0 : (0 : Int) ≤ (r : Int) := by omega
            by_cases hlr : r < 6
            · have r1 : (r : Int) < 6 := by omega
              have e1 : ((r : Int)).toNat = r := by simp
              have d0 := hR.need r0 r1
              rw [e1] at d0
              have hu := fun n => used_q b D _ r _ (hR.drewN n)
              have HR := Lib.hid hR
              clear e1
              by_cases hp : 0 < usedM D r
              · have hh := fun n => has_q b D _ r (usedM D r == 2) _ (hR.drewN n)
                rw [keeps_check HI1.out r hp] at hh
                have HU := Lib.hid hu
                have HH := Lib.hid hh
                clear hu hh hR
                generalize usedM D r = u at *
                go_upto_region 45 with (fail)
                go_quiet (first | (go_at_call 21; exact Calls.quiet_of_same (HU.out _)) | (go_at_call 10; exact Calls.quiet_of_same (HH.out _)))
                go_wp2_with fail
                go_roundw
                case rel => exact ⟨r + 1, by omega, by simp, HR.out.drewN _⟩
                case measure => simp only [RowKit.intOf]; omega
              · have HU := Lib.hid hu
                clear hu hR
                generalize usedM D r = u at *
                go_upto_region 45 with (fail)
                go_quiet ((go_at_call 21; exact Calls.quiet_of_same (HU.out _)))
                go_wp2_with fail
                go_roundw
                case rel => exact ⟨r + 1, by omega, by simp, HR.out.drewN _⟩
                case measure => simp only [RowKit.intOf]; omega
            · obtain rfl : r = 6 := by omega
              have HR := Lib.hid hR
              clear hR hlr HL
              go_wp2_with fail
              go_roundw
              case rel => exact ⟨k + 1, by omega, by omega, by simp, D, HI1.out, hI2, HR.out⟩
              case measure => simp only [RowKit.intOf]; omega
    · have hd : ¬ k < len ∨ ¬ k < 200 := by omega
      as_aux_lemma =>
        obtain ⟨D, hI1, hI2, hL⟩ := hI
        have HB := Lib.hid hL.rest.below
        clear hI1 hL hlt
        by_cases hlt1 : k < len
        all_goals
          go_wp2_with fail
          refine (grant_nil 1 true wr).mono ?_
          rintro e w2 ⟨rfl, rfl⟩
          go_wp2_with fail
          refine (clear_nil wr).mono ?_
          rintro e w2 ⟨rfl, rfl⟩
          go_wp2_with fail
          refine (has_nil 1 false wr).mono ?_
          rintro e w2 ⟨rfl, rfl⟩
          go_wp2_with fail
          refine (use_nil 1 false wr).mono ?_
          rintro e w2 ⟨rfl, rfl⟩
          go_wp2_with fail
          refine (used_nil 1 wr).mono ?_
          rintro e w2 ⟨rfl, rfl⟩
          go_wp2_with fail
          refine (call_nil 1 true wr).mono ?_
          rintro e w2 ⟨rfl, rfl⟩
          go_wp2_with fail
          refine (end_nil wr).mono ?_
          rintro e w2 ⟨rfl, rfl⟩
          go_wp2_with fail
          refine (pages_nil wr).mono ?_
          rintro e w2 ⟨rfl, rfl⟩
          go_wp2_with fail
          go_ret
          exact ⟨rfl, HB.out⟩
end Go.Proofs.Ytcndmiepbodpnaa
