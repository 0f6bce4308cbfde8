/- PurseRows: gone over, a purse tells each one that is promised something, rising, and how much. Conditions: none. -/
import Derived.Test.YtbjomkbiljpjmaaPRowsM
import Derived.Test.YtbjomkbiljpjmaaPurse10
import Derived.Test.YtbjomkbiljpjmaaArgs
import Derived.StillTailTactics
import Derived.Deep.RegionHeld3
import Derived.Deep.RegionWith
import Derived.Deep.DeepCutAuto
import Derived.Deep.CutBlock
namespace Go.Proofs.Ytbjomkbiljpjmaa
open Go Go.MapKept Go.RowKit Go.Proofs Go.Shelf

attribute [local go_sem] Oper.semAt_some

theorem purse_all (b : Nat) (w : World) : Calls Try.prog 48 #[.pointer (some ⟨b, 0, none⟩)] w fun e w' =>
    e = .returned (.func (.func 63) #[] #[.pointer (some ⟨w.heap.size, 0, none⟩)]) ∧ w' = w.alloc (.cells #[.pointer (some ⟨b, 0, none⟩)] 25) := by
  go_enter Try.func48, Try.ntmps48
  go_wp2
  go_ret
  exact ⟨rfl, rfl⟩
/-- Every block of it lies below B. -/
def Under (B : Nat) (H : Heaplet) : Prop := ∀ b o, HItem.blk b o ∈ H → b < B
theorem Sat.under {w : World} {H : Heaplet} (s : Sat w H) : Under w.heap.size H := fun b o h => (Array.getElem?_eq_some_iff.1 (s.1 _ h)).1
theorem Sat.ownGrown {B : Nat} {w w' : World} {H : Heaplet} {row : Option Nat} (s : Sat w H) (hu : Under B H) (hg : w.grownBy w' row) (hr : ∀ r, row = some r → B ≤ r ∧ ∃ o : Obj, w.heap[r]? = some o ∧ o.isCells = false) : Sat w' H := by
  refine ⟨fun x hx => ?_, s.2⟩
  have h := s.1 x hx
  cases x with
  | blk b o =>
    have hlt : b < w.heap.size := (Array.getElem?_eq_some_iff.1 h).1
    exact (hg.block b hlt (fun e => by have h1 := (hr b e.symm).1; have h2 := hu b o hx; omega)).trans h
  | env w0 => exact ⟨hg.os.trans h.1, hg.tape.trans h.2.1, hg.output.trans h.2.2⟩
/-- Between two rounds: three counts; where the rows came in their order: what the counts are. -/
def PRowsI (D : List (Int × Int)) (B : Nat) (HX : Int → Int → Int → Heaplet) (pre : List (Int × Int)) (W : World) : Prop :=
  B ≤ W.heap.size ∧ ∃ n la su, Sat W (HX n la su) ∧ (pre <+: rowsP D → n = pre.length ∧ su = (pre.map (·.2)).sum ∧ (pre = [] ∨ ∃ y, pre.getLast? = some y ∧ la = y.1))
theorem PRowsI.grown {D : List (Int × Int)} {B : Nat} {HX : Int → Int → Int → Heaplet} {pre : List (Int × Int)} {W W' : World} {row : Option Nat} (h : PRowsI D B HX pre W) (hu : ∀ n la su, Under B (HX n la su)) (hg : W.grownBy W' row)
    (hr : ∀ r, row = some r → B ≤ r ∧ ∃ o : Obj, W.heap[r]? = some o ∧ o.isCells = false) : PRowsI D B HX pre W' := by
  obtain ⟨h1, n, la, su, h2, h3⟩ := h
  exact ⟨Nat.le_trans h1 hg.size, n, la, su, h2.ownGrown (hu _ _ _) hg hr, h3⟩
/-- A round that says no: the rows did not come in their order. -/
def PRowsX (D : List (Int × Int)) (c : Code) (pre : List (Int × Int)) (_ : World) : Prop := c = .ret ∧ ¬ pre <+: rowsP D
def RowsJ (b k : Nat) (H : Heaplet) (w : World) : Prop := ∃ D s, PurseIs b D s H w ∧ KeysIn D ∧ D.length ≤ k
set_option maxRecDepth 100000 in
set_option maxHeartbeats 4000000 in
theorem prows_walk (p : Option Addr) (len cap : Nat) (A : Nat → Nat → Int) (Wi : World) (ha : IntsAt Wi p len 4 A) :
    Calls Try.prog 11 #[.slice p len cap] Wi (Ret (.bool true) (RowKit.Below Wi.heap.size Wi)) := by
  have Ha := Lib.hid ha
  have hlen := ha.1
  clear ha
  refine (callsIn_wide (n := 9)).1 ?_
  refine callsIn_of_wp_marks Try.func11 rfl trivial ?_ rfl
  simp only [Try.ntmps11, List.size_toArray, List.length_cons, List.length_nil, Nat.reduceAdd, Nat.reduceSub, Array.replicate_succ, Array.replicate_zero, List.push_toArray, List.append_toArray, List.nil_append, List.cons_append]
  refine wpIn_wide.2 ?_
  have h0 := (sat_all Wi).new (.cells #[.bool false] 4)
  go_wp2_with fail
  refine (awake_any _ _ h0).mono ?_
  rintro e w1 ⟨rfl, hs1⟩
  clear h0
  go_wp2_with fail
  refine (new_any _ _ hs1).mono ?_
  rintro e w2 ⟨b, rfl, hp⟩
  have hp1 := hp.new (.cells #[.pointer (some ⟨b, 0, none⟩)] 25)
  obtain ⟨H1, hH1⟩ : ∃ H1, HItem.blk w2.heap.size (.cells #[.pointer (some ⟨b, 0, none⟩)] 25) :: .blk Wi.heap.size (.cells #[.bool false] 4) :: allOf Wi = H1 := ⟨_, rfl⟩
  rw [hH1] at hp1
  have hJ : RowsJ b 0 H1 (w2.alloc (.cells #[.pointer (some ⟨b, 0, none⟩)] 25)) := ⟨[], 0, hp1, (fun _ h => by cases h), Nat.le_refl _⟩
  have hH : ∀ w, Sat w H1 → w.cell? ⟨w2.heap.size, 0, none⟩ = some (.pointer (some ⟨b, 0, none⟩)) ∧ Sat w (allOf Wi) ∧ w.cell? ⟨Wi.heap.size, 0, none⟩ = some (.bool false) ∧ w.frozen? ⟨Wi.heap.size, 0, none⟩ = false := by
    intro w hw
    rw [← hH1] at hw
    exact ⟨by rw [cell_of hw.h0]; rfl, hw.tail.tail, by rw [cell_of hw.h1]; rfl, unfrozen_of hw.h1 0⟩
  have HH1 := Lib.hid hH1
  have HH := Lib.hid hH
  have HJ := Lib.hid hJ
  clear hs1 hp hp1 hH1 hJ hH
  go_upto_block 0 with (fail)
  generalize w2.heap.size = k1 at *
  go_cut [] from 4 to 58 (fun wx => RowsJ b 200 H1 wx)
  case first =>
    go_wp2_with fail
    go_loopw [4] (fun i wr => ∃ k : Nat, k ≤ len ∧ k ≤ 200 ∧ i = .int .i64 k ∧ RowsJ b k H1 wr) (fun i _ => 200 - (intOf i).toNat)
    case atStart => exact ⟨0, by omega, by omega, rfl, HJ.out⟩
    case round =>
      obtain ⟨k, hk1, hk2, rfl, D, s, hp, hKD, hDl⟩ := hrel
      clear HJ
      by_cases hlt : k < len ∧ k < 200
      · obtain ⟨hlt1, hlt2⟩ := hlt
        obtain ⟨ba, off, rfl, hba, hA⟩ := (Ha.out).2 k hlt1
        obtain ⟨cp, hs, _⟩ := HH.out _ hp.frame
        have c0 : wr.cell? ⟨ba, off + k * 4, none⟩ = some (kI (A k 0)) := (hs.cellOld (a := ⟨ba, off + k * 4 + 0, none⟩) hba).trans (hA 0 (by omega)).1
        have c1 := (hs.cellOld (a := ⟨ba, off + k * 4 + 1, none⟩) hba).trans (hA 1 (by omega)).1
        have c2 := (hs.cellOld (a := ⟨ba, off + k * 4 + 2, none⟩) hba).trans (hA 2 (by omega)).1
        have c3 := (hs.cellOld (a := ⟨ba, off + k * 4 + 3, none⟩) hba).trans (hA 3 (by omega)).1
        have hr := (hA 3 (by omega)).2.2
        have hk3 := (hA 1 (by omega)).2
        have Hp := Lib.hid hp
        have HKD := Lib.hid hKD
        have hk0 : (0 : Int) ≤ (k : Int) := by omega
        clear hs hA hp hKD
        by_cases h1 : A k 0 = 1
        · have h1b : (A k 0 == 1) = true := by simpa using h1
          clear h1
          go_upto_region 8 with (fail)
          go_still_tail 16, (by kernel_rfl)
          change wpList _ _ _ _ _ (World.drew _)
          go_wp2_with fail
          cases hok : askOk s (A k 2) (A k 3)
          · refine (ask_no b D s _ (A k 1) (A k 2) (A k 3) _ Hp.out.drew hr hok).mono ?_
            rintro e w3 ⟨rfl, rfl⟩
            have HJ3 : Hid (RowsJ b (k + 1) H1 wr.drew) := Lib.hid ⟨D, s, Hp.out.drew, HKD.out, by omega⟩
            clear hok
            go_wp2_with fail
            go_roundw
            case rel => exact ⟨k + 1, by omega, by omega, by go_num, HJ3.out⟩
            case measure => simp [intOf]; omega
          · refine (ask_yes b D s _ (A k 1) (A k 2) (A k 3) _ Hp.out.drew hr hok).mono ?_
            rintro e w3 ⟨rfl, hp3⟩
            have HJ3 : Hid (RowsJ b (k + 1) H1 w3) := Lib.hid ⟨_, _, hp3, HKD.out.put hk3.1 hk3.2, by have := put_len (A k 1) (of D (A k 1) + A k 2) D; omega⟩
            clear hok hp3
            go_wp2_with fail
            go_roundw
            case rel => exact ⟨k + 1, by omega, by omega, by go_num, HJ3.out⟩
            case measure => simp [intOf]; omega
        · have h1b : (A k 0 == 1) = false := by simpa using h1
          clear h1
          go_upto_region 9 with (fail)
          go_still_tail 11, (by kernel_rfl)
          change wpList _ _ _ _ _ (World.drew _)
          go_wp2_with fail
          refine (take_any b D s _ (A k 1) (A k 2) _ Hp.out.drew).mono ?_
          rintro e w3 ⟨rfl, hp3⟩
          have HJ3 : Hid (RowsJ b (k + 1) H1 w3) := Lib.hid ⟨_, _, hp3, HKD.out.take hk3.1 hk3.2, by have := take_len D (A k 1) (A k 2); omega⟩
          clear hp3
          go_wp2_with fail
          go_roundw
          case rel => exact ⟨k + 1, by omega, by omega, by go_num, HJ3.out⟩
          case measure => simp [intOf]; omega
      · have hx : ¬ (k < len) ∨ (k < len ∧ ¬ (k < 200)) := by omega
        have HE : Hid (RowsJ b 200 H1 wr) := Lib.hid ⟨D, s, hp, hKD, by omega⟩
        clear hp hlt hKD
        rcases hx with hx | ⟨hx1, hx⟩
        all_goals
          go_wp2_with fail
          go_meet
          exact HE.out
  case rest =>
    clear HJ
    obtain ⟨D, s, hp, hKD, hDl⟩ := hcut
    have hfn : ∀ w, (binOp .eql 73 (.func (.func 63) #[] #[.pointer (some ⟨wc.heap.size, 0, none⟩)]) .nilFunc).run Try.prog w = .ok (.bool false) w := fun w => by kernel_rfl
    obtain ⟨cp, _⟩ := HH.out _ hp.frame
    have Hp := Lib.hid hp
    have HKD := Lib.hid hKD
    clear hp hKD
    go_wp2_with fail
    refine (purse_all b _).mono ?_
    rintro e w4 ⟨rfl, rfl⟩
    clear cp
    go_wp2_with fail
    have hnd : (D.map (·.1)).Nodup := Hp.out.nodup
    obtain ⟨hpi, m, es, clk, hm, hs⟩ := Hp.out
    have hs4 := (((hs.new (.cells #[.pointer (some ⟨b, 0, none⟩)] 25)).new (.cells #[.int .i64 0] 3)).new (.cells #[.int .i64 0] 3)).new (.cells #[.int .i64 0] 3)
    simp only [World.size_alloc] at hs4
    generalize hk2 : wc.heap.size = k2 at *
    obtain ⟨R, hR⟩ : ∃ R, HItem.blk k2 (.cells #[.pointer (some ⟨b, 0, none⟩)] 25) :: .blk b (.cells #[.map (some m), kI s] 85) :: .blk m (.map es clk) :: H1 = R := ⟨_, rfl⟩
    rw [hR] at hs4
    obtain ⟨HX, hHX⟩ : ∃ HX : Int → Int → Int → Heaplet, HX = fun n la su => .blk (k2 + 1 + 1 + 1) (.cells #[kI n] 3) :: .blk (k2 + 1 + 1) (.cells #[kI la] 3) :: .blk (k2 + 1) (.cells #[kI su] 3) :: R := ⟨_, rfl⟩
    have hsX : Sat ((((wc.alloc (.cells #[.pointer (some ⟨b, 0, none⟩)] 25)).alloc (.cells #[.int .i64 0] 3)).alloc (.cells #[.int .i64 0] 3)).alloc (.cells #[.int .i64 0] 3)) (HX 0 0 0) := by rw [hHX]; exact hs4
    have hsz : ((((wc.alloc (.cells #[.pointer (some ⟨b, 0, none⟩)] 25)).alloc (.cells #[.int .i64 0] 3)).alloc (.cells #[.int .i64 0] 3)).alloc (.cells #[.int .i64 0] 3)).heap.size = k2 + 4 := by simp [hk2]
    generalize (((wc.alloc (.cells #[.pointer (some ⟨b, 0, none⟩)] 25)).alloc (.cells #[.int .i64 0] 3)).alloc (.cells #[.int .i64 0] 3)).alloc (.cells #[.int .i64 0] 3) = Wl at *
    have hu : ∀ n la su, Under Wl.heap.size (HX n la su) := by
      intro n la su
      have := Sat.under hsX
      rw [hHX] at this ⊢
      intro c o ho
      simp only [List.mem_cons, HItem.blk.injEq] at ho
      rcases ho with ⟨rfl, _⟩ | ⟨rfl, _⟩ | ⟨rfl, _⟩ | ho
      · exact this _ _ (.head _)
      · exact this _ _ (.tail _ (.head _))
      · exact this _ _ (.tail _ (.tail _ (.head _)))
      · exact this _ _ (.tail _ (.tail _ (.tail _ ho)))
    have hX : ∀ W n la su, Sat W (HX n la su) → W.cell? ⟨k2 + 1 + 1 + 1, 0, none⟩ = some (kI n) ∧ W.cell? ⟨k2 + 1 + 1, 0, none⟩ = some (kI la) ∧ W.cell? ⟨k2 + 1, 0, none⟩ = some (kI su) ∧
        W.frozen? ⟨k2 + 1 + 1 + 1, 0, none⟩ = false ∧ W.frozen? ⟨k2 + 1 + 1, 0, none⟩ = false ∧ W.frozen? ⟨k2 + 1, 0, none⟩ = false ∧ W.cell? ⟨k1, 0, none⟩ = some (.pointer (some ⟨b, 0, none⟩)) ∧
        W.cell? ⟨k2, 0, none⟩ = some (.pointer (some ⟨b, 0, none⟩)) ∧ W.cell? ⟨b, 0, none⟩ = some (.map (some m)) ∧ W.heap[m]? = some (.map es clk) ∧ Sat W H1 ∧ ∃ F', PurseIs b D s F' W := by
      intro W n la su hW
      rw [hHX] at hW
      have h3 := hW.tail.tail.tail
      rw [← hR] at h3
      refine ⟨by rw [cell_of hW.h0]; rfl, by rw [cell_of hW.h1]; rfl, by rw [cell_of hW.h2]; rfl, unfrozen_of hW.h0 0, unfrozen_of hW.h1 0, unfrozen_of hW.h2 0, (HH.out W h3.tail.tail.tail).1, by rw [cell_of h3.h0]; rfl, by rw [cell_of h3.h1]; rfl, h3.h2, h3.tail.tail.tail, H1, hpi, m, es, clk, hm, h3.tail⟩
    have hstep : ∀ W n la su n' la' su', Sat W (HX n la su) → Sat (((W.setCell ⟨k2 + 1 + 1, 0, none⟩ (kI la')).setCell ⟨k2 + 1, 0, none⟩ (kI su')).setCell ⟨k2 + 1 + 1 + 1, 0, none⟩ (kI n')) (HX n' la' su') := by
      intro W n la su n' la' su' hW
      rw [hHX] at hW ⊢
      exact (((hW.swap.setCell (i := 0) (kI la')).swap.rot3.setCell (i := 0) (kI su')).unrot3.setCell (i := 0) (kI n'))
    have HXF := Lib.hid hX
    have HSTEP := Lib.hid hstep
    obtain ⟨_, _, _, _, _, _, _, q2, qb, qm, qH, _⟩ := hX _ _ _ _ hsX
    have hwi : Wi.heap.size < Wl.heap.size := World.block_lt_of_cell? Wl ⟨Wi.heap.size, 0, none⟩ (HH.out Wl qH).2.2.1
    clear qH
    have HSX := Lib.hid hsX
    have HUN := Lib.hid hu
    have hlo : k2 + 4 ≤ Wl.heap.size := by omega
    clear hX hstep hsX hu hs hs4 hsz hHX
    have hst := purse_all_stops (9 - 1) (by omega) k2 b m es clk D Wl q2 qb qm hm HKD.out (by omega)
    clear q2 qb qm
    refine (wpIn_wide (n := 9)).1 ?_
    apply wpIn_rangeFunc_ownG (F := Fence.wide) (n := 9) rfl (by omega) (gf := 63) (lb := #[.pointer (some ⟨k2, 0, none⟩)]) rfl trivial (enters_of Try.func63 (by kernel_rfl) rfl)
      hst KeepsAbove.trans (fun W l o o' _ h1 h2 h3 => KeepsAbove.put _ W l o o' h1 h2 h3) (Below.refl _ _) (fun _ => rfl)
      (PRowsI D Wl.heap.size HX)
      (PRowsX D)
      (fun s W W' row hI hg hr => hI.grown (HUN.out) hg hr)
      (fun c s W W' row hI _ _ => hI)
      ⟨Nat.le_refl _, 0, 0, 0, HSX.out, fun _ => ⟨rfl, rfl, .inl rfl⟩⟩ _ ?assign ?body ?done ?stop
    case assign =>
      intro l x W K hK
      have HK := Lib.hid hK
      clear hK
      gi_wp2
      exact HK.out
    case body =>
      rintro l pre x W ⟨hB, n, la, su, hsW, hgood⟩ hlen
      obtain ⟨d0, d1, d2, e0, e1, e2, cp, _, _, _, hH1, F', hPW⟩ := HXF.out W n la su hsW
      have HG := Lib.hid hgood
      have HSW := Lib.hid hsW
      have HP := Lib.hid hPW
      have hl1 : 1 ≤ 9 - 1 - 1 := by omega
      have k3 : k2 + 1 + 1 + 1 < Wl.heap.size := by omega
      clear hgood hsW hPW hst
      by_cases hg : pre ++ [x] <+: rowsP D
      · have hpre : pre <+: rowsP D := (List.prefix_append _ _).trans hg
        obtain ⟨g1, g2, g3⟩ := rows_next hpi hnd hg
        obtain ⟨r1, r2, r3⟩ := HG.out hpre
        have hsum := prefix_sum (hg.map (·.2)) (rowsP_pos hpi hnd)
        have hsum0 := prefix_sum (hpre.map (·.2)) (rowsP_pos hpi hnd)
        rw [rowsP_sum hnd, hpi.2.1] at hsum hsum0
        have hlen2 : pre.length ≤ 200 := by
          have := hg.length_le
          rw [rowsP_len] at this
          simp at this
          omega
        have hbig := hpi.2.2
        have hnew : PRowsI D Wl.heap.size HX (pre ++ [x]) (((W.setCell ⟨k2 + 1 + 1, 0, none⟩ (kI x.1)).setCell ⟨k2 + 1, 0, none⟩ (kI (wrap64 (su + x.2)))).setCell ⟨k2 + 1 + 1 + 1, 0, none⟩ (kI (wrap64 (n + 1)))) := by
          refine ⟨by simpa [World.setCell] using hB, _, _, _, HSTEP.out W n la su _ _ _ HSW.out, fun _ => ⟨?_, ?_, .inr ⟨x, by simp, rfl⟩⟩⟩
          · rw [IntWalk.wrap64_in _ (by omega), r1]; simp
          · rw [List.map_append, List.sum_append] at hsum ⊢
            simp only [List.map_cons, List.map_nil, List.sum_cons, List.sum_nil] at hsum ⊢
            rw [r2, IntWalk.wrap64_in _ (by omega)]; omega
        have t1 : ¬ x.2 < 1 := by omega
        have t2 : (of D x.1 == x.2) = true := by rw [g2]; exact beq_self_eq_true _
        have t2' : (of D x.1 != x.2) = false := by rw [bne, t2]; rfl
        have t3 : ¬ 0 < n ∨ (0 < n ∧ ¬ x.1 ≤ la) := by
          rcases r3 with rfl | ⟨y, h1, h2⟩
          · left; rw [r1]; simp
          · have := g3 y h1
            omega
        have HN := Lib.hid hnew
        clear hg hpre g1 g2 g3 r1 r2 r3 hsum hsum0 hnew HG
        rcases t3 with t3 | ⟨t3, t4⟩
        all_goals
          gi_wp2_with fail
          refine ⟨trivial, ?_⟩
          refine (CallsIn.inRound l (callsIn_wide.2 (of_any b D s F' x.1 W HP.out))).mono ?_
          rintro e w9 ⟨rfl, rfl⟩
          gi_wp2_with fail
          exact ⟨(((KeepsOthers.setCell _ _ _).trans (KeepsOthers.setCell _ _ _)).trans (KeepsOthers.setCell _ _ _)).from _, ((KeepsAbove.setCell (by omega) _ _ _).trans (KeepsAbove.setCell (by omega) _ _ _)).trans (KeepsAbove.setCell (by omega) _ _ _), HN.out⟩
      · have HNG := Lib.hid hg
        clear hg HG
        obtain ⟨_, _, f0, f1⟩ := HH.out W hH1
        by_cases t1 : x.2 < 1
        · gi_wp2_with fail
          refine ⟨trivial, ?_⟩
          gi_wp2_with fail
          exact ⟨(KeepsOthers.setCell _ _ _).from _, rfl, HNG.out⟩
        · gi_wp2_with fail
          refine ⟨trivial, ?_⟩
          refine (CallsIn.inRound l (callsIn_wide.2 (of_any b D s F' x.1 W HP.out))).mono ?_
          rintro e w9 ⟨rfl, rfl⟩
          have hnew : PRowsI D Wl.heap.size HX (pre ++ [x]) (((W.setCell ⟨k2 + 1 + 1, 0, none⟩ (kI x.1)).setCell ⟨k2 + 1, 0, none⟩ (kI (wrap64 (su + x.2)))).setCell ⟨k2 + 1 + 1 + 1, 0, none⟩ (kI (wrap64 (n + 1)))) :=
            ⟨by simpa [World.setCell] using hB, _, _, _, HSTEP.out W n la su _ _ _ HSW.out, fun h => absurd h HNG.out⟩
          have HN := Lib.hid hnew
          clear hnew
          gi_wp2_with fail
          all_goals first
            | exact ⟨(KeepsOthers.setCell _ _ _).from _, rfl, HNG.out⟩
            | exact ⟨(((KeepsOthers.setCell _ _ _).trans (KeepsOthers.setCell _ _ _)).trans (KeepsOthers.setCell _ _ _)).from _, ((KeepsAbove.setCell (by omega) _ _ _).trans (KeepsAbove.setCell (by omega) _ _ _)).trans (KeepsAbove.setCell (by omega) _ _ _), HN.out⟩
    case done =>
      rintro Dk ys W hDk rfl ⟨hB, n, la, su, hsW, hgood⟩ hK
      obtain ⟨r1, r2, _⟩ := hgood (List.prefix_refl _)
      rw [rowsP_sum hnd, hpi.2.1] at r2
      subst r2
      obtain ⟨d0, d1, d2, e0, e1, e2, cp, _, _, _, hH1, F', hPW⟩ := HXF.out W n la su hsW
      obtain ⟨_, _, f0, f1⟩ := HH.out W hH1
      have hb1 : Sat (W.setCell ⟨Wi.heap.size, 0, none⟩ (.bool true)).drew (allOf Wi) ∧ (W.setCell ⟨Wi.heap.size, 0, none⟩ (.bool true)).drew.cell? ⟨Wi.heap.size, 0, none⟩ = some (.bool true) ∧ (W.setCell ⟨Wi.heap.size, 0, none⟩ (.bool true)).drew.heap[Dk]? = some (.deferred (some [])) := by
        have h1 := hH1
        rw [← HH1.out] at h1
        have h2 := (h1.tail.setCell (i := 0) (.bool true)).drew
        refine ⟨h2.tail, by rw [cell_of h2.h0]; rfl, ?_⟩
        exact (KeepsOthers.setCell W ⟨Wi.heap.size, 0, none⟩ (.bool true)).same Dk _ hK rfl
      obtain ⟨hb2, hb3, hb4⟩ := hb1
      have hb5 : Sat ((W.setCell ⟨Wi.heap.size, 0, none⟩ (.bool true)).drew.putObj Dk (.deferred none)) (allOf Wi) := by
        refine hb2.ownGrown (B := Wi.heap.size) (fun c o ho => (sat_all Wi).lt ho) (grownBy_putObj' _ Dk (.deferred none)) (fun r e => by cases e; exact ⟨by omega, _, hb4, rfl⟩)
      have hb6 : ((W.setCell ⟨Wi.heap.size, 0, none⟩ (.bool true)).drew.putObj Dk (.deferred none)).cell? ⟨Wi.heap.size, 0, none⟩ = some (.bool true) :=
        cell_kept hb3 (grownBy_putObj' _ Dk (.deferred none)) (fun r e => by cases e; exact ⟨_, hb4, rfl⟩)
      have HB4 := Lib.hid hb4
      have HB5 := Lib.hid hb5.below
      clear hb2 hb3 hb4 hb5 hK hsW hst
      have hPD := hPW.drew
      have HPD := Lib.hid hPD
      clear hPW hPD
      go_wp2_with fail
      refine wp_region_noPanic ?_
      go_region_with ((go_at_call 17; refine (sum_any b D _ F' _ HPD.out).mono ?_; rintro e w9 ⟨rfl, rfl⟩))
      all_goals
        refine NoPanic.normal ?_
        go_wp2_with fail
        refine ⟨by simp, .inl ⟨_, _, rfl, run_takeDeferred HB4.out, ?_⟩⟩
        refine ⟨_, ?_, rfl, HB5.out⟩
        simp [results, Try.f11, go_sem, hb6]
    case stop =>
      rintro Dk c pre W hDk hpre ⟨rfl, hn⟩ hK
      exact absurd hpre hn
end Go.Proofs.Ytbjomkbiljpjmaa
