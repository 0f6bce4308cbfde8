/- RingGoes walked. Conditions: none. -/
import Derived.Test.YtbjomkbiljpjmaaRGoesM
import Derived.Test.YtbjomkbiljpjmaaRing09
import Derived.Test.YtbjomkbiljpjmaaArgs9
namespace Go.Proofs.Ytbjomkbiljpjmaa
open Go Go.MapKept Go.RowKit Go.Proofs Go.Shelf

attribute [local go_sem] Oper.semAt_some

/-- Between two rounds; what is left where the things came in their order. -/
def GoSt (B rb fb m hand : Nat) (HX : Int → Heaplet) (R : List (Int × Int)) (pre : List (Int × Int)) (W : World) : Prop :=
  B ≤ W.heap.size ∧ ∃ L n, RI.RingU B rb fb m L hand (HX n) W ∧ (pre <+: R → RI.rowsR (bare L) = R.drop pre.length ∧ n = pre.length)
def GoI (B rb fb m hand : Nat) (HX : Int → Heaplet) (R : List (Int × Int)) (stop : Int) (pre : List (Int × Int)) (W : World) : Prop :=
  GoSt B rb fb m hand HX R pre W ∧ (pre <+: R → stop < 1 ∨ (pre.length : Int) < stop)
def GoX (B rb fb m hand : Nat) (HX : Int → Heaplet) (R : List (Int × Int)) (stop : Int) (c : Code) (pre : List (Int × Int)) (W : World) : Prop :=
  c = .exit 2 ∧ GoSt B rb fb m hand HX R pre W ∧ (pre <+: R → (pre.length : Int) = stop ∧ 1 ≤ stop)
theorem GoSt.grown {B rb fb m hand : Nat} {HX : Int → Heaplet} {R pre : List (Int × Int)} {W W' : World} {row : Option Nat} (h : GoSt B rb fb m hand HX R pre W) (hg : W.grownBy W' row)
    (hr : ∀ r, row = some r → B ≤ r ∧ ∃ o : Obj, W.heap[r]? = some o ∧ o.isCells = false) : GoSt B rb fb m hand HX R pre W' := by
  obtain ⟨h1, L, n, h2, h3⟩ := h
  exact ⟨Nat.le_trans h1 hg.size, L, n, h2.grown hg hr, h3⟩
theorem sat_midSet {w : World} {G r : Heaplet} {b i : Nat} {c : Array Value} {t : TypeId} {z : Nat × Nat} (s : Sat w (G ++ (.blk b (.cells c t z) :: r))) (v : Value) : Sat (w.setCell ⟨b, i, none⟩ v) (G ++ (.blk b (.cells (c.setIfInBounds i v) t z) :: r)) :=
  ((s.perm List.perm_middle).setCell v).perm (List.perm_middle).symm
theorem go_next {L L2 : Lst Int} {R pre : List (Int × Int)} {x : Int × Int} (hu : KUniq (keysOf (bare L))) (hg : pre ++ [x] <+: R) (hr : RI.rowsR (bare L) = R.drop pre.length) (hd : ∀ i f, findF (bare L) x.1 = some (i, f) → L2 = L.set i none) :
    RI.rowsR (bare L2) = R.drop (pre ++ [x]).length := by
  obtain ⟨tl, rfl⟩ := hg
  rw [List.append_assoc, List.drop_left] at hr
  obtain ⟨i, f, h1, h2, h3⟩ := RI.rowsR_head hr
  have hk := idxK_of (k := x.1) hu (by rw [keysOf_get h1, ← h2]; rfl)
  rw [hd i f (findF_of hk h1), bare_set]
  rw [List.drop_left]
  exact h3
theorem ringIs_below {rb hand : Nat} {fr : Frs Int} {F : Heaplet} {w w' : World} (h : RI.RingIs rb fr hand F w) (hb : RowKit.Below w.heap.size w w') : RI.RingIs rb fr hand F w' := by
  obtain ⟨L, e, h0, fb, m, es, clk, D, q1, q2, q3⟩ := h
  exact ⟨L, e, h0, fb, m, es, clk, D, q1, q2, q3.monoB hb⟩
theorem ringIs_drewN {rb hand : Nat} {fr : Frs Int} {F : Heaplet} {w : World} (h : RI.RingIs rb fr hand F w) (n : Nat) : RI.RingIs rb fr hand F (w.drewN n) := by
  obtain ⟨L, e, h0, fb, m, es, clk, D, q1, q2, q3⟩ := h
  exact ⟨L, e, h0, fb, m, es, clk, D, q1, q2, q3.of_heap rfl ⟨rfl, rfl, rfl⟩⟩
def GoJ (rb : Nat) (H : Heaplet) (w : World) : Prop := ∃ fr hand, RI.RingIs rb fr hand H w
set_option maxRecDepth 100000 in
set_option maxHeartbeats 40000000 in
theorem goes_walk (p : Option Addr) (len cap : Nat) (A : Nat → Int) (stop : Int) (Wi : World) (ha : IntSlice Wi p len A) (_ : -9223372036854775808 ≤ stop) (_ : stop ≤ 9223372036854775807) :
    Calls Try.prog 9 #[.slice p len cap, .int .i64 stop] Wi (Ret (.bool true) (RowKit.Below Wi.heap.size Wi)) := by
  have Ha := Lib.hid ha
  have hlen := ha.1
  clear ha
  refine (callsIn_wide (n := 9)).1 ?_
  refine callsIn_of_wp_marks Try.func9 rfl trivial ?_ rfl
  simp only [Try.ntmps9, List.size_toArray, List.length_cons, List.length_nil, Nat.reduceAdd, Nat.reduceSub, Array.replicate_succ, Array.replicate_zero, List.push_toArray, List.append_toArray, List.nil_append, List.cons_append]
  refine wpIn_wide.2 ?_
  have h0 := (sat_all Wi).new (.cells #[.int .i64 stop] 3)
  go_wp2_with fail
  refine (awake9 _ _ h0).mono ?_
  rintro e w1 ⟨rfl, hs1⟩
  clear h0
  go_wp2_with fail
  refine (RI.new_any _ 64 w1 hs1).mono ?_
  rintro e w2 ⟨rb, rfl, h2⟩
  have hp1 := h2.new (.cells #[.pointer (some ⟨rb, 0, none⟩)] 36)
  obtain ⟨c, hc⟩ : ∃ c, w2.heap.size = c := ⟨_, rfl⟩
  rw [hc] at hp1
  obtain ⟨H1, hH1⟩ : ∃ H1, HItem.blk c (.cells #[.pointer (some ⟨rb, 0, none⟩)] 36) :: .blk Wi.heap.size (.cells #[.int .i64 stop] 3) :: allOf Wi = H1 := ⟨_, rfl⟩
  rw [hH1] at hp1
  have hJ : GoJ rb H1 (w2.alloc (.cells #[.pointer (some ⟨rb, 0, none⟩)] 36)) := ⟨_, _, hp1⟩
  have hH : ∀ w, Sat w H1 → w.cell? ⟨c, 0, none⟩ = some (.pointer (some ⟨rb, 0, none⟩)) ∧ w.cell? ⟨Wi.heap.size, 0, none⟩ = some (.int .i64 stop) ∧ w.frozen? ⟨Wi.heap.size, 0, none⟩ = false ∧ Sat w (allOf Wi) := by
    intro w hw
    rw [← hH1] at hw
    exact ⟨by rw [cell_of hw.h0]; rfl, by rw [cell_of hw.h1]; rfl, unfrozen_of hw.h1 0, hw.tail.tail⟩
  have HH1 := Lib.hid hH1
  have HH := Lib.hid hH
  have HJ := Lib.hid hJ
  clear hs1 h2 hp1 hH1 hJ hH
  go_upto_block 0 with (fail)
  clear hc
  go_cut [] from 6 to 36 (fun wx => GoJ rb H1 wx)
  case first =>
    go_wp2_with fail
    go_loopw [6] (fun i wr => ∃ k : Nat, k ≤ len ∧ k ≤ 64 ∧ i = .int .i64 k ∧ GoJ rb H1 wr) (fun i _ => 200 - (intOf i).toNat)
    case atStart => exact ⟨0, by omega, by omega, rfl, HJ.out⟩
    case round =>
      obtain ⟨k, hk1, hk2, rfl, fr, hand, hring⟩ := hrel
      clear HJ
      by_cases hlt : k < len ∧ k < 64
      · obtain ⟨hlt1, hlt2⟩ := hlt
        obtain ⟨ba, off, rfl, hba, hA, _, _⟩ := (Ha.out).2 k hlt1
        obtain ⟨cp, _, _, hs⟩ := HH.out _ hring.frame
        have c0 := (hs.cellOld (a := ⟨ba, off + k, none⟩) hba).trans hA
        have hk0 : (0 : Int) ≤ (k : Int) := by omega
        have hrd : RI.RingIs rb fr hand H1 wr.drew := by
          obtain ⟨L, e, h⟩ := hring
          exact ⟨L, e, h.drew⟩
        have hput := RI.put_any rb fr hand H1 wr.drew hrd (A k) (k : Int)
        have HP := Lib.hid hput
        clear hput hrd hs hring hA
        go_upto_region 7 with (fail)
        go_still_tail 6, (by kernel_rfl)
        change wpList _ _ _ _ _ (World.drew _)
        go_wp2_with fail
        refine (HP.out).mono ?_
        rintro e w3 ⟨rfl, h3⟩
        have HJ3 : Hid (GoJ rb H1 w3) := Lib.hid ⟨_, _, h3⟩
        clear h3 HP
        go_wp2_with fail
        go_roundw
        case rel => exact ⟨k + 1, by omega, by omega, by go_num, HJ3.out⟩
        case measure => simp [intOf]; omega
      · have hx : ¬ (k < len) ∨ (k < len ∧ ¬ (k < 64)) := by omega
        have HE : Hid (GoJ rb H1 wr) := Lib.hid ⟨fr, hand, hring⟩
        clear hring hlt
        rcases hx with hx | ⟨hx1, hx⟩
        all_goals
          go_wp2_with fail
          go_meet
          exact HE.out
  case rest =>
    clear HJ
    obtain ⟨fr, hand, hring⟩ := hcut
    obtain ⟨cp, cst, _, _⟩ := HH.out _ hring.frame
    have hfn : ∀ w, (binOp .eql 73 (.func (.func 61) #[] #[.pointer (some ⟨wc.heap.size, 0, none⟩)]) .nilFunc).run Try.prog w = .ok (.bool false) w := fun w => by kernel_rfl
    have hle := RI.len_any rb fr hand H1 wc hring
    have HLE := Lib.hid hle
    have HR := Lib.hid hring
    clear hle hring
    go_wp2_with fail
    refine (HLE.out).mono ?_
    rintro e w3 ⟨rfl, rfl⟩
    go_wp2_with fail
    refine (RI.ring_all rb _).mono ?_
    rintro e w4 ⟨rfl, rfl⟩
    go_wp2_with fail
    obtain ⟨L, hbl, hP⟩ := HR.out
    have hP4 := (hP.new (.cells #[.pointer (some ⟨rb, 0, none⟩)] 36)).new (.cells #[.int .i64 0] 3)
    simp only [World.size_alloc] at hP4
    have hwant : fullK (keysOf fr) = (RI.rowsR (bare L)).length := by rw [← hbl]; exact RI.rowsR_full _
    have hRl : (RI.rowsR (bare L)).length ≤ 64 := by
      have h1 := RI.rowsR_len (bare L)
      have h2 := RI.nowR_len (bare L)
      have h3 := hP.1.2.2.1
      have h4 : (bare L).length = L.length := by simp [bare]
      omega
    rw [hwant]
    generalize hk2 : wc.heap.size = k2 at *
    obtain ⟨HX, hHX⟩ : ∃ HX : Int → Int → Heaplet, HX = fun st n => HItem.blk (k2 + 1) (.cells #[kI n] 3) :: .blk k2 (.cells #[.pointer (some ⟨rb, 0, none⟩)] 36) :: .blk c (.cells #[.pointer (some ⟨rb, 0, none⟩)] 36) :: .blk Wi.heap.size (.cells #[.int .i64 st] 3) :: allOf Wi := ⟨_, rfl⟩
    have hPX : RI.RingP rb (ptrs L) L hand (HX stop 0) ((wc.alloc (.cells #[.pointer (some ⟨rb, 0, none⟩)] 36)).alloc (.cells #[.int .i64 0] 3)) := by
      rw [hHX]
      rw [← HH1.out] at hP4
      exact hP4
    have hsz : ((wc.alloc (.cells #[.pointer (some ⟨rb, 0, none⟩)] 36)).alloc (.cells #[.int .i64 0] 3)).heap.size = k2 + 2 := by simp [hk2]
    generalize (wc.alloc (.cells #[.pointer (some ⟨rb, 0, none⟩)] 36)).alloc (.cells #[.int .i64 0] 3) = Wl at *
    obtain ⟨fb, m, es, clk, hF⟩ := RI.RingP.ringF hPX
    have hU : RI.RingU Wl.heap.size rb fb m L hand (HX stop 0) Wl := ⟨es, clk, hF, hF.sat.under⟩
    have hX : ∀ W st n, Sat W (HX st n) → W.cell? ⟨k2 + 1, 0, none⟩ = some (kI n) ∧ W.frozen? ⟨k2 + 1, 0, none⟩ = false ∧ W.cell? ⟨k2, 0, none⟩ = some (.pointer (some ⟨rb, 0, none⟩)) ∧ W.cell? ⟨c, 0, none⟩ = some (.pointer (some ⟨rb, 0, none⟩)) ∧ W.cell? ⟨Wi.heap.size, 0, none⟩ = some (.int .i64 st) ∧ W.frozen? ⟨Wi.heap.size, 0, none⟩ = false ∧ Sat W (allOf Wi) := by
      intro W st n hW
      rw [hHX] at hW
      exact ⟨by rw [cell_of hW.h0]; rfl, unfrozen_of hW.h0 0, by rw [cell_of hW.h1]; rfl, by rw [cell_of hW.h2]; rfl, by rw [cell_of hW.h3]; rfl, unfrozen_of hW.h3 0, hW.tail.tail.tail.tail⟩
    have hcB : ∀ n, HItem.blk (k2 + 1) (.cells #[kI n] 3) ∈ HX stop n := fun n => by rw [hHX]; exact .head _
    have hset : ∀ (L' : Lst Int) (W : World) n n', RI.RingU Wl.heap.size rb fb m L' hand (HX stop n) W → RI.RingU Wl.heap.size rb fb m L' hand (HX stop n') (W.setCell ⟨k2 + 1, 0, none⟩ (kI n')) := by
      intro L' W n n' h
      have h' := h
      obtain ⟨es', clk', hF', hUn⟩ := h'
      refine h.reF (fun G s => ?_) (fun b o hb => ?_)
      · rw [hHX] at s ⊢
        exact sat_midSet (i := 0) s (kI n')
      · rw [hHX] at hb
        have hq : ∀ b o, HItem.blk b o ∈ HX stop n → b < Wl.heap.size := fun b o hm => hUn b o (List.mem_append_right _ hm)
        rw [hHX] at hq
        rcases List.mem_cons.1 hb with e | hb
        · simp only [HItem.blk.injEq] at e
          obtain ⟨rfl, _⟩ := e
          exact hq _ _ (.head _)
        · exact hq b o (.tail _ hb)
    have hset2 : ∀ (L' : Lst Int) (W : World) n st', RI.RingIs rb (bare L') hand (HX stop n) W → RI.RingIs rb (bare L') hand (HX st' n) (W.setCell ⟨Wi.heap.size, 0, none⟩ (kI st')) := by
      rintro L' W n st' ⟨L2, e2, h0, fb', m', es', clk', D', q1, q2, q3⟩
      refine ⟨L2, e2, h0, fb', m', es', clk', D', q1, q2, ?_⟩
      rw [hHX] at q3 ⊢
      have ea : ∀ (A : Heaplet) x y z b r, (A ++ [x, y, z]) ++ (b :: r) = A ++ (x :: y :: z :: b :: r) := by intros; simp
      have q4 := sat_midSet (i := 0) (G := (HItem.blk rb _ :: .blk fb' _ :: .blk m' _ :: frH _ _ L2) ++ [.blk (k2 + 1) _, .blk k2 _, .blk c _]) (by rw [ea]; exact q3) (kI st')
      rw [ea] at q4
      exact q4
    have HXF := Lib.hid hX
    have HCB := Lib.hid hcB
    have HSET := Lib.hid hset
    have HSET2 := Lib.hid hset2
    have HU := Lib.hid hU
    obtain ⟨_, _, qk, _, _, _, _⟩ := hX _ _ _ hPX.frame
    have hst := RI.ring_all_stops (9 - 1) (by omega) k2 rb L hand (HX stop 0) Wl qk hPX
    have hkB : k2 + 1 + 1 = Wl.heap.size := by omega
    have HHX := Lib.hid hHX
    clear hX hcB hset hset2 hU hF hPX hP4 qk hsz HR hP cp cst hk2 hHX
    obtain ⟨R, hR⟩ : ∃ R, RI.rowsR (bare L) = R := ⟨_, rfl⟩
    rw [hR] at hst hRl hwant ⊢
    refine (wpIn_wide (n := 9)).1 ?_
    apply wpIn_rangeFunc_ownG (F := Fence.wide) (n := 9) rfl (by omega) (gf := 61) (lb := #[.pointer (some ⟨k2, 0, none⟩)]) rfl trivial (enters_of Try.func61 (by kernel_rfl) rfl)
      hst KeepsAbove.trans (fun W l o o' _ h1 h2 h3 => KeepsAbove.put _ W l o o' h1 h2 h3) (Below.refl _ _) (fun _ => rfl)
      (GoI Wl.heap.size rb fb m hand (HX stop) R stop)
      (GoX Wl.heap.size rb fb m hand (HX stop) R stop)
      (fun s W W' row hI hg hr => ⟨hI.1.grown hg hr, hI.2⟩)
      (fun c s W W' row hI hg hr => ⟨hI.1, hI.2.1.grown hg hr, hI.2.2⟩)
      ⟨⟨Nat.le_refl _, L, 0, HU.out, fun _ => ⟨hR, rfl⟩⟩, fun _ => by simp; omega⟩ _ ?assign ?body ?done ?stop
    case assign =>
      intro l x W K hK
      have HK := Lib.hid hK
      clear hK
      gi_wp2
      exact HK.out
    case body =>
      rintro l pre x W ⟨⟨hB, L1, n, hU1, hgood⟩, hst1⟩ hlen1
      obtain ⟨d0, e0, _, cp, cst, _, _⟩ := HXF.out W stop n hU1.ringP.frame
      have hun : KUniq (keysOf (bare L1)) := (show RI.RingIs rb (bare L1) hand _ W from ⟨L1, rfl, hU1.ringP⟩).uniq
      have hdel := RI.del_U hU1 hB (HCB.out n) hkB x.1
      have HD := Lib.hid hdel
      have HG := Lib.hid (And.intro hgood hst1)
      have HUQ := Lib.hid hun
      have hl1 : 1 ≤ 9 - 1 - 1 := by omega
      have k3 : k2 + 1 < Wl.heap.size := by omega
      clear hdel hgood hst1 hun hU1 hst
      gi_wp2_with fail
      refine ⟨trivial, ?_⟩
      refine (CallsIn.inRound l (callsIn_wide.2 HD.out)).mono ?_
      rintro e W2 ⟨v, b, L2, rfl, hU2, hkf, hka, hdl⟩
      clear d0 e0 cp cst
      obtain ⟨d0, e0, _, cp, cst, _, _⟩ := HXF.out W2 stop n hU2.ringP.frame
      have hnew : GoSt Wl.heap.size rb fb m hand (HX stop) R (pre ++ [x]) (W2.setCell ⟨k2 + 1, 0, none⟩ (kI (wrap64 (n + 1)))) ∧ (pre ++ [x] <+: R → wrap64 (n + 1) = (pre ++ [x]).length ∧ (stop < 1 ∨ (pre.length : Int) < stop)) := by
        have hq : pre ++ [x] <+: R → wrap64 (n + 1) = ((pre ++ [x]).length : Int) := by
          intro hg
          have hpre : pre <+: R := (List.prefix_append _ _).trans hg
          obtain ⟨_, r2⟩ := HG.out.1 hpre
          have := hg.length_le
          rw [List.length_append] at this ⊢
          simp only [List.length_cons, List.length_nil] at this ⊢
          rw [IntWalk.wrap64_in _ (by omega)]
          omega
        refine ⟨⟨by have := hkf.size; simp only [World.setCell, Array.size_modify]; omega, L2, wrap64 (n + 1), HSET.out L2 W2 n _ hU2, fun hg => ⟨?_, hq hg⟩⟩, fun hg => ⟨hq hg, HG.out.2 ((List.prefix_append _ _).trans hg)⟩⟩
        exact go_next HUQ.out hg (HG.out.1 ((List.prefix_append _ _).trans hg)).1 hdl
      have hkf2 := hkf.trans ((KeepsOthers.setCell W2 ⟨k2 + 1, 0, none⟩ (kI (wrap64 (n + 1)))).from _)
      have hka2 := hka.trans (KeepsAbove.setCell k3 W2 0 (kI (wrap64 (n + 1))))
      obtain ⟨f0, _, _, _, f4, _, _⟩ := HXF.out _ stop _ (HSET.out L2 W2 n (wrap64 (n + 1)) hU2).ringP.frame
      have HN := Lib.hid hnew
      have HK := Lib.hid (And.intro hkf2 hka2)
      clear hnew hU2 hkf hka hdl hkf2 hka2 HD HG HUQ
      by_cases hz : wrap64 (n + 1) = stop
      · have hzb : (wrap64 (n + 1) == stop) = true := by simpa using hz
        have HZ := Lib.hid hz
        clear hz
        gi_wp2_with fail
        refine ⟨HK.out.1, rfl, HN.out.1, fun hg => ?_⟩
        have := HN.out.2 hg
        rw [List.length_append] at this ⊢
        simp only [List.length_cons, List.length_nil] at this ⊢
        have := HZ.out
        omega
      · have hzb : (wrap64 (n + 1) == stop) = false := by simpa using hz
        have HZ := Lib.hid hz
        clear hz
        gi_wp2_with fail
        refine ⟨HK.out.1, HK.out.2, HN.out.1, fun hg => ?_⟩
        have := HN.out.2 hg
        rw [List.length_append] at this ⊢
        simp only [List.length_cons, List.length_nil] at this ⊢
        have := HZ.out
        omega
    case done =>
      rintro Dk ys W hDk hys ⟨⟨hB, L1, n, hU1, hgood⟩, hst1⟩ hK
      have hpr : ys <+: R := by rw [hys]; exact List.prefix_refl _
      obtain ⟨r1, r2⟩ := hgood hpr
      have r3 := hst1 hpr
      rw [hys] at r1 r2 r3
      clear hgood hst1 hpr hys
      obtain ⟨z, hz⟩ : ∃ z, R.length = z := ⟨_, rfl⟩
      rw [hz] at r2 r3 hwant hRl
      subst r2
      have hfull : fullK (keysOf (bare L1)) = 0 := by rw [RI.rowsR_full, r1, List.drop_length]; rfl
      obtain ⟨d0, e0, _, cp, cst, f4, _⟩ := HXF.out W stop z hU1.ringP.frame
      have hwi : Wi.heap.size < Wl.heap.size := by
        obtain ⟨es', clk', hF', hUn⟩ := hU1
        have := hUn Wi.heap.size (.cells #[.int .i64 stop] 3) (List.mem_append_right _ (by rw [HHX.out]; exact .tail _ (.tail _ (.tail _ (.head _)))))
        exact this
      have hI := HSET2.out L1 W z (z : Int) ⟨L1, rfl, hU1.ringP⟩
      have hKD : (W.setCell ⟨Wi.heap.size, 0, none⟩ (kI (z : Int))).heap[Dk]? = some (.deferred (some [])) := (KeepsOthers.setCell W ⟨Wi.heap.size, 0, none⟩ (kI (z : Int))).same Dk _ hK rfl
      have HI := Lib.hid hI
      have HKD := Lib.hid hKD
      have HFL := Lib.hid hfull
      have hz64 : (z : Int) ≤ 64 := by omega
      have hz0 : (0 : Int) ≤ (z : Int) := by omega
      rw [hz]
      clear hst hU1 hI hKD hfull hK r1 d0 e0 hz
      have r4 : stop < 1 ∨ (¬ stop < 1 ∧ (z : Int) < stop) := by omega
      clear r3
      go_upto_region 18 with (fail)
      go_cut [59] from 53 to 60 (fun v wx => v = .bool true ∧ wx = W)
      case first =>
        rcases r4 with r4 | ⟨r4, r5⟩
        all_goals
          go_wp2_with fail
          go_meet
          exact ⟨rfl, rfl⟩
      case rest =>
        obtain ⟨rfl, rfl⟩ := hcut
        clear r4
        go_wp2_with fail
        clear cp cst
        have hIa := HI.out
        have hKa := HKD.out
        clear HI HKD f4
        generalize World.setCell _ ⟨Wi.heap.size, 0, none⟩ (kI (z : Int)) = Wa at *
        refine (RI.put_nil 1 1 _).mono ?_
        rintro e Wb ⟨rfl, hbel⟩
        have hIb : RI.RingIs rb (bare L1) hand (HX z z) Wb := ringIs_below hIa hbel
        have hKb : Wb.heap[Dk]? = some (.deferred (some [])) := (hbel.block Dk (Array.getElem?_eq_some_iff.1 hKa).1).trans hKa
        have hIc := hIb.new (.cells #[.int .i64 0, kI 0, .bool false] 39)
        have hKc : (Wb.alloc (.cells #[.int .i64 0, kI 0, .bool false] 39)).heap[Dk]? = some (.deferred (some [])) := (Below.heap_alloc _ _ _ (Array.getElem?_eq_some_iff.1 hKb).1).trans hKb
        obtain ⟨d0, e0, _, cp, cst, _, hall⟩ := HXF.out _ z z hIc.frame.tail
        have HIC := Lib.hid hIc
        have HKC := Lib.hid hKc
        have HAL := Lib.hid hall
        clear hIa hKa hIb hKb hIc hKc hbel hall
        rw [show RI.outV none = .agg #[.int .i64 0, kI 0, .bool false] from rfl]
        go_wp2_with fail
        refine (RI.get_nil 1 _).mono ?_
        rintro e Wx ⟨rfl, rfl⟩
        generalize Wb.alloc (.cells #[.int .i64 0, kI 0, .bool false] 39) = Wz at *
        have hkz : ∀ n, (Wz.drewN n).heap[Dk]? = some (.deferred (some [])) := fun n => HKC.out
        have hbz : ∀ n, RowKit.Below Wi.heap.size Wi ((Wz.drewN n).putObj Dk (.deferred none)) := fun n => by
          have hs : Sat (Wz.drewN n) (allOf Wi) := HAL.out.of_heap rfl ⟨rfl, rfl, rfl⟩
          refine (hs.ownGrown (B := Wi.heap.size) (fun c o ho => (sat_all Wi).lt ho) (grownBy_putObj' _ Dk (.deferred none)) (fun r e => by cases e; exact ⟨by omega, _, hkz n, rfl⟩)).below
        have HKZ := Lib.hid hkz
        have HBZ := Lib.hid hbz
        have HQ1 : Hid (∀ n, Calls Try.prog 22 #[.pointer (some ⟨rb, 0, none⟩)] (Wz.drewN n) (fun e w'' => e = .returned (.int .i64 (fullK (keysOf (bare L1)))) ∧ ∃ m, w'' = Wz.drewN m)) := Lib.hid fun n => Calls.quiet_of_same ((RI.len_any rb (bare L1) hand _ _ (ringIs_drewN HIC.out n)).mono fun _ _ h => ⟨h.1, h.2.symm⟩)
        have HQ2 : Hid (∀ n, Calls Try.prog 22 #[.pointer none] (Wz.drewN n) (fun e w'' => e = .returned (.int .i64 0) ∧ ∃ m, w'' = Wz.drewN m)) := Lib.hid fun n => Calls.quiet_of_same ((RI.len_nil _).mono fun _ _ h => ⟨h.1, h.2.symm⟩)
        have HQ3 : Hid (∀ n, Calls Try.prog 23 #[.pointer none, .int .i64 1] (Wz.drewN n) (fun e w'' => e = .returned (.bool false) ∧ ∃ m, w'' = Wz.drewN m)) := Lib.hid fun n => Calls.quiet_of_same ((RI.pin_nil 1 _).mono fun _ _ h => ⟨h.1, h.2.symm⟩)
        have HQ4 : Hid (∀ n, Calls Try.prog 43 #[.pointer none, .int .i64 1] (Wz.drewN n) (fun e w'' => e = .returned (.bool false) ∧ ∃ m, w'' = Wz.drewN m)) := Lib.hid fun n => Calls.quiet_of_same ((RI.let_nil 1 _).mono fun _ _ h => ⟨h.1, h.2.symm⟩)
        have HQ5 : Hid (∀ n, Calls Try.prog 24 #[.pointer none, .int .i64 1] (Wz.drewN n) (fun e w'' => e = .returned (.int .i64 0) ∧ ∃ m, w'' = Wz.drewN m)) := Lib.hid fun n => Calls.quiet_of_same ((RI.pins_nil 1 _).mono fun _ _ h => ⟨h.1, h.2.symm⟩)
        have hfl := HFL.out
        rw [hfl] at HQ1
        clear hkz hbz HSET HSET2 HXF HIC HKC HAL hfl
        go_wp2_with fail
        refine wp_region_noPanic ?_
        go_quiet (first | (go_at_call 22; first | (with_reducible exact HQ1.out _) | (with_reducible exact HQ2.out _)) | (go_at_call 23; with_reducible exact HQ3.out _) | (go_at_call 43; with_reducible exact HQ4.out _) | (go_at_call 24; with_reducible exact HQ5.out _))
        refine NoPanic.normal ?_
        go_wp2_with fail
        refine ⟨by simp, .inl ⟨_, _, rfl, run_takeDeferred (HKZ.out _), ?_⟩⟩
        refine ⟨_, ?_, rfl, HBZ.out _⟩
        simp [results, Try.f9, go_sem]
    case stop =>
      rintro Dk cx pre W hDk hpre ⟨rfl, ⟨hB, L1, n, hU1, hgood⟩, hst1⟩ hK
      obtain ⟨r1, r2⟩ := hgood hpre
      obtain ⟨r3, r4⟩ := hst1 hpre
      have hzl := hpre.length_le
      clear hgood hst1
      obtain ⟨z, hz⟩ : ∃ z, pre.length = z := ⟨_, rfl⟩
      rw [hz] at r1 r2 r3 hzl
      subst r2
      subst r3
      clear hz hpre
      obtain ⟨d, hd⟩ : ∃ d, R.length = z + d := ⟨R.length - z, by omega⟩
      have hfull : fullK (keysOf (bare L1)) = d := by rw [RI.rowsR_full, r1, List.length_drop]; omega
      obtain ⟨d0, e0, _, cp, cst, f4, _⟩ := HXF.out W z z hU1.ringP.frame
      have hwi : Wi.heap.size < Wl.heap.size := by
        obtain ⟨es', clk', hF', hUn⟩ := hU1
        have := hUn Wi.heap.size (.cells #[.int .i64 (z : Int)] 3) (List.mem_append_right _ (by rw [HHX.out]; exact .tail _ (.tail _ (.tail _ (.head _)))))
        exact this
      have hIa : RI.RingIs rb (bare L1) hand (HX z z) W := ⟨L1, rfl, hU1.ringP⟩
      have HI := Lib.hid hIa
      have HKD := Lib.hid hK
      have HFL := Lib.hid hfull
      generalize hN : R.length = N at *
      have hz64 : (N : Int) ≤ 64 := by omega
      have hz0 : (0 : Int) ≤ (z : Int) := by omega
      have hzN : (z : Int) ≤ (N : Int) := by omega
      have hdd : (N : Int) - (z : Int) = (d : Int) := by omega
      have r5 : ¬ (z : Int) < 1 := by omega
      have r6 : ¬ (N : Int) < (z : Int) := by omega
      clear hst hU1 hIa hK hfull r1 d0 e0 hd
      refine wpIn_wide.2 ?_
      go_upto_region 18 with (fail)
      go_cut [59] from 53 to 60 (fun v wx => v = .bool false ∧ wx = W)
      case first =>
        go_wp2_with fail
        go_meet
        exact ⟨rfl, rfl⟩
      case rest =>
        obtain ⟨rfl, rfl⟩ := hcut
        clear r5 r6
        go_wp2_with fail
        clear cp cst
        have hIa := HI.out
        have hKa := HKD.out
        clear HI HKD f4
        refine (RI.put_nil 1 1 _).mono ?_
        rintro e Wb ⟨rfl, hbel⟩
        have hIb : RI.RingIs rb (bare L1) hand (HX z z) Wb := ringIs_below hIa hbel
        have hKb : Wb.heap[Dk]? = some (.deferred (some [])) := (hbel.block Dk (Array.getElem?_eq_some_iff.1 hKa).1).trans hKa
        have hIc := hIb.new (.cells #[.int .i64 0, kI 0, .bool false] 39)
        have hKc : (Wb.alloc (.cells #[.int .i64 0, kI 0, .bool false] 39)).heap[Dk]? = some (.deferred (some [])) := (Below.heap_alloc _ _ _ (Array.getElem?_eq_some_iff.1 hKb).1).trans hKb
        obtain ⟨d0, e0, _, cp, cst, _, hall⟩ := HXF.out _ z z hIc.frame.tail
        have HIC := Lib.hid hIc
        have HKC := Lib.hid hKc
        have HAL := Lib.hid hall
        clear hIa hKa hIb hKb hIc hKc hbel hall
        rw [show RI.outV none = .agg #[.int .i64 0, kI 0, .bool false] from rfl]
        go_wp2_with fail
        refine (RI.get_nil 1 _).mono ?_
        rintro e Wx ⟨rfl, rfl⟩
        generalize Wb.alloc (.cells #[.int .i64 0, kI 0, .bool false] 39) = Wz at *
        have hkz : ∀ n, (Wz.drewN n).heap[Dk]? = some (.deferred (some [])) := fun n => HKC.out
        have hbz : ∀ n, RowKit.Below Wi.heap.size Wi ((Wz.drewN n).putObj Dk (.deferred none)) := fun n => by
          have hs : Sat (Wz.drewN n) (allOf Wi) := HAL.out.of_heap rfl ⟨rfl, rfl, rfl⟩
          refine (hs.ownGrown (B := Wi.heap.size) (fun c o ho => (sat_all Wi).lt ho) (grownBy_putObj' _ Dk (.deferred none)) (fun r e => by cases e; exact ⟨by omega, _, hkz n, rfl⟩)).below
        have HKZ := Lib.hid hkz
        have HBZ := Lib.hid hbz
        have HQ1 : Hid (∀ n, Calls Try.prog 22 #[.pointer (some ⟨rb, 0, none⟩)] (Wz.drewN n) (fun e w'' => e = .returned (.int .i64 (fullK (keysOf (bare L1)))) ∧ ∃ m, w'' = Wz.drewN m)) := Lib.hid fun n => Calls.quiet_of_same ((RI.len_any rb (bare L1) hand _ _ (ringIs_drewN HIC.out n)).mono fun _ _ h => ⟨h.1, h.2.symm⟩)
        have HQ2 : Hid (∀ n, Calls Try.prog 22 #[.pointer none] (Wz.drewN n) (fun e w'' => e = .returned (.int .i64 0) ∧ ∃ m, w'' = Wz.drewN m)) := Lib.hid fun n => Calls.quiet_of_same ((RI.len_nil _).mono fun _ _ h => ⟨h.1, h.2.symm⟩)
        have HQ3 : Hid (∀ n, Calls Try.prog 23 #[.pointer none, .int .i64 1] (Wz.drewN n) (fun e w'' => e = .returned (.bool false) ∧ ∃ m, w'' = Wz.drewN m)) := Lib.hid fun n => Calls.quiet_of_same ((RI.pin_nil 1 _).mono fun _ _ h => ⟨h.1, h.2.symm⟩)
        have HQ4 : Hid (∀ n, Calls Try.prog 43 #[.pointer none, .int .i64 1] (Wz.drewN n) (fun e w'' => e = .returned (.bool false) ∧ ∃ m, w'' = Wz.drewN m)) := Lib.hid fun n => Calls.quiet_of_same ((RI.let_nil 1 _).mono fun _ _ h => ⟨h.1, h.2.symm⟩)
        have HQ5 : Hid (∀ n, Calls Try.prog 24 #[.pointer none, .int .i64 1] (Wz.drewN n) (fun e w'' => e = .returned (.int .i64 0) ∧ ∃ m, w'' = Wz.drewN m)) := Lib.hid fun n => Calls.quiet_of_same ((RI.pins_nil 1 _).mono fun _ _ h => ⟨h.1, h.2.symm⟩)
        have hfl := HFL.out
        rw [hfl] at HQ1
        clear hkz hbz HSET HSET2 HXF HIC HKC HAL hfl
        go_wp2_with fail
        refine wp_region_noPanic ?_
        go_quiet (first | (go_at_call 22; first | (with_reducible exact HQ1.out _) | (with_reducible exact HQ2.out _)) | (go_at_call 23; with_reducible exact HQ3.out _) | (go_at_call 43; with_reducible exact HQ4.out _) | (go_at_call 24; with_reducible exact HQ5.out _))
        refine NoPanic.normal ?_
        go_wp2_with fail
        refine ⟨by simp, .inl ⟨_, _, rfl, run_takeDeferred (HKZ.out _), ?_⟩⟩
        refine ⟨_, ?_, rfl, HBZ.out _⟩
        simp [results, Try.f9, go_sem]
end Go.Proofs.Ytbjomkbiljpjmaa
