/- The plate made safe: Sync. Conditions: none. -/
import Derived.Test.YtgocmnejlbfplaaDoorPlate3
import Derived.Deep.DeepCutAuto
namespace Go.Proofs.YtgocmnejlbfplaaDoor
open Go Go.MapKept Go.RowKit Go.Proofs

/-- As PlateIs, the queue's slice and its block told. -/
def PlateV (b : Nat) (M : PM) (m : Nat) (qv : Value) (qh F : Heaplet) (w : World) : Prop :=
  SliceIs 76 2 qv M.queue.length (flatQ M.queue) qh ∧ ∃ es clk, MapOk (.int .i64) kI kS es clk M.secs ∧ Sat w (.blk b (plateObj M m qv) :: .blk m (.map es clk) :: (qh ++ F))
theorem PlateIs.v {b : Nat} {M : PM} {F : Heaplet} {w : World} (h : PlateIs b M F w) : ∃ m qv qh, PlateV b M m qv qh F w := by
  obtain ⟨m, es, clk, qv, qh, h1, h2, hs⟩ := h
  exact ⟨m, qv, qh, h2, es, clk, h1, hs⟩
theorem PlateV.is {b m : Nat} {M : PM} {qv : Value} {qh F : Heaplet} {w : World} (h : PlateV b M m qv qh F w) : PlateIs b M F w := by
  obtain ⟨h2, es, clk, h1, hs⟩ := h
  exact ⟨m, es, clk, qv, qh, h1, h2, hs⟩
theorem PlateV.new {b m : Nat} {M : PM} {qv : Value} {qh F : Heaplet} {w : World} (h : PlateV b M m qv qh F w) (o : Obj) : PlateV b M m qv qh (.blk w.heap.size o :: F) (w.alloc o) := by
  obtain ⟨h2, es, clk, h1, hs⟩ := h
  exact ⟨h2, es, clk, h1, (hs.new o).perm (List.perm_middle (l₁ := HItem.blk b _ :: .blk m _ :: qh)).symm⟩
theorem PlateV.unF {b m : Nat} {M : PM} {qv : Value} {qh F : Heaplet} {x : HItem} {w : World} (h : PlateV b M m qv qh (x :: F) w) : PlateV b M m qv qh F w := by
  obtain ⟨h2, es, clk, h1, hs⟩ := h
  exact ⟨h2, es, clk, h1, (hs.perm (List.perm_middle (l₁ := HItem.blk b _ :: .blk m _ :: qh))).tail⟩
theorem PlateV.drew {b m : Nat} {M : PM} {qv : Value} {qh F : Heaplet} {w : World} (h : PlateV b M m qv qh F w) : PlateV b M m qv qh F w.drew := by
  obtain ⟨h2, es, clk, h1, hs⟩ := h
  exact ⟨h2, es, clk, h1, hs.drew⟩
theorem PlateV.frame {b m : Nat} {M : PM} {qv : Value} {qh F : Heaplet} {w : World} (h : PlateV b M m qv qh F w) : Sat w F := h.is.frame
theorem PlateV.cell {b m : Nat} {M : PM} {qv : Value} {qh F : Heaplet} {w : World} (h : PlateV b M m qv qh F w) : w.cell? ⟨b, 1, none⟩ = some (.map (some m)) ∧ w.cell? ⟨b, 2, none⟩ = some qv ∧ ∀ i, w.frozen? ⟨b, i, none⟩ = false := by
  obtain ⟨h2, es, clk, h1, hs⟩ := h
  refine ⟨?_, ?_, fun i => unfrozen_of hs.h0 i⟩ <;> (rw [cell_of hs.h0]; rfl)
theorem PlateV.slice {b m : Nat} {M : PM} {qv : Value} {qh F : Heaplet} {w : World} (h : PlateV b M m qv qh F w) : ∃ p cap, qv = .slice p M.queue.length cap ∧ ∀ k x, M.queue[k]? = some x →
    ∃ g, p = some ⟨g, 0, none⟩ ∧ ∀ {w' : World} {F' : Heaplet} {M' : PM}, PlateV b M' m qv qh F' w' → w'.cell? ⟨g, k * 2, none⟩ = some (kI x.1) ∧ w'.cell? ⟨g, k * 2 + 1, none⟩ = some (kS x.2) := by
  have h2 := h.1
  rcases h2.2 with ⟨rfl, e, rfl⟩ | ⟨g, cap, cur, rfl, hnc, hcm, hcs, htake, rfl⟩
  · refine ⟨none, 0, by rw [e], fun k x hk => ?_⟩
    have := (List.getElem?_eq_some_iff.1 hk).1
    omega
  · refine ⟨some ⟨g, 0, none⟩, cap, rfl, fun k x hk => ⟨g, rfl, fun {w' F' M'} h' => ?_⟩⟩
    have hl := (List.getElem?_eq_some_iff.1 hk).1
    have hg : w'.heap[g]? = some (.cells cur 76) := by
      obtain ⟨_, es, clk, h1, hs⟩ := h'
      exact hs.h2
    have key : ∀ (q : List (Int × ByteArray)) (k : Nat) (x : Int × ByteArray), q[k]? = some x → (flatQ q)[k * 2]? = some (kI x.1) ∧ (flatQ q)[k * 2 + 1]? = some (kS x.2) := by
      intro q
      induction q with
      | nil => intro k x hk; simp at hk
      | cons y r ih =>
        intro k x hk
        cases k with
        | zero => simp at hk; subst hk; simp [flatQ]
        | succ k =>
          have := ih k x (by simpa using hk)
          simp only [flatQ, List.flatMap_cons] at this ⊢
          rw [show (k + 1) * 2 = k * 2 + 2 from by omega, show k * 2 + 2 + 1 = (k * 2 + 1) + 2 from by omega]
          simpa using this
    obtain ⟨e1, e2⟩ := key _ _ _ hk
    rw [← htake, List.getElem?_take] at e1 e2
    rw [cell_of hg, cell_of hg]
    constructor
    · split at e1
      · rwa [Array.getElem?_toList] at e1
      · cases e1
    · split at e2
      · rwa [Array.getElem?_toList] at e2
      · cases e2
/-- A sector is written into the map. -/
def putS (M : PM) (n : Int) (s : ByteArray) : PM := { M with secs := putL n s M.secs }
theorem PlateV.put {b m : Nat} {M : PM} {qv : Value} {qh F : Heaplet} {w : World} (h : PlateV b M m qv qh F w) (n : Int) (s : ByteArray) :
    ∃ w', (Instr.mapUpdate 61 (.map (some m)) (kI n) (kS s)).run Tryd.prog w = .ok () w' ∧ PlateV b (putS M n s) m qv qh F w' := by
  obtain ⟨h2, es, clk, h1, hs⟩ := h
  obtain ⟨w', es', clk', hu, hm, hs'⟩ := sat_update (P := Tryd.prog) (t := 61) (kt := 3) (et := 9) Tryd.underlying61 Tryd.underlying3 h1 hs.swap n s
  exact ⟨w', hu, h2, es', clk', hm, hs'.swap⟩
def putAll (D : List (Int × ByteArray)) (q : List (Int × ByteArray)) : List (Int × ByteArray) := q.foldl (fun D x => putL x.1 x.2 D) D
theorem putAll_snoc (D q : List (Int × ByteArray)) (x : Int × ByteArray) : putAll D (q ++ [x]) = putL x.1 x.2 (putAll D q) := by simp [putAll]
theorem take_snoc' {α : Type} {q : List α} {k : Nat} {x : α} (h : q[k]? = some x) : q.take (k + 1) = q.take k ++ [x] := by
  rw [List.take_add_one, h]; rfl
theorem act_queue (M : PM) : (actM M).2.queue = M.queue ∧ (actM M).2.secs = M.secs ∧ (actM M).2.count = M.count := by
  unfold actM offM
  split
  · split
    · cases M.down <;> exact ⟨rfl, rfl, rfl⟩
    · exact ⟨rfl, rfl, rfl⟩
  · exact ⟨rfl, rfl, rfl⟩
def syncM (M : PM) : Int × PM :=
  if M.down then (10, M) else if (actM M).1 ≠ 0 then actM M else (0, { (actM M).2 with secs := putAll M.secs M.queue, queue := [] })
theorem sync_nil (w : World) : Calls Tryd.prog 23 #[.pointer none] w (Ret (.int .i64 2) (Same w)) := by
  have Hr := Lib.hid (ready_nil 0 w)
  go_enter Tryd.func23, Tryd.ntmps23
  go_wp2_with (go_at_call 32; refine (Hr.out).mono ?_; rintro e w' ⟨rfl, rfl⟩)
  go_ret
  exact ⟨rfl, rfl⟩
set_option maxRecDepth 100000 in
set_option maxHeartbeats 1600000 in
theorem sync_any (b : Nat) (M : PM) (F : Heaplet) (w : World) (h : PlateIs b M F w) (hc : 1 ≤ M.count) (h0 : 0 ≤ M.life ∧ M.life < 9223372036854775807) (h1 : 0 ≤ M.acts ∧ M.acts < 9223372036854775807) (h2 : M.armed ≤ 9223372036854775807) (hq : M.queue.length ≤ 1000000) :
    Calls Tryd.prog 23 #[.pointer (some ⟨b, 0, none⟩)] w (Ret (.int .i64 (syncM M).1) (PlateIs b (syncM M).2 F)) := by
  have hr := ready_any b M F 0 w h
  have e0 : readyM M 0 = if M.down then 10 else 0 := by
    unfold readyM
    have : ¬ ((0 : Int) < 0 ∨ M.count ≤ 0) := by omega
    have h2 : ¬ M.count ≤ 0 := by omega
    simp [h2]
  rw [e0] at hr
  clear e0
  unfold syncM
  cases hd : M.down with
  | true =>
    rw [hd] at hr
    simp only [if_true] at hr ⊢
    have Hr := Lib.hid hr
    have H := Lib.hid h
    clear h hr hd h0 h1 h2 hc hq
    go_enter Tryd.func23, Tryd.ntmps23
    go_wp2_with (go_at_call 32; refine (Hr.out).mono ?_; rintro e w' ⟨rfl, rfl⟩)
    go_ret
    exact ⟨rfl, H.out⟩
  | false =>
    rw [hd] at hr
    simp only [Bool.false_eq_true, if_false] at hr ⊢
    have Hr := Lib.hid hr
    have ha := act_any b M F w h h0 h1 h2
    obtain ⟨aq, asx, ac⟩ := act_queue M
    by_cases hz : (actM M).1 ≠ 0
    · rw [if_pos hz]
      have hb : ((actM M).1 == 0) = false := by simpa using hz
      have hb2 : ((actM M).1 != 0) = true := by rw [bne, hb]; rfl
      have Ha := Lib.hid ha
      clear h hr hd h0 h1 h2 hc hz ha aq asx ac hq
      generalize (actM M).1 = r at *
      generalize (actM M).2 = M1 at *
      go_enter Tryd.func23, Tryd.ntmps23
      go_wp2_with fail
      refine (Hr.out).mono ?_
      rintro e w1 ⟨rfl, rfl⟩
      go_wp2_with fail
      refine (Ha.out).mono ?_
      rintro e w2 ⟨rfl, h3⟩
      have Fin := Lib.hid h3
      clear h3
      go_wp2_with fail
      go_ret
      exact ⟨rfl, Fin.out⟩
    · rw [if_neg hz]
      have hz0 : (actM M).1 = 0 := by simpa using hz
      rw [hz0] at ha
      rw [← asx]
      rw [← aq] at hq ⊢
      have Ha := Lib.hid ha
      clear h hr hd h0 h1 h2 hc hz hz0 ha aq asx ac
      generalize (actM M).2 = M1 at *
      go_enter Tryd.func23, Tryd.ntmps23
      go_wp2_with fail
      refine (Hr.out).mono ?_
      rintro e w1 ⟨rfl, rfl⟩
      go_wp2_with fail
      refine (Ha.out).mono ?_
      rintro e w2 ⟨rfl, h3⟩
      obtain ⟨m, qv, qh, hv⟩ := h3.v
      obtain ⟨p, cap, rfl, hel⟩ := hv.slice
      obtain ⟨c1, c2, _⟩ := hv.cell
      have HV := Lib.hid hv
      have HE := Lib.hid hel
      clear h3 hv hel
      go_wp2_with fail
      go_loopw [22] (fun c wr => ∃ k : Nat, k ≤ M1.queue.length ∧ c = .int .i64 k ∧ PlateV b { M1 with secs := putAll M1.secs (M1.queue.take k) } m (.slice p M1.queue.length cap) qh F wr) (fun c _ => 1000000 - (intOf c).toNat)
      case atStart => exact ⟨0, by omega, rfl, HV.out⟩
      case round =>
        obtain ⟨k, hk, rfl, hvk⟩ := hrel
        clear c1 c2
        obtain ⟨c1, c2, u⟩ := hvk.cell
        have u2 := u 2
        by_cases hlt : k < M1.queue.length
        · obtain ⟨x, hx⟩ : ∃ x, M1.queue[k]? = some x := ⟨_, List.getElem?_eq_getElem hlt⟩
          obtain ⟨g, rfl, hgc⟩ := HE.out k x hx
          obtain ⟨g0, g1⟩ := hgc hvk
          have hk0 : (0 : Int) ≤ (k : Int) := by omega
          have hk1 : (k : Int) < (M1.queue.length : Int) := by omega
          have hvn := hvk.new (.cells #[kI x.1, kS x.2] 76)
          have HVN := Lib.hid hvn
          have HX := Lib.hid hx
          clear hvk hx hgc u hvn
          go_upto_region 10 with (fail)
          generalize wr.alloc _ = W1 at *
          generalize wr.heap.size = ob at *
          have hb0 : Sat W1 _ := HVN.out.frame
          have b0 : W1.cell? ⟨ob, 0, none⟩ = some (kI x.1) := by rw [cell_of hb0.h0]; rfl
          have b1 : W1.cell? ⟨ob, 1, none⟩ = some (kS x.2) := by rw [cell_of hb0.h0]; rfl
          obtain ⟨d1, d2, _⟩ := HVN.out.cell
          obtain ⟨w3, hu, hput⟩ := HVN.out.drew.put x.1 x.2
          have HP := Lib.hid hput
          clear hput hb0
          go_still_tail 8, (by kernel_rfl)
          change wpList _ _ _ _ _ (World.drew _)
          generalize World.drew W1 = wd at *
          go_wp2_with fail
          refine ⟨⟨k + 1, by omega, by simp, ?_⟩, by simp only [intOf]; omega⟩
          have := HP.out.unF
          simp only [putS] at this
          rw [take_snoc' HX.out, putAll_snoc]
          exact this
        · have hke : k = M1.queue.length := by omega
          subst hke
          have hvk := hvk
          rw [List.take_length] at hvk
          obtain ⟨h2, es, clk, h1, hs⟩ := hvk
          have hfin : PlateIs b { M1 with secs := putAll M1.secs M1.queue, queue := [] } F (wr.setCell ⟨b, 2, none⟩ (.slice none 0 0)) :=
            ⟨m, es, clk, .slice none 0 0, [], h1, SliceIs.nil _ _, (by
              exact ((hs.setCell (i := 2) (.slice none 0 0)).perm (List.perm_append_comm_assoc (l₁ := [HItem.blk b _, .blk m (.map es clk)]) (l₂ := qh) (l₃ := F))).right)⟩
          have Fin := Lib.hid hfin
          have hkf : ¬ ((M1.queue.length : Int) < (M1.queue.length : Int)) := by omega
          clear hfin hs h1 h2 HV HE
          go_wp2_with fail
          go_ret
          exact ⟨rfl, Fin.out⟩
end Go.Proofs.YtgocmnejlbfplaaDoor
