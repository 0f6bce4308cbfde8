/- Texts put together: Plate4, Args. Conditions: none. -/
import Derived.Deep.DeepCutAuto
import Derived.Deep.Slices
import Derived.Deep.Fields
import Derived.ChangeSame
import Derived.ProofKit
import Derived.OpenShut
import Derived.ShutString
import Derived.ChangeOld
import Derived.Lib.SmallJoins
import Derived.Test.YtgocmnejlbfplaaGreatDoorTy1
import Derived.Test.YtgocmnejlbfplaaGreatDoorTy2
namespace Go.Proofs.YtgocmnejlbfplaaGreatDoor
open Go Go.MapKept Go.RowKit Go.Proofs

/-- As PlateIs, the queue's slice and its block told. -/
def PlateV (b : Nat) (M : PM) (m : Nat) (qv : Value) (qh F : Heaplet) (w : World) : Prop :=
  SliceIs 88 2 qv M.queue.length (flatQ M.queue) qh ∧ ∃ es clk, MapOk (.int .i64) kI kS es clk M.secs ∧ Sat w (.blk b (plateObj M m qv) :: .blk m (.map es clk) :: (qh ++ F))
theorem PlateIs.v {b : Nat} {M : PM} {F : Heaplet} {w : World} (h : PlateIs b M F w) : ∃ m qv qh, PlateV b M m qv qh F w := by
  obtain ⟨m, es, clk, qv, qh, h1, h2, hs⟩ := h
  exact ⟨m, qv, qh, h2, es, clk, h1, hs⟩
theorem PlateV.is {b m : Nat} {M : PM} {qv : Value} {qh F : Heaplet} {w : World} (h : PlateV b M m qv qh F w) : PlateIs b M F w := by
  obtain ⟨h2, es, clk, h1, hs⟩ := h
  exact ⟨m, es, clk, qv, qh, h1, h2, hs⟩
theorem PlateV.new {b m : Nat} {M : PM} {qv : Value} {qh F : Heaplet} {w : World} (h : PlateV b M m qv qh F w) (o : Obj) : PlateV b M m qv qh (.blk w.heap.size o :: F) (w.alloc o) := by
  obtain ⟨h2, es, clk, h1, hs⟩ := h
  exact ⟨h2, es, clk, h1, (hs.new o).perm (List.perm_middle (l₁ := HItem.blk b _ :: .blk m _ :: qh)).symm⟩
theorem PlateV.unF {b m : Nat} {M : PM} {qv : Value} {qh F : Heaplet} {x : HItem} {w : World} (h : PlateV b M m qv qh (x :: F) w) : PlateV b M m qv qh F w := by
  obtain ⟨h2, es, clk, h1, hs⟩ := h
  exact ⟨h2, es, clk, h1, (hs.perm (List.perm_middle (l₁ := HItem.blk b _ :: .blk m _ :: qh))).tail⟩
theorem PlateV.drew {b m : Nat} {M : PM} {qv : Value} {qh F : Heaplet} {w : World} (h : PlateV b M m qv qh F w) : PlateV b M m qv qh F w.drew := by
  obtain ⟨h2, es, clk, h1, hs⟩ := h
  exact ⟨h2, es, clk, h1, hs.drew⟩
theorem PlateV.frame {b m : Nat} {M : PM} {qv : Value} {qh F : Heaplet} {w : World} (h : PlateV b M m qv qh F w) : Sat w F := h.is.frame
theorem PlateV.cell {b m : Nat} {M : PM} {qv : Value} {qh F : Heaplet} {w : World} (h : PlateV b M m qv qh F w) : w.cell? ⟨b, 1, none⟩ = some (.map (some m)) ∧ w.cell? ⟨b, 2, none⟩ = some qv ∧ ∀ i, w.frozen? ⟨b, i, none⟩ = false := by
  obtain ⟨h2, es, clk, h1, hs⟩ := h
  refine ⟨?_, ?_, fun i => unfrozen_of hs.h0 i⟩ <;> (rw [cell_of hs.h0]; rfl)
theorem PlateV.slice {b m : Nat} {M : PM} {qv : Value} {qh F : Heaplet} {w : World} (h : PlateV b M m qv qh F w) : ∃ p cap, qv = .slice p M.queue.length cap ∧ ∀ k x, M.queue[k]? = some x →
    ∃ g, p = some ⟨g, 0, none⟩ ∧ ∀ {w' : World} {F' : Heaplet} {M' : PM}, PlateV b M' m qv qh F' w' → w'.cell? ⟨g, k * 2, none⟩ = some (kI x.1) ∧ w'.cell? ⟨g, k * 2 + 1, none⟩ = some (kS x.2) := by
  have h2 := h.1
  rcases h2.2 with ⟨rfl, e, rfl⟩ | ⟨g, cap, cur, rfl, hnc, hcm, hcs, htake, rfl⟩
  · refine ⟨none, 0, by rw [e], fun k x hk => ?_⟩
    have := (List.getElem?_eq_some_iff.1 hk).1
    omega
  · refine ⟨some ⟨g, 0, none⟩, cap, rfl, fun k x hk => ⟨g, rfl, fun {w' F' M'} h' => ?_⟩⟩
    have hl := (List.getElem?_eq_some_iff.1 hk).1
    have hg : w'.heap[g]? = some (.cells cur 88) := by
      obtain ⟨_, es, clk, h1, hs⟩ := h'
      exact hs.h2
    have key : ∀ (q : List (Int × ByteArray)) (k : Nat) (x : Int × ByteArray), q[k]? = some x → (flatQ q)[k * 2]? = some (kI x.1) ∧ (flatQ q)[k * 2 + 1]? = some (kS x.2) := by
      intro q
      induction q with
      | nil => intro k x hk; simp at hk
      | cons y r ih =>
        intro k x hk
        cases k with
        | zero => simp at hk; subst hk; simp [flatQ]
        | succ k =>
          have := ih k x (by simpa using hk)
          simp only [flatQ, List.flatMap_cons] at this ⊢
          rw [show (k + 1) * 2 = k * 2 + 2 from by omega, show k * 2 + 2 + 1 = (k * 2 + 1) + 2 from by omega]
          simpa using this
    obtain ⟨e1, e2⟩ := key _ _ _ hk
    rw [← htake, List.getElem?_take] at e1 e2
    rw [cell_of hg, cell_of hg]
    constructor
    · split at e1
      · rwa [Array.getElem?_toList] at e1
      · cases e1
    · split at e2
      · rwa [Array.getElem?_toList] at e2
      · cases e2
/-- A sector is written into the map. -/
def putS (M : PM) (n : Int) (s : ByteArray) : PM := { M with secs := putL n s M.secs }
theorem PlateV.put {b m : Nat} {M : PM} {qv : Value} {qh F : Heaplet} {w : World} (h : PlateV b M m qv qh F w) (n : Int) (s : ByteArray) :
    ∃ w', (Instr.mapUpdate 60 (.map (some m)) (kI n) (kS s)).run Tryz.prog w = .ok () w' ∧ PlateV b (putS M n s) m qv qh F w' := by
  obtain ⟨h2, es, clk, h1, hs⟩ := h
  obtain ⟨w', es', clk', hu, hm, hs'⟩ := sat_update (P := Tryz.prog) (t := 60) (kt := 3) (et := 9) Tryz.underlying60 Tryz.underlying3 h1 hs.swap n s
  exact ⟨w', hu, h2, es', clk', hm, hs'.swap⟩
def putAll (D : List (Int × ByteArray)) (q : List (Int × ByteArray)) : List (Int × ByteArray) := q.foldl (fun D x => putL x.1 x.2 D) D
theorem putAll_snoc (D q : List (Int × ByteArray)) (x : Int × ByteArray) : putAll D (q ++ [x]) = putL x.1 x.2 (putAll D q) := by simp [putAll]
theorem take_snoc' {α : Type} {q : List α} {k : Nat} {x : α} (h : q[k]? = some x) : q.take (k + 1) = q.take k ++ [x] := by
  rw [List.take_add_one, h]; rfl
theorem act_queue (M : PM) : (actM M).2.queue = M.queue ∧ (actM M).2.secs = M.secs ∧ (actM M).2.count = M.count := by
  unfold actM offM
  split
  · split
    · cases M.down <;> exact ⟨rfl, rfl, rfl⟩
    · exact ⟨rfl, rfl, rfl⟩
  · exact ⟨rfl, rfl, rfl⟩
def syncM (M : PM) : Int × PM :=
  if M.down then (10, M) else if (actM M).1 ≠ 0 then actM M else (0, { (actM M).2 with secs := putAll M.secs M.queue, queue := [] })
theorem sync_nil (w : World) : Calls Tryz.prog 32 #[.pointer none] w (Ret (.int .i64 2) (Same w)) := by
  have Hr := Lib.hid (ready_nil 0 w)
  go_enter Tryz.func32, Tryz.ntmps32
  go_wp2_with (go_at_call 52; refine (Hr.out).mono ?_; rintro e w' ⟨rfl, rfl⟩)
  go_ret
  exact ⟨rfl, rfl⟩
set_option maxRecDepth 100000 in
set_option maxHeartbeats 1600000 in
theorem sync_any (b : Nat) (M : PM) (F : Heaplet) (w : World) (h : PlateIs b M F w) (hc : 1 ≤ M.count) (h0 : 0 ≤ M.life ∧ M.life < 9223372036854775807) (h1 : 0 ≤ M.acts ∧ M.acts < 9223372036854775807) (h2 : M.armed ≤ 9223372036854775807) (hq : M.queue.length ≤ 1000000) :
    Calls Tryz.prog 32 #[.pointer (some ⟨b, 0, none⟩)] w (Ret (.int .i64 (syncM M).1) (PlateIs b (syncM M).2 F)) := by
  have hr := ready_any b M F 0 w h
  have e0 : readyM M 0 = if M.down then 10 else 0 := by
    unfold readyM
    have : ¬ ((0 : Int) < 0 ∨ M.count ≤ 0) := by omega
    have h2 : ¬ M.count ≤ 0 := by omega
    simp [h2]
  rw [e0] at hr
  clear e0
  unfold syncM
  cases hd : M.down with
  | true =>
    rw [hd] at hr
    simp only [if_true] at hr ⊢
    have Hr := Lib.hid hr
    have H := Lib.hid h
    clear h hr hd h0 h1 h2 hc hq
    go_enter Tryz.func32, Tryz.ntmps32
    go_wp2_with (go_at_call 52; refine (Hr.out).mono ?_; rintro e w' ⟨rfl, rfl⟩)
    go_ret
    exact ⟨rfl, H.out⟩
  | false =>
    rw [hd] at hr
    simp only [Bool.false_eq_true, if_false] at hr ⊢
    have Hr := Lib.hid hr
    have ha := act_any b M F w h h0 h1 h2
    obtain ⟨aq, asx, ac⟩ := act_queue M
    by_cases hz : (actM M).1 ≠ 0
    · rw [if_pos hz]
      have hb : ((actM M).1 == 0) = false := by simpa using hz
      have hb2 : ((actM M).1 != 0) = true := by rw [bne, hb]; rfl
      have Ha := Lib.hid ha
      clear h hr hd h0 h1 h2 hc hz ha aq asx ac hq
      generalize (actM M).1 = r at *
      generalize (actM M).2 = M1 at *
      go_enter Tryz.func32, Tryz.ntmps32
      go_wp2_with fail
      refine (Hr.out).mono ?_
      rintro e w1 ⟨rfl, rfl⟩
      go_wp2_with fail
      refine (Ha.out).mono ?_
      rintro e w2 ⟨rfl, h3⟩
      have Fin := Lib.hid h3
      clear h3
      go_wp2_with fail
      go_ret
      exact ⟨rfl, Fin.out⟩
    · rw [if_neg hz]
      have hz0 : (actM M).1 = 0 := by simpa using hz
      rw [hz0] at ha
      rw [← asx]
      rw [← aq] at hq ⊢
      have Ha := Lib.hid ha
      clear h hr hd h0 h1 h2 hc hz hz0 ha aq asx ac
      generalize (actM M).2 = M1 at *
      go_enter Tryz.func32, Tryz.ntmps32
      go_wp2_with fail
      refine (Hr.out).mono ?_
      rintro e w1 ⟨rfl, rfl⟩
      go_wp2_with fail
      refine (Ha.out).mono ?_
      rintro e w2 ⟨rfl, h3⟩
      obtain ⟨m, qv, qh, hv⟩ := h3.v
      obtain ⟨p, cap, rfl, hel⟩ := hv.slice
      obtain ⟨c1, c2, _⟩ := hv.cell
      have HV := Lib.hid hv
      have HE := Lib.hid hel
      clear h3 hv hel
      go_wp2_with fail
      go_loopw [22] (fun c wr => ∃ k : Nat, k ≤ M1.queue.length ∧ c = .int .i64 k ∧ PlateV b { M1 with secs := putAll M1.secs (M1.queue.take k) } m (.slice p M1.queue.length cap) qh F wr) (fun c _ => 1000000 - (intOf c).toNat)
      case atStart => exact ⟨0, by omega, rfl, HV.out⟩
      case round =>
        obtain ⟨k, hk, rfl, hvk⟩ := hrel
        clear c1 c2
        obtain ⟨c1, c2, u⟩ := hvk.cell
        have u2 := u 2
        by_cases hlt : k < M1.queue.length
        · obtain ⟨x, hx⟩ : ∃ x, M1.queue[k]? = some x := ⟨_, List.getElem?_eq_getElem hlt⟩
          obtain ⟨g, rfl, hgc⟩ := HE.out k x hx
          obtain ⟨g0, g1⟩ := hgc hvk
          have hk0 : (0 : Int) ≤ (k : Int) := by omega
          have hk1 : (k : Int) < (M1.queue.length : Int) := by omega
          have hvn := hvk.new (.cells #[kI x.1, kS x.2] 88)
          have HVN := Lib.hid hvn
          have HX := Lib.hid hx
          clear hvk hx hgc u hvn
          go_upto_region 10 with (fail)
          generalize wr.alloc _ = W1 at *
          generalize wr.heap.size = ob at *
          have hb0 : Sat W1 _ := HVN.out.frame
          have b0 : W1.cell? ⟨ob, 0, none⟩ = some (kI x.1) := by rw [cell_of hb0.h0]; rfl
          have b1 : W1.cell? ⟨ob, 1, none⟩ = some (kS x.2) := by rw [cell_of hb0.h0]; rfl
          obtain ⟨d1, d2, _⟩ := HVN.out.cell
          obtain ⟨w3, hu, hput⟩ := HVN.out.drew.put x.1 x.2
          have HP := Lib.hid hput
          clear hput hb0
          go_still_tail 8, (by kernel_rfl)
          change wpList _ _ _ _ _ (World.drew _)
          generalize World.drew W1 = wd at *
          go_wp2_with fail
          refine ⟨⟨k + 1, by omega, by simp, ?_⟩, by simp only [intOf]; omega⟩
          have := HP.out.unF
          simp only [putS] at this
          rw [take_snoc' HX.out, putAll_snoc]
          exact this
        · have hke : k = M1.queue.length := by omega
          subst hke
          have hvk := hvk
          rw [List.take_length] at hvk
          obtain ⟨h2, es, clk, h1, hs⟩ := hvk
          have hfin : PlateIs b { M1 with secs := putAll M1.secs M1.queue, queue := [] } F (wr.setCell ⟨b, 2, none⟩ (.slice none 0 0)) :=
            ⟨m, es, clk, .slice none 0 0, [], h1, SliceIs.nil _ _, (by
              exact ((hs.setCell (i := 2) (.slice none 0 0)).perm (List.perm_append_comm_assoc (l₁ := [HItem.blk b _, .blk m (.map es clk)]) (l₂ := qh) (l₃ := F))).right)⟩
          have Fin := Lib.hid hfin
          have hkf : ¬ ((M1.queue.length : Int) < (M1.queue.length : Int)) := by omega
          clear hfin hs h1 h2 HV HE
          go_wp2_with fail
          go_ret
          exact ⟨rfl, Fin.out⟩
end Go.Proofs.YtgocmnejlbfplaaGreatDoor
namespace Go.Proofs.YtgocmnejlbfplaaGreatDoor
open Go Go.ChangeShapes Go.WideShapes Go.Deep Go.RowKit

/-- A slice of structs that came in: element i's field j lies in the cell at i * fields + j and is V i j. -/
def RowsAt (W : World) (p : Option Addr) (len fields : Nat) (V : Nat → Nat → Value) : Prop :=
  len ≤ 9223372036854775807 ∧ ∀ i, i < len → ∃ b off, p = some ⟨b, off, none⟩ ∧ b < W.heap.size ∧ ∀ j, j < fields → W.cell? ⟨b, off + i * fields + j, none⟩ = some (V i j)
/-- What such a cell holds. -/
def rowVal (W : World) (p : Option Addr) (fields i j : Nat) : Value :=
  match p with
  | some a => (W.cell? ⟨a.block, a.off + i * fields + j, none⟩).getD undef
  | none => undef
/-- A slice of structs of integers that came in: its length, and element i's field j. -/
def IntsAt (W : World) (p : Option Addr) (len fields : Nat) (A : Nat → Nat → Int) : Prop :=
  len ≤ 9223372036854775807 ∧ ∀ i, i < len → ∃ b off, p = some ⟨b, off, none⟩ ∧ b < W.heap.size ∧
    ∀ j, j < fields → W.cell? ⟨b, off + i * fields + j, none⟩ = some (.int .i64 (A i j)) ∧ -9223372036854775808 ≤ A i j ∧ A i j ≤ 9223372036854775807
def intOf' : Value → Int
  | .int _ k => k
  | _ => 0

theorem wf_bounds {k : Int} (h : (Lit.int .i64 k).wf = true) : -9223372036854775808 ≤ k ∧ k ≤ 9223372036854775807 := by
  simp [Lit.wf, IntKind.min, IntKind.max, IntKind.signed, IntKind.bits] at h
  omega
section
variable {H : Type} {enc : TypeId × Value → H} {P : Program} {w : World} {base : Nat} {spare : Nat → Bool} {held : Bool}
theorem open_rows {t e : TypeId} {fs : Array Field} {p : Option Addr} {len cap : Nat} {d : DataW H} {pl : List MemPlace} (ht : P.underlying t = some (.slice e)) (he : P.underlying e = some (.struct fs))
    (hone : oneCellFields P fs = true) (hC : P.cellsOf e = fs.size) (h0 : 0 < fs.size) (h : DataW.Trod enc P w base spare held t (.slice p len cap) d pl) :
    RowsAt w p len fs.size (rowVal w p fs.size) ∧
      ∀ (i j : Nat) (f : Field), i < len → fs[j]? = some f → ∃ y n, DataW.trod enc P w base spare held n f.type [rowVal w p fs.size i j] = some y := by
  obtain ⟨fuel, hf⟩ := h
  rcases open_slice ht hf with ⟨hcs, _⟩ | ⟨a, len', cap', m, n, D, Pl, hcs, hb, hl, hm, hmm, hx, hi⟩
  · simp [Value.cells] at hcs
    obtain ⟨rfl, rfl, rfl⟩ := hcs
    exact ⟨⟨by omega, fun i hi => by omega⟩, fun i j f hi => by omega⟩
  · simp [Value.cells] at hcs
    obtain ⟨rfl, rfl, rfl⟩ := hcs
    have hml : len ≤ m := by rw [hmm]; split <;> omega
    have spot0 : 0 < len → a.spot = none := by
      intro h0l
      obtain ⟨cs', hc, ht'⟩ := hi 0 (by omega)
      rw [hC] at hc
      obtain ⟨_, hcl, hat⟩ := World.cells?_some hc
      have hcell := hat 0 h0
      rw [List.getElem?_eq_getElem (by omega)] at hcell
      simpa [Addr.add] using World.cell?_spot hcell
    have key : ∀ (i j : Nat) (f : Field), i < len → fs[j]? = some f → a.spot = none ∧ a.block < w.heap.size ∧ w.cell? ⟨a.block, a.off + i * fs.size + j, none⟩ = some (rowVal w (some a) fs.size i j) ∧
        ∃ y n, DataW.trod enc P w base spare held n f.type [rowVal w (some a) fs.size i j] = some y := by
      intro i j f hil hj
      obtain ⟨cs', hc, ht'⟩ := hi i (Nat.lt_of_lt_of_le hil hml)
      rw [hC] at hc
      obtain ⟨ys, n', hn', hy, hlen, hyl, hg⟩ := DataW.trod_struct he ht'
      obtain ⟨_, hcl, hat⟩ := World.cells?_some hc
      obtain ⟨ho, hk⟩ := hone_of hone j f hj
      have hjl : j < fs.size := (Array.getElem?_eq_some_iff.1 hj).1
      have hcell := hat j hjl
      have hvl : j < cs'.length := by omega
      rw [List.getElem?_eq_getElem hvl] at hcell
      have h1 := hg j f hj
      rw [ho, hk] at h1
      have hdrop : (cs'.drop j).take 1 = [cs'[j]] := by
        rw [List.drop_eq_getElem_cons hvl]; rfl
      rw [hdrop] at h1
      have hys : ys[j]? = some (ys[j]'(by omega)) := List.getElem?_eq_getElem (by omega)
      have hspot : a.spot = none := spot0 (by omega)
      obtain ⟨bl, off, sp⟩ := a
      simp only at hspot
      subst hspot
      have hcell' : w.cell? ⟨bl, off + i * fs.size + j, none⟩ = some cs'[j] := by
        have hadd : ((⟨bl, off, none⟩ : Addr).add (i * fs.size)).add j = ⟨bl, off + i * fs.size + j, none⟩ := by
          rw [add_add]
          unfold Addr.add
          by_cases hz : i * fs.size + j = 0
          · simp only [hz, if_true, Nat.add_assoc, Nat.add_zero]
          · simp only [hz, if_false, Nat.add_assoc]
        rw [hadd] at hcell
        exact hcell
      have hrow : rowVal w (some ⟨bl, off, none⟩) fs.size i j = cs'[j] := by simp [rowVal, hcell']
      refine ⟨rfl, World.block_lt_of_cell? w ⟨bl, off + i * fs.size + j, none⟩ hcell', by rw [hrow]; exact hcell', ?_⟩
      rw [hrow]
      exact ⟨_, _, h1.trans hys⟩
    refine ⟨⟨by unfold maxLen at hm; omega, fun i hil => ?_⟩, fun i j f hil hj => (key i j f hil hj).2.2.2⟩
    have hf0 : fs[0]? = some fs[0] := Array.getElem?_eq_getElem h0
    obtain ⟨hs, hlt, _⟩ := key i 0 _ hil hf0
    obtain ⟨bl, off, sp⟩ := a
    simp only at hs
    subst hs
    exact ⟨bl, off, rfl, hlt, fun j hj => (key i j _ hil (Array.getElem?_eq_getElem hj)).2.2.1⟩

theorem open_intRows {t e ti : TypeId} {fs : Array Field} {p : Option Addr} {len cap : Nat} {d : DataW H} {pl : List MemPlace} (ht : P.underlying t = some (.slice e)) (he : P.underlying e = some (.struct fs))
    (hone : oneCellFields P fs = true) (hC : P.cellsOf e = fs.size) (h0 : 0 < fs.size) (hi : P.underlying ti = some (.int .i64)) (hall : ∀ (j : Nat) (f : Field), fs[j]? = some f → f.type = ti)
    (h : DataW.Trod enc P w base spare held t (.slice p len cap) d pl) :
    IntsAt w p len fs.size (fun i j => intOf' (rowVal w p fs.size i j)) := by
  obtain ⟨hr, hf⟩ := open_rows ht he hone hC h0 h
  refine ⟨hr.1, fun i hil => ?_⟩
  obtain ⟨b, off, rfl, hb, hc⟩ := hr.2 i hil
  refine ⟨b, off, rfl, hb, fun j hj => ?_⟩
  have hj' : fs[j]? = some fs[j] := Array.getElem?_eq_getElem hj
  obtain ⟨y, n, hy⟩ := hf i j _ hil hj'
  rw [hall j _ hj'] at hy
  obtain ⟨k, e1, _, hwf⟩ := DataW.trod_int hi hy
  simp only [List.cons.injEq, and_true] at e1
  have := hc j hj
  show w.cell? ⟨b, off + i * fs.size + j, none⟩ = some (.int .i64 (intOf' (rowVal w (some ⟨b, off, none⟩) fs.size i j))) ∧ -9223372036854775808 ≤ intOf' (rowVal w (some ⟨b, off, none⟩) fs.size i j) ∧ intOf' (rowVal w (some ⟨b, off, none⟩) fs.size i j) ≤ 9223372036854775807
  rw [e1] at this ⊢
  have hw2 : -9223372036854775808 ≤ k ∧ k ≤ 9223372036854775807 := wf_bounds hwf
  exact ⟨this, hw2⟩
/-- A slice of integers that came in. -/
def IntSlice (W : World) (p : Option Addr) (len : Nat) (A : Nat → Int) : Prop :=
  len ≤ 9223372036854775807 ∧ ∀ i, i < len → ∃ b off, p = some ⟨b, off, none⟩ ∧ b < W.heap.size ∧ W.cell? ⟨b, off + i, none⟩ = some (.int .i64 (A i)) ∧ -9223372036854775808 ≤ A i ∧ A i ≤ 9223372036854775807
theorem open_intSlice {t e : TypeId} {p : Option Addr} {len cap : Nat} {d : DataW H} {pl : List MemPlace} (ht : P.underlying t = some (.slice e)) (he : P.underlying e = some (.int .i64)) (hC : P.cellsOf e = 1)
    (h : DataW.Trod enc P w base spare held t (.slice p len cap) d pl) : ∃ A, IntSlice w p len A := by
  obtain ⟨fuel, hf⟩ := h
  rcases ChangeShapes.open_ints ht he hC hf with ⟨hcs, _⟩ | ⟨a, len', cap', zs, hcs, hb, hl, hm, hz, hx, hcell, hwf⟩
  · simp [Value.cells] at hcs
    obtain ⟨rfl, rfl, rfl⟩ := hcs
    exact ⟨fun _ => 0, by omega, fun i hi => by omega⟩
  · simp [Value.cells] at hcs
    obtain ⟨rfl, rfl, rfl⟩ := hcs
    have hlz : len ≤ zs.length := by rw [hz]; split <;> omega
    refine ⟨fun i => zs.getD i 0, by unfold maxLen at hm; omega, fun i hil => ?_⟩
    have spot0 : a.spot = none := by
      have h0 := hcell 0 (by omega)
      simpa [Addr.add] using World.cell?_spot h0
    obtain ⟨bl, off, sp⟩ := a
    simp only at spot0
    subst spot0
    have hc := hcell i (by omega)
    have hadd : (⟨bl, off, none⟩ : Addr).add i = ⟨bl, off + i, none⟩ := by
      unfold Addr.add
      by_cases hz0 : i = 0
      · simp [hz0]
      · simp [hz0]
    rw [hadd] at hc
    have hw := wf_bounds (hwf (zs.getD i 0) (by
      rw [List.getD_eq_getElem?_getD, List.getElem?_eq_getElem (by omega)]
      exact List.getElem_mem _))
    exact ⟨bl, off, rfl, World.block_lt_of_cell? w ⟨bl, off + i, none⟩ hc, hc, hw⟩
/-- A struct of four integers, by value. -/
theorem open_int4 {r : Reach} {b0 : Nat} {t ti : TypeId} {f0 f1 f2 f3 : Field} {v : Value} {d : DataW H} {p : List MemPlace} (hs : P.underlying t = some (.struct #[f0, f1, f2, f3])) (hone : oneCellFields P #[f0, f1, f2, f3] = true) (hC : P.cellsOf t = 4)
    (hi : P.underlying ti = some (.int .i64)) (e0 : f0.type = ti) (e1 : f1.type = ti) (e2 : f2.type = ti) (e3 : f3.type = ti)
    (hv : Value.okWide P w r b0 t v) (h : DataW.Trod enc P w base spare held t v d p) :
    ∃ x0 x1 x2 x3 : Int, v = .agg #[.int .i64 x0, .int .i64 x1, .int .i64 x2, .int .i64 x3] ∧ ∀ y ∈ [x0, x1, x2, x3], -9223372036854775808 ≤ y ∧ y ≤ 9223372036854775807 := by
  obtain ⟨v0, v1, v2, v3, y0, y1, y2, y3, n, rfl, _, _, g0, g1, g2, g3⟩ := Joins.open_agg4 hs hone hC hv h
  rw [e0] at g0; rw [e1] at g1; rw [e2] at g2; rw [e3] at g3
  obtain ⟨k0, q0, _, w0⟩ := DataW.trod_int hi g0
  obtain ⟨k1, q1, _, w1⟩ := DataW.trod_int hi g1
  obtain ⟨k2, q2, _, w2⟩ := DataW.trod_int hi g2
  obtain ⟨k3, q3, _, w3⟩ := DataW.trod_int hi g3
  simp only [List.cons.injEq, and_true] at q0 q1 q2 q3
  subst q0 q1 q2 q3
  refine ⟨k0, k1, k2, k3, rfl, fun y hy => ?_⟩
  simp only [List.mem_cons, List.not_mem_nil, or_false] at hy
  rcases hy with rfl | rfl | rfl | rfl
  · exact wf_bounds w0
  · exact wf_bounds w1
  · exact wf_bounds w2
  · exact wf_bounds w3
end
end Go.Proofs.YtgocmnejlbfplaaGreatDoor
