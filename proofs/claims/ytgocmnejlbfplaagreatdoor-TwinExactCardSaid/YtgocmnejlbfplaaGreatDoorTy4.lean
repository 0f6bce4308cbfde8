/- Texts put together: Plate5, Plate6, Sl, Sub, MapBr, Grow. Conditions: none. -/
import Derived.Deep.DeepCutAuto
import Derived.StillTailTactics
import Derived.RangeFuncNested
import Derived.RangeFuncBound
import Derived.RangeFuncCalls
import Derived.RangeFuncLeaves
import Derived.RangeFuncBox
import Derived.Shelf.Abstract
import Derived.Shelf.RegionOpen
import Derived.WalkKit
import Derived.OwnWalkIn
import Derived.TacticsInMore
import Derived.LoopNIn
import Derived.LoopIn
import Derived.OwnWalk
import Derived.Shelf.SlIterI.Nil
import Derived.Shelf.SortM.Plain
import Derived.Shelf.SortM.SortNone
import Derived.Sort.Grow
import Derived.Test.YtgocmnejlbfplaaGreatDoorTy1
import Derived.Test.YtgocmnejlbfplaaGreatDoorTy2
import Derived.Test.YtgocmnejlbfplaaGreatDoorTy3
namespace Go.Proofs.YtgocmnejlbfplaaGreatDoor
open Go Go.MapKept Go.RowKit Go.Proofs

/-- What becomes of the i-th write that waits: the list's own word. -/
def fateM (len : Nat) (A : Nat → Int) (i : Nat) : Int := if len = 0 then 0 else A (i % len) % 3
theorem tmod3 (a : Int) : a.tmod 3 = if 0 ≤ a ∨ a % 3 = 0 then a % 3 else a % 3 - 3 := by
  have h := Int.tmod_eq_emod (a := a) (b := 3)
  by_cases h1 : 0 ≤ a ∨ (3 : Int) ∣ a
  · rw [if_pos h1] at h
    rw [if_pos (by omega), h]; simp
  · rw [if_neg h1] at h
    rw [if_neg (by omega), h]; rfl
theorem fate_any (p : Option Addr) (len cap : Nat) (A : Nat → Int) (i : Nat) (W w : World) (hW : IntSlice W p len A) (hb : Below W.heap.size W w) (hi : (i : Int) ≤ 9223372036854775807) :
    Calls Tryz.prog 50 #[.slice p len cap, .int .i64 i] w (Ret (.int .i64 (fateM len A i)) (Same w)) := by
  unfold fateM
  by_cases h0 : len = 0
  · subst h0
    rw [if_pos rfl]
    go_enter Tryz.func50, Tryz.ntmps50
    go_wp2_with fail
    go_ret
    exact ⟨rfl, rfl⟩
  · rw [if_neg h0]
    obtain ⟨hlen, hc⟩ := hW
    have hm : i % len < len := Nat.mod_lt _ (by omega)
    obtain ⟨b, off, rfl, hbl, hc1, hlo, hhi⟩ := hc _ hm
    have hcell : w.cell? ⟨b, off + i % len, none⟩ = some (.int .i64 (A (i % len))) := by rw [← hc1]; exact hb.cell hbl
    generalize hj : i % len = j at *
    have hrem : ((i : Int).tmod (len : Int)) = (j : Int) := by
      rw [← hj, Int.tmod_eq_emod_of_nonneg (by omega)]; rfl
    have hne : ¬ ((len : Int) = 0) := by omega
    have hne2 : ((len : Int) == 0) = false := by simpa using hne
    have hj1 : (j : Int) < (len : Int) := by omega
    have hj0 : (0 : Int) ≤ (j : Int) := by omega
    have hlen' : (len : Int) ≤ 9223372036854775807 := by omega
    generalize A j = a at *
    clear hc hb hc1 hj h0 hm
    by_cases hs : a.tmod 3 < 0
    · have e : a % 3 = a.tmod 3 + 3 := by rw [tmod3] at hs ⊢; split at hs <;> omega
      rw [e]
      go_enter Tryz.func50, Tryz.ntmps50
      go_wp2_with fail
      go_ret
      exact ⟨rfl, rfl⟩
    · have e : a % 3 = a.tmod 3 := by rw [tmod3] at hs ⊢; split at hs <;> omega
      rw [e]
      go_enter Tryz.func50, Tryz.ntmps50
      go_wp2_with fail
      go_ret
      exact ⟨rfl, rfl⟩
/-- What a waiting write leaves behind it when the power comes back. -/
def stepF (f : Int) (x : Int × ByteArray) (D : List (Int × ByteArray)) : List (Int × ByteArray) :=
  if f = 1 then putL x.1 x.2 D else if f = 2 then putL x.1 ⟨#[]⟩ D else D
def fateTo (f : Nat → Int) (q D : List (Int × ByteArray)) : Nat → List (Int × ByteArray)
  | 0 => D
  | k + 1 => match q[k]? with
    | some x => stepF (f k) x (fateTo f q D k)
    | none => fateTo f q D k
def onM (M : PM) (f : Nat → Int) : PM := if M.down then { M with down := false, secs := fateTo f M.queue M.secs M.queue.length, queue := [] } else M
theorem on_nil (lv : Value) (w : World) : Calls Tryz.prog 14 #[.pointer none, lv] w (Ret (.tuple #[]) (Same w)) := by
  go_enter Tryz.func14, Tryz.ntmps14
  go_wp2
  refine bodyPost_end (results_none rfl _ _ _) rfl ?_
  exact ⟨rfl, rfl⟩
set_option maxRecDepth 100000 in
set_option maxHeartbeats 1600000 in
theorem on_any (b : Nat) (M : PM) (F : Heaplet) (lv : Value) (f : Nat → Int) (w : World) (h : PlateIs b M F w) (hq : M.queue.length ≤ 1000000)
    (hf : ∀ (i : Nat) (w' : World), i < 1000000 → Sat w' F → Calls Tryz.prog 50 #[lv, .int .i64 i] w' (Ret (.int .i64 (f i)) (Same w'))) :
    Calls Tryz.prog 14 #[.pointer (some ⟨b, 0, none⟩), lv] w (Ret (.tuple #[]) (PlateIs b (onM M f) F)) := by
  unfold onM
  obtain ⟨m0, qv0, c0, c1, c2, c3, c4, c5, c6, u⟩ := h.cells
  cases hd : M.down with
  | false =>
    rw [hd] at c3
    have H := Lib.hid h
    clear h hd c0 c1 c2 c4 c5 c6 u hf hq
    go_enter Tryz.func14, Tryz.ntmps14
    go_wp2_with fail
    refine bodyPost_ret (results_none rfl _ _ _) rfl ?_
    exact ⟨rfl, H.out⟩
  | true =>
    rw [hd] at c3
    have hr := h.setField (M' := { M with down := false }) 3 (.bool false) rfl rfl (fun _ _ => by rw [hd]; rfl)
    have u3 := u 3
    obtain ⟨m, qv, qh, hv⟩ := hr.v
    obtain ⟨p, cap, rfl, hel⟩ := hv.slice
    obtain ⟨d1, d2, _⟩ := hv.cell
    have HV := Lib.hid hv
    have HE := Lib.hid hel
    have HF := Lib.hid hf
    clear h hr hd hv hel hf c0 c1 c2 c4 c5 c6 u
    simp only [if_true] at HV HE d1 d2 ⊢
    go_enter Tryz.func14, Tryz.ntmps14
    go_wp2_with fail
    go_loopw [23] (fun c wr => ∃ k : Nat, k ≤ M.queue.length ∧ c = .int .i64 k ∧ PlateV b { M with down := false, secs := fateTo f M.queue M.secs k } m (.slice p M.queue.length cap) qh F wr) (fun c _ => 1000000 - (intOf c).toNat)
    case atStart => exact ⟨0, by omega, rfl, HV.out⟩
    case round =>
      obtain ⟨k, hk, rfl, hvk⟩ := hrel
      clear d1 d2
      obtain ⟨c1, c2, u⟩ := hvk.cell
      have u2 := u 2
      by_cases hlt : k < M.queue.length
      · obtain ⟨x, hx⟩ : ∃ x, M.queue[k]? = some x := ⟨_, List.getElem?_eq_getElem hlt⟩
        obtain ⟨g, rfl, hgc⟩ := HE.out k x hx
        obtain ⟨g0, g1⟩ := hgc hvk
        have hk0 : (0 : Int) ≤ (k : Int) := by omega
        have hk1 : (k : Int) < (M.queue.length : Int) := by omega
        have hvn := hvk.new (.cells #[kI x.1, kS x.2] 88)
        have hfk := HF.out k _ (by omega) hvn.frame.tail
        have HVN := Lib.hid hvn
        have HX := Lib.hid hx
        have HK := Lib.hid hfk
        clear hvk hx hgc u hvn hfk
        go_wp2_with fail
        generalize wr.alloc _ = W1 at *
        generalize wr.heap.size = ob at *
        have hb0 : Sat W1 _ := HVN.out.frame
        have b0 : W1.cell? ⟨ob, 0, none⟩ = some (kI x.1) := by rw [cell_of hb0.h0]; rfl
        have b1 : W1.cell? ⟨ob, 1, none⟩ = some (kS x.2) := by rw [cell_of hb0.h0]; rfl
        obtain ⟨d1, d2, _⟩ := HVN.out.cell
        clear hb0
        refine (HK.out).mono ?_
        rintro e w' ⟨rfl, rfl⟩
        have est : fateTo f M.queue M.secs (k + 1) = stepF (f k) x (fateTo f M.queue M.secs k) := by
          rw [fateTo, HX.out]
        clear HK
        generalize f k = fk at *
        by_cases h1 : fk = 1
        · subst h1
          obtain ⟨w3, hu, hput⟩ := HVN.out.drew.put x.1 x.2
          have HP := Lib.hid hput
          have EST := Lib.hid est
          clear hput est
          go_upto_region 7 with (fail)
          go_still_tail 8, (by kernel_rfl)
          change wpList _ _ _ _ _ (World.drew _)
          generalize World.drew _ = wd at *
          go_wp2_with fail
          refine ⟨⟨k + 1, by omega, by simp, ?_⟩, by simp only [intOf]; omega⟩
          have := HP.out.unF
          simp only [putS] at this
          rw [EST.out]
          exact this
        · by_cases h2 : fk = 2
          · subst h2
            obtain ⟨w3, hu, hput⟩ := HVN.out.drew.put x.1 ⟨#[]⟩
            have HP := Lib.hid hput
            have EST := Lib.hid est
            clear hput est
            go_upto_region 9 with (fail)
            go_still_tail 6, (by kernel_rfl)
            change wpList _ _ _ _ _ (World.drew _)
            generalize World.drew _ = wd at *
            go_wp2_with fail
            refine ⟨⟨k + 1, by omega, by simp, ?_⟩, by simp only [intOf]; omega⟩
            have := HP.out.unF
            simp only [putS] at this
            rw [EST.out]
            exact this
          · have e1 : (fk == 1) = false := by simpa using h1
            have e2 : (fk == 2) = false := by simpa using h2
            have EST := Lib.hid est
            clear est
            go_wp2_with fail
            refine ⟨⟨k + 1, by omega, by simp, ?_⟩, by simp only [intOf]; omega⟩
            have := HVN.out.unF
            rw [EST.out, stepF, if_neg h1, if_neg h2]
            exact this
      · have hke : k = M.queue.length := by omega
        subst hke
        obtain ⟨h2, es, clk, h1, hs⟩ := hvk
        have hfin : PlateIs b { M with down := false, secs := fateTo f M.queue M.secs M.queue.length, queue := [] } F (wr.setCell ⟨b, 2, none⟩ (.slice none 0 0)) :=
          ⟨m, es, clk, .slice none 0 0, [], h1, SliceIs.nil _ _, (by
            exact ((hs.setCell (i := 2) (.slice none 0 0)).perm (List.perm_append_comm_assoc (l₁ := [HItem.blk b _, .blk m (.map es clk)]) (l₂ := qh) (l₃ := F))).right)⟩
        have Fin := Lib.hid hfin
        have hkf : ¬ ((M.queue.length : Int) < (M.queue.length : Int)) := by omega
        clear hfin hs h1 h2 HV HE
        go_wp2_with fail
        refine bodyPost_end (results_none rfl _ _ _) rfl ?_
        exact ⟨rfl, Fin.out⟩
end Go.Proofs.YtgocmnejlbfplaaGreatDoor
namespace Go.Proofs.YtgocmnejlbfplaaGreatDoor
open Go Go.MapKept Go.RowKit Go.Proofs Go.Shelf

attribute [local go_sem] Oper.semAt_some

/-- What has come when the places from i on are over: the last first. -/
def backFrom {α : Type} (q : List α) (i : Nat) : List (α × Nat) := (q.zipIdx.drop i).reverse
theorem backFrom_all {α : Type} (q : List α) : backFrom q q.length = [] := by simp [backFrom]
theorem backFrom_step {α : Type} {q : List α} {i : Nat} {x : α} (h : q[i]? = some x) : backFrom q i = backFrom q (i + 1) ++ [(x, i)] := by
  have hl : i < q.zipIdx.length := by rw [List.length_zipIdx]; exact (List.getElem?_eq_some_iff.1 h).1
  unfold backFrom
  rw [List.drop_eq_getElem_cons hl, List.reverse_cons]
  have : q.zipIdx[i] = (x, i) := by
    have h2 := (List.getElem?_eq_some_iff.1 h)
    simp [h2.2]
  rw [this]
theorem backFrom_prefix {α : Type} (q : List α) (i : Nat) : backFrom q i <+: backFrom q 0 := by
  unfold backFrom
  rw [List.reverse_prefix]
  exact (List.drop_suffix i _).trans (by simp)
theorem backFrom_length {α : Type} (q : List α) (i : Nat) : (backFrom q i).length = q.length - i := by simp [backFrom]

set_option maxRecDepth 100000 in
set_option maxHeartbeats 2000000 in
theorem back1_in (F : Fence) (n : Nat) (hF : F.fn 66) (hro : F.round = none) (hn : 1 ≤ n) (l Bs n₀ cap : Nat) (p : Option Addr) (q : List (Int × ByteArray)) (hq : q.length ≤ 1000000) (J Jx : List ((Int × ByteArray) × Nat) → World → Prop)
    (hY : ∀ pre x W, J pre W → pre.length < q.length → YieldAt F (n - 1) Tryz.prog l #[.int .i64 (x.2 : Int), .agg #[kI x.1.1, kS x.1.2]] W fun e W' =>
      (e = .returned (.bool true) ∧ J (pre ++ [x]) W' ∧ Below n₀ W W') ∨ (e = .returned (.bool false) ∧ Jx (pre ++ [x]) W'))
    (W : World) (hb : Bs < n₀) (hBs : W.cell? ⟨Bs, 0, none⟩ = some (.slice p q.length cap))
    (hc : ∀ j x, q[j]? = some x → ∃ b, p = some ⟨b, 0, none⟩ ∧ b < n₀ ∧ W.cell? ⟨b, j * 2, none⟩ = some (kI x.1) ∧ W.cell? ⟨b, j * 2 + 1, none⟩ = some (kS x.2)) (h0 : J [] W) :
    CallsIn F n Tryz.prog 66 #[.func (.yield l) #[] #[], .pointer (some ⟨Bs, 0, none⟩)] W fun e W' => (∃ v, e = .returned v) ∧
      ((∃ ys, ys = backFrom q 0 ∧ J ys W') ∨ (∃ pre, pre <+: backFrom q 0 ∧ Jx pre W')) := by
  refine callsIn_of_wp Tryz.func66 rfl hF ?_ hro
  simp only [Tryz.ntmps66, List.size_toArray, List.length_cons, List.length_nil, Nat.reduceAdd, Nat.reduceSub, Array.replicate_succ, Array.replicate_zero, List.push_toArray, List.append_toArray, List.nil_append, List.cons_append]
  gi_wp2
  gi_loopw [3] (fun c wr => ∃ j : Nat, j ≤ q.length ∧ c = .int .i64 ((j : Int) - 1) ∧ J (backFrom q j) wr ∧ Below n₀ W wr) (fun c _ => (intOf c + 1).toNat)
  case atStart => exact ⟨q.length, Nat.le_refl _, rfl, by rw [backFrom_all]; exact h0, Below.refl _ _⟩
  case round =>
    obtain ⟨j, hj, rfl, hJs, hnx⟩ := hrel
    have hbs : wr.cell? ⟨Bs, 0, none⟩ = some (.slice p q.length cap) := (hnx.cell (p := ⟨Bs, 0, none⟩) hb).trans hBs
    rcases Nat.eq_zero_or_pos j with rfl | hpos
    · have e : ((0 : Nat) : Int) - 1 = -1 := rfl
      rw [e]
      clear hY hc
      gi_wp2
      go_end0
      exact ⟨⟨_, rfl⟩, .inl ⟨_, rfl, hJs⟩⟩
    · obtain ⟨i, rfl⟩ : ∃ i, j = i + 1 := ⟨j - 1, by omega⟩
      have e : ((i + 1 : Nat) : Int) - 1 = (i : Int) := by omega
      rw [e]
      have hlt : i < q.length := by omega
      obtain ⟨x, hx⟩ : ∃ x, q[i]? = some x := ⟨_, List.getElem?_eq_getElem hlt⟩
      obtain ⟨b, rfl, hbn, hc0, hc1⟩ := hc i x hx
      have g0 : wr.cell? ⟨b, i * 2, none⟩ = some (kI x.1) := (hnx.cell (p := ⟨b, i * 2, none⟩) hbn).trans hc0
      have g1 : wr.cell? ⟨b, i * 2 + 1, none⟩ = some (kS x.2) := (hnx.cell (p := ⟨b, i * 2 + 1, none⟩) hbn).trans hc1
      obtain ⟨fn, tmps, assign, body, hy, hR⟩ := hY _ (x, i) wr hJs (by rw [backFrom_length]; omega)
      dsimp only at hy
      rw [← backFrom_step hx] at hR
      have hi0 : (0 : Int) ≤ (i : Int) := by omega
      have hi1 : (i : Int) < (q.length : Int) := by omega
      clear hY hc
      gi_wp2
      refine hR.mono ?_
      rintro e W3 (⟨rfl, hJ3, hk3⟩ | ⟨rfl, hJx3⟩)
      · gi_wp2
        go_roundw
        case rel => exact ⟨i, by omega, by simp, hJ3, hnx.trans hk3⟩
        case measure => simp only [intOf]; omega
      · gi_wp2
        refine bodyPost_ret (results_none rfl _ _ _) rfl ?_
        exact ⟨⟨_, rfl⟩, .inr ⟨_, backFrom_prefix _ _, hJx3⟩⟩
end Go.Proofs.YtgocmnejlbfplaaGreatDoor
namespace Go.Proofs.YtgocmnejlbfplaaGreatDoor
open Go Go.MapKept Go.RowKit Go.Proofs

section
variable {α : Type} {fl : α → List Value} {T t : TypeId} {sz n : Nat} {v : Value} {R : List α} {h F : Heaplet} {w : World} {P : Program}
theorem sl_form {cs : List Value} (hs : SliceIs T sz v n cs h) : ∃ a cap, v = .slice a n cap := by
  rcases hs.2 with ⟨rfl, e0, rfl⟩ | ⟨g, cap, cur, rfl, _⟩
  · exact ⟨none, 0, by rw [e0]⟩
  · exact ⟨_, _, rfl⟩
theorem sl_some {cs : List Value} (hs : SliceIs T sz v n cs h) (hn : 0 < n) : ∃ g cap, v = .slice (some ⟨g, 0, none⟩) n cap := by
  rcases hs.2 with ⟨rfl, e0, rfl⟩ | ⟨g, cap, cur, rfl, _⟩
  · omega
  · exact ⟨_, _, rfl⟩
theorem fm_len (hfl : ∀ q, (fl q).length = sz) : ∀ R : List α, (R.flatMap fl).length = R.length * sz
  | [] => by simp
  | x :: r => by rw [List.flatMap_cons, List.length_append, hfl, fm_len hfl r, List.length_cons, Nat.succ_mul]; omega
theorem fm_get (hfl : ∀ q, (fl q).length = sz) : ∀ (R : List α) (i j : Nat) (q : α) (u : Value), R[i]? = some q → (fl q)[j]? = some u → (R.flatMap fl)[i * sz + j]? = some u
  | [], i, j, q, u, hq, _ => by simp at hq
  | x :: r, 0, j, q, u, hq, hu => by
    simp at hq; subst hq
    have hj := (List.getElem?_eq_some_iff.1 hu).1
    rw [List.flatMap_cons, Nat.zero_mul, Nat.zero_add, List.getElem?_append_left hj]
    exact hu
  | x :: r, i + 1, j, q, u, hq, hu => by
    have ih := fm_get hfl r i j q u (by simpa using hq) hu
    rw [List.flatMap_cons, List.getElem?_append_right (by rw [hfl, Nat.succ_mul]; omega), hfl, show (i + 1) * sz + j - sz = i * sz + j from by rw [Nat.succ_mul]; omega]
    exact ih
theorem fm_set (hfl : ∀ q, (fl q).length = sz) : ∀ (R : List α) (i f : Nat) (q q' : α) (u : Value), R[i]? = some q → f < sz → (fl q).set f u = fl q' → (R.flatMap fl).set (i * sz + f) u = (R.set i q').flatMap fl
  | [], i, f, q, q', u, hq, _, _ => by simp at hq
  | x :: r, 0, f, q, q', u, hq, hf, e => by
    simp at hq; subst hq
    rw [List.flatMap_cons, Nat.zero_mul, Nat.zero_add, List.set_append, if_pos (by rw [hfl]; exact hf), e, List.set_cons_zero, List.flatMap_cons]
  | x :: r, i + 1, f, q, q', u, hq, hf, e => by
    have ih := fm_set hfl r i f q q' u (by simpa using hq) hf e
    rw [List.flatMap_cons, List.set_append, if_neg (by rw [hfl, Nat.succ_mul]; omega), hfl, show (i + 1) * sz + f - sz = i * sz + f from by rw [Nat.succ_mul]; omega, ih, List.set_cons_succ, List.flatMap_cons]
/-- The cells of an element. -/
theorem sl_cells (hfl : ∀ q, (fl q).length = sz) (hv : SliceIs T sz v R.length (R.flatMap fl) h) (s : Sat w (h ++ F)) : ∃ a cap, v = .slice a R.length cap ∧
    ∀ i q, R[i]? = some q → ∃ g, a = some ⟨g, 0, none⟩ ∧ (∀ j, w.frozen? ⟨g, j, none⟩ = false) ∧ ∀ j u, (fl q)[j]? = some u → w.cell? ⟨g, i * sz + j, none⟩ = some u := by
  obtain ⟨a, cap, rfl⟩ := sl_form hv
  refine ⟨a, cap, rfl, fun i q hq => ?_⟩
  have hv' := hv
  rcases hv.2 with ⟨_, e, _⟩ | ⟨g, cap', cur, e, _, _, _, _, rfl⟩
  · have := (List.getElem?_eq_some_iff.1 hq).1
    omega
  · cases e
    exact ⟨g, rfl, fun j => unfrozen_of s.h0 j, fun j u hu => (hv'.cell s rfl (fm_get hfl R i j q u hq hu)).2.2⟩
/-- One more is pushed: 'append' of an element that lies in a block of its own. -/
theorem sl_push {i : TypeInfo} {z : Value} {bytes : Nat} (hfl : ∀ q, (fl q).length = sz) (ht : P.underlying t = some (.slice T)) (hi : P.info? T = some i) (hz : i.zero = some z) (hsize : i.size = sz) (hby : i.bytes = bytes) (hzs : z.cells.size = sz) (hsz : 0 < sz)
    (hv : SliceIs T sz v R.length (R.flatMap fl) h) {x : Nat} {Tn : TypeId} {A B : Heaplet} (q : α) (s : Sat w (.blk x (.cells (fl q).toArray Tn) :: (A ++ (h ++ B)))) (h1 : ∀ u ∈ fl q, u.oneCell' = true) (h63 : R.length + 1 ≤ maxLen) (hbytes : (R.length + 1) * bytes ≤ 140737488355328) :
    ∃ v' w' h', (∀ ty, (Builtin.append_ #[t, t] ty #[v, .slice (some ⟨x, 0, none⟩) 1 1]).run P w = .ok v' w') ∧ SliceIs T sz v' (R ++ [q]).length ((R ++ [q]).flatMap fl) h' ∧ Sat w' (A ++ (h' ++ B)) := by
  have s1 : Sat w (h ++ (A ++ (.blk x (.cells (fl q).toArray Tn) :: B))) := by
    refine s.perm ?_
    have p1 : (HItem.blk x (.cells (fl q).toArray Tn) :: (A ++ (h ++ B))).Perm (A ++ (h ++ (.blk x (.cells (fl q).toArray Tn) :: B))) :=
      (List.perm_middle (l₁ := A)).symm.trans (List.Perm.append_left A (List.perm_middle (l₁ := h)).symm)
    exact p1.trans (List.perm_append_comm_assoc A h _)
  have hx := s.h0
  have hnews : ∀ j u, (fl q)[j]? = some u → w.cell? ((⟨x, 0, none⟩ : Addr).add j) = some u := by
    intro j u hu
    have hadd : (⟨x, 0, none⟩ : Addr).add j = ⟨x, j, none⟩ := by unfold Addr.add; split <;> simp_all
    rw [hadd, cell_of hx]
    simpa using hu
  obtain ⟨v', w', h', hr, hsl, hsat⟩ := sat_append (P := P) (ty := 0) ht hi hz hsize hby hzs hsz hv s1 ⟨x, 0, none⟩ 1 1 (fl q) (by rw [hfl, Nat.one_mul]) hnews h1 (by decide) h63 hbytes
  refine ⟨v', w', h', fun ty => hr, ?_, ?_⟩
  · rw [List.flatMap_append, List.length_append]
    simpa using hsl
  · exact ((hsat.perm (List.perm_append_comm_assoc h' A _)).perm (List.Perm.append_left A (List.perm_middle (l₁ := h'))) |>.perm List.perm_middle).tail
/-- A field turns. -/
theorem sl_set (hfl : ∀ q, (fl q).length = sz) {g cap i f : Nat} {q q' : α} (hv : SliceIs T sz (.slice (some ⟨g, 0, none⟩) R.length cap) R.length (R.flatMap fl) h) (s : Sat w (h ++ F)) (hq : R[i]? = some q) (hf : f < sz) {u : Value} (e : (fl q).set f u = fl q') :
    ∃ h', SliceIs T sz (.slice (some ⟨g, 0, none⟩) R.length cap) (R.set i q').length ((R.set i q').flatMap fl) h' ∧ Sat (w.setCell ⟨g, i * sz + f, none⟩ u) (h' ++ F) := by
  have hi := (List.getElem?_eq_some_iff.1 hq).1
  rcases hv.2 with ⟨e2, _⟩ | ⟨g', cap', cur, e2, hnc, hcm, hcs, htake, rfl⟩
  · cases e2
  · simp only [Value.slice.injEq, Option.some.injEq, Addr.mk.injEq] at e2
    obtain ⟨⟨rfl, _, _⟩, _, rfl⟩ := e2
    refine ⟨[.blk g (.cells (cur.setIfInBounds (i * sz + f) u) T)], ⟨by rw [fm_len hfl], .inr ⟨g, cap, _, by rw [List.length_set], by rw [List.length_set]; exact hnc, hcm, by simp [hcs], ?_, rfl⟩⟩, Sat.setCell s u⟩
    rw [Array.toList_setIfInBounds, List.take_set, List.length_set, htake, fm_set hfl R i f q q' u hq hf e]
/-- The last one goes: 's[:len(s)-1]'. -/
theorem sl_pop (hfl : ∀ q, (fl q).length = sz) {q : α} {g cap m : Nat} (hv : SliceIs T sz (.slice (some ⟨g, 0, none⟩) m cap) (R ++ [q]).length ((R ++ [q]).flatMap fl) h) : SliceIs T sz (.slice (some ⟨g, 0, none⟩) R.length cap) R.length (R.flatMap fl) h := by
  rcases hv.2 with ⟨e2, _⟩ | ⟨g', cap', cur, e2, hnc, hcm, hcs, htake, rfl⟩
  · cases e2
  · simp only [Value.slice.injEq, Option.some.injEq, Addr.mk.injEq] at e2
    obtain ⟨⟨rfl, _, _⟩, _, rfl⟩ := e2
    rw [List.length_append] at hnc htake
    refine ⟨fm_len hfl R, .inr ⟨g, cap, cur, rfl, by omega, hcm, hcs, ?_, rfl⟩⟩
    have h1 := congrArg (List.take (R.length * sz)) htake
    rw [List.take_take, Nat.min_eq_left (Nat.mul_le_mul_right _ (by omega)), List.flatMap_append, List.take_append_of_le_length (by rw [fm_len hfl]; exact Nat.le_refl _)] at h1
    rw [h1, ← fm_len hfl R, List.take_length]
theorem fm_one (R : List Int) : R.flatMap (fun x => [kI x]) = R.map kI := by
  induction R with
  | nil => rfl
  | cons x r ih => simp [ih]
/-- An empty slice, made. -/
theorem sl_new (T : TypeId) (sz g : Nat) : SliceIs T sz (.slice (some ⟨g, 0, none⟩) 0 0) 0 [] [.blk g (.cells #[] T)] :=
  ⟨by simp, .inr ⟨g, 0, #[], rfl, Nat.le_refl _, by simp [maxLen], by simp, by simp, rfl⟩⟩
end
end Go.Proofs.YtgocmnejlbfplaaGreatDoor
namespace Go.Proofs.YtgocmnejlbfplaaGreatDoor
open Go

/-- How often an item is there. -/
noncomputable def ind (a b : HItem) : Nat := open Classical in if a = b then 1 else 0
noncomputable def cnt (a : HItem) : Heaplet → Nat
  | [] => 0
  | b :: l => ind a b + cnt a l
theorem cnt_nil (a : HItem) : cnt a [] = 0 := rfl
theorem cnt_cons (a b : HItem) (l : Heaplet) : cnt a (b :: l) = ind a b + cnt a l := rfl
theorem cnt_append (a : HItem) : ∀ (l m : Heaplet), cnt a (l ++ m) = cnt a l + cnt a m
  | [], m => by simp [cnt]
  | b :: l, m => by
    have ih := cnt_append a l m
    rw [List.cons_append, cnt_cons, cnt_cons, ih]; omega
theorem cnt_mem {a : HItem} : ∀ {l : Heaplet}, 0 < cnt a l → ∃ m, l.Perm (a :: m) ∧ ∀ b, cnt b l = ind b a + cnt b m
  | [], h => by simp [cnt] at h
  | c :: l, h => by
    by_cases e : a = c
    · subst e; exact ⟨l, List.Perm.refl _, fun b => rfl⟩
    · have h1 : ind a c = 0 := by unfold ind; rw [if_neg e]
      rw [cnt_cons, h1] at h
      obtain ⟨m, p, hc⟩ := cnt_mem (a := a) (l := l) (by omega)
      exact ⟨c :: m, (p.cons c).trans (List.Perm.swap _ _ _), fun b => by rw [cnt_cons, cnt_cons, hc b]; omega⟩
theorem cnt_part : ∀ {k l : Heaplet}, (∀ a, cnt a k ≤ cnt a l) → ∃ r, l.Perm (k ++ r)
  | [], l, _ => ⟨l, List.Perm.refl _⟩
  | b :: k, l, h => by
    have h1 : ind b b = 1 := by unfold ind; rw [if_pos rfl]
    have h2 := h b
    rw [cnt_cons, h1] at h2
    obtain ⟨m, p, hc⟩ := cnt_mem (a := b) (l := l) (by omega)
    obtain ⟨r, q⟩ := cnt_part (k := k) (l := m) (fun a => by
      have := h a
      rw [cnt_cons, hc a] at this; omega)
    exact ⟨r, p.trans (q.cons b)⟩
theorem Sat.left' {w : World} {h k : Heaplet} (s : Sat w (h ++ k)) : Sat w h := Sat.right (h' := k) (s.perm List.perm_append_comm)
theorem Sat.part {w : World} {k l : Heaplet} (s : Sat w l) (h : ∀ a, cnt a k ≤ cnt a l) : Sat w k := by
  obtain ⟨r, p⟩ := cnt_part h
  exact (s.perm p).left'
end Go.Proofs.YtgocmnejlbfplaaGreatDoor
namespace Go.Proofs.YtgocmnejlbfplaaGreatDoor
open Go Go.MapKept Go.RowKit Go.Proofs Go.Maps Go.Sort Go.Shelf Go.WideShapes

theorem Sat.monoB {w w' : World} {H : Heaplet} (s : Sat w H) (hb : Below w.heap.size w w') : Sat w' H := by
  refine ⟨fun x hx => ?_, s.2⟩
  have h := s.1 x hx
  cases x with
  | blk b o => exact (hb.block b (Array.getElem?_eq_some_iff.1 h).1).trans h
  | env w0 => exact ⟨hb.os.trans h.1, hb.tape.trans h.2.1, hb.output.trans h.2.2⟩
/-- The keys, rising. -/
def sortK (l : List Int) : List Int := l.mergeSort fun x y => decide (x ≤ y)
theorem sortK_perm (l : List Int) : (sortK l).Perm l := List.mergeSort_perm _ _
theorem sortK_sorted (l : List Int) : (sortK l).Pairwise (· ≤ ·) := by
  have := List.pairwise_mergeSort (le := fun x y : Int => decide (x ≤ y)) (fun a b c h1 h2 => by simp at *; omega) (fun a b => by simp; omega) l
  exact this.imp (fun h => by simpa using h)
theorem sortK_of_perm {l l' : List Int} (h : l.Perm l') : sortK l = sortK l' := by
  have h2 : (sortK l).Perm (sortK l') := ((sortK_perm l).trans h).trans (sortK_perm l').symm
  exact List.Perm.eq_of_pairwise (le := (· ≤ ·)) (fun a b _ _ h1 h2 => Int.le_antisymm h1 h2) (sortK_sorted l) (sortK_sorted l') h2
theorem owns_of_mapOk {V : Type} {P : Program} {k : TypeId} (hk : P.underlying k = some (.int .i64)) {ve : V → Value} {es : Array MapEntry} {clk : Nat} {D : List (Int × V)} (h : MapOk (.int .i64) kI ve es clk D) {w : World} {b : Nat} (hb : w.heap[b]? = some (.map es clk))
    (hr : ∀ p ∈ D, -9223372036854775808 ≤ p.1 ∧ p.1 ≤ 9223372036854775807) (hl : D.length ≤ maxLen) :
    ∃ D0 : DataW Unit, w.ownsMap P k (fun _ => some (.nil, [])) b D.length D0 ∧ (intKeys D0).Perm (D.map (·.1)) ∧ Maps.size D0 = D.length := by
  have hkeys : ∀ x ∈ es.toList, ∃ p ∈ D, x.key = kI p.1 := by
    intro x hx
    have : x.key ∈ es.toList.map (·.key) := List.mem_map.2 ⟨x, hx, rfl⟩
    rw [h.keys] at this
    obtain ⟨p, hp, e⟩ := List.mem_map.1 this
    exact ⟨p, hp, e.symm⟩
  have hwf : ∀ p ∈ D, (Lit.int .i64 p.1).wf = true := by
    intro p hp
    have := hr p hp
    simp [Lit.wf, IntKind.min, IntKind.max, IntKind.signed, IntKind.bits]
    omega
  have hrd : ∀ x ∈ es.toList, ∀ p ∈ D, x.key = kI p.1 → Go.WideElems.rd (H := Unit) P k (fun _ => some (.nil, [])) x = some (.int .i64 p.1, .nil) := by
    intro x hx p hp e
    unfold Go.WideElems.rd
    rw [e, keyOf_int_mk hk (hwf p hp)]
    rfl
  have hsz : es.size = D.length := h.size
  refine ⟨_, ⟨es, clk, hb, ⟨by rw [hsz]; exact hl, h.stamped, fun x hx => ?_⟩, by omega, rfl⟩, ?_, ?_⟩
  · obtain ⟨p, hp, e⟩ := hkeys x hx
    exact ⟨_, hrd x hx p hp e⟩
  · have e1 : (intKeys (DataW.map ((es.toList.map (Go.WideElems.rg (H := Unit) P k (fun _ => some (.nil, [])))).foldr DataW.insert []))).Perm ((es.toList.map (Go.WideElems.rg (H := Unit) P k (fun _ => some (.nil, [])))).map fun p => Go.intOf p.1) := (sorted_perm _).map _
    refine e1.trans (List.Perm.of_eq ?_)
    rw [List.map_map]
    have e2 : es.toList.map ((fun p : Lit × DataW Unit => Go.intOf p.1) ∘ Go.WideElems.rg P k (fun _ => some (.nil, []))) = es.toList.map (fun e => RowKit.intOf e.key) := by
      apply List.map_congr_left
      intro x hx
      obtain ⟨p, hp, e⟩ := hkeys x hx
      simp only [Function.comp, Go.WideElems.rg, hrd x hx p hp e, e]
      rfl
    rw [e2]
    have e3 := h.keys
    have e4 := congrArg (List.map RowKit.intOf) e3
    rw [List.map_map, List.map_map] at e4
    exact e4
  · show ((es.toList.map (Go.WideElems.rg P k _)).foldr DataW.insert []).length = _
    rw [(sorted_perm _).length_eq, List.length_map, Array.length_toList, hsz]
end Go.Proofs.YtgocmnejlbfplaaGreatDoor
namespace Go.Proofs.YtgocmnejlbfplaaGreatDoor
open Go Go.MapKept Go.RowKit Go.Proofs Go.Sort

/-- Draws, and new blocks. -/
def Grown (w w' : World) : Prop := ∃ q os, w' = grow (w.drewN q) os
theorem Grown.refl (w : World) : Grown w w := ⟨0, #[], by rw [grow_empty]; rfl⟩
theorem Grown.alloc (w : World) (o : Obj) : Grown w (w.alloc o) := ⟨0, #[o], by rw [alloc_eq_grow]; rfl⟩
theorem Grown.drew (w : World) : Grown w w.drew := ⟨1, #[], by rw [grow_empty]; rfl⟩
theorem Grown.trans {a b c : World} (h : Grown a b) (k : Grown b c) : Grown a c := by
  obtain ⟨q, os, rfl⟩ := h
  obtain ⟨q', os', rfl⟩ := k
  exact ⟨q + q', os ++ os', by show grow (grow ((a.drewN q).drewN q') os) os' = _; rw [grow_grow, World.drewN_drewN]⟩
theorem Grown.same {w w' : World} (h : Same w w') : Grown w w' := by
  unfold Same at h; rw [← h]; exact Grown.refl w
theorem Grown.below {w w' : World} (h : Grown w w') : RowKit.Below w.heap.size w w' := by
  obtain ⟨q, os, rfl⟩ := h
  refine Sat.below ?_
  have hs : Sat (w.drewN q) (allOf w) := (sat_all w).of_heap rfl ⟨rfl, rfl, rfl⟩
  refine ⟨fun x hx => ?_, hs.2⟩
  have h := hs.1 x hx
  cases x with
  | blk b o => exact (heap_grow_old _ _ (Array.getElem?_eq_some_iff.1 h).1).trans h
  | env w0 => exact h
/-- It returns this; the world has grown at most. -/
def Pur (v : Value) (w : World) : Ending → World → Prop := Ret v (Grown w)
theorem Sat.grown {w w' : World} {F : Heaplet} (s : Sat w F) (h : Grown w w') : Sat w' F := s.monoB h.below
theorem Grown.drewN (w : World) (n : Nat) : Grown w (w.drewN n) := ⟨n, #[], by rw [grow_empty]⟩
end Go.Proofs.YtgocmnejlbfplaaGreatDoor
