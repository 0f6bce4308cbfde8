/- A range over the waiting writes from behind: slices.Backward. Conditions: none. -/
import Derived.Test.YtgocmnejlbfplaaDoorPlate5
import Derived.RangeFuncNested
import Derived.RangeFuncBound
import Derived.RangeFuncCalls
import Derived.RangeFuncLeaves
import Derived.RangeFuncBox
import Derived.Shelf.Abstract
import Derived.Shelf.RegionOpen
import Derived.WalkKit
import Derived.OwnWalkIn
import Derived.TacticsInMore
import Derived.LoopNIn
import Derived.LoopIn
namespace Go.Proofs.YtgocmnejlbfplaaDoor
open Go Go.MapKept Go.RowKit Go.Proofs Go.Shelf

attribute [local go_sem] Oper.semAt_some

/-- What has come when the places from i on are over: the last first. -/
def backFrom {α : Type} (q : List α) (i : Nat) : List (α × Nat) := (q.zipIdx.drop i).reverse
theorem backFrom_all {α : Type} (q : List α) : backFrom q q.length = [] := by simp [backFrom]
theorem backFrom_step {α : Type} {q : List α} {i : Nat} {x : α} (h : q[i]? = some x) : backFrom q i = backFrom q (i + 1) ++ [(x, i)] := by
  have hl : i < q.zipIdx.length := by rw [List.length_zipIdx]; exact (List.getElem?_eq_some_iff.1 h).1
  unfold backFrom
  rw [List.drop_eq_getElem_cons hl, List.reverse_cons]
  have : q.zipIdx[i] = (x, i) := by
    have h2 := (List.getElem?_eq_some_iff.1 h)
    simp [h2.2]
  rw [this]
theorem backFrom_prefix {α : Type} (q : List α) (i : Nat) : backFrom q i <+: backFrom q 0 := by
  unfold backFrom
  rw [List.reverse_prefix]
  exact (List.drop_suffix i _).trans (by simp)
theorem backFrom_length {α : Type} (q : List α) (i : Nat) : (backFrom q i).length = q.length - i := by simp [backFrom]

set_option maxRecDepth 100000 in
set_option maxHeartbeats 2000000 in
theorem back1_in (F : Fence) (n : Nat) (hF : F.fn 42) (hro : F.round = none) (hn : 1 ≤ n) (l Bs n₀ cap : Nat) (p : Option Addr) (q : List (Int × ByteArray)) (hq : q.length ≤ 1000000) (J Jx : List ((Int × ByteArray) × Nat) → World → Prop)
    (hY : ∀ pre x W, J pre W → pre.length < q.length → YieldAt F (n - 1) Tryd.prog l #[.int .i64 (x.2 : Int), .agg #[kI x.1.1, kS x.1.2]] W fun e W' =>
      (e = .returned (.bool true) ∧ J (pre ++ [x]) W' ∧ Below n₀ W W') ∨ (e = .returned (.bool false) ∧ Jx (pre ++ [x]) W'))
    (W : World) (hb : Bs < n₀) (hBs : W.cell? ⟨Bs, 0, none⟩ = some (.slice p q.length cap))
    (hc : ∀ j x, q[j]? = some x → ∃ b, p = some ⟨b, 0, none⟩ ∧ b < n₀ ∧ W.cell? ⟨b, j * 2, none⟩ = some (kI x.1) ∧ W.cell? ⟨b, j * 2 + 1, none⟩ = some (kS x.2)) (h0 : J [] W) :
    CallsIn F n Tryd.prog 42 #[.func (.yield l) #[] #[], .pointer (some ⟨Bs, 0, none⟩)] W fun e W' => (∃ v, e = .returned v) ∧
      ((∃ ys, ys = backFrom q 0 ∧ J ys W') ∨ (∃ pre, pre <+: backFrom q 0 ∧ Jx pre W')) := by
  refine callsIn_of_wp Tryd.func42 rfl hF ?_ hro
  simp only [Tryd.ntmps42, List.size_toArray, List.length_cons, List.length_nil, Nat.reduceAdd, Nat.reduceSub, Array.replicate_succ, Array.replicate_zero, List.push_toArray, List.append_toArray, List.nil_append, List.cons_append]
  gi_wp2
  gi_loopw [3] (fun c wr => ∃ j : Nat, j ≤ q.length ∧ c = .int .i64 ((j : Int) - 1) ∧ J (backFrom q j) wr ∧ Below n₀ W wr) (fun c _ => (intOf c + 1).toNat)
  case atStart => exact ⟨q.length, Nat.le_refl _, rfl, by rw [backFrom_all]; exact h0, Below.refl _ _⟩
  case round =>
    obtain ⟨j, hj, rfl, hJs, hnx⟩ := hrel
    have hbs : wr.cell? ⟨Bs, 0, none⟩ = some (.slice p q.length cap) := (hnx.cell (p := ⟨Bs, 0, none⟩) hb).trans hBs
    rcases Nat.eq_zero_or_pos j with rfl | hpos
    · have e : ((0 : Nat) : Int) - 1 = -1 := rfl
      rw [e]
      clear hY hc
      gi_wp2
      go_end0
      exact ⟨⟨_, rfl⟩, .inl ⟨_, rfl, hJs⟩⟩
    · obtain ⟨i, rfl⟩ : ∃ i, j = i + 1 := ⟨j - 1, by omega⟩
      have e : ((i + 1 : Nat) : Int) - 1 = (i : Int) := by omega
      rw [e]
      have hlt : i < q.length := by omega
      obtain ⟨x, hx⟩ : ∃ x, q[i]? = some x := ⟨_, List.getElem?_eq_getElem hlt⟩
      obtain ⟨b, rfl, hbn, hc0, hc1⟩ := hc i x hx
      have g0 : wr.cell? ⟨b, i * 2, none⟩ = some (kI x.1) := (hnx.cell (p := ⟨b, i * 2, none⟩) hbn).trans hc0
      have g1 : wr.cell? ⟨b, i * 2 + 1, none⟩ = some (kS x.2) := (hnx.cell (p := ⟨b, i * 2 + 1, none⟩) hbn).trans hc1
      obtain ⟨fn, tmps, assign, body, hy, hR⟩ := hY _ (x, i) wr hJs (by rw [backFrom_length]; omega)
      dsimp only at hy
      rw [← backFrom_step hx] at hR
      have hi0 : (0 : Int) ≤ (i : Int) := by omega
      have hi1 : (i : Int) < (q.length : Int) := by omega
      clear hY hc
      gi_wp2
      refine hR.mono ?_
      rintro e W3 (⟨rfl, hJ3, hk3⟩ | ⟨rfl, hJx3⟩)
      · gi_wp2
        go_roundw
        case rel => exact ⟨i, by omega, by simp, hJ3, hnx.trans hk3⟩
        case measure => simp only [intOf]; omega
      · gi_wp2
        refine bodyPost_ret (results_none rfl _ _ _) rfl ?_
        exact ⟨⟨_, rfl⟩, .inr ⟨_, backFrom_prefix _ _, hJx3⟩⟩
end Go.Proofs.YtgocmnejlbfplaaDoor
