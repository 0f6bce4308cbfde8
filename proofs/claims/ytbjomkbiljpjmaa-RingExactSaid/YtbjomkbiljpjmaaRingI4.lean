/- The ring's calls by the model's functions (made by ring.gen.py out of ring4.body.txt). Conditions: none. -/
import Derived.Test.YtbjomkbiljpjmaaRingI3
import Derived.Test.YtbjomkbiljpjmaaRingLaw
namespace Go.Proofs.Ytbjomkbiljpjmaa.RI
open Go Go.MapKept Go.RowKit Go.Proofs Go.Proofs.Ytbjomkbiljpjmaa

theorem put_any (rb : Nat) (fr : Frs X) (hand : Nat) (F : Heaplet) (w : World) (h : RingIs rb fr hand F w) (k : Int) (v : X) :
    Calls Try.prog 20 #[.pointer (some ⟨rb, 0, none⟩), .int .i64 k, kI v] w (Ret (.tuple #[outV (putM fr hand k v).1.1, .bool (putM fr hand k v).1.2]) (RingIs rb (putM fr hand k v).2.1 (putM fr hand k v).2.2 F)) := by
  unfold putM
  cases hk : findF fr k with
  | some x =>
    obtain ⟨i, f⟩ := x
    exact put_found rb fr hand F w h k v i f hk
  | none =>
    cases hv : vacM fr with
    | some i => exact put_vacant rb fr hand F w h k v i hk hv
    | none =>
      cases hp : pinnedM fr with
      | true => exact put_full rb fr hand F w h k v hk hv hp
      | false =>
        obtain ⟨⟨a, f, fr', hand'⟩, hr⟩ := freeM_some hv hp h.len.2.2
        have := put_evict rb fr hand F w h k v a f fr' hand' hk hv hp hr
        simp only [hr]
        exact this
def valV : Option X → Value
  | none => kI 0
  | some v => kI v
theorem get_any (rb : Nat) (fr : Frs X) (hand : Nat) (F : Heaplet) (w : World) (h : RingIs rb fr hand F w) (k : Int) :
    Calls Try.prog 21 #[.pointer (some ⟨rb, 0, none⟩), .int .i64 k] w (Ret (.tuple #[valV (getM fr k).1, .bool (getM fr k).1.isSome]) (RingIs rb (getM fr k).2 hand F)) := by
  unfold getM
  cases hk : findF fr k with
  | some x =>
    obtain ⟨i, f⟩ := x
    exact get_some rb fr hand F w h k i f hk
  | none => exact (get_none rb fr hand F w h k hk).mono fun _ _ e => ⟨e.1, by rw [← e.2]; exact h⟩
theorem del_any (rb : Nat) (fr : Frs X) (hand : Nat) (F : Heaplet) (w : World) (h : RingIs rb fr hand F w) (k : Int) :
    Calls Try.prog 42 #[.pointer (some ⟨rb, 0, none⟩), .int .i64 k] w (Ret (.tuple #[valV (delM fr k).1, .bool (delM fr k).1.isSome]) (RingIs rb (delM fr k).2 hand F)) := by
  unfold delM
  cases hk : findF fr k with
  | some x =>
    obtain ⟨i, f⟩ := x
    exact del_some rb fr hand F w h k i f hk
  | none => exact (del_none rb fr hand F w h k hk).mono fun _ _ e => ⟨e.1, by rw [← e.2]; exact h⟩
/-- Nobody is held more often than so. -/
def PinsLe (fr : Frs X) (n : Int) : Prop := ∀ (i : Nat) (f : Fr X), fr[i]? = some (some f) → 0 ≤ f.pins ∧ f.pins ≤ n
theorem pin_any (rb : Nat) (fr : Frs X) (hand : Nat) (F : Heaplet) (w : World) (h : RingIs rb fr hand F w) (k : Int) {n : Int} (hp : PinsLe fr n) (hn : n < 9223372036854775807) :
    Calls Try.prog 23 #[.pointer (some ⟨rb, 0, none⟩), .int .i64 k] w (Ret (.bool (pinM fr k).1) (RingIs rb (pinM fr k).2 hand F)) := by
  unfold pinM
  cases hk : findF fr k with
  | some x =>
    obtain ⟨i, f⟩ := x
    have := hp i f (findF_some hk).2.1
    exact pin_some rb fr hand F w h k i f hk this.1 (by omega)
  | none => exact (pin_none rb fr hand F w h k hk).mono fun _ _ e => ⟨e.1, by rw [← e.2]; exact h⟩
theorem let_any (rb : Nat) (fr : Frs X) (hand : Nat) (F : Heaplet) (w : World) (h : RingIs rb fr hand F w) (k : Int) {n : Int} (hp : PinsLe fr n) (hn : n < 9223372036854775807) :
    Calls Try.prog 43 #[.pointer (some ⟨rb, 0, none⟩), .int .i64 k] w (Ret (.bool (letM fr k).1) (RingIs rb (letM fr k).2 hand F)) := by
  unfold letM
  cases hk : findF fr k with
  | some x =>
    obtain ⟨i, f⟩ := x
    have := hp i f (findF_some hk).2.1
    cases hz : (f.pins == 0) with
    | true => exact (let_zero rb fr hand F w h k i f hk hz).mono fun _ _ e => ⟨by rw [e.1]; simp [hz], by rw [← e.2]; simpa [hz] using h⟩
    | false =>
      rw [beq_eq_false_iff_ne] at hz
      have h0 := let_some rb fr hand F w h k i f hk (by omega) (by omega)
      simpa [hz] using h0
  | none => exact (let_none rb fr hand F w h k hk).mono fun _ _ e => ⟨e.1, by rw [← e.2]; exact h⟩
end Go.Proofs.Ytbjomkbiljpjmaa.RI
