/- A view that lies in memory, read. Conditions: none. -/
import Derived.Test.YtceegnfjdgjomaaPa13
import Derived.Test.YtceegnfjdgjomaaPaPM
namespace Go.Proofs.Ytceegnfjdgjomaa
open Go Go.MapKept Go.RowKit Go.Proofs Go.Sort Go.Shelf

/-- Where F holds, the box vb holds this view. -/
def VwAt (F : Heaplet) (vb : Nat) (V : VM) (a0 : Option Addr) (c0 : Nat) (a1 : Option Addr) (c1 : Nat) (a2 : Option Addr) (c2 : Nat) : Prop :=
  ∀ W, Sat W F →
    (W.cell? ⟨vb, 0, none⟩ = some (.slice a0 V.losers.length c0) ∧ W.cell? ⟨vb, 1, none⟩ = some (.slice a1 V.done.length c1) ∧ W.cell? ⟨vb, 2, none⟩ = some (.slice a2 V.pages.length c2)) ∧
    (∀ (i : Nat) q, V.losers[i]? = some q → ∃ g, a0 = some ⟨g, 0, none⟩ ∧ W.cell? ⟨g, i * 4, none⟩ = some (kI q.1.c) ∧ W.cell? ⟨g, i * 4 + 1, none⟩ = some (kI q.1.e) ∧ W.cell? ⟨g, i * 4 + 2, none⟩ = some (kI q.1.n) ∧ W.cell? ⟨g, i * 4 + 3, none⟩ = some (kI q.2)) ∧
    (∀ (i : Nat) t, V.done[i]? = some t → ∃ g, a1 = some ⟨g, 0, none⟩ ∧ W.cell? ⟨g, i * 3, none⟩ = some (kI t.c) ∧ W.cell? ⟨g, i * 3 + 1, none⟩ = some (kI t.e) ∧ W.cell? ⟨g, i * 3 + 2, none⟩ = some (kI t.n)) ∧
    (∀ (i : Nat) q, V.pages[i]? = some q → ∃ g, a2 = some ⟨g, 0, none⟩ ∧ W.cell? ⟨g, i * 2, none⟩ = some (kI q.1) ∧ W.cell? ⟨g, i * 2 + 1, none⟩ = some (kI q.2))
theorem vw_open {v : Value} {V : VM} {h : Heaplet} (hv : ViewIs v V h) : ∃ a0 c0 a1 c1 a2 c2, v = .agg #[.slice a0 V.losers.length c0, .slice a1 V.done.length c1, .slice a2 V.pages.length c2] ∧
    ∀ vb F, VwAt (.blk vb (vwO (.slice a0 V.losers.length c0) (.slice a1 V.done.length c1) (.slice a2 V.pages.length c2)) :: (h ++ F)) vb V a0 c0 a1 c1 a2 c2 := by
  obtain ⟨lv', dv', pv', lh, dh, ph, rfl, hlv, hdv, hpv, rfl⟩ := hv
  obtain ⟨a0, c0, rfl⟩ := sl_form hlv
  obtain ⟨a1, c1, rfl⟩ := sl_form hdv
  obtain ⟨a2, c2, rfl⟩ := sl_form hpv
  refine ⟨a0, c0, a1, c1, a2, c2, rfl, fun vb F W hW => ?_⟩
  have hl := hW.tail
  rw [List.append_assoc, List.append_assoc] at hl
  refine ⟨⟨by rw [cell_of hW.h0]; rfl, by rw [cell_of hW.h0]; rfl, by rw [cell_of hW.h0]; rfl⟩, fun i q hq => ?_, fun i t ht => ?_, fun i q hq => ?_⟩
  · obtain ⟨a', cap', e, hc⟩ := sl_cells lC_len hlv hl
    cases e
    obtain ⟨g, e, _, k⟩ := hc i q hq
    exact ⟨g, e, k 0 _ rfl, k 1 _ rfl, k 2 _ rfl, k 3 _ rfl⟩
  · obtain ⟨a', cap', e, hc⟩ := sl_cells tC_len hdv hl.right
    cases e
    obtain ⟨g, e, _, k⟩ := hc i t ht
    exact ⟨g, e, k 0 _ rfl, k 1 _ rfl, k 2 _ rfl⟩
  · obtain ⟨a', cap', e, hc⟩ := sl_cells pC_len hpv hl.right.right
    cases e
    obtain ⟨g, e, _, k⟩ := hc i q hq
    exact ⟨g, e, k 0 _ rfl, k 1 _ rfl⟩
theorem pair_at {α : Type} {R : α → α → Prop} {L : List α} (h : L.Pairwise R) {i j : Nat} {a b : α} (hij : i < j) (ha : L[i]? = some a) (hb : L[j]? = some b) : R a b := by
  obtain ⟨h1, rfl⟩ := List.getElem?_eq_some_iff.1 ha
  obtain ⟨h2, rfl⟩ := List.getElem?_eq_some_iff.1 hb
  exact List.pairwise_iff_getElem.1 h i j h1 h2 hij
theorem readM_yes (l : List En) {first : Int} (h1 : 1 ≤ first) (h2 : first ≤ 1099511627776) : readM l first = ⟨losersM l, doneM l, pagesM l first⟩ := by
  unfold readM
  rw [if_pos (by simp [withinM, h1, h2])]
theorem losers_le (l : List En) : (losersM l).length ≤ l.length := by rw [losersM_len]; exact lastM_len l l
theorem pages_le (l : List En) (first : Int) : (pagesM l first).length ≤ l.length := by rw [pagesM_len]; exact pagM_len first l
end Go.Proofs.Ytceegnfjdgjomaa
