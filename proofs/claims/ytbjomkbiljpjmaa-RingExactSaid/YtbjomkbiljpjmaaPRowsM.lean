/- What PurseRows holds, in plain data. Conditions: none. -/
import Derived.Test.YtbjomkbiljpjmaaPAll
import Derived.Test.YtbjomkbiljpjmaaKeeps
namespace Go.Proofs.Ytbjomkbiljpjmaa
open Go Go.MapKept Go.RowKit Go.Proofs

def KeysIn (D : List (Int × Int)) : Prop := ∀ p ∈ D, -9223372036854775808 ≤ p.1 ∧ p.1 ≤ 9223372036854775807
theorem KeysIn.put {D : List (Int × Int)} (h : KeysIn D) {k v : Int} (h0 : -9223372036854775808 ≤ k) (h1 : k ≤ 9223372036854775807) : KeysIn (putL k v D) := by
  intro p hp
  rcases mem_putL hp with rfl | hp
  · exact ⟨h0, h1⟩
  · exact h p hp
theorem KeysIn.take {D : List (Int × Int)} (h : KeysIn D) {k n : Int} (h0 : -9223372036854775808 ≤ k) (h1 : k ≤ 9223372036854775807) : KeysIn (takeD D k n) := by
  intro p hp
  rcases take_mem hp with e | hp
  · rw [e]; exact ⟨h0, h1⟩
  · exact h p hp
theorem put_len (k v : Int) (D : List (Int × Int)) : (putL k v D).length ≤ D.length + 1 := by
  rw [length_putL]; split <;> omega
theorem take_len (D : List (Int × Int)) (k n : Int) : (takeD D k n).length ≤ D.length + 1 := by
  unfold takeD
  split
  · omega
  · split
    · exact put_len _ _ _
    · rw [length_delL]; split <;> omega
theorem of_mem {D : List (Int × Int)} (hn : (D.map (·.1)).Nodup) {p : Int × Int} (h : p ∈ D) : of D p.1 = p.2 := by
  unfold of
  rw [getL_of_mem hn (k := p.1) (v := p.2) h]; rfl
theorem of_pos {D : List (Int × Int)} {s : Int} (h : PInv D s) (hn : (D.map (·.1)).Nodup) {k : Int} (hk : k ∈ D.map (·.1)) : 1 ≤ of D k := by
  obtain ⟨p, hp, rfl⟩ := List.mem_map.1 hk
  rw [of_mem hn hp]; exact h.1 p hp
theorem perm_sum {l l' : List Int} (h : l.Perm l') : l.sum = l'.sum := by
  induction h with
  | nil => rfl
  | cons x _ ih => simp [ih]
  | swap x y l => simp; omega
  | trans _ _ h1 h2 => exact h1.trans h2
theorem rowsP_sum {D : List (Int × Int)} (hn : (D.map (·.1)).Nodup) : ((rowsP D).map (·.2)).sum = (D.map (·.2)).sum := by
  have e1 : (rowsP D).map (·.2) = (sortK (D.map (·.1))).map (of D) := by
    unfold rowsP
    rw [List.map_map]; rfl
  rw [e1]
  have p1 : ((sortK (D.map (·.1))).map (of D)).Perm ((D.map (·.1)).map (of D)) := (sortK_perm _).map _
  rw [perm_sum p1, List.map_map]
  congr 1
  apply List.map_congr_left
  intro p hp
  exact of_mem hn hp
/-- A row of the purse, gone over in order: what the checks ask. -/
theorem rows_next {D : List (Int × Int)} {s : Int} (h : PInv D s) (hn : (D.map (·.1)).Nodup) {pre : List (Int × Int)} {x : Int × Int} (hp : pre ++ [x] <+: rowsP D) :
    1 ≤ x.2 ∧ of D x.1 = x.2 ∧ (∀ y, pre.getLast? = some y → y.1 < x.1) := by
  have hx : x ∈ rowsP D := hp.subset (by simp)
  obtain ⟨k, hk, rfl⟩ := List.mem_map.1 hx
  have hkm : k ∈ D.map (·.1) := (sortK_perm _).mem_iff.1 hk
  refine ⟨of_pos h hn hkm, rfl, fun y hy => ?_⟩
  obtain ⟨r, hr⟩ := hp
  have hs : ((rowsP D).map (·.1)).Pairwise (· < ·) := by
    have e1 : (rowsP D).map (·.1) = sortK (D.map (·.1)) := by
      unfold rowsP
      rw [List.map_map]
      exact List.map_id _
    rw [e1]
    have h1 := sortK_sorted (D.map (·.1))
    have h2 : (sortK (D.map (·.1))).Nodup := (sortK_perm _).nodup_iff.2 hn
    exact (h1.and h2).imp (fun h => by omega)
  rw [← hr] at hs
  obtain ⟨q, rfl⟩ : ∃ q, pre = q ++ [y] := List.getLast?_eq_some_iff.1 hy
  simp only [List.map_append, List.append_assoc, List.map_cons, List.map_nil] at hs
  have := (List.pairwise_append.1 hs).2.1
  simp only [List.cons_append, List.nil_append, List.pairwise_cons] at this
  exact this.1 _ (by simp)
theorem prefix_sum {l1 l2 : List Int} (h : l1 <+: l2) (hp : ∀ x ∈ l2, 0 ≤ x) : 0 ≤ l1.sum ∧ l1.sum ≤ l2.sum := by
  have key : ∀ l : List Int, (∀ x ∈ l, 0 ≤ x) → 0 ≤ l.sum := by
    intro l
    induction l with
    | nil => intro _; simp
    | cons a r ih =>
      intro h
      have h1 := h a (.head _)
      have h2 := ih (fun x hx => h x (.tail _ hx))
      simp; omega
  obtain ⟨r, rfl⟩ := h
  have h1 := key l1 (fun x hx => hp x (List.mem_append_left _ hx))
  have h2 := key r (fun x hx => hp x (List.mem_append_right _ hx))
  rw [List.sum_append]
  omega
theorem rowsP_pos {D : List (Int × Int)} {s : Int} (h : PInv D s) (hn : (D.map (·.1)).Nodup) : ∀ v ∈ (rowsP D).map (·.2), 0 ≤ v := by
  intro v hv
  obtain ⟨x, hx, rfl⟩ := List.mem_map.1 hv
  obtain ⟨k, hk, rfl⟩ := List.mem_map.1 hx
  have := of_pos h hn ((sortK_perm _).mem_iff.1 hk)
  show 0 ≤ of D k
  omega
end Go.Proofs.Ytbjomkbiljpjmaa
