/- The reference's locks: how they lie in memory; at, Has, Used walked. Conditions: none. -/
import Derived.Test.YtcndmiepbodpnaaTwinM
import Derived.Test.YtcndmiepbodpnaaLatch5
namespace Go.Proofs.Ytcndmiepbodpnaa
open Go Go.MapKept Go.RowKit Go.Proofs

def flatK (q : Int × Lk) : List Value := [kI q.1, .bool q.2.x, kI q.2.used, kI q.2.wait]
def flatR (R : Lks) : List Value := R.flatMap flatK
theorem flatR_len (R : Lks) : (flatR R).length = R.length * 4 := by
  induction R with
  | nil => rfl
  | cons x r ih => simp [flatR, flatK] at ih ⊢; omega
theorem flatR_cons (x : Int × Lk) (r : Lks) : flatR (x :: r) = kI x.1 :: .bool x.2.x :: kI x.2.used :: kI x.2.wait :: flatR r := rfl
theorem flatR_get : ∀ (R : Lks) (i : Nat) (q : Int × Lk), R[i]? = some q → (flatR R)[i * 4]? = some (kI q.1) ∧ (flatR R)[i * 4 + 1]? = some (.bool q.2.x) ∧ (flatR R)[i * 4 + 2]? = some (kI q.2.used) ∧ (flatR R)[i * 4 + 3]? = some (kI q.2.wait)
  | [], i, q, h => by simp at h
  | x :: r, 0, q, h => by
    simp at h; subst h
    exact ⟨rfl, rfl, rfl, rfl⟩
  | x :: r, i + 1, q, h => by
    have ih := flatR_get r i q (by simpa using h)
    rw [flatR_cons, show (i + 1) * 4 = i * 4 + 4 from by omega]
    exact ih
theorem flatR_set : ∀ (R : Lks) (i f : Nat) (q q' : Int × Lk) (v : Value), R[i]? = some q → f < 4 → (flatK q).set f v = flatK q' → (flatR R).set (i * 4 + f) v = flatR (R.set i q')
  | [], i, f, q, q', v, h, _, _ => by simp at h
  | x :: r, 0, f, q, q', v, h, hf, e => by
    simp at h; subst h
    have e1 : flatR (x :: r) = flatK x ++ flatR r := rfl
    have e2 : flatR ((x :: r).set 0 q') = flatK q' ++ flatR r := rfl
    rw [e1, e2, ← e, List.set_append, if_pos (by simp [flatK]; omega)]
    simp
  | x :: r, i + 1, f, q, q', v, h, hf, e => by
    have ih := flatR_set r i f q q' v (by simpa using h) hf e
    have e2 : flatR ((x :: r).set (i + 1) q') = flatK x ++ flatR (r.set i q') := rfl
    have e1 : flatR (x :: r) = flatK x ++ flatR r := rfl
    rw [e1, e2, ← ih, List.set_append, if_neg (by simp [flatK]; omega)]
    congr 2
    simp [flatK]; omega
/-- A store into a slice of one's own. -/
theorem SliceIs.set {T : TypeId} {sz n cap g j : Nat} {cs : List Value} {h F : Heaplet} {w : World} (hv : SliceIs T sz (.slice (some ⟨g, 0, none⟩) n cap) n cs h) (s : Sat w (h ++ F)) (hj : j < cs.length) (u : Value) :
    ∃ h', SliceIs T sz (.slice (some ⟨g, 0, none⟩) n cap) n (cs.set j u) h' ∧ Sat (w.setCell ⟨g, j, none⟩ u) (h' ++ F) := by
  rcases hv.2 with ⟨e, _⟩ | ⟨g', cap', cur, e, hnc, hcm, hcs, htake, rfl⟩
  · cases e
  · simp only [Value.slice.injEq, Option.some.injEq, Addr.mk.injEq] at e
    obtain ⟨⟨rfl, _, _⟩, _, rfl⟩ := e
    refine ⟨[.blk g (.cells (cur.setIfInBounds j u) T)], ⟨by rw [List.length_set]; exact hv.1, .inr ⟨g, cap, _, rfl, hnc, hcm, by simp [hcs], ?_, rfl⟩⟩, Sat.setCell s u⟩
    rw [Array.toList_setIfInBounds, List.take_set, htake]
/-- THE REFERENCE at c holds R. -/
def RefIs (c : Nat) (R : Lks) (F : Heaplet) (w : World) : Prop :=
  ∃ v h, SliceIs 49 4 v R.length (flatR R) h ∧ Sat w (.blk c (.cells #[v] 43) :: (h ++ F))
section
variable {c : Nat} {R : Lks} {F : Heaplet} {w : World}
theorem RefIs.frame (h : RefIs c R F w) : Sat w F := by
  obtain ⟨v, hh, _, hs⟩ := h
  exact hs.tail.right
theorem RefIs.drewN (h : RefIs c R F w) (n : Nat) : RefIs c R F (w.drewN n) := by
  obtain ⟨v, hh, hv, hs⟩ := h
  exact ⟨v, hh, hv, hs.of_heap rfl ⟨rfl, rfl, rfl⟩⟩
theorem RefIs.drew (h : RefIs c R F w) : RefIs c R F w.drew := by
  obtain ⟨v, hh, hv, hs⟩ := h
  exact ⟨v, hh, hv, hs.drew⟩
theorem RefIs.permF {F' : Heaplet} (h : RefIs c R F w) (p : F.Perm F') : RefIs c R F' w := by
  obtain ⟨v, hh, hv, hs⟩ := h
  exact ⟨v, hh, hv, hs.perm ((p.append_left _).cons _)⟩
/-- The reference's cells: its slice, and a lock's fields. -/
theorem RefIs.cells (h : RefIs c R F w) : ∃ a cap, w.cell? ⟨c, 0, none⟩ = some (.slice a R.length cap) ∧
    ∀ i q, R[i]? = some q → ∃ g, a = some ⟨g, 0, none⟩ ∧ (∀ j, w.frozen? ⟨g, j, none⟩ = false) ∧ w.cell? ⟨g, i * 4, none⟩ = some (kI q.1) ∧ w.cell? ⟨g, i * 4 + 1, none⟩ = some (.bool q.2.x) ∧ w.cell? ⟨g, i * 4 + 2, none⟩ = some (kI q.2.used) ∧ w.cell? ⟨g, i * 4 + 3, none⟩ = some (kI q.2.wait) := by
  obtain ⟨v, hh, hv, hs⟩ := h
  have c0 : w.cell? ⟨c, 0, none⟩ = some v := by rw [cell_of hs.h0]; rfl
  obtain ⟨a, cap, rfl⟩ := slice_form hv
  refine ⟨a, cap, c0, fun i q hq => ?_⟩
  obtain ⟨e0, e1, e2, e3⟩ := flatR_get R i q hq
  rcases hv.2 with ⟨_, e, _⟩ | ⟨g, cap', cur, e, _, _, _, _, rfl⟩
  · have := (List.getElem?_eq_some_iff.1 hq).1
    omega
  · cases e
    exact ⟨g, rfl, fun j => unfrozen_of hs.h1 j, (hv.cell hs.tail rfl e0).2.2, (hv.cell hs.tail rfl e1).2.2, (hv.cell hs.tail rfl e2).2.2, (hv.cell hs.tail rfl e3).2.2⟩
/-- A lock's field turns. -/
theorem RefIs.setAt (h : RefIs c R F w) {i f : Nat} {q q' : Int × Lk} (hq : R[i]? = some q) (hf : f < 4) {v : Value} (e : (flatK q).set f v = flatK q') {g n cap : Nat} (hc : w.cell? ⟨c, 0, none⟩ = some (.slice (some ⟨g, 0, none⟩) n cap)) :
    RefIs c (R.set i q') F (w.setCell ⟨g, i * 4 + f, none⟩ v) := by
  obtain ⟨u, hh, hv, hs⟩ := h
  have c0 : w.cell? ⟨c, 0, none⟩ = some u := by rw [cell_of hs.h0]; rfl
  rw [c0, Option.some.injEq] at hc
  subst hc
  obtain ⟨a, cap', e2⟩ := slice_form hv
  cases e2
  have hi := (List.getElem?_eq_some_iff.1 hq).1
  obtain ⟨h', hv', hs'⟩ := hv.set (j := i * 4 + f) (F := .blk c (.cells #[.slice (some ⟨g, 0, none⟩) R.length cap] 43) :: F) (hs.perm List.perm_middle.symm) (by rw [flatR_len]; omega) v
  rw [flatR_set R i f q q' v hq hf e] at hv'
  exact ⟨_, h', by rw [List.length_set]; exact hv', hs'.perm List.perm_middle⟩
end
/-- Where a page stands. -/
def atR (R : Lks) (p : Int) : Int := match getL p R with | some _ => (posL p R : Int) | none => -1
theorem at_here : ∀ (R : Lks) (r : Nat) (q : Int × Lk) (p : Int), R[r]? = some q → (∀ x ∈ R.take r, x.1 ≠ p) → q.1 = p → getL p R = some q.2 ∧ posL p R = r
  | [], r, q, p, h, _, _ => by simp at h
  | x :: R, 0, q, p, h, _, e => by
    simp at h; subst h
    simp [getL, posL, e]
  | x :: R, r + 1, q, p, h, hn, e => by
    have hx := hn x (by simp)
    obtain ⟨h1, h2⟩ := at_here R r q p (by simpa using h) (fun y hy => hn y (by simp [hy])) e
    simp [getL, posL, hx, h1, h2]
set_option maxRecDepth 100000 in
theorem at_ref (c : Nat) (R : Lks) (F : Heaplet) (p : Int) (w : World) (h : RefIs c R F w) (hl : R.length ≤ 100000) :
    Calls Try.prog 25 #[.pointer (some ⟨c, 0, none⟩), .int .i64 p] w (Ret (.int .i64 (atR R p)) (Same w)) := by
  obtain ⟨a, cap, c0, hcs⟩ := h.cells
  have HCS := Lib.hid hcs
  clear hcs h
  go_enter Try.func25, Try.ntmps25
  go_wp2_with fail
  go_loopw [5] (fun v5 wr => ∃ r : Nat, r ≤ R.length ∧ v5 = .int .i64 r ∧ (∀ x ∈ R.take r, x.1 ≠ p) ∧ wr = w) (fun v5 _ => 100000 - (RowKit.intOf v5).toNat)
  case atStart => exact ⟨0, by omega, rfl, by simp, rfl⟩
  case round =>
    obtain ⟨r, hr, rfl, hn, rfl⟩ := hrel
    have r0 : (0 : Int) ≤ (r : Int) := by omega
    by_cases hlr : r < R.length
    · have r1 : (r : Int) < (R.length : Int) := by omega
      obtain ⟨q, hq⟩ : ∃ q, R[r]? = some q := ⟨_, List.getElem?_eq_getElem hlr⟩
      obtain ⟨g, rfl, _, c1, _, _, _⟩ := HCS.out r q hq
      by_cases e : q.1 = p
      · have eb : (q.1 == p) = true := by simpa using e
        obtain ⟨h1, h2⟩ := at_here R r q p hq hn e
        have E1 : atR R p = r := by unfold atR; rw [h1]; simp [h2]
        have E1 := Lib.hid E1
        clear hn h1 h2 e hq
        go_wp2_with fail
        go_ret
        exact ⟨by rw [E1.out]; rfl, rfl⟩
      · have eb : (q.1 == p) = false := by simpa using e
        have hn2 : ∀ x ∈ R.take (r + 1), x.1 ≠ p := by
          intro x hx
          rw [List.take_add_one, hq] at hx
          simp at hx
          rcases hx with hx | rfl
          · exact hn x hx
          · exact e
        have HN := Lib.hid hn2
        clear hn hn2 e hq
        go_wp2_with fail
        exact ⟨⟨r + 1, by omega, by simp, HN.out, by first | rfl | trivial⟩, by simp only [RowKit.intOf]; omega⟩
    · obtain rfl : r = R.length := by omega
      have E1 : atR R p = -1 := by
        unfold atR
        rw [getL_none.2 (by
          intro m
          obtain ⟨x, hx, e⟩ := List.mem_map.1 m
          exact hn x (by rw [List.take_length]; exact hx) e)]
      have E1 := Lib.hid E1
      clear hn hlr
      go_wp2_with fail
      go_ret
      exact ⟨by rw [E1.out]; rfl, rfl⟩
end Go.Proofs.Ytcndmiepbodpnaa
