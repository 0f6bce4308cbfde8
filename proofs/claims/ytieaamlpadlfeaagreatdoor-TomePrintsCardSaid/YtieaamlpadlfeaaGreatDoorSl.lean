/- Slices of one's own whose elements are a list's: read, pushed, set. Conditions: none. -/
import Derived.Test.YtieaamlpadlfeaaGreatDoorApp
import Derived.OwnWalk
namespace Go.Proofs.YtieaamlpadlfeaaGreatDoor
open Go Go.MapKept Go.RowKit Go.Proofs

section
variable {α : Type} {fl : α → List Value} {T t : TypeId} {sz n : Nat} {v : Value} {R : List α} {h F : Heaplet} {w : World} {P : Program}
theorem sl_form {cs : List Value} (hs : SliceIs T sz v n cs h) : ∃ a cap, v = .slice a n cap := by
  rcases hs.2 with ⟨rfl, e0, rfl⟩ | ⟨g, cap, cur, rfl, _⟩
  · exact ⟨none, 0, by rw [e0]⟩
  · exact ⟨_, _, rfl⟩
theorem sl_some {cs : List Value} (hs : SliceIs T sz v n cs h) (hn : 0 < n) : ∃ g cap, v = .slice (some ⟨g, 0, none⟩) n cap := by
  rcases hs.2 with ⟨rfl, e0, rfl⟩ | ⟨g, cap, cur, rfl, _⟩
  · omega
  · exact ⟨_, _, rfl⟩
theorem fm_len (hfl : ∀ q, (fl q).length = sz) : ∀ R : List α, (R.flatMap fl).length = R.length * sz
  | [] => by simp
  | x :: r => by rw [List.flatMap_cons, List.length_append, hfl, fm_len hfl r, List.length_cons, Nat.succ_mul]; omega
theorem fm_get (hfl : ∀ q, (fl q).length = sz) : ∀ (R : List α) (i j : Nat) (q : α) (u : Value), R[i]? = some q → (fl q)[j]? = some u → (R.flatMap fl)[i * sz + j]? = some u
  | [], i, j, q, u, hq, _ => by simp at hq
  | x :: r, 0, j, q, u, hq, hu => by
    simp at hq; subst hq
    have hj := (List.getElem?_eq_some_iff.1 hu).1
    rw [List.flatMap_cons, Nat.zero_mul, Nat.zero_add, List.getElem?_append_left hj]
    exact hu
  | x :: r, i + 1, j, q, u, hq, hu => by
    have ih := fm_get hfl r i j q u (by simpa using hq) hu
    rw [List.flatMap_cons, List.getElem?_append_right (by rw [hfl, Nat.succ_mul]; omega), hfl, show (i + 1) * sz + j - sz = i * sz + j from by rw [Nat.succ_mul]; omega]
    exact ih
theorem fm_set (hfl : ∀ q, (fl q).length = sz) : ∀ (R : List α) (i f : Nat) (q q' : α) (u : Value), R[i]? = some q → f < sz → (fl q).set f u = fl q' → (R.flatMap fl).set (i * sz + f) u = (R.set i q').flatMap fl
  | [], i, f, q, q', u, hq, _, _ => by simp at hq
  | x :: r, 0, f, q, q', u, hq, hf, e => by
    simp at hq; subst hq
    rw [List.flatMap_cons, Nat.zero_mul, Nat.zero_add, List.set_append, if_pos (by rw [hfl]; exact hf), e, List.set_cons_zero, List.flatMap_cons]
  | x :: r, i + 1, f, q, q', u, hq, hf, e => by
    have ih := fm_set hfl r i f q q' u (by simpa using hq) hf e
    rw [List.flatMap_cons, List.set_append, if_neg (by rw [hfl, Nat.succ_mul]; omega), hfl, show (i + 1) * sz + f - sz = i * sz + f from by rw [Nat.succ_mul]; omega, ih, List.set_cons_succ, List.flatMap_cons]
/-- The cells of an element. -/
theorem sl_cells (hfl : ∀ q, (fl q).length = sz) (hv : SliceIs T sz v R.length (R.flatMap fl) h) (s : Sat w (h ++ F)) : ∃ a cap, v = .slice a R.length cap ∧
    ∀ i q, R[i]? = some q → ∃ g, a = some ⟨g, 0, none⟩ ∧ (∀ j, w.frozen? ⟨g, j, none⟩ = false) ∧ ∀ j u, (fl q)[j]? = some u → w.cell? ⟨g, i * sz + j, none⟩ = some u := by
  obtain ⟨a, cap, rfl⟩ := sl_form hv
  refine ⟨a, cap, rfl, fun i q hq => ?_⟩
  have hv' := hv
  rcases hv.2 with ⟨_, e, _⟩ | ⟨g, cap', cur, e, _, _, _, _, rfl⟩
  · have := (List.getElem?_eq_some_iff.1 hq).1
    omega
  · cases e
    exact ⟨g, rfl, fun j => unfrozen_of s.h0 j, fun j u hu => (hv'.cell s rfl (fm_get hfl R i j q u hq hu)).2.2⟩
/-- One more is pushed: 'append' of an element that lies in a block of its own. -/
theorem sl_push {i : TypeInfo} {z : Value} {bytes : Nat} (hfl : ∀ q, (fl q).length = sz) (ht : P.underlying t = some (.slice T)) (hi : P.info? T = some i) (hz : i.zero = some z) (hsize : i.size = sz) (hby : i.bytes = bytes) (hzs : z.cells.size = sz) (hsz : 0 < sz)
    (hv : SliceIs T sz v R.length (R.flatMap fl) h) {x : Nat} {Tn : TypeId} {A B : Heaplet} (q : α) (s : Sat w (.blk x (.cells (fl q).toArray Tn) :: (A ++ (h ++ B)))) (h1 : ∀ u ∈ fl q, u.oneCell' = true) (h63 : R.length + 1 ≤ maxLen) (hbytes : (R.length + 1) * bytes ≤ 140737488355328) :
    ∃ v' w' h', (∀ ty, (Builtin.append_ #[t, t] ty #[v, .slice (some ⟨x, 0, none⟩) 1 1]).run P w = .ok v' w') ∧ SliceIs T sz v' (R ++ [q]).length ((R ++ [q]).flatMap fl) h' ∧ Sat w' (A ++ (h' ++ B)) := by
  have s1 : Sat w (h ++ (A ++ (.blk x (.cells (fl q).toArray Tn) :: B))) := by
    refine s.perm ?_
    have p1 : (HItem.blk x (.cells (fl q).toArray Tn) :: (A ++ (h ++ B))).Perm (A ++ (h ++ (.blk x (.cells (fl q).toArray Tn) :: B))) :=
      (List.perm_middle (l₁ := A)).symm.trans (List.Perm.append_left A (List.perm_middle (l₁ := h)).symm)
    exact p1.trans (List.perm_append_comm_assoc A h _)
  have hx := s.h0
  have hnews : ∀ j u, (fl q)[j]? = some u → w.cell? ((⟨x, 0, none⟩ : Addr).add j) = some u := by
    intro j u hu
    have hadd : (⟨x, 0, none⟩ : Addr).add j = ⟨x, j, none⟩ := by unfold Addr.add; split <;> simp_all
    rw [hadd, cell_of hx]
    simpa using hu
  obtain ⟨v', w', h', hr, hsl, hsat⟩ := sat_append (P := P) (ty := 0) ht hi hz hsize hby hzs hsz hv s1 ⟨x, 0, none⟩ 1 1 (fl q) (by rw [hfl, Nat.one_mul]) hnews h1 (by decide) h63 hbytes
  refine ⟨v', w', h', fun ty => hr, ?_, ?_⟩
  · rw [List.flatMap_append, List.length_append]
    simpa using hsl
  · exact ((hsat.perm (List.perm_append_comm_assoc h' A _)).perm (List.Perm.append_left A (List.perm_middle (l₁ := h'))) |>.perm List.perm_middle).tail
/-- A field turns. -/
theorem sl_set (hfl : ∀ q, (fl q).length = sz) {g cap i f : Nat} {q q' : α} (hv : SliceIs T sz (.slice (some ⟨g, 0, none⟩) R.length cap) R.length (R.flatMap fl) h) (s : Sat w (h ++ F)) (hq : R[i]? = some q) (hf : f < sz) {u : Value} (e : (fl q).set f u = fl q') :
    ∃ h', SliceIs T sz (.slice (some ⟨g, 0, none⟩) R.length cap) (R.set i q').length ((R.set i q').flatMap fl) h' ∧ Sat (w.setCell ⟨g, i * sz + f, none⟩ u) (h' ++ F) := by
  have hi := (List.getElem?_eq_some_iff.1 hq).1
  rcases hv.2 with ⟨e2, _⟩ | ⟨g', cap', cur, e2, hnc, hcm, hcs, htake, rfl⟩
  · cases e2
  · simp only [Value.slice.injEq, Option.some.injEq, Addr.mk.injEq] at e2
    obtain ⟨⟨rfl, _, _⟩, _, rfl⟩ := e2
    refine ⟨[.blk g (.cells (cur.setIfInBounds (i * sz + f) u) T)], ⟨by rw [fm_len hfl], .inr ⟨g, cap, _, by rw [List.length_set], by rw [List.length_set]; exact hnc, hcm, by simp [hcs], ?_, rfl⟩⟩, Sat.setCell s u⟩
    rw [Array.toList_setIfInBounds, List.take_set, List.length_set, htake, fm_set hfl R i f q q' u hq hf e]
/-- The last one goes: 's[:len(s)-1]'. -/
theorem sl_pop (hfl : ∀ q, (fl q).length = sz) {q : α} {g cap m : Nat} (hv : SliceIs T sz (.slice (some ⟨g, 0, none⟩) m cap) (R ++ [q]).length ((R ++ [q]).flatMap fl) h) : SliceIs T sz (.slice (some ⟨g, 0, none⟩) R.length cap) R.length (R.flatMap fl) h := by
  rcases hv.2 with ⟨e2, _⟩ | ⟨g', cap', cur, e2, hnc, hcm, hcs, htake, rfl⟩
  · cases e2
  · simp only [Value.slice.injEq, Option.some.injEq, Addr.mk.injEq] at e2
    obtain ⟨⟨rfl, _, _⟩, _, rfl⟩ := e2
    rw [List.length_append] at hnc htake
    refine ⟨fm_len hfl R, .inr ⟨g, cap, cur, rfl, by omega, hcm, hcs, ?_, rfl⟩⟩
    have h1 := congrArg (List.take (R.length * sz)) htake
    rw [List.take_take, Nat.min_eq_left (Nat.mul_le_mul_right _ (by omega)), List.flatMap_append, List.take_append_of_le_length (by rw [fm_len hfl]; exact Nat.le_refl _)] at h1
    rw [h1, ← fm_len hfl R, List.take_length]
theorem fm_one (R : List Int) : R.flatMap (fun x => [kI x]) = R.map kI := by
  induction R with
  | nil => rfl
  | cons x r ih => simp [ih]
/-- An empty slice, made. -/
theorem sl_new (T : TypeId) (sz g : Nat) : SliceIs T sz (.slice (some ⟨g, 0, none⟩) 0 0) 0 [] [.blk g (.cells #[] T)] :=
  ⟨by simp, .inr ⟨g, 0, #[], rfl, Nat.le_refl _, by simp [maxLen], by simp, by simp, rfl⟩⟩
end
end Go.Proofs.YtieaamlpadlfeaaGreatDoor
