/- 'for k, v := range m' in the block-wise view: the iterator, a step, whichever entry comes. Conditions: none. -/
import Derived.Test.YthgfbnopbfiifaaBase
import Derived.Maps.RangeRun
namespace Go.Proofs.Ythgfbnopbfiifaa
open Go Go.MapKept Go.RowKit Go.Proofs

theorem filter_erase (e : MapEntry) : ∀ (l : List MapEntry) (j : Nat), (l.map (·.born)).Nodup → l[j]? = some e → l.filter (fun x => !(x.born == e.born)) = l.eraseIdx j
  | [], j, _, h => by simp at h
  | x :: r, 0, hn, h => by
    simp at h; subst h
    simp only [List.map_cons, List.nodup_cons] at hn
    have : r.filter (fun y => !(y.born == x.born)) = r := by
      rw [List.filter_eq_self]
      intro y hy
      have : y.born ≠ x.born := fun u => hn.1 (List.mem_map.2 ⟨y, hy, u⟩)
      simpa using this
    simp [this]
  | x :: r, j + 1, hn, h => by
    simp only [List.map_cons, List.nodup_cons] at hn
    have h' : r[j]? = some e := by simpa using h
    have hx : x.born ≠ e.born := fun u => hn.1 (List.mem_map.2 ⟨e, List.mem_of_getElem? h', u.symm⟩)
    rw [List.filter_cons_of_pos (by simpa using hx), filter_erase e r j hn.2 h', List.eraseIdx_cons_succ]
section
variable {K V : Type} {ke : K → Value} {ve : V → Value}
/-- The iterator's look: these pairs are still to come. -/
structure IterOk (ke : K → Value) (ve : V → Value) (es : Array MapEntry) (since : Nat) (seen : Array Nat) (c0 : Nat) (left : List (K × V)) : Prop where
  hold : ∀ x ∈ es.toList, x.born < since
  le : since ≤ c0
  reads : (leftOf es seen).toList.map (fun e => (e.key, e.val)) = left.map (fun p => (ke p.1, ve p.2))
variable {d : TypeDesc} {es : Array MapEntry} {clk : Nat} {D : List (K × V)} {P : Program} {w : World} {t kt et : TypeId} {b r : Nat} {F : Heaplet}
theorem iter_start (h : MapOk d ke ve es clk D) : IterOk ke ve es clk #[] clk D := by
  refine ⟨h.stamped.1, Nat.le_refl _, ?_⟩
  have : leftOf es #[] = es := by
    unfold leftOf
    rw [Array.filter_eq_self]
    intro x _
    simp
  rw [this]; exact h.reads
theorem sat_range (ht : P.underlying t = some (.map kt et)) (s : Sat w F) (hb : HItem.blk b (.map es clk) ∈ F) :
    (Instr.range t (.map (some b))).run P w = .ok (.pointer (some ⟨w.heap.size, 0, none⟩)) (w.alloc (.mapIter (some b) clk #[] clk)) ∧ Sat (w.alloc (.mapIter (some b) clk #[] clk)) (.blk w.heap.size (.mapIter (some b) clk #[] clk) :: F) :=
  ⟨run_range_map w t kt et b es clk ht (s.get hb), s.new _⟩
/-- A range over nil has no round. -/
theorem run_next_nil {a c0 : Nat} {seen : Array Nat} (hr : w.heap[r]? = some (.mapIter none a seen c0)) (ty : TypeId) : (Instr.next (.pointer (some ⟨r, 0, none⟩)) false ty).run P w = .ok (.tuple #[.bool false]) w := by
  simp only [Instr.next, getObj, Sem.run_bind, Sem.run, hr, Result.andThen]
  rfl
/-- A step: nothing is left; or one of those that are left comes, whichever the tape says. -/
theorem sat_next {since c0 : Nat} {seen : Array Nat} {left : List (K × V)} (h : MapOk d ke ve es clk D) (hi : IterOk ke ve es since seen c0 left) (s : Sat w (.blk r (.mapIter (some b) since seen c0) :: F)) (hb : HItem.blk b (.map es clk) ∈ F) (hc : since ≤ clk) (ty : TypeId) :
    (left = [] ∧ (Instr.next (.pointer (some ⟨r, 0, none⟩)) false ty).run P w = .ok (.tuple #[.bool false]) w) ∨
    ∃ p left' seen' w', left.Perm (p :: left') ∧ IterOk ke ve es since seen' clk left' ∧ (Instr.next (.pointer (some ⟨r, 0, none⟩)) false ty).run P w = .ok (.tuple #[.bool true, ke p.1, ve p.2]) w' ∧
      Sat w' (.blk r (.mapIter (some b) since seen' clk) :: F) ∧ (Instr.entry (.pointer (some ⟨r, 0, none⟩))).run P w' = .ok (.tuple #[ke p.1, ve p.2]) w' := by
  rcases run_next_at (P := P) w ty r b since c0 seen es clk s.h0 (s.get (.tail _ hb)) hi.hold hi.le with ⟨h0, hr⟩ | ⟨e, he, w1, hw1, hr⟩
  · left
    refine ⟨?_, hr⟩
    have := congrArg List.length hi.reads
    simp only [List.length_map, Array.length_toList, h0] at this
    exact List.eq_nil_of_length_eq_zero this.symm
  · right
    obtain ⟨j, hj, hje⟩ := List.mem_iff_getElem.1 he
    have hq : (leftOf es seen).toList[j]? = some e := by rw [List.getElem?_eq_getElem hj, hje]
    have hlen : left.length = (leftOf es seen).toList.length := by
      have := congrArg List.length hi.reads
      simpa using this.symm
    obtain ⟨p, hp⟩ : ∃ p, left[j]? = some p := ⟨_, List.getElem?_eq_getElem (by omega)⟩
    have hkv : (e.key, e.val) = (ke p.1, ve p.2) := by
      have := congrArg (fun l => l[j]?) hi.reads
      simp only [List.getElem?_map, hq, hp, Option.map_some, Option.some.injEq] at this
      exact this
    simp only [Prod.mk.injEq] at hkv
    have hsub : (leftOf es seen).toList.Sublist es.toList := by
      unfold leftOf
      rw [Array.toList_filter]
      exact List.filter_sublist
    have hnd : ((leftOf es seen).toList.map (·.born)).Nodup := (hsub.map _).nodup h.stamped.2.1
    have hpush : (leftOf es (seen.push e.born)).toList = (leftOf es seen).toList.eraseIdx j := by
      rw [← filter_erase e _ j hnd hq]
      unfold leftOf
      rw [Array.toList_filter, Array.toList_filter, List.filter_filter]
      congr 1
      funext x
      rw [contains_push]
      cases seen.contains x.born <;> cases (x.born == e.born) <;> rfl
    have hs1 : Sat w1 (.blk r (.mapIter (some b) since seen c0) :: F) := by
      rcases hw1 with rfl | rfl
      · exact s
      · exact s.drew
    have hs2 := hs1.setBlock (.mapIter (some b) since (seen.push e.born) clk)
    refine ⟨p, left.eraseIdx j, seen.push e.born, _, ?_, ⟨hi.hold, hc, ?_⟩, ?_, hs2, ?_⟩
    · have hjl : j < left.length := by omega
      have hpe : left[j] = p := by
        have := List.getElem?_eq_getElem hjl
        rw [hp] at this
        exact (Option.some.inj this).symm
      have := ChangeMaps.set_perm left j hjl p
      rw [← hpe, List.set_getElem_self] at this
      rw [← hpe]; exact this
    · rw [hpush, ChangeMaps.map_eraseIdx, ChangeMaps.map_eraseIdx, hi.reads]
    · rw [hr, hkv.1, hkv.2]
    · have := run_entry_at (P := P) _ r b since seen es clk e hs2.h0 (hs2.get (.tail _ hb)) (hsub.subset he) h.stamped.2.1
      rw [this, hkv.1, hkv.2]
end
end Go.Proofs.Ythgfbnopbfiifaa
