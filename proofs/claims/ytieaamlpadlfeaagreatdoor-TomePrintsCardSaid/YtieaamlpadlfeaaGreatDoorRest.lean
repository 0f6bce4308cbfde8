/- All of a world beside a part of it; a range over a function's body: generic. Conditions: none. -/
import Derived.Test.YtieaamlpadlfeaaGreatDoorTb9
import Derived.Test.YtieaamlpadlfeaaGreatDoorSeqBox
namespace Go.Proofs.YtieaamlpadlfeaaGreatDoor
open Go Go.MapKept Go.RowKit Go.Proofs

attribute [local go_sem] Oper.semAt_some

theorem Sat.sub {w : World} {H H' : Heaplet} (s : Sat w H) (h : H'.Sublist H) : Sat w H' :=
  ⟨fun x hx => s.1 x (h.subset hx), s.2.sublist (h.filterMap _)⟩
/-- All other blocks of a world. -/
theorem Sat.rest {W : World} {H : Heaplet} (s : Sat W H) : ∃ R : Heaplet, Sat W (H ++ R) ∧ ∀ k o, W.heap[k]? = some o → (∀ o', HItem.blk k o' ∉ H) → HItem.blk k o ∈ R := by
  refine ⟨((List.range W.heap.size).filter fun k => !(H.filterMap HItem.no).contains k).map fun k => .blk k (W.heap[k]?.getD default), ⟨fun x hx => ?_, ?_⟩, fun k o hk hn => ?_⟩
  · rcases List.mem_append.1 hx with hx | hx
    · exact s.1 x hx
    · obtain ⟨k, hk, rfl⟩ := List.mem_map.1 hx
      have hlt := List.mem_range.1 (List.mem_filter.1 hk).1
      show W.heap[k]? = some _
      rw [Array.getElem?_eq_getElem hlt]
      rfl
  · rw [List.filterMap_append, List.filterMap_map]
    have e : (List.filterMap (HItem.no ∘ fun k => HItem.blk k (W.heap[k]?.getD default)) ((List.range W.heap.size).filter fun k => !(H.filterMap HItem.no).contains k)) = (List.range W.heap.size).filter fun k => !(H.filterMap HItem.no).contains k := by
      have : (HItem.no ∘ fun k => HItem.blk k (W.heap[k]?.getD default)) = some := by funext k; rfl
      rw [this, List.filterMap_some]
    rw [e]
    refine List.nodup_append.2 ⟨s.2, List.nodup_range.sublist List.filter_sublist, ?_⟩
    intro a ha b hb e
    subst e
    have := (List.mem_filter.1 hb).2
    simp only [Bool.not_eq_true', List.contains_eq_mem, decide_eq_false_iff_not] at this
    exact this ha
  · have hlt := (Array.getElem?_eq_some_iff.1 hk).1
    refine List.mem_map.2 ⟨k, List.mem_filter.2 ⟨List.mem_range.2 hlt, ?_⟩, by rw [hk]; rfl⟩
    simp only [Bool.not_eq_true', List.contains_eq_mem, decide_eq_false_iff_not]
    intro hm
    obtain ⟨x, hx, e⟩ := List.mem_filterMap.1 hm
    cases x with
    | blk b o' =>
      simp only [HItem.no, Option.some.injEq] at e
      subst e
      exact hn o' hx
    | env w0 => cases e
theorem Sat.keepsOthers {W W' : World} {H H' R : Heaplet} (hR : ∀ k o, W.heap[k]? = some o → (∀ o', HItem.blk k o' ∉ H) → HItem.blk k o ∈ R) (s : Sat W H) (s' : Sat W' (H' ++ R)) (hH : ∀ k o, HItem.blk k o ∈ H → o.isCells = true ∨ HItem.blk k o ∈ H') (hsz : W.heap.size ≤ W'.heap.size) : KeepsOthers W W' := by
  refine ⟨hsz, fun k o hk ho => ?_⟩
  by_cases hm : ∃ o', HItem.blk k o' ∈ H
  · obtain ⟨o', hm⟩ := hm
    have e : o' = o := by
      have := s.get hm
      rw [hk] at this
      exact (Option.some.inj this).symm
    subst e
    rcases hH k o' hm with h | h
    · rw [h] at ho; cases ho
    · exact s'.get (List.mem_append_left _ h)
  · exact s'.get (List.mem_append_right _ (hR k o hk (fun o' h => hm ⟨o', h⟩)))
theorem above_of_all {W W' : World} {g : Nat} {o : Obj} (h : Sat W' (.blk g o :: allOf W)) : W.heap.size ≤ g := by
  by_cases hg : g < W.heap.size
  · exact absurd rfl (h.ne (c := g) (o' := W.heap[g]?.getD default) (.tail _ (List.mem_map.2 ⟨g, List.mem_range.2 hg, rfl⟩)))
  · omega
theorem allOf_lt {w : World} {k : Nat} {o : Obj} (h : HItem.blk k o ∈ allOf w) : k < w.heap.size := by
  cases h with
  | tail _ h =>
    obtain ⟨i, hi, e⟩ := List.mem_map.1 h
    cases e
    exact List.mem_range.1 hi
/-- New blocks beside all that lay: beside whatever lay. -/
theorem Sat.news {w w' : World} {h F : Heaplet} (s : Sat w' (h ++ allOf w)) (hF : Sat w F) : Sat w' (h ++ F) := by
  have hb := s.right.below
  have hF' := hF.monoB hb
  have hn := s.2
  rw [List.filterMap_append] at hn
  refine ⟨fun x hx => ?_, ?_⟩
  · rcases List.mem_append.1 hx with hx | hx
    · exact s.1 x (List.mem_append_left _ hx)
    · exact hF'.1 x hx
  · rw [List.filterMap_append]
    refine List.nodup_append.2 ⟨(List.nodup_append.1 hn).1, hF.2, ?_⟩
    intro a ha b hb2 e
    subst e
    obtain ⟨y, hy, ey⟩ := List.mem_filterMap.1 hb2
    cases y with
    | env w0 => cases ey
    | blk c o =>
      simp only [HItem.no, Option.some.injEq] at ey
      subst ey
      have hlt : c < w.heap.size := hF.lt hy
      refine (List.nodup_append.1 hn).2.2 c ha c ?_ rfl
      exact List.mem_filterMap.2 ⟨.blk c (w.heap[c]?.getD default), .tail _ (List.mem_map.2 ⟨c, List.mem_range.2 hlt, rfl⟩), rfl⟩
/-- Cells wherever they lie; all else below B. -/
def UnderC (B : Nat) (H : Heaplet) : Prop := ∀ b o, HItem.blk b o ∈ H → b < B ∨ o.isCells = true
theorem Sat.ownGrownC {B : Nat} {w w' : World} {H : Heaplet} {row : Option Nat} (s : Sat w H) (hu : UnderC B H) (hg : w.grownBy w' row) (hr : ∀ r, row = some r → B ≤ r ∧ ∃ o : Obj, w.heap[r]? = some o ∧ o.isCells = false) : Sat w' H := by
  refine ⟨fun x hx => ?_, s.2⟩
  have h := s.1 x hx
  cases x with
  | blk b o =>
    have hlt : b < w.heap.size := (Array.getElem?_eq_some_iff.1 h).1
    refine (hg.block b hlt (fun e => ?_)).trans h
    obtain ⟨h1, o', h3, h4⟩ := hr b e.symm
    rcases hu b o hx with h2 | h2
    · omega
    · have h' : w.heap[b]? = some o := h
      rw [h'] at h3
      cases h3
      rw [h2] at h4
      cases h4
  | env w0 => exact ⟨hg.os.trans h.1, hg.tape.trans h.2.1, hg.output.trans h.2.2⟩
theorem slice_cells {T : TypeId} {sz n : Nat} {v : Value} {cs : List Value} {h : Heaplet} (hs : SliceIs T sz v n cs h) : ∀ k o, HItem.blk k o ∈ h → o.isCells = true := by
  intro k o hm
  rcases hs.2 with ⟨_, _, rfl⟩ | ⟨g, cap, cur, _, _, _, _, _, rfl⟩
  · cases hm
  · simp only [List.mem_singleton, HItem.blk.injEq] at hm
    rw [hm.2]; rfl
theorem wpListIn_append_run {F : Fence} {n : Nat} {P : Program} {w : World} {ops : Array Oper} {rest : List Oper} {o : Oper} {a : Act} {Q : Exit → Act → World → Prop} (hgd : o.guard = none) (s x : Operand) (t1 t2 : TypeId)
    (ho : o.op = .call { callee := .builtin .append, args := #[s, x], argTypes := #[t1, t2] }) (v xv v' : Value) (w' : World) (hs : a.eval s = v) (hx : a.eval x = xv)
    (hr : ∀ ty, (Builtin.append_ #[t1, t2] ty #[v, xv]).run P w = .ok v' w') (hK : wpListIn F n P ops Q rest (a.put o.dst v') w') : wpListIn F n P ops Q (o :: rest) a w := by
  refine wpListIn_plain hgd fun K' hK' => ?_
  unfold Oper.wpIn
  refine ⟨by simp [Oper.about, ho, resolve, Target.leads, Sem.run_pure], ?_⟩
  rw [Oper.semAt_plain F _ _ (by rw [ho]; intro c hc'; cases hc')]
  simp only [execOp, ho, resolve, invoke, builtin, Sem.run_bind, Sem.run_pure, Result.andThen_ok, List.map_toArray, List.map_cons, List.map_nil, hs, hx, hr]
  exact hK' _ _ hK
/-- Blocks of cells alone. -/
def CellsOnly (h : Heaplet) : Prop := ∀ x ∈ h, ∃ b o, x = HItem.blk b o ∧ o.isCells = true
theorem CellsOnly.append {h k : Heaplet} (a : CellsOnly h) (b : CellsOnly k) : CellsOnly (h ++ k) := fun x hx => (List.mem_append.1 hx).elim (a x) (b x)
/-- The numbers lie in one block of cells. -/
theorem FtAt.shrink {h F : Heaplet} {W : World} {v : Value} {fs : List Int} (hf : FtAt h v fs) (s : Sat W (h ++ F)) : ∃ h', CellsOnly h' ∧ FtAt h' v fs ∧ Sat W (h' ++ F) := by
  obtain ⟨a, cap, rfl, hu⟩ := hf
  by_cases h0 : fs.length = 0
  · obtain rfl := List.eq_nil_of_length_eq_zero h0
    exact ⟨[], fun x hx => (by cases hx), FtAt.nil _ _ _, s.right⟩
  obtain ⟨f0, hf0⟩ : ∃ f0, fs[0]? = some f0 := ⟨_, List.getElem?_eq_getElem (by omega)⟩
  obtain ⟨g, off, rfl, hc⟩ := hu 0 f0 hf0
  have hall : ∀ i f, fs[i]? = some f → ∀ w, Sat w h → w.cell? ⟨g, off + i, none⟩ = some (kI f) := by
    intro i f hi
    obtain ⟨g', off', e, h2⟩ := hu i f hi
    obtain ⟨rfl, rfl⟩ : g = g' ∧ off = off' := by injection e with e; injection e with e1 e2; exact ⟨e1, e2⟩
    exact h2
  have hs : Sat W h := s.lft
  by_cases hm : ∃ o, HItem.blk g o ∈ h
  · obtain ⟨o, hm⟩ := hm
    have hg : W.heap[g]? = some o := hs.1 _ hm
    have hoc : o.isCells = true := by
      have h1 := hc W hs
      unfold World.cell? at h1
      simp only [hg] at h1
      cases o <;> first | rfl | (simp at h1)
    refine ⟨[.blk g o], fun x hx => ⟨g, o, List.mem_singleton.1 hx, hoc⟩, ⟨_, cap, rfl, fun i f hi => ⟨g, off, rfl, fun w hw => ?_⟩⟩, ?_⟩
    · have hgw : w.heap[g]? = some o := hw.1 _ (.head _)
      rw [← hall i f hi W hs]
      unfold World.cell?
      simp only [hgw, hg]
    · refine s.sub ?_
      exact List.Sublist.append (List.singleton_sublist.2 hm) (List.Sublist.refl _)
  · exfalso
    have hgl : g < W.heap.size := World.block_lt_of_cell? W ⟨g, off + 0, none⟩ (hc W hs)
    have h2 : Sat (W.putObj g (.deferred none)) h := by
      refine ⟨fun x hx => ?_, hs.2⟩
      have h9 := hs.1 x hx
      cases x with
      | blk b o =>
        have hb : b ≠ g := fun e => hm ⟨o, e ▸ hx⟩
        exact (World.putObj_heap_other (by omega)).trans h9
      | env w0 => exact h9
    have h3 := hc _ h2
    unfold World.cell? at h3
    rw [World.putObj_heap_same hgl] at h3
    cases h3
end Go.Proofs.YtieaamlpadlfeaaGreatDoor
