/- Texts put together: MapR, Pa9, Pa10. Conditions: none. -/
import Derived.Maps.RangeRun
import Derived.RangeFuncNested
import Derived.RangeFuncBound
import Derived.RangeFuncCalls
import Derived.RangeFuncLeaves
import Derived.RangeFuncBox
import Derived.RangeFuncWrites
import Derived.Shelf.Abstract
import Derived.Shelf.RegionOpen
import Derived.OwnWalkIn
import Derived.TacticsInMore
import Derived.LoopNIn
import Derived.LoopIn
import Derived.Test.YtficgjklagnbjaaGreatFo1
import Derived.Test.YtficgjklagnbjaaGreatFo11
namespace Go.Proofs.YtficgjklagnbjaaGreat
open Go Go.MapKept Go.RowKit Go.Proofs

theorem filter_erase (e : MapEntry) : ∀ (l : List MapEntry) (j : Nat), (l.map (·.born)).Nodup → l[j]? = some e → l.filter (fun x => !(x.born == e.born)) = l.eraseIdx j
  | [], j, _, h => by simp at h
  | x :: r, 0, hn, h => by
    simp at h; subst h
    simp only [List.map_cons, List.nodup_cons] at hn
    have : r.filter (fun y => !(y.born == x.born)) = r := by
      rw [List.filter_eq_self]
      intro y hy
      have : y.born ≠ x.born := fun u => hn.1 (List.mem_map.2 ⟨y, hy, u⟩)
      simpa using this
    simp [this]
  | x :: r, j + 1, hn, h => by
    simp only [List.map_cons, List.nodup_cons] at hn
    have h' : r[j]? = some e := by simpa using h
    have hx : x.born ≠ e.born := fun u => hn.1 (List.mem_map.2 ⟨e, List.mem_of_getElem? h', u.symm⟩)
    rw [List.filter_cons_of_pos (by simpa using hx), filter_erase e r j hn.2 h', List.eraseIdx_cons_succ]
section
variable {K V : Type} {ke : K → Value} {ve : V → Value}
/-- The iterator's look: these pairs are still to come. -/
structure IterOk (ke : K → Value) (ve : V → Value) (es : Array MapEntry) (since : Nat) (seen : Array Nat) (c0 : Nat) (left : List (K × V)) : Prop where
  hold : ∀ x ∈ es.toList, x.born < since
  le : since ≤ c0
  reads : (leftOf es seen).toList.map (fun e => (e.key, e.val)) = left.map (fun p => (ke p.1, ve p.2))
variable {d : TypeDesc} {es : Array MapEntry} {clk : Nat} {D : List (K × V)} {P : Program} {w : World} {t kt et : TypeId} {b r : Nat} {F : Heaplet}
theorem iter_start (h : MapOk d ke ve es clk D) : IterOk ke ve es clk #[] clk D := by
  refine ⟨h.stamped.1, Nat.le_refl _, ?_⟩
  have : leftOf es #[] = es := by
    unfold leftOf
    rw [Array.filter_eq_self]
    intro x _
    simp
  rw [this]; exact h.reads
theorem sat_range (ht : P.underlying t = some (.map kt et)) (s : Sat w F) (hb : HItem.blk b (.map es clk) ∈ F) :
    (Instr.range t (.map (some b))).run P w = .ok (.pointer (some ⟨w.heap.size, 0, none⟩)) (w.alloc (.mapIter (some b) clk #[] clk)) ∧ Sat (w.alloc (.mapIter (some b) clk #[] clk)) (.blk w.heap.size (.mapIter (some b) clk #[] clk) :: F) :=
  ⟨run_range_map w t kt et b es clk ht (s.get hb), s.new _⟩
/-- A range over nil has no round. -/
theorem run_next_nil {a c0 : Nat} {seen : Array Nat} (hr : w.heap[r]? = some (.mapIter none a seen c0)) (ty : TypeId) : (Instr.next (.pointer (some ⟨r, 0, none⟩)) false ty).run P w = .ok (.tuple #[.bool false]) w := by
  simp only [Instr.next, getObj, Sem.run_bind, Sem.run, hr, Result.andThen]
  rfl
/-- A step: nothing is left; or one of those that are left comes, whichever the tape says. -/
theorem sat_next {since c0 : Nat} {seen : Array Nat} {left : List (K × V)} (h : MapOk d ke ve es clk D) (hi : IterOk ke ve es since seen c0 left) (s : Sat w (.blk r (.mapIter (some b) since seen c0) :: F)) (hb : HItem.blk b (.map es clk) ∈ F) (hc : since ≤ clk) (ty : TypeId) :
    (left = [] ∧ (Instr.next (.pointer (some ⟨r, 0, none⟩)) false ty).run P w = .ok (.tuple #[.bool false]) w) ∨
    ∃ p left' seen' w', left.Perm (p :: left') ∧ IterOk ke ve es since seen' clk left' ∧ (Instr.next (.pointer (some ⟨r, 0, none⟩)) false ty).run P w = .ok (.tuple #[.bool true, ke p.1, ve p.2]) w' ∧
      Sat w' (.blk r (.mapIter (some b) since seen' clk) :: F) ∧ (Instr.entry (.pointer (some ⟨r, 0, none⟩))).run P w' = .ok (.tuple #[ke p.1, ve p.2]) w' := by
  rcases run_next_at (P := P) w ty r b since c0 seen es clk s.h0 (s.get (.tail _ hb)) hi.hold hi.le with ⟨h0, hr⟩ | ⟨e, he, w1, hw1, hr⟩
  · left
    refine ⟨?_, hr⟩
    have := congrArg List.length hi.reads
    simp only [List.length_map, Array.length_toList, h0] at this
    exact List.eq_nil_of_length_eq_zero this.symm
  · right
    obtain ⟨j, hj, hje⟩ := List.mem_iff_getElem.1 he
    have hq : (leftOf es seen).toList[j]? = some e := by rw [List.getElem?_eq_getElem hj, hje]
    have hlen : left.length = (leftOf es seen).toList.length := by
      have := congrArg List.length hi.reads
      simpa using this.symm
    obtain ⟨p, hp⟩ : ∃ p, left[j]? = some p := ⟨_, List.getElem?_eq_getElem (by omega)⟩
    have hkv : (e.key, e.val) = (ke p.1, ve p.2) := by
      have := congrArg (fun l => l[j]?) hi.reads
      simp only [List.getElem?_map, hq, hp, Option.map_some, Option.some.injEq] at this
      exact this
    simp only [Prod.mk.injEq] at hkv
    have hsub : (leftOf es seen).toList.Sublist es.toList := by
      unfold leftOf
      rw [Array.toList_filter]
      exact List.filter_sublist
    have hnd : ((leftOf es seen).toList.map (·.born)).Nodup := (hsub.map _).nodup h.stamped.2.1
    have hpush : (leftOf es (seen.push e.born)).toList = (leftOf es seen).toList.eraseIdx j := by
      rw [← filter_erase e _ j hnd hq]
      unfold leftOf
      rw [Array.toList_filter, Array.toList_filter, List.filter_filter]
      congr 1
      funext x
      rw [contains_push]
      cases seen.contains x.born <;> cases (x.born == e.born) <;> rfl
    have hs1 : Sat w1 (.blk r (.mapIter (some b) since seen c0) :: F) := by
      rcases hw1 with rfl | rfl
      · exact s
      · exact s.drew
    have hs2 := hs1.setBlock (.mapIter (some b) since (seen.push e.born) clk)
    refine ⟨p, left.eraseIdx j, seen.push e.born, _, ?_, ⟨hi.hold, hc, ?_⟩, ?_, hs2, ?_⟩
    · have hjl : j < left.length := by omega
      have hpe : left[j] = p := by
        have := List.getElem?_eq_getElem hjl
        rw [hp] at this
        exact (Option.some.inj this).symm
      have := ChangeMaps.set_perm left j hjl p
      rw [← hpe, List.set_getElem_self] at this
      rw [← hpe]; exact this
    · rw [hpush, ChangeMaps.map_eraseIdx, ChangeMaps.map_eraseIdx, hi.reads]
    · rw [hr, hkv.1, hkv.2]
    · have := run_entry_at (P := P) _ r b since seen es clk e hs2.h0 (hs2.get (.tail _ hb)) (hsub.subset he) h.stamped.2.1
      rw [this, hkv.1, hkv.2]
end
end Go.Proofs.YtficgjklagnbjaaGreat
namespace Go.Proofs.YtficgjklagnbjaaGreat
open Go Go.MapKept Go.RowKit Go.Proofs Go.Sort Go.Shelf

attribute [local go_sem] Oper.semAt_some

theorem grown_of_below {W W' : World} (h : RowKit.Below W.heap.size W W') : W.grownBy W' none :=
  ⟨h.os, h.tape, h.output, h.size, fun k hk _ => h.block k hk⟩
section
variable {K V : Type} {ke : K → Value} {ve : V → Value} {es : Array MapEntry} {clk : Nat} {D : List (K × V)} {P : Program} {w : World} {b r : Nat}
theorem iter_startS (h : MapOkS ke ve es clk D) : IterOk ke ve es clk #[] clk D := by
  refine ⟨h.stamped.1, Nat.le_refl _, ?_⟩
  have : leftOf es #[] = es := by
    unfold leftOf
    rw [Array.filter_eq_self]
    intro x _
    simp
  rw [this]; exact h.reads
/-- A step: nothing is left; or one of those that are left comes, whichever the tape says. -/
theorem next_S {since c0 : Nat} {seen : Array Nat} {left : List (K × V)} (h : MapOkS ke ve es clk D) (hi : IterOk ke ve es since seen c0 left) (hr0 : w.heap[r]? = some (.mapIter (some b) since seen c0)) (hb : w.heap[b]? = some (.map es clk)) (hc : since ≤ clk) (hbr : b ≠ r) (ty : TypeId) :
    (left = [] ∧ (Instr.next (.pointer (some ⟨r, 0, none⟩)) false ty).run P w = .ok (.tuple #[.bool false]) w) ∨
    ∃ p left' seen' w', left.Perm (p :: left') ∧ left'.length < left.length ∧ IterOk ke ve es since seen' clk left' ∧ (Instr.next (.pointer (some ⟨r, 0, none⟩)) false ty).run P w = .ok (.tuple #[.bool true, ke p.1, ve p.2]) w' ∧
      w'.heap[r]? = some (.mapIter (some b) since seen' clk) ∧ w'.heap[b]? = some (.map es clk) ∧ w.grownBy w' (some r) ∧ (Instr.entry (.pointer (some ⟨r, 0, none⟩))).run P w' = .ok (.tuple #[ke p.1, ve p.2]) w' := by
  rcases run_next_at (P := P) w ty r b since c0 seen es clk hr0 hb hi.hold hi.le with ⟨h0, hr⟩ | ⟨e, he, w1, hw1, hr⟩
  · left
    refine ⟨?_, hr⟩
    have := congrArg List.length hi.reads
    simp only [List.length_map, Array.length_toList, h0] at this
    exact List.eq_nil_of_length_eq_zero this.symm
  · right
    obtain ⟨j, hj, hje⟩ := List.mem_iff_getElem.1 he
    have hq : (leftOf es seen).toList[j]? = some e := by rw [List.getElem?_eq_getElem hj, hje]
    have hlen : left.length = (leftOf es seen).toList.length := by
      have := congrArg List.length hi.reads
      simpa using this.symm
    obtain ⟨p, hp⟩ : ∃ p, left[j]? = some p := ⟨_, List.getElem?_eq_getElem (by omega)⟩
    have hkv : (e.key, e.val) = (ke p.1, ve p.2) := by
      have := congrArg (fun l => l[j]?) hi.reads
      simp only [List.getElem?_map, hq, hp, Option.map_some, Option.some.injEq] at this
      exact this
    simp only [Prod.mk.injEq] at hkv
    have hsub : (leftOf es seen).toList.Sublist es.toList := by
      unfold leftOf
      rw [Array.toList_filter]
      exact List.filter_sublist
    have hnd : ((leftOf es seen).toList.map (·.born)).Nodup := (hsub.map _).nodup h.stamped.2.1
    have hpush : (leftOf es (seen.push e.born)).toList = (leftOf es seen).toList.eraseIdx j := by
      rw [← filter_erase e _ j hnd hq]
      unfold leftOf
      rw [Array.toList_filter, Array.toList_filter, List.filter_filter]
      congr 1
      funext x
      rw [contains_push]
      cases seen.contains x.born <;> cases (x.born == e.born) <;> rfl
    have hw1h : w1.heap = w.heap ∧ w1.os = w.os ∧ w1.tape = w.tape ∧ w1.output = w.output := by
      rcases hw1 with rfl | rfl
      · exact ⟨rfl, rfl, rfl, rfl⟩
      · exact ⟨rfl, rfl, rfl, rfl⟩
    have hlt : r < w.heap.size := (Array.getElem?_eq_some_iff.1 hr0).1
    have k1 : (ChangeMaps.setBlock w1 r (.mapIter (some b) since (seen.push e.born) clk)).heap[r]? = some (.mapIter (some b) since (seen.push e.born) clk) := by
      simp [ChangeMaps.setBlock, hw1h.1, hlt]
    have k2 : (ChangeMaps.setBlock w1 r (.mapIter (some b) since (seen.push e.born) clk)).heap[b]? = some (.map es clk) := by
      simp only [ChangeMaps.setBlock, hw1h.1]
      rw [Array.getElem?_setIfInBounds_ne (fun e => hbr e.symm)]
      exact hb
    have hjl : j < left.length := by omega
    refine ⟨p, left.eraseIdx j, seen.push e.born, _, ?_, ?_, ⟨hi.hold, hc, ?_⟩, ?_, k1, k2, ⟨?_, ?_, ?_, ?_, ?_⟩, ?_⟩
    · have hpe : left[j] = p := by
        have := List.getElem?_eq_getElem hjl
        rw [hp] at this
        exact (Option.some.inj this).symm
      have := ChangeMaps.set_perm left j hjl p
      rw [← hpe, List.set_getElem_self] at this
      rw [← hpe]; exact this
    · rw [List.length_eraseIdx]; split <;> omega
    · rw [hpush, ChangeMaps.map_eraseIdx, ChangeMaps.map_eraseIdx, hi.reads]
    · rw [hr, hkv.1, hkv.2]
    · exact hw1h.2.1
    · exact hw1h.2.2.1
    · exact hw1h.2.2.2
    · simp [ChangeMaps.setBlock, hw1h.1]
    · intro k hk hne
      simp only [ChangeMaps.setBlock, hw1h.1]
      rw [Array.getElem?_setIfInBounds_ne (fun e => hne (by rw [e]))]
    · have := run_entry_at (P := P) _ r b since seen es clk e k1 k2 (hsub.subset he) h.stamped.2.1
      rw [this, hkv.1, hkv.2]
end
theorem und_mti : Tryz.prog.underlying 118 = some (.map 56 3) := by kernel_rfl
set_option maxRecDepth 100000 in
set_option maxHeartbeats 4000000 in
theorem keysT_stops (n : Nat) (hn : 1 ≤ n) (Bm b : Nat) (es : Array MapEntry) (clk : Nat) (D : List (Tx × Int)) (w0 : World) (hBm : w0.cell? ⟨Bm, 0, none⟩ = some (.map (some b))) (hb : w0.heap[b]? = some (.map es clk)) (hm : MapOkS tV kI es clk D) :
    SeqStopsK Fence.wide n Tryz.prog 83 #[.pointer (some ⟨Bm, 0, none⟩)] (fun t : Tx => #[tV t]) KeepsWalks (fun ys => ys.Perm (D.map (·.1))) (fun _ => True) D.length w0 := by
  intro l J Jx W hW hJ hJx hY h0
  have cB : W.cell? ⟨Bm, 0, none⟩ = some (.map (some b)) := (hW.cell (p := ⟨Bm, 0, none⟩) (World.block_lt_of_cell? w0 ⟨Bm, 0, none⟩ hBm)).trans hBm
  have hbW : W.heap[b]? = some (.map es clk) := (hW.block b (Array.getElem?_eq_some_iff.1 hb).1).trans hb
  have hrg := run_range_map W 118 56 3 b es clk und_mti hbW
  have hbl : b < W.heap.size := (Array.getElem?_eq_some_iff.1 hbW).1
  have hb1 : (W.alloc (.mapIter (some b) clk #[] clk)).heap[b]? = some (.map es clk) := (Below.heap_alloc W _ b hbl).trans hbW
  have hr1 : (W.alloc (.mapIter (some b) clk #[] clk)).heap[W.heap.size]? = some (.mapIter (some b) clk #[] clk) := World.alloc_heap_new W _
  have hJ1 : J [] (W.alloc (.mapIter (some b) clk #[] clk)) := hJ [] W _ none h0 (World.grownBy_alloc W _ none) (fun r e => by cases e)
  have HM := Lib.hid hm
  have H1 := Lib.hid (And.intro hb1 (And.intro hr1 hJ1))
  have HJ := Lib.hid hJ
  have HBL := Lib.hid hbl
  clear hbW hb hm hb1 hr1 hJ1 h0 hW hBm hJ hbl
  refine callsIn_of_wp Tryz.func83 rfl trivial ?_ rfl
  simp only [Tryz.ntmps83, List.size_toArray, List.length_cons, List.length_nil, Nat.reduceAdd, Nat.reduceSub, Array.replicate_succ, Array.replicate_zero, List.push_toArray, List.append_toArray, List.nil_append, List.cons_append]
  gi_wp2_with fail
  generalize W.alloc (.mapIter (some b) clk #[] clk) = W1 at *
  gi_loopw [3] (fun _ wr => ∃ (c0 : Nat) (seen : Array Nat) (left : List (Tx × Int)) (ss : List Tx), IterOk tV kI es clk seen c0 left ∧ wr.heap[b]? = some (.map es clk) ∧ wr.heap[W.heap.size]? = some (.mapIter (some b) clk seen c0) ∧ (ss ++ left.map (·.1)).Perm (D.map (·.1)) ∧ J ss wr)
    (fun _ wr => wr.rangeLeft b W.heap.size)
  case atStart => exact ⟨_, _, _, [], iter_startS HM.out, H1.out.1, H1.out.2.1, List.Perm.refl _, H1.out.2.2⟩
  case round =>
    clear H1
    obtain ⟨c0, seen, left, ss, hi, hbr, hrr, hp, hJs⟩ := hrel
    have hml : wr.rangeLeft b W.heap.size = left.length := by
      have e := congrArg List.length hi.reads
      simp only [List.length_map, Array.length_toList] at e
      unfold World.rangeLeft
      rw [hbr, hrr]
      exact e
    rcases next_S (P := Tryz.prog) HM.out hi hrr hbr (Nat.le_refl _) (by have := HBL.out; omega) 0 with ⟨rfl, hnx⟩ | ⟨p, left', seen', w', hpm, hlt, hi', hnx, hr', hb', hgr, hen⟩
    · have hfin : ss.Perm (D.map (·.1)) ∧ J ss wr := ⟨by simpa using hp, hJs⟩
      have HF := Lib.hid hfin
      clear hfin hp hJs hi hbr hrr hml
      gi_wp2_with fail
      go_end0
      exact ⟨⟨_, rfl⟩, .inl ⟨ss, HF.out.1, HF.out.2⟩⟩
    · have hJ2 : J ss w' := HJ.out ss wr w' (some W.heap.size) hJs hgr (fun r e => by cases e; exact ⟨Nat.le_refl _, _, hrr, rfl⟩)
      have hp2 : ((ss ++ [p.1]) ++ left'.map (·.1)).Perm (D.map (·.1)) := by
        have h1 := (hpm.map (·.1)).append_left ss
        rw [List.map_cons] at h1
        rw [List.append_assoc]
        exact h1.symm.trans hp
      have hlen : ss.length < D.length := by
        have := hp.length_eq
        simp only [List.length_append, List.length_map] at this
        omega
      have hJ3 : J ss (w'.alloc (.cells #[kI p.1.c, kI p.1.e, kI p.1.n] 56)) := HJ.out ss w' _ none hJ2 (World.grownBy_alloc w' _ none) (fun r e => by cases e)
      have hb3 : (w'.alloc (.cells #[kI p.1.c, kI p.1.e, kI p.1.n] 56)).heap[b]? = some (.map es clk) := (Below.heap_alloc w' _ b (Array.getElem?_eq_some_iff.1 hb').1).trans hb'
      have hr3 : (w'.alloc (.cells #[kI p.1.c, kI p.1.e, kI p.1.n] 56)).heap[W.heap.size]? = some (.mapIter (some b) clk seen' clk) := (Below.heap_alloc w' _ _ (Array.getElem?_eq_some_iff.1 hr').1).trans hr'
      obtain ⟨fn, tmps, assign, body, hy, hR⟩ := hY ss p.1 _ hJ3 hlen
      have HR := Lib.hid hR
      have HI := Lib.hid hi'
      have HB3 := Lib.hid (And.intro hb3 (And.intro hr3 hp2))
      have HMS : Hid (left'.length < wr.rangeLeft b W.heap.size) := Lib.hid (by rw [hml]; exact hlt)
      clear hi hi' hp hpm hp2 hJs hJ2 hJ3 hb3 hr3 hR hlt hlen hml hgr hbr hrr hb' hr'
      gi_wp2_with fail
      refine HR.out.mono ?_
      rintro e W3 (⟨rfl, hJ3, hk3⟩ | ⟨rfl, hJx3⟩)
      · have FIN := Lib.hid hJ3
        have HK := Lib.hid hk3
        clear hJ3 hk3
        gi_wp2_with fail
        have k1 := HK.out.same _ _ HB3.out.1 rfl
        have k2 := HK.out.same _ _ HB3.out.2.1 rfl
        go_roundw
        case rel => exact ⟨_, _, left', ss ++ [p.1], HI.out, k1, k2, HB3.out.2.2, FIN.out⟩
        case measure =>
          refine Nat.lt_of_le_of_lt (Nat.le_of_eq ?_) HMS.out
          have e := congrArg List.length HI.out.reads
          simp only [List.length_map, Array.length_toList] at e
          unfold World.rangeLeft
          rw [k1, k2]
          exact e
      · have FIN := Lib.hid hJx3
        clear hJx3
        gi_wp2_with fail
        refine bodyPost_ret (results_none rfl _ _ _) rfl ?_
        exact ⟨⟨_, rfl⟩, .inr ⟨_, trivial, FIN.out⟩⟩
end Go.Proofs.YtficgjklagnbjaaGreat
namespace Go.Proofs.YtficgjklagnbjaaGreat
open Go Go.MapKept Go.RowKit Go.Proofs Go.Sort Go.Shelf

attribute [local go_sem] Oper.semAt_some

theorem Sat.sub {w : World} {H H' : Heaplet} (s : Sat w H) (h : H'.Sublist H) : Sat w H' :=
  ⟨fun x hx => s.1 x (h.subset hx), s.2.sublist (h.filterMap _)⟩
/-- All other blocks of a world. -/
theorem Sat.rest {W : World} {H : Heaplet} (s : Sat W H) : ∃ R : Heaplet, Sat W (H ++ R) ∧ ∀ k o, W.heap[k]? = some o → (∀ o', HItem.blk k o' ∉ H) → HItem.blk k o ∈ R := by
  refine ⟨((List.range W.heap.size).filter fun k => !(H.filterMap HItem.no).contains k).map fun k => .blk k (W.heap[k]?.getD default), ⟨fun x hx => ?_, ?_⟩, fun k o hk hn => ?_⟩
  · rcases List.mem_append.1 hx with hx | hx
    · exact s.1 x hx
    · obtain ⟨k, hk, rfl⟩ := List.mem_map.1 hx
      have hlt := List.mem_range.1 (List.mem_filter.1 hk).1
      show W.heap[k]? = some _
      rw [Array.getElem?_eq_getElem hlt]
      rfl
  · rw [List.filterMap_append, List.filterMap_map]
    have e : (List.filterMap (HItem.no ∘ fun k => HItem.blk k (W.heap[k]?.getD default)) ((List.range W.heap.size).filter fun k => !(H.filterMap HItem.no).contains k)) = (List.range W.heap.size).filter fun k => !(H.filterMap HItem.no).contains k := by
      have : (HItem.no ∘ fun k => HItem.blk k (W.heap[k]?.getD default)) = some := by funext k; rfl
      rw [this, List.filterMap_some]
    rw [e]
    refine List.nodup_append.2 ⟨s.2, List.nodup_range.sublist List.filter_sublist, ?_⟩
    intro a ha b hb e
    subst e
    have := (List.mem_filter.1 hb).2
    simp only [Bool.not_eq_true', List.contains_eq_mem, decide_eq_false_iff_not] at this
    exact this ha
  · have hlt := (Array.getElem?_eq_some_iff.1 hk).1
    refine List.mem_map.2 ⟨k, List.mem_filter.2 ⟨List.mem_range.2 hlt, ?_⟩, by rw [hk]; rfl⟩
    simp only [Bool.not_eq_true', List.contains_eq_mem, decide_eq_false_iff_not]
    intro hm
    obtain ⟨x, hx, e⟩ := List.mem_filterMap.1 hm
    cases x with
    | blk b o' =>
      simp only [HItem.no, Option.some.injEq] at e
      subst e
      exact hn o' hx
    | env w0 => cases e
theorem Sat.keepsOthers {W W' : World} {H H' R : Heaplet} (hR : ∀ k o, W.heap[k]? = some o → (∀ o', HItem.blk k o' ∉ H) → HItem.blk k o ∈ R) (s : Sat W H) (s' : Sat W' (H' ++ R)) (hH : ∀ k o, HItem.blk k o ∈ H → o.isCells = true ∨ HItem.blk k o ∈ H') (hsz : W.heap.size ≤ W'.heap.size) : KeepsOthers W W' := by
  refine ⟨hsz, fun k o hk ho => ?_⟩
  by_cases hm : ∃ o', HItem.blk k o' ∈ H
  · obtain ⟨o', hm⟩ := hm
    have e : o' = o := by
      have := s.get hm
      rw [hk] at this
      exact (Option.some.inj this).symm
    subst e
    rcases hH k o' hm with h | h
    · rw [h] at ho; cases ho
    · exact s'.get (List.mem_append_left _ h)
  · exact s'.get (List.mem_append_right _ (hR k o hk (fun o' h => hm ⟨o', h⟩)))
theorem above_of_all {W W' : World} {g : Nat} {o : Obj} (h : Sat W' (.blk g o :: allOf W)) : W.heap.size ≤ g := by
  by_cases hg : g < W.heap.size
  · exact absurd rfl (h.ne (c := g) (o' := W.heap[g]?.getD default) (.tail _ (List.mem_map.2 ⟨g, List.mem_range.2 hg, rfl⟩)))
  · omega
theorem allOf_lt {w : World} {k : Nat} {o : Obj} (h : HItem.blk k o ∈ allOf w) : k < w.heap.size := by
  cases h with
  | tail _ h =>
    obtain ⟨i, hi, e⟩ := List.mem_map.1 h
    cases e
    exact List.mem_range.1 hi
/-- New blocks beside all that lay: beside whatever lay. -/
theorem Sat.news {w w' : World} {h F : Heaplet} (s : Sat w' (h ++ allOf w)) (hF : Sat w F) : Sat w' (h ++ F) := by
  have hb := s.right.below
  have hF' := hF.monoB hb
  have hn := s.2
  rw [List.filterMap_append] at hn
  refine ⟨fun x hx => ?_, ?_⟩
  · rcases List.mem_append.1 hx with hx | hx
    · exact s.1 x (List.mem_append_left _ hx)
    · exact hF'.1 x hx
  · rw [List.filterMap_append]
    refine List.nodup_append.2 ⟨(List.nodup_append.1 hn).1, hF.2, ?_⟩
    intro a ha b hb2 e
    subst e
    obtain ⟨y, hy, ey⟩ := List.mem_filterMap.1 hb2
    cases y with
    | env w0 => cases ey
    | blk c o =>
      simp only [HItem.no, Option.some.injEq] at ey
      subst ey
      have hlt : c < w.heap.size := hF.lt hy
      refine (List.nodup_append.1 hn).2.2 c ha c ?_ rfl
      exact List.mem_filterMap.2 ⟨.blk c (w.heap[c]?.getD default), .tail _ (List.mem_map.2 ⟨c, List.mem_range.2 hlt, rfl⟩), rfl⟩
/-- Cells wherever they lie; all else below B. -/
def UnderC (B : Nat) (H : Heaplet) : Prop := ∀ b o, HItem.blk b o ∈ H → b < B ∨ o.isCells = true
theorem Sat.ownGrownC {B : Nat} {w w' : World} {H : Heaplet} {row : Option Nat} (s : Sat w H) (hu : UnderC B H) (hg : w.grownBy w' row) (hr : ∀ r, row = some r → B ≤ r ∧ ∃ o : Obj, w.heap[r]? = some o ∧ o.isCells = false) : Sat w' H := by
  refine ⟨fun x hx => ?_, s.2⟩
  have h := s.1 x hx
  cases x with
  | blk b o =>
    have hlt : b < w.heap.size := (Array.getElem?_eq_some_iff.1 h).1
    refine (hg.block b hlt (fun e => ?_)).trans h
    obtain ⟨h1, o', h3, h4⟩ := hr b e.symm
    rcases hu b o hx with h2 | h2
    · omega
    · have h' : w.heap[b]? = some o := h
      rw [h'] at h3
      cases h3
      rw [h2] at h4
      cases h4
  | env w0 => exact ⟨hg.os.trans h.1, hg.tape.trans h.2.1, hg.output.trans h.2.2⟩
theorem slice_cells {T : TypeId} {sz n : Nat} {v : Value} {cs : List Value} {h : Heaplet} (hs : SliceIs T sz v n cs h) : ∀ k o, HItem.blk k o ∈ h → o.isCells = true := by
  intro k o hm
  rcases hs.2 with ⟨_, _, rfl⟩ | ⟨g, cap, cur, _, _, _, _, _, rfl⟩
  · cases hm
  · simp only [List.mem_singleton, HItem.blk.injEq] at hm
    rw [hm.2]; rfl
/-- As 'tx_push'; the element's own block stays known. -/
theorem tx_pushX {R : List Tx} {v : Value} {h F : Heaplet} {w : World} {x : Nat} (q : Tx) (hv : TSl v R h) (s : Sat w (.blk x (.cells #[kI q.c, kI q.e, kI q.n] 56) :: (h ++ F))) (hlen : R.length + 1 ≤ 200000) :
    ∃ v' w' h', (∀ ty, (Builtin.append_ #[90, 90] ty #[v, .slice (some ⟨x, 0, none⟩) 1 1]).run Tryz.prog w = .ok v' w') ∧ TSl v' (R ++ [q]) h' ∧ Sat w' (.blk x (.cells #[kI q.c, kI q.e, kI q.n] 56) :: (h' ++ F)) := by
  obtain ⟨i0, hi, hz, hsize, hby⟩ := info_parts infoTx
  have s1 : Sat w (h ++ (.blk x (.cells #[kI q.c, kI q.e, kI q.n] 56) :: F)) := s.perm (List.perm_middle).symm
  have hx := s.h0
  have hnews : ∀ j u, (tC q)[j]? = some u → w.cell? ((⟨x, 0, none⟩ : Addr).add j) = some u := by
    intro j u hu
    have hadd : (⟨x, 0, none⟩ : Addr).add j = ⟨x, j, none⟩ := by unfold Addr.add; split <;> simp_all
    rw [hadd, cell_of hx]
    simpa using hu
  obtain ⟨v', w', h', hr, hsl, hsat⟩ := sat_append (P := Tryz.prog) (ty := 0) Tryz.underlying90 hi hz hsize hby rfl (by decide) hv s1 ⟨x, 0, none⟩ 1 1 (tC q) rfl hnews (one_t q) (by decide) (by unfold maxLen; omega) (by omega)
  refine ⟨v', w', h', fun ty => hr, ?_, hsat.perm List.perm_middle⟩
  have e : (R ++ [q]).flatMap tC = R.flatMap tC ++ tC q := by rw [List.flatMap_append]; simp
  show SliceIs _ _ _ _ _ _
  rw [e, List.length_append]
  exact hsl
theorem wpListIn_append_run {F : Fence} {n : Nat} {P : Program} {w : World} {ops : Array Oper} {rest : List Oper} {o : Oper} {a : Act} {Q : Exit → Act → World → Prop} (hgd : o.guard = none) (s x : Operand) (t1 t2 : TypeId)
    (ho : o.op = .call { callee := .builtin .append, args := #[s, x], argTypes := #[t1, t2] }) (v xv v' : Value) (w' : World) (hs : a.eval s = v) (hx : a.eval x = xv)
    (hr : ∀ ty, (Builtin.append_ #[t1, t2] ty #[v, xv]).run P w = .ok v' w') (hK : wpListIn F n P ops Q rest (a.put o.dst v') w') : wpListIn F n P ops Q (o :: rest) a w := by
  refine wpListIn_plain hgd fun K' hK' => ?_
  unfold Oper.wpIn
  refine ⟨by simp [Oper.about, ho, resolve, Target.leads, Sem.run_pure], ?_⟩
  rw [Oper.semAt_plain F _ _ (by rw [ho]; intro c hc'; cases hc')]
  simp only [execOp, ho, resolve, invoke, builtin, Sem.run_bind, Sem.run_pure, Result.andThen_ok, List.map_toArray, List.map_cons, List.map_nil, hs, hx, hr]
  exact hK' _ _ hK
/-- Between two rounds: what has come so far. -/
def ApI (B bx : Nat) (w : World) (pre : List Tx) (W : World) : Prop :=
  B ≤ W.heap.size ∧ ∃ v h, TSl v pre h ∧ Sat W (h ++ (.blk bx (.cells #[v] 90) :: allOf w))
theorem ApI.under {B bx : Nat} {w : World} {pre : List Tx} {v : Value} {h : Heaplet} (hw : w.heap.size ≤ B) (hv : TSl v pre h) : UnderC B (h ++ (.blk bx (.cells #[v] 90) :: allOf w)) := by
  intro b o hm
  rcases List.mem_append.1 hm with hm | hm
  · exact .inr (slice_cells hv b o hm)
  · cases hm with
    | head => exact .inr rfl
    | tail _ hm => exact .inl (Nat.lt_of_lt_of_le (allOf_lt hm) hw)
theorem ApI.grown {B bx : Nat} {w : World} {pre : List Tx} {W W' : World} {row : Option Nat} (hw : w.heap.size ≤ B) (h : ApI B bx w pre W) (hg : W.grownBy W' row)
    (hr : ∀ r, row = some r → B ≤ r ∧ ∃ o : Obj, W.heap[r]? = some o ∧ o.isCells = false) : ApI B bx w pre W' := by
  obtain ⟨h1, v, h, hv, hs⟩ := h
  exact ⟨Nat.le_trans h1 hg.size, v, h, hv, hs.ownGrownC (ApI.under hw hv) hg hr⟩
set_option maxRecDepth 100000 in
set_option maxHeartbeats 4000000 in
theorem append_keys (Bm b : Nat) (es : Array MapEntry) (clk : Nat) (D : List (Tx × Int)) (w : World) (hBm : w.cell? ⟨Bm, 0, none⟩ = some (.map (some b))) (hb : w.heap[b]? = some (.map es clk)) (hm : MapOkS tV kI es clk D) (hl : D.length ≤ 100000) :
    Calls Tryz.prog 94 #[.slice none 0 0, .func (.func 83) #[] #[.pointer (some ⟨Bm, 0, none⟩)]] w fun e w' =>
      ∃ v R h, e = .returned v ∧ R.Perm (D.map (·.1)) ∧ TSl v R h ∧ Sat w' (h ++ allOf w) := by
  refine (callsIn_wide (n := 9)).1 ?_
  refine callsIn_of_wp_marks Tryz.func94 rfl trivial ?_ rfl
  simp only [Tryz.ntmps94, List.size_toArray, List.length_cons, List.length_nil, Nat.reduceAdd, Nat.reduceSub, Array.replicate_succ, Array.replicate_zero, List.push_toArray, List.append_toArray, List.nil_append, List.cons_append]
  have hgr : Below w.heap.size w (w.alloc (.cells #[.slice none 0 0] 90)) := (Below.refl _ w).alloc (Nat.le_refl _) _
  have hst := keysT_stops (9 - 1) (by omega) Bm b es clk D (w.alloc (.cells #[.slice none 0 0] 90)) ((hgr.cell (p := ⟨Bm, 0, none⟩) (World.block_lt_of_cell? w ⟨Bm, 0, none⟩ hBm)).trans hBm) ((hgr.block b (Array.getElem?_eq_some_iff.1 hb).1).trans hb) hm
  have hs0 := (sat_all w).new (.cells #[.slice none 0 0] 90)
  have hI0 : ApI (w.alloc (.cells #[.slice none 0 0] 90)).heap.size w.heap.size w [] (w.alloc (.cells #[.slice none 0 0] 90)) := ⟨Nat.le_refl _, .slice none 0 0, [], SliceIs.nil _ _, hs0⟩
  have HI0 := Lib.hid hI0
  have hwB : w.heap.size ≤ (w.alloc (.cells #[.slice none 0 0] 90)).heap.size := by simp
  have HWB := Lib.hid hwB
  clear hgr hs0 hI0 hBm hb hwB
  gi_wp2_with fail
  generalize w.alloc (.cells #[.slice none 0 0] 90) = W1 at *
  apply wpIn_rangeFunc_ownH (F := Fence.wide) (n := 9) rfl (by omega) (gf := 83) (lb := #[.pointer (some ⟨Bm, 0, none⟩)]) rfl trivial (enters_of Tryz.func83 (by kernel_rfl) rfl)
    hst walksK_t walksK_b (Below.refl _ _) (fun _ => rfl)
    (ApI W1.heap.size w.heap.size w)
    (fun _ _ _ => False)
    (fun s W W' row hI hg hr => hI.grown HWB.out hg hr)
    (fun c s W W' row hI _ _ => hI)
    HI0.out
    (fun x a' W => ∃ Bx, W1.heap.size ≤ Bx ∧ W.heap[Bx]? = some (.cells #[kI x.c, kI x.e, kI x.n] 56) ∧ a' = { tmps := #[.slice none 0 0, .func (.func 83) #[] #[.pointer (some ⟨Bm, 0, none⟩)], .pointer (some ⟨w.heap.size, 0, none⟩), undef, .slice none 0 0, .pointer (some ⟨Bx, 0, none⟩), .func (.func 83) #[] #[.pointer (some ⟨Bm, 0, none⟩)], tV x, undef, undef, undef, undef, undef], defers := [] })
    (fun x a' s W W' row hI hg hr => by
      obtain ⟨Bx, e1, e2, e3⟩ := hI
      refine ⟨Bx, e1, (hg.block Bx (Array.getElem?_eq_some_iff.1 e2).1 (fun e => ?_)).trans e2, e3⟩
      obtain ⟨o, h1, h2⟩ := (hr Bx e.symm).2
      rw [e2] at h1; cases h1; cases h2) ?assign ?body ?done ?stop
  case assign =>
    rintro l pre x W K hI hK
    have HK := Lib.hid hK
    have HI := Lib.hid hI
    clear hK hI
    gi_wp2
    have hN := World.alloc_heap_new W (.cells #[kI x.c, kI x.e, kI x.n] 56)
    refine HK.out _ _ ((KeepsOthers.alloc _ _).from _) (KeepsWalks.alloc _ _) (HI.out.grown HWB.out (World.grownBy_alloc W _ none) (fun r e => by cases e)) ⟨W.heap.size, HI.out.1, hN, rfl⟩
  case body =>
    rintro l pre x a' W hl ⟨r, hr⟩ ⟨hB, v, h, hv, hs⟩ ⟨Bx, hBx, hcx, rfl⟩ hlt
    have b0 : W.cell? ⟨Bx, 0, none⟩ = some (kI x.c) := by rw [cell_of hcx]; rfl
    have b1 : W.cell? ⟨Bx, 1, none⟩ = some (kI x.e) := by rw [cell_of hcx]; rfl
    have b2 : W.cell? ⟨Bx, 2, none⟩ = some (kI x.n) := by rw [cell_of hcx]; rfl
    have c0 : W.cell? ⟨w.heap.size, 0, none⟩ = some v := by rw [cell_of (hs.right.h0)]; rfl
    obtain ⟨R, hsR, hR⟩ := hs.rest
    rw [List.append_assoc] at hsR
    obtain ⟨v5, w5, h5, hap, hv5, hs5⟩ := tx_pushX x hv (hsR.new (.cells #[kI x.c, kI x.e, kI x.n] 56)) (by omega)
    have d0 : w5.frozen? ⟨w.heap.size, 0, none⟩ = false := unfrozen_of hs5.tail.right.h0 0
    have d1 : w5.cell? ⟨w.heap.size, 0, none⟩ = some v := by rw [cell_of hs5.tail.right.h0]; rfl
    have hs6 : Sat (w5.setCell ⟨w.heap.size, 0, none⟩ v5) ((.blk W.heap.size (.cells #[kI x.c, kI x.e, kI x.n] 56) :: (h5 ++ (.blk w.heap.size (.cells #[v5] 90) :: allOf w))) ++ R) := by
      have h1 : Sat w5 (.blk w.heap.size (.cells #[v] 90) :: (.blk W.heap.size (.cells #[kI x.c, kI x.e, kI x.n] 56) :: (h5 ++ (allOf w ++ R)))) := by
        refine hs5.perm ?_
        exact ((List.perm_middle (l₁ := h5)).cons _).trans (List.Perm.swap _ _ _)
      have h2 := h1.setCell (i := 0) v5
      rw [List.cons_append, List.append_assoc]
      refine h2.perm ?_
      exact (List.Perm.swap _ _ _).trans ((List.perm_middle (l₁ := h5)).symm.cons _)
    have hsz : W.heap.size ≤ (w5.setCell ⟨w.heap.size, 0, none⟩ v5).heap.size := Nat.le_of_lt (hs6.lt (.head _))
    have hko : KeepsOthers W (w5.setCell ⟨w.heap.size, 0, none⟩ v5) := by
      refine Sat.keepsOthers hR hs hs6 (fun k o hm => ?_) hsz
      rcases List.mem_append.1 hm with hm | hm
      · exact .inl (slice_cells hv k o hm)
      · cases hm with
        | head => exact .inl rfl
        | tail _ hm => exact .inr (.tail _ (List.mem_append_right _ (.tail _ hm)))
    have hI6 : ApI W1.heap.size w.heap.size w (pre ++ [x]) (w5.setCell ⟨w.heap.size, 0, none⟩ v5) := ⟨Nat.le_trans hB hsz, v5, h5, hv5, (hs6.sub (List.sublist_append_left _ _)).tail⟩
    obtain ⟨a5, cp5, rfl⟩ := sl_form hv5
    obtain ⟨n5, hn5⟩ : ∃ n5, (pre ++ [x]).length = n5 := ⟨_, rfl⟩
    rw [hn5] at hap hko hI6
    clear hsz hs6 hn5
    have HAP := Lib.hid hap
    have FIN := Lib.hid (And.intro hko hI6)
    clear hap hv5 hs5 hko hI6 hR hsR hs hv hst hcx hr
    gi_wp2_with (refine wpListIn_append_run rfl _ _ _ _ rfl _ _ _ _ rfl rfl HAP.out ?_)
    exact ⟨FIN.out.1.from _, FIN.out.1.walks, FIN.out.2⟩
  case stop => exact fun D c pre W _ _ h => h.elim
  case done =>
    rintro D xs W hD hS ⟨hB, v, h, hv, hs⟩ hKD
    have hs2 : Sat (W.putObj D (.deferred none)) (h ++ (.blk w.heap.size (.cells #[v] 90) :: allOf w)) := hs.ownGrownC (ApI.under HWB.out hv) (grownBy_putObj' W D (.deferred none)) (fun r e => by cases e; exact ⟨hD, _, hKD, rfl⟩)
    have c0 : W.cell? ⟨w.heap.size, 0, none⟩ = some v := by rw [cell_of hs.right.h0]; rfl
    have FIN := Lib.hid (And.intro hS (And.intro hv (hs2.perm List.perm_middle).tail))
    clear hs hs2 hv hS hst hm
    gi_wp2
    refine ⟨by simp, .inl ⟨_, _, rfl, run_takeDeferred hKD, ?_⟩⟩
    refine ⟨_, results_tmp rfl _ _ _, v, xs, h, rfl, FIN.out.1, FIN.out.2.1, FIN.out.2.2⟩
end Go.Proofs.YtficgjklagnbjaaGreat
