/- The keys of a map whose keys are names, gone over. Conditions: none. -/
import Derived.Test.YtceegnfjdgjomaaPa8
import Derived.Test.YtceegnfjdgjomaaMapR
import Derived.RangeFuncNested
import Derived.RangeFuncBound
import Derived.RangeFuncCalls
import Derived.RangeFuncLeaves
import Derived.RangeFuncBox
import Derived.RangeFuncWrites
import Derived.Shelf.Abstract
import Derived.Shelf.RegionOpen
import Derived.OwnWalkIn
import Derived.TacticsInMore
import Derived.LoopNIn
import Derived.LoopIn
namespace Go.Proofs.Ytceegnfjdgjomaa
open Go Go.MapKept Go.RowKit Go.Proofs Go.Sort Go.Shelf

attribute [local go_sem] Oper.semAt_some

theorem grown_of_below {W W' : World} (h : RowKit.Below W.heap.size W W') : W.grownBy W' none :=
  ⟨h.os, h.tape, h.output, h.size, fun k hk _ => h.block k hk⟩
section
variable {K V : Type} {ke : K → Value} {ve : V → Value} {es : Array MapEntry} {clk : Nat} {D : List (K × V)} {P : Program} {w : World} {b r : Nat}
theorem iter_startS (h : MapOkS ke ve es clk D) : IterOk ke ve es clk #[] clk D := by
  refine ⟨h.stamped.1, Nat.le_refl _, ?_⟩
  have : leftOf es #[] = es := by
    unfold leftOf
    rw [Array.filter_eq_self]
    intro x _
    simp
  rw [this]; exact h.reads
/-- A step: nothing is left; or one of those that are left comes, whichever the tape says. -/
theorem next_S {since c0 : Nat} {seen : Array Nat} {left : List (K × V)} (h : MapOkS ke ve es clk D) (hi : IterOk ke ve es since seen c0 left) (hr0 : w.heap[r]? = some (.mapIter (some b) since seen c0)) (hb : w.heap[b]? = some (.map es clk)) (hc : since ≤ clk) (hbr : b ≠ r) (ty : TypeId) :
    (left = [] ∧ (Instr.next (.pointer (some ⟨r, 0, none⟩)) false ty).run P w = .ok (.tuple #[.bool false]) w) ∨
    ∃ p left' seen' w', left.Perm (p :: left') ∧ left'.length < left.length ∧ IterOk ke ve es since seen' clk left' ∧ (Instr.next (.pointer (some ⟨r, 0, none⟩)) false ty).run P w = .ok (.tuple #[.bool true, ke p.1, ve p.2]) w' ∧
      w'.heap[r]? = some (.mapIter (some b) since seen' clk) ∧ w'.heap[b]? = some (.map es clk) ∧ w.grownBy w' (some r) ∧ (Instr.entry (.pointer (some ⟨r, 0, none⟩))).run P w' = .ok (.tuple #[ke p.1, ve p.2]) w' := by
  rcases run_next_at (P := P) w ty r b since c0 seen es clk hr0 hb hi.hold hi.le with ⟨h0, hr⟩ | ⟨e, he, w1, hw1, hr⟩
  · left
    refine ⟨?_, hr⟩
    have := congrArg List.length hi.reads
    simp only [List.length_map, Array.length_toList, h0] at this
    exact List.eq_nil_of_length_eq_zero this.symm
  · right
    obtain ⟨j, hj, hje⟩ := List.mem_iff_getElem.1 he
    have hq : (leftOf es seen).toList[j]? = some e := by rw [List.getElem?_eq_getElem hj, hje]
    have hlen : left.length = (leftOf es seen).toList.length := by
      have := congrArg List.length hi.reads
      simpa using this.symm
    obtain ⟨p, hp⟩ : ∃ p, left[j]? = some p := ⟨_, List.getElem?_eq_getElem (by omega)⟩
    have hkv : (e.key, e.val) = (ke p.1, ve p.2) := by
      have := congrArg (fun l => l[j]?) hi.reads
      simp only [List.getElem?_map, hq, hp, Option.map_some, Option.some.injEq] at this
      exact this
    simp only [Prod.mk.injEq] at hkv
    have hsub : (leftOf es seen).toList.Sublist es.toList := by
      unfold leftOf
      rw [Array.toList_filter]
      exact List.filter_sublist
    have hnd : ((leftOf es seen).toList.map (·.born)).Nodup := (hsub.map _).nodup h.stamped.2.1
    have hpush : (leftOf es (seen.push e.born)).toList = (leftOf es seen).toList.eraseIdx j := by
      rw [← filter_erase e _ j hnd hq]
      unfold leftOf
      rw [Array.toList_filter, Array.toList_filter, List.filter_filter]
      congr 1
      funext x
      rw [contains_push]
      cases seen.contains x.born <;> cases (x.born == e.born) <;> rfl
    have hw1h : w1.heap = w.heap ∧ w1.os = w.os ∧ w1.tape = w.tape ∧ w1.output = w.output := by
      rcases hw1 with rfl | rfl
      · exact ⟨rfl, rfl, rfl, rfl⟩
      · exact ⟨rfl, rfl, rfl, rfl⟩
    have hlt : r < w.heap.size := (Array.getElem?_eq_some_iff.1 hr0).1
    have k1 : (ChangeMaps.setBlock w1 r (.mapIter (some b) since (seen.push e.born) clk)).heap[r]? = some (.mapIter (some b) since (seen.push e.born) clk) := by
      simp [ChangeMaps.setBlock, hw1h.1, hlt]
    have k2 : (ChangeMaps.setBlock w1 r (.mapIter (some b) since (seen.push e.born) clk)).heap[b]? = some (.map es clk) := by
      simp only [ChangeMaps.setBlock, hw1h.1]
      rw [Array.getElem?_setIfInBounds_ne (fun e => hbr e.symm)]
      exact hb
    have hjl : j < left.length := by omega
    refine ⟨p, left.eraseIdx j, seen.push e.born, _, ?_, ?_, ⟨hi.hold, hc, ?_⟩, ?_, k1, k2, ⟨?_, ?_, ?_, ?_, ?_⟩, ?_⟩
    · have hpe : left[j] = p := by
        have := List.getElem?_eq_getElem hjl
        rw [hp] at this
        exact (Option.some.inj this).symm
      have := ChangeMaps.set_perm left j hjl p
      rw [← hpe, List.set_getElem_self] at this
      rw [← hpe]; exact this
    · rw [List.length_eraseIdx]; split <;> omega
    · rw [hpush, ChangeMaps.map_eraseIdx, ChangeMaps.map_eraseIdx, hi.reads]
    · rw [hr, hkv.1, hkv.2]
    · exact hw1h.2.1
    · exact hw1h.2.2.1
    · exact hw1h.2.2.2
    · simp [ChangeMaps.setBlock, hw1h.1]
    · intro k hk hne
      simp only [ChangeMaps.setBlock, hw1h.1]
      rw [Array.getElem?_setIfInBounds_ne (fun e => hne (by rw [e]))]
    · have := run_entry_at (P := P) _ r b since seen es clk e k1 k2 (hsub.subset he) h.stamped.2.1
      rw [this, hkv.1, hkv.2]
end
theorem und_mti : Try.prog.underlying 56 = some (.map 23 3) := by kernel_rfl
set_option maxRecDepth 100000 in
set_option maxHeartbeats 4000000 in
theorem keysT_stops (n : Nat) (hn : 1 ≤ n) (Bm b : Nat) (es : Array MapEntry) (clk : Nat) (D : List (Tx × Int)) (w0 : World) (hBm : w0.cell? ⟨Bm, 0, none⟩ = some (.map (some b))) (hb : w0.heap[b]? = some (.map es clk)) (hm : MapOkS tV kI es clk D) :
    SeqStopsK Fence.wide n Try.prog 41 #[.pointer (some ⟨Bm, 0, none⟩)] (fun t : Tx => #[tV t]) KeepsWalks (fun ys => ys.Perm (D.map (·.1))) (fun _ => True) D.length w0 := by
  intro l J Jx W hW hJ hJx hY h0
  have cB : W.cell? ⟨Bm, 0, none⟩ = some (.map (some b)) := (hW.cell (p := ⟨Bm, 0, none⟩) (World.block_lt_of_cell? w0 ⟨Bm, 0, none⟩ hBm)).trans hBm
  have hbW : W.heap[b]? = some (.map es clk) := (hW.block b (Array.getElem?_eq_some_iff.1 hb).1).trans hb
  have hrg := run_range_map W 56 23 3 b es clk und_mti hbW
  have hbl : b < W.heap.size := (Array.getElem?_eq_some_iff.1 hbW).1
  have hb1 : (W.alloc (.mapIter (some b) clk #[] clk)).heap[b]? = some (.map es clk) := (Below.heap_alloc W _ b hbl).trans hbW
  have hr1 : (W.alloc (.mapIter (some b) clk #[] clk)).heap[W.heap.size]? = some (.mapIter (some b) clk #[] clk) := World.alloc_heap_new W _
  have hJ1 : J [] (W.alloc (.mapIter (some b) clk #[] clk)) := hJ [] W _ none h0 (World.grownBy_alloc W _ none) (fun r e => by cases e)
  have HM := Lib.hid hm
  have H1 := Lib.hid (And.intro hb1 (And.intro hr1 hJ1))
  have HJ := Lib.hid hJ
  have HBL := Lib.hid hbl
  clear hbW hb hm hb1 hr1 hJ1 h0 hW hBm hJ hbl
  refine callsIn_of_wp Try.func41 rfl trivial ?_ rfl
  simp only [Try.ntmps41, List.size_toArray, List.length_cons, List.length_nil, Nat.reduceAdd, Nat.reduceSub, Array.replicate_succ, Array.replicate_zero, List.push_toArray, List.append_toArray, List.nil_append, List.cons_append]
  gi_wp2_with fail
  generalize W.alloc (.mapIter (some b) clk #[] clk) = W1 at *
  gi_loopw [3] (fun _ wr => ∃ (c0 : Nat) (seen : Array Nat) (left : List (Tx × Int)) (ss : List Tx), IterOk tV kI es clk seen c0 left ∧ wr.heap[b]? = some (.map es clk) ∧ wr.heap[W.heap.size]? = some (.mapIter (some b) clk seen c0) ∧ (ss ++ left.map (·.1)).Perm (D.map (·.1)) ∧ J ss wr)
    (fun _ wr => wr.rangeLeft b W.heap.size)
  case atStart => exact ⟨_, _, _, [], iter_startS HM.out, H1.out.1, H1.out.2.1, List.Perm.refl _, H1.out.2.2⟩
  case round =>
    clear H1
    obtain ⟨c0, seen, left, ss, hi, hbr, hrr, hp, hJs⟩ := hrel
    have hml : wr.rangeLeft b W.heap.size = left.length := by
      have e := congrArg List.length hi.reads
      simp only [List.length_map, Array.length_toList] at e
      unfold World.rangeLeft
      rw [hbr, hrr]
      exact e
    rcases next_S (P := Try.prog) HM.out hi hrr hbr (Nat.le_refl _) (by have := HBL.out; omega) 0 with ⟨rfl, hnx⟩ | ⟨p, left', seen', w', hpm, hlt, hi', hnx, hr', hb', hgr, hen⟩
    · have hfin : ss.Perm (D.map (·.1)) ∧ J ss wr := ⟨by simpa using hp, hJs⟩
      have HF := Lib.hid hfin
      clear hfin hp hJs hi hbr hrr hml
      gi_wp2_with fail
      go_end0
      exact ⟨⟨_, rfl⟩, .inl ⟨ss, HF.out.1, HF.out.2⟩⟩
    · have hJ2 : J ss w' := HJ.out ss wr w' (some W.heap.size) hJs hgr (fun r e => by cases e; exact ⟨Nat.le_refl _, _, hrr, rfl⟩)
      have hp2 : ((ss ++ [p.1]) ++ left'.map (·.1)).Perm (D.map (·.1)) := by
        have h1 := (hpm.map (·.1)).append_left ss
        rw [List.map_cons] at h1
        rw [List.append_assoc]
        exact h1.symm.trans hp
      have hlen : ss.length < D.length := by
        have := hp.length_eq
        simp only [List.length_append, List.length_map] at this
        omega
      have hJ3 : J ss (w'.alloc (.cells #[kI p.1.c, kI p.1.e, kI p.1.n] 23)) := HJ.out ss w' _ none hJ2 (World.grownBy_alloc w' _ none) (fun r e => by cases e)
      have hb3 : (w'.alloc (.cells #[kI p.1.c, kI p.1.e, kI p.1.n] 23)).heap[b]? = some (.map es clk) := (Below.heap_alloc w' _ b (Array.getElem?_eq_some_iff.1 hb').1).trans hb'
      have hr3 : (w'.alloc (.cells #[kI p.1.c, kI p.1.e, kI p.1.n] 23)).heap[W.heap.size]? = some (.mapIter (some b) clk seen' clk) := (Below.heap_alloc w' _ _ (Array.getElem?_eq_some_iff.1 hr').1).trans hr'
      obtain ⟨fn, tmps, assign, body, hy, hR⟩ := hY ss p.1 _ hJ3 hlen
      have HR := Lib.hid hR
      have HI := Lib.hid hi'
      have HB3 := Lib.hid (And.intro hb3 (And.intro hr3 hp2))
      have HMS : Hid (left'.length < wr.rangeLeft b W.heap.size) := Lib.hid (by rw [hml]; exact hlt)
      clear hi hi' hp hpm hp2 hJs hJ2 hJ3 hb3 hr3 hR hlt hlen hml hgr hbr hrr hb' hr'
      gi_wp2_with fail
      refine HR.out.mono ?_
      rintro e W3 (⟨rfl, hJ3, hk3⟩ | ⟨rfl, hJx3⟩)
      · have FIN := Lib.hid hJ3
        have HK := Lib.hid hk3
        clear hJ3 hk3
        gi_wp2_with fail
        have k1 := HK.out.same _ _ HB3.out.1 rfl
        have k2 := HK.out.same _ _ HB3.out.2.1 rfl
        go_roundw
        case rel => exact ⟨_, _, left', ss ++ [p.1], HI.out, k1, k2, HB3.out.2.2, FIN.out⟩
        case measure =>
          refine Nat.lt_of_le_of_lt (Nat.le_of_eq ?_) HMS.out
          have e := congrArg List.length HI.out.reads
          simp only [List.length_map, Array.length_toList] at e
          unfold World.rangeLeft
          rw [k1, k2]
          exact e
      · have FIN := Lib.hid hJx3
        clear hJx3
        gi_wp2_with fail
        refine bodyPost_ret (results_none rfl _ _ _) rfl ?_
        exact ⟨⟨_, rfl⟩, .inr ⟨_, trivial, FIN.out⟩⟩
end Go.Proofs.Ytceegnfjdgjomaa
