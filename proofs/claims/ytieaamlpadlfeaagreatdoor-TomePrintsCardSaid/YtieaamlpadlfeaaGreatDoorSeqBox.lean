/- A range over an iterator that keeps what is left in a variable of its own: the law for it. Conditions: none. -/
import Derived.RangeFuncNested
import Derived.RangeFuncBound
import Derived.RangeFuncCalls
import Derived.RangeFuncLeaves
import Derived.RangeFuncBox
import Derived.Shelf.Abstract
import Derived.Shelf.RegionOpen
import Derived.WalkKit
import Derived.OwnWalkIn
import Derived.TacticsInMore
import Derived.LoopNIn
import Derived.LoopIn
namespace Go.Proofs.YtieaamlpadlfeaaGreatDoor
open Go Go.MapKept Go.RowKit Go.Proofs

/-- An iterator gives just the elements ys, each once and in order, to one that takes them all; block B is a variable of its own that it writes. -/
def SeqBox {α : Type} (F : Fence) (n : Nat) (P : Program) (g : Nat) (lb : Array Value) (encs : α → Array Value) (Kp : World → World → Prop) (ys : List α) (B : Nat) (w : World) : Prop :=
  ∀ (l : Nat) (J : List α → World → Prop) (W : World), Below w.heap.size w W → AbidesFrom W.heap.size J →
    (∀ pre A v, J pre A → J pre (A.setCell ⟨B, 0, none⟩ v)) →
    (∀ pre x A, J pre A → pre ++ [x] <+: ys → YieldAt F (n - 1) P l (encs x) A fun e A' => e = .returned (.bool true) ∧ J (pre ++ [x]) A' ∧ Kp A A') →
    J [] W → CallsIn F n P g (#[.func (.yield l) #[] #[]] ++ lb) W fun e W' => (∃ v, e = .returned v) ∧ J ys W'
/-- A round ends by going on. -/
def boxPost {α : Type} (B : Nat) (Kp : World → World → Prop) (I : List α → World → Prop) (s : List α) (W : World) : Exit → Act → World → Prop
  | .normal, _, W' => KeepsFrom B W W' ∧ Kp W W' ∧ I s W'
  | _, _, _ => False
theorem other_setCell (W : World) (B k : Nat) (v : Value) (h : k ≠ B) : (W.setCell ⟨B, 0, none⟩ v).heap[k]? = W.heap[k]? := Below.heap_setCell _ _ _ k h
theorem wp_range_box {α : Type} {F : Fence} {n : Nat} {P : Program} {g : Operand} {ps : Array Tmp} {assign body : Code} {Q : Exit → Act → World → Prop} {a : Act} {w w0 : World} {gf : Nat} {lb : Array Value} {encs : α → Array Value} {Kp : World → World → Prop} {ys : List α} {B : Nat}
    (hro : F.round = none) (hFg : F.fn gf) (hn : 1 ≤ n) (hg : a.eval g = .func (.func gf) #[] lb) (eg : ∀ args w, (callFunc gf args).run P w = .ok (.enter gf args) w) (hseq : SeqBox F (n - 1) P gf lb encs Kp ys B w0)
    (tr : ∀ {X Y Z : World}, Kp X Y → Kp Y Z → Kp X Z) (put : ∀ (W : World) (l : Nat) (o o' : Obj), w.heap.size ≤ l → W.heap[l]? = some o → Kp W (W.putObj l o')) (hb : Below w0.heap.size w0 w) (hB : B < w.heap.size) (hps : ∀ x, (encs x).size = ps.size)
    (I : List α → World → Prop) (own : OwnFrom w.heap.size I) (box : ∀ pre A v, I pre A → I pre (A.setCell ⟨B, 0, none⟩ v)) (h0 : I [] w) (act : α → Act)
    (hassign : ∀ (l : Nat) (x : α) (W : World) (K : Act → World → Prop), K (act x) W → assign.wpIn (F.inRound l) (n - 1 - 1) P (Exit.then K (fun _ _ _ => False)) { tmps := (ps.zip (encs x)).foldl (fun t (p, v) => t.setIfInBounds p v) a.tmps, defers := [] } W)
    (hbody : ∀ (l : Nat) (pre : List α) (x : α) (W : World), I pre W → pre ++ [x] <+: ys → body.wpIn (F.inRound l) (n - 1 - 1) P (boxPost w.heap.size Kp I (pre ++ [x]) W) (act x) W)
    (hdone : ∀ (D : Nat) (W : World), w.heap.size ≤ D → I ys W → W.heap[D]? = some (.deferred (some [])) → Q .normal { a with defers := { target := .collected D, args := #[] } :: a.defers } W) :
    (Code.rangeFunc g ps assign body).wpIn F n P Q a w := by
  refine wpIn_rangeFunc ?_
  intro fn hfn
  rw [hro]
  obtain ⟨D, hD⟩ : ∃ D, w.heap.size = D := ⟨_, rfl⟩
  obtain ⟨R, hR⟩ : ∃ R : LoopState → Loop, R = fun st => { state := st, pending := none, fn, tmps := a.tmps, params := ps, assign, body, defers := D } := ⟨_, rfl⟩
  have hent := run_enterLoop_outer (P := P) (w := w) fn a.tmps ps assign body
  obtain ⟨V, hV⟩ : ∃ V, (w.alloc (.deferred (some []))).alloc (.loop (R .ready)) = V := ⟨_, rfl⟩
  have hVs : V.heap.size = D + 2 := by rw [← hV, World.size_alloc, World.size_alloc, hD]
  have hVl : V.heap[D + 1]? = some (.loop (R .ready)) := by
    have h := World.alloc_heap_new (w.alloc (.deferred (some []))) (.loop (R .ready))
    rw [World.size_alloc, hD, hV] at h
    exact h
  have hVd : V.heap[D]? = some (.deferred (some [])) := by
    have h := World.alloc_heap_new w (.deferred (some []))
    rw [hD] at h
    rw [← hV]
    exact (Below.heap_alloc _ _ _ (by rw [World.size_alloc]; omega)).trans h
  have hVI : I [] V := by rw [← hV]; exact own.alloc _ (own.alloc _ h0)
  have hVb : Below w0.heap.size w0 V := by
    have h1 := (Below.refl w.heap.size w).alloc (Nat.le_refl _) (.deferred (some []))
    have h2 := h1.alloc (by rw [World.size_alloc]; omega) (.loop (R .ready))
    rw [hV] at h2
    exact hb.trans (h2.mono hb.size)
  rw [hD] at own put hbody hdone hB
  obtain ⟨J, hJ⟩ : ∃ J : List α → World → Prop, J = fun pre W => I pre W ∧ W.heap[D + 1]? = some (.loop (R .ready)) ∧ W.heap[D]? = some (.deferred (some [])) := ⟨_, rfl⟩
  have hcalls := hseq (D + 1) J V hVb
    (by
      subst hJ
      rintro s X Y row ⟨c1, c2, c3⟩ hgr hrow
      have hnc : ∀ r, row = some r → ∃ o : Obj, X.heap[r]? = some o ∧ o.isCells = false := fun r e => (hrow r e).2.imp fun o ho => ⟨ho.1, Obj.not_cells_of_walk ho.2⟩
      exact ⟨own s X Y row c1 hgr (fun r e => ⟨by have := (hrow r e).1; omega, hnc r e⟩), (grownBy_keeps hgr (fun r e => (hrow r e).2) c2 rfl).trans c2, (grownBy_keeps hgr (fun r e => (hrow r e).2) c3 rfl).trans c3⟩)
    (by
      subst hJ
      rintro pre X v ⟨c1, c2, c3⟩
      exact ⟨box pre X v c1, (other_setCell X B (D + 1) v (by omega)).trans c2, (other_setCell X B D v (by omega)).trans c3⟩)
    (by
      subst hJ
      rintro pre x X ⟨c1, c2, c3⟩ hpre
      have hsz := (Array.getElem?_eq_some_iff.1 c2).1
      have hy := run_yield (P := P) (args := encs x) c2 (by rw [hR]; exact hps x)
      rw [hR] at hy
      refine ⟨fn, _, assign, body, hy, roundIn_of_wpIn hfn (hassign _ x X _ ⟨_, run_beginRound c2 (by rw [hR]), ?_⟩)⟩
      obtain ⟨Y, hY⟩ : ∃ Y, X.putObj (D + 1) (.loop { R .ready with state := .busy }) = Y := ⟨_, rfl⟩
      have y1 : Y.heap[D + 1]? = some (.loop { R .ready with state := .busy }) := by rw [← hY]; exact World.putObj_heap_same hsz
      have y2 : Y.heap[D]? = some (.deferred (some [])) := by rw [← hY]; exact (World.putObj_heap_other (by omega)).trans c3
      have y3 : I pre Y := by rw [← hY]; exact own.putObj _ c1 (by omega) c2 rfl
      have y4 : Kp X Y := by rw [← hY]; exact put _ _ _ _ (by omega) c2
      rw [hY]
      refine wpIn_mono (hbody _ pre x _ y3 hpre) ?_
      rintro e a9 Z hz
      cases e with
      | normal =>
        obtain ⟨k1, k2, k3⟩ := hz
        have z1 := k1.same _ _ (by omega) y1 rfl
        have z2 := k1.same _ _ (Nat.le_refl _) y2 rfl
        have hend := run_endRound (P := P) none z1
        have hrdy : ({ R .ready with state := .busy } : Loop) = R .busy := by rw [hR]
        rw [hrdy] at z1
        refine ⟨_, _, hend, rfl, ⟨own.putObj _ k3 (by omega) z1 rfl, ?_, (World.putObj_heap_other (by omega)).trans z2⟩, tr (tr y4 k2) (put _ _ _ _ (by omega) z1)⟩
        rw [World.putObj_heap_same (Array.getElem?_eq_some_iff.1 z1).1, hR]
        rfl
      | ret => exact hz.elim
      | exit id => exact hz.elim
      | goto t => exact hz.elim
      | panic ch => exact hz.elim
      | outgrown => exact hz.elim)
    (by subst hJ; exact ⟨hVI, hVl, hVd⟩)
  refine ⟨D + 1, [{ target := .collected D, args := #[] }], V, { target := .fn (.func gf) lb, args := #[.func (.yield (D + 1)) #[] #[]] }, V, gf, #[.func (.yield (D + 1)) #[] #[]] ++ lb, V, ?_, ?_, ?_, ?_, fun _ => hn, ?_⟩
  · rw [← hV, hR]
    rw [hD] at hent
    exact hent
  · simp only [resolve, hg]
    simp [go_sem]
  · intro f' hf'
    simp [Target.leads] at hf'
    subst hf'
    exact hFg
  · simp [invoke, go_sem, eg]
  · refine hcalls.mono ?_
    subst hJ
    rintro e W2 ⟨⟨v, rfl⟩, c1, c2, c3⟩
    have hend := run_endLoop (P := P) c2 (by rw [hR]; simp)
    rw [hR] at hend
    exact ⟨none, _, hend, hdone D _ (Nat.le_refl _) (own.putObj _ c1 (by omega) c2 rfl) ((World.putObj_heap_other (by omega)).trans c3)⟩
end Go.Proofs.YtieaamlpadlfeaaGreatDoor
