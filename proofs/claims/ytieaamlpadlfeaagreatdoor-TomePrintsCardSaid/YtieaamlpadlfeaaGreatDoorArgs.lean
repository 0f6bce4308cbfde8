/- How the arguments of a law lie in memory: slices of structs of integers, and the lift from a walk to the given row. -/
import Derived.Test.YtieaamlpadlfeaaGreatDoorBase
import Derived.Deep.Slices
import Derived.Deep.Fields
import Derived.ChangeSame
import Derived.ProofKit
import Derived.OpenShut
import Derived.ShutString
import Derived.ChangeOld
import Derived.Lib.SmallJoins
namespace Go.Proofs.YtieaamlpadlfeaaGreatDoor
open Go Go.ChangeShapes Go.WideShapes Go.Deep Go.RowKit

/-- A slice of structs that came in: element i's field j lies in the cell at i * fields + j and is V i j. -/
def RowsAt (W : World) (p : Option Addr) (len fields : Nat) (V : Nat → Nat → Value) : Prop :=
  len ≤ 9223372036854775807 ∧ ∀ i, i < len → ∃ b off, p = some ⟨b, off, none⟩ ∧ b < W.heap.size ∧ ∀ j, j < fields → W.cell? ⟨b, off + i * fields + j, none⟩ = some (V i j)
/-- What such a cell holds. -/
def rowVal (W : World) (p : Option Addr) (fields i j : Nat) : Value :=
  match p with
  | some a => (W.cell? ⟨a.block, a.off + i * fields + j, none⟩).getD undef
  | none => undef
/-- A slice of structs of integers that came in: its length, and element i's field j. -/
def IntsAt (W : World) (p : Option Addr) (len fields : Nat) (A : Nat → Nat → Int) : Prop :=
  len ≤ 9223372036854775807 ∧ ∀ i, i < len → ∃ b off, p = some ⟨b, off, none⟩ ∧ b < W.heap.size ∧
    ∀ j, j < fields → W.cell? ⟨b, off + i * fields + j, none⟩ = some (.int .i64 (A i j)) ∧ -9223372036854775808 ≤ A i j ∧ A i j ≤ 9223372036854775807
def intOf' : Value → Int
  | .int _ k => k
  | _ => 0

theorem wf_bounds {k : Int} (h : (Lit.int .i64 k).wf = true) : -9223372036854775808 ≤ k ∧ k ≤ 9223372036854775807 := by
  simp [Lit.wf, IntKind.min, IntKind.max, IntKind.signed, IntKind.bits] at h
  omega
section
variable {H : Type} {enc : TypeId × Value → H} {P : Program} {w : World} {base : Nat} {spare : Nat → Bool} {held : Bool}
theorem open_rows {t e : TypeId} {fs : Array Field} {p : Option Addr} {len cap : Nat} {d : DataW H} {pl : List MemPlace} (ht : P.underlying t = some (.slice e)) (he : P.underlying e = some (.struct fs))
    (hone : oneCellFields P fs = true) (hC : P.cellsOf e = fs.size) (h0 : 0 < fs.size) (h : DataW.Trod enc P w base spare held t (.slice p len cap) d pl) :
    RowsAt w p len fs.size (rowVal w p fs.size) ∧
      ∀ (i j : Nat) (f : Field), i < len → fs[j]? = some f → ∃ y n, DataW.trod enc P w base spare held n f.type [rowVal w p fs.size i j] = some y := by
  obtain ⟨fuel, hf⟩ := h
  rcases open_slice ht hf with ⟨hcs, _⟩ | ⟨a, len', cap', m, n, D, Pl, hcs, hb, hl, hm, hmm, hx, hi⟩
  · simp [Value.cells] at hcs
    obtain ⟨rfl, rfl, rfl⟩ := hcs
    exact ⟨⟨by omega, fun i hi => by omega⟩, fun i j f hi => by omega⟩
  · simp [Value.cells] at hcs
    obtain ⟨rfl, rfl, rfl⟩ := hcs
    have hml : len ≤ m := by rw [hmm]; split <;> omega
    have spot0 : 0 < len → a.spot = none := by
      intro h0l
      obtain ⟨cs', hc, ht'⟩ := hi 0 (by omega)
      rw [hC] at hc
      obtain ⟨_, hcl, hat⟩ := World.cells?_some hc
      have hcell := hat 0 h0
      rw [List.getElem?_eq_getElem (by omega)] at hcell
      simpa [Addr.add] using World.cell?_spot hcell
    have key : ∀ (i j : Nat) (f : Field), i < len → fs[j]? = some f → a.spot = none ∧ a.block < w.heap.size ∧ w.cell? ⟨a.block, a.off + i * fs.size + j, none⟩ = some (rowVal w (some a) fs.size i j) ∧
        ∃ y n, DataW.trod enc P w base spare held n f.type [rowVal w (some a) fs.size i j] = some y := by
      intro i j f hil hj
      obtain ⟨cs', hc, ht'⟩ := hi i (Nat.lt_of_lt_of_le hil hml)
      rw [hC] at hc
      obtain ⟨ys, n', hn', hy, hlen, hyl, hg⟩ := DataW.trod_struct he ht'
      obtain ⟨_, hcl, hat⟩ := World.cells?_some hc
      obtain ⟨ho, hk⟩ := hone_of hone j f hj
      have hjl : j < fs.size := (Array.getElem?_eq_some_iff.1 hj).1
      have hcell := hat j hjl
      have hvl : j < cs'.length := by omega
      rw [List.getElem?_eq_getElem hvl] at hcell
      have h1 := hg j f hj
      rw [ho, hk] at h1
      have hdrop : (cs'.drop j).take 1 = [cs'[j]] := by
        rw [List.drop_eq_getElem_cons hvl]; rfl
      rw [hdrop] at h1
      have hys : ys[j]? = some (ys[j]'(by omega)) := List.getElem?_eq_getElem (by omega)
      have hspot : a.spot = none := spot0 (by omega)
      obtain ⟨bl, off, sp⟩ := a
      simp only at hspot
      subst hspot
      have hcell' : w.cell? ⟨bl, off + i * fs.size + j, none⟩ = some cs'[j] := by
        have hadd : ((⟨bl, off, none⟩ : Addr).add (i * fs.size)).add j = ⟨bl, off + i * fs.size + j, none⟩ := by
          rw [add_add]
          unfold Addr.add
          by_cases hz : i * fs.size + j = 0
          · simp only [hz, if_true, Nat.add_assoc, Nat.add_zero]
          · simp only [hz, if_false, Nat.add_assoc]
        rw [hadd] at hcell
        exact hcell
      have hrow : rowVal w (some ⟨bl, off, none⟩) fs.size i j = cs'[j] := by simp [rowVal, hcell']
      refine ⟨rfl, World.block_lt_of_cell? w ⟨bl, off + i * fs.size + j, none⟩ hcell', by rw [hrow]; exact hcell', ?_⟩
      rw [hrow]
      exact ⟨_, _, h1.trans hys⟩
    refine ⟨⟨by unfold maxLen at hm; omega, fun i hil => ?_⟩, fun i j f hil hj => (key i j f hil hj).2.2.2⟩
    have hf0 : fs[0]? = some fs[0] := Array.getElem?_eq_getElem h0
    obtain ⟨hs, hlt, _⟩ := key i 0 _ hil hf0
    obtain ⟨bl, off, sp⟩ := a
    simp only at hs
    subst hs
    exact ⟨bl, off, rfl, hlt, fun j hj => (key i j _ hil (Array.getElem?_eq_getElem hj)).2.2.1⟩

theorem open_intRows {t e ti : TypeId} {fs : Array Field} {p : Option Addr} {len cap : Nat} {d : DataW H} {pl : List MemPlace} (ht : P.underlying t = some (.slice e)) (he : P.underlying e = some (.struct fs))
    (hone : oneCellFields P fs = true) (hC : P.cellsOf e = fs.size) (h0 : 0 < fs.size) (hi : P.underlying ti = some (.int .i64)) (hall : ∀ (j : Nat) (f : Field), fs[j]? = some f → f.type = ti)
    (h : DataW.Trod enc P w base spare held t (.slice p len cap) d pl) :
    IntsAt w p len fs.size (fun i j => intOf' (rowVal w p fs.size i j)) := by
  obtain ⟨hr, hf⟩ := open_rows ht he hone hC h0 h
  refine ⟨hr.1, fun i hil => ?_⟩
  obtain ⟨b, off, rfl, hb, hc⟩ := hr.2 i hil
  refine ⟨b, off, rfl, hb, fun j hj => ?_⟩
  have hj' : fs[j]? = some fs[j] := Array.getElem?_eq_getElem hj
  obtain ⟨y, n, hy⟩ := hf i j _ hil hj'
  rw [hall j _ hj'] at hy
  obtain ⟨k, e1, _, hwf⟩ := DataW.trod_int hi hy
  simp only [List.cons.injEq, and_true] at e1
  have := hc j hj
  show w.cell? ⟨b, off + i * fs.size + j, none⟩ = some (.int .i64 (intOf' (rowVal w (some ⟨b, off, none⟩) fs.size i j))) ∧ -9223372036854775808 ≤ intOf' (rowVal w (some ⟨b, off, none⟩) fs.size i j) ∧ intOf' (rowVal w (some ⟨b, off, none⟩) fs.size i j) ≤ 9223372036854775807
  rw [e1] at this ⊢
  have hw2 : -9223372036854775808 ≤ k ∧ k ≤ 9223372036854775807 := wf_bounds hwf
  exact ⟨this, hw2⟩
/-- A slice of integers that came in. -/
def IntSlice (W : World) (p : Option Addr) (len : Nat) (A : Nat → Int) : Prop :=
  len ≤ 9223372036854775807 ∧ ∀ i, i < len → ∃ b off, p = some ⟨b, off, none⟩ ∧ b < W.heap.size ∧ W.cell? ⟨b, off + i, none⟩ = some (.int .i64 (A i)) ∧ -9223372036854775808 ≤ A i ∧ A i ≤ 9223372036854775807
theorem open_intSlice {t e : TypeId} {p : Option Addr} {len cap : Nat} {d : DataW H} {pl : List MemPlace} (ht : P.underlying t = some (.slice e)) (he : P.underlying e = some (.int .i64)) (hC : P.cellsOf e = 1)
    (h : DataW.Trod enc P w base spare held t (.slice p len cap) d pl) : ∃ A, IntSlice w p len A := by
  obtain ⟨fuel, hf⟩ := h
  rcases ChangeShapes.open_ints ht he hC hf with ⟨hcs, _⟩ | ⟨a, len', cap', zs, hcs, hb, hl, hm, hz, hx, hcell, hwf⟩
  · simp [Value.cells] at hcs
    obtain ⟨rfl, rfl, rfl⟩ := hcs
    exact ⟨fun _ => 0, by omega, fun i hi => by omega⟩
  · simp [Value.cells] at hcs
    obtain ⟨rfl, rfl, rfl⟩ := hcs
    have hlz : len ≤ zs.length := by rw [hz]; split <;> omega
    refine ⟨fun i => zs.getD i 0, by unfold maxLen at hm; omega, fun i hil => ?_⟩
    have spot0 : a.spot = none := by
      have h0 := hcell 0 (by omega)
      simpa [Addr.add] using World.cell?_spot h0
    obtain ⟨bl, off, sp⟩ := a
    simp only at spot0
    subst spot0
    have hc := hcell i (by omega)
    have hadd : (⟨bl, off, none⟩ : Addr).add i = ⟨bl, off + i, none⟩ := by
      unfold Addr.add
      by_cases hz0 : i = 0
      · simp [hz0]
      · simp [hz0]
    rw [hadd] at hc
    have hw := wf_bounds (hwf (zs.getD i 0) (by
      rw [List.getD_eq_getElem?_getD, List.getElem?_eq_getElem (by omega)]
      exact List.getElem_mem _))
    exact ⟨bl, off, rfl, World.block_lt_of_cell? w ⟨bl, off + i, none⟩ hc, hc, hw⟩
/-- A struct of four integers, by value. -/
theorem open_int4 {r : Reach} {b0 : Nat} {t ti : TypeId} {f0 f1 f2 f3 : Field} {v : Value} {d : DataW H} {p : List MemPlace} (hs : P.underlying t = some (.struct #[f0, f1, f2, f3])) (hone : oneCellFields P #[f0, f1, f2, f3] = true) (hC : P.cellsOf t = 4)
    (hi : P.underlying ti = some (.int .i64)) (e0 : f0.type = ti) (e1 : f1.type = ti) (e2 : f2.type = ti) (e3 : f3.type = ti)
    (hv : Value.okWide P w r b0 t v) (h : DataW.Trod enc P w base spare held t v d p) :
    ∃ x0 x1 x2 x3 : Int, v = .agg #[.int .i64 x0, .int .i64 x1, .int .i64 x2, .int .i64 x3] ∧ ∀ y ∈ [x0, x1, x2, x3], -9223372036854775808 ≤ y ∧ y ≤ 9223372036854775807 := by
  obtain ⟨v0, v1, v2, v3, y0, y1, y2, y3, n, rfl, _, _, g0, g1, g2, g3⟩ := Joins.open_agg4 hs hone hC hv h
  rw [e0] at g0; rw [e1] at g1; rw [e2] at g2; rw [e3] at g3
  obtain ⟨k0, q0, _, w0⟩ := DataW.trod_int hi g0
  obtain ⟨k1, q1, _, w1⟩ := DataW.trod_int hi g1
  obtain ⟨k2, q2, _, w2⟩ := DataW.trod_int hi g2
  obtain ⟨k3, q3, _, w3⟩ := DataW.trod_int hi g3
  simp only [List.cons.injEq, and_true] at q0 q1 q2 q3
  subst q0 q1 q2 q3
  refine ⟨k0, k1, k2, k3, rfl, fun y hy => ?_⟩
  simp only [List.mem_cons, List.not_mem_nil, or_false] at hy
  rcases hy with rfl | rfl | rfl | rfl
  · exact wf_bounds w0
  · exact wf_bounds w1
  · exact wf_bounds w2
  · exact wf_bounds w3
end
end Go.Proofs.YtieaamlpadlfeaaGreatDoor
