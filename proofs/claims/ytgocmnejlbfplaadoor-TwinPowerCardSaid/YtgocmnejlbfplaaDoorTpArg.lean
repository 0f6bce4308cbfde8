/- Groups and two rows of whole numbers that come in. Conditions: none. -/
import Derived.Test.YtgocmnejlbfplaaDoorTq2
import Derived.Test.YtgocmnejlbfplaaDoorTwArg
namespace Go.Proofs.YtgocmnejlbfplaaDoor
open Go Go.MapKept Go.ChangeShapes Go.WideShapes Go.Deep Go.RowKit Go.Joins
section
variable {H : Type} {enc : TypeId × Value → H} {w : World} {base : Nat} {spare : Nat → Bool} {held : Bool}
set_option maxRecDepth 100000 in
theorem open_ints1 {fuel : Nat} {c : Value} {x : DataW H × List MemPlace} (hf : DataW.trod enc Tryd.prog w base spare held fuel 30 [c] = some x) : ∃ p len cap A, c = .slice p len cap ∧ IsAt (allOf w) p len A ∧ (len : Int) ≤ 9223372036854775807 := by
  obtain ⟨p, len, cap, e, hl, hc⟩ := open_elems (k := 1) Tryd.underlying30 (by kernel_rfl) (by decide) hf
  simp only [List.cons.injEq, and_true] at e
  subst e
  refine ⟨p, len, cap, fun i => intOfV (cellV w p i), rfl, fun i hi => ?_, by omega⟩
  obtain ⟨b, off, us, n, y, rfl, hb, hlen, hu, ht⟩ := hc i hi
  obtain ⟨u0, rfl⟩ : ∃ u0, us = [u0] := by
    match us, hlen with
    | [a], _ => exact ⟨a, rfl⟩
  obtain ⟨k0, e0, _, wf0⟩ := DataW.trod_int Tryd.underlying3 ht
  simp only [List.cons.injEq, and_true] at e0
  subst e0
  have g0 := hu 0 _ rfl
  simp only [Nat.mul_one, Nat.add_zero] at g0
  have v0 : intOfV (cellV w (some ⟨b, off, none⟩) i) = k0 := by
    simp only [cellV]
    rw [g0]
    rfl
  refine ⟨b, off, rfl, ?_, fun w' hw => ?_⟩
  · show -9223372036854775808 ≤ intOfV (cellV w (some ⟨b, off, none⟩) i) ∧ intOfV (cellV w (some ⟨b, off, none⟩) i) ≤ 9223372036854775807
    rw [v0]
    exact wf_bounds wf0
  · show _ = some (kI (intOfV (cellV w (some ⟨b, off, none⟩) i)))
    rw [v0, hw.cellOld (a := ⟨b, off + i, none⟩) hb]
    exact g0
set_option maxRecDepth 100000 in
theorem open_groups {p : Option Addr} {len cap : Nat} {d : DataW H} {pl : List MemPlace} (h : DataW.Trod enc Tryd.prog w base spare held 47 (.slice p len cap) d pl) : GrAt (allOf w) p len ∧ len ≤ 9223372036854775807 := by
  obtain ⟨fuel, hf⟩ := h
  obtain ⟨p', len', cap', e, hl, hc⟩ := open_elems (k := 2) Tryd.underlying47 (by kernel_rfl) (by decide) hf
  simp only [Value.cells, List.cons.injEq, and_true, Value.slice.injEq] at e
  obtain ⟨rfl, rfl, rfl⟩ := e
  refine ⟨fun i hi => ?_, hl⟩
  obtain ⟨b, off, us, n, y, rfl, hb, hlen, hu, ht⟩ := hc i hi
  obtain ⟨y0, y1, m, _, _, f0, f1⟩ := trod_struct2 Tryd.underlying54 ht
  obtain ⟨u0, u1, rfl⟩ : ∃ u0 u1, us = [u0, u1] := by
    match us, hlen with
    | [a, b], _ => exact ⟨a, b, rfl⟩
  have c0 : Tryd.prog.cellsOf 30 = 1 := by kernel_rfl
  have c1 : Tryd.prog.cellsOf 5 = 1 := by kernel_rfl
  simp only [c0, c1, List.drop_zero, List.take_succ_cons, List.take_zero, List.drop_succ_cons] at f0 f1
  obtain ⟨q, l, c, A, rfl, hI, hle⟩ := open_ints1 f0
  obtain ⟨k1, e1, _, wf1⟩ := DataW.trod_int Tryd.underlying5 f1
  simp only [List.cons.injEq, and_true] at e1
  subst e1
  have hk : 0 ≤ k1 ∧ k1 ≤ 255 := by
    simp [Lit.wf, IntKind.min, IntKind.max, IntKind.signed, IntKind.bits] at wf1
    omega
  have hkc : ((UInt8.ofNat k1.toNat).toNat : Int) = k1 := by
    simp only [UInt8.toNat_ofNat']
    omega
  have g0 := hu 0 _ rfl
  have g1 := hu 1 _ rfl
  refine ⟨b, off, q, l, c, A, UInt8.ofNat k1.toNat, rfl, hI, hle, fun w' hw => ⟨?_, ?_⟩⟩
  · rw [hw.cellOld (a := ⟨b, off + i * 2, none⟩) hb]
    exact g0
  · rw [hkc, hw.cellOld (a := ⟨b, off + i * 2 + 1, none⟩) hb]
    exact g1
set_option maxRecDepth 100000 in
theorem open_two {r : Reach} {b0 : Nat} {v : Value} {d : DataW H} {pl : List MemPlace} (hv : Value.okWide Tryd.prog w r b0 48 v) (h : DataW.Trod enc Tryd.prog w base spare held 48 v d pl) :
    ∃ p0 l0 c0 A0 p1 l1 c1 A1, v = .agg #[.slice p0 l0 c0, .slice p1 l1 c1] ∧ IsAt (allOf w) p0 l0 A0 ∧ (l0 : Int) ≤ 9223372036854775807 ∧ IsAt (allOf w) p1 l1 A1 ∧ (l1 : Int) ≤ 9223372036854775807 := by
  have ht := Tryd.underlying48
  have hC : Tryd.prog.cellsOf 48 = 2 := by kernel_rfl
  have hCe : Tryd.prog.cellsOf 30 = 1 := by kernel_rfl
  obtain ⟨cs, rfl, hsz⟩ : ∃ cs, v = .agg cs ∧ cs.size = 2 := by
    simp only [Value.okWide, ht] at hv
    obtain ⟨cs, h1, h2, _⟩ := hv
    exact ⟨cs, h1, by rw [h2, hC]⟩
  obtain ⟨c0, c1, rfl⟩ := array2 hsz
  obtain ⟨fuel, hf⟩ := h
  obtain ⟨xs, m, _, _, _, hl, hi⟩ := DataW.trod_array ht hf
  have h0 := hi 0 (by omega)
  have h1 := hi 1 (by omega)
  rw [hCe] at h0 h1
  obtain ⟨y0, g0⟩ : ∃ y, xs[0]? = some y := ⟨_, List.getElem?_eq_getElem (by omega)⟩
  obtain ⟨y1, g1⟩ : ∃ y, xs[1]? = some y := ⟨_, List.getElem?_eq_getElem (by omega)⟩
  rw [g0] at h0
  rw [g1] at h1
  have h0 : DataW.trod enc Tryd.prog w base spare held m 30 [c0] = some y0 := by simpa [Value.cells] using h0
  have h1 : DataW.trod enc Tryd.prog w base spare held m 30 [c1] = some y1 := by simpa [Value.cells] using h1
  obtain ⟨p0, l0, k0, A0, rfl, i0, b0⟩ := open_ints1 h0
  obtain ⟨p1, l1, k1, A1, rfl, i1, b1⟩ := open_ints1 h1
  exact ⟨p0, l0, k0, A0, p1, l1, k1, A1, rfl, i0, b0, i1, b1⟩
end
end Go.Proofs.YtgocmnejlbfplaaDoor
