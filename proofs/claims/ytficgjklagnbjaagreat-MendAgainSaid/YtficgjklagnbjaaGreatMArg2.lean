/- An array of two integers that comes in by value. Conditions: none. -/
import Derived.Test.YtficgjklagnbjaaGreatFo27
import Derived.OpenShut
namespace Go.Proofs.YtficgjklagnbjaaGreat
open Go Go.ChangeShapes Go.WideShapes Go.RowKit Go.Joins
section
variable {H : Type} {enc : TypeId × Value → H} {P : Program} {w : World} {base : Nat} {spare : Nat → Bool} {held : Bool}
theorem open_arr2 {r : Reach} {b0 : Nat} {t e : TypeId} {v : Value} {d : DataW H} {p : List MemPlace} (ht : P.underlying t = some (.array 2 e)) (he : P.underlying e = some (.int .i64)) (hC : P.cellsOf t = 2) (hCe : P.cellsOf e = 1)
    (hv : Value.okWide P w r b0 t v) (h : DataW.Trod enc P w base spare held t v d p) :
    ∃ x0 x1 : Int, v = .agg #[.int .i64 x0, .int .i64 x1] ∧ ∀ y ∈ [x0, x1], -9223372036854775808 ≤ y ∧ y ≤ 9223372036854775807 := by
  obtain ⟨cs, rfl, hsz⟩ : ∃ cs, v = .agg cs ∧ cs.size = 2 := by
    simp only [Value.okWide, ht] at hv
    obtain ⟨cs, h1, h2, _⟩ := hv
    exact ⟨cs, h1, by rw [h2, hC]⟩
  obtain ⟨c0, c1, rfl⟩ := array2 hsz
  obtain ⟨fuel, hf⟩ := h
  obtain ⟨xs, m, _, _, _, hl, hi⟩ := DataW.trod_array ht hf
  have h0 := hi 0 (by omega)
  have h1 := hi 1 (by omega)
  rw [hCe] at h0 h1
  obtain ⟨y0, g0⟩ : ∃ y, xs[0]? = some y := ⟨_, List.getElem?_eq_getElem (by omega)⟩
  obtain ⟨y1, g1⟩ : ∃ y, xs[1]? = some y := ⟨_, List.getElem?_eq_getElem (by omega)⟩
  rw [g0] at h0
  rw [g1] at h1
  have h0 : DataW.trod enc P w base spare held m e [c0] = some y0 := by simpa [Value.cells] using h0
  have h1 : DataW.trod enc P w base spare held m e [c1] = some y1 := by simpa [Value.cells] using h1
  obtain ⟨k0, q0, _, w0⟩ := DataW.trod_int he h0
  obtain ⟨k1, q1, _, w1⟩ := DataW.trod_int he h1
  simp only [List.cons.injEq, and_true] at q0 q1
  subst q0 q1
  refine ⟨k0, k1, rfl, fun y hy => ?_⟩
  simp only [List.mem_cons, List.not_mem_nil, or_false] at hy
  rcases hy with rfl | rfl
  · exact wf_bounds w0
  · exact wf_bounds w1
end
end Go.Proofs.YtficgjklagnbjaaGreat
