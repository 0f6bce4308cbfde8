/- How the law's rows lie in memory: a slice of structs of plain values (printed by openrows.py). Conditions: none. -/
import Derived.Test.YthgfbnopbfiifaaArgs
import Derived.Test.YthgfbnopbfiifaaProg
namespace Go.Proofs.Ythgfbnopbfiifaa
open Go Go.ChangeShapes Go.WideShapes Go.Deep Go.RowKit

def boolOfActs14 : Value → Bool
  | .bool s => s
  | _ => false
def Acts14 (W : World) (p : Option Addr) (len : Nat) (V0 : Nat → Int) (V1 : Nat → Int) (V2 : Nat → Int) (V3 : Nat → Bool) : Prop :=
  len ≤ 9223372036854775807 ∧ ∀ i, i < len → ∃ b off, p = some ⟨b, off, none⟩ ∧ b < W.heap.size ∧
    (W.cell? ⟨b, off + i * 4, none⟩ = some (.int .i64 (V0 i)) ∧ -9223372036854775808 ≤ V0 i ∧ V0 i ≤ 9223372036854775807) ∧ (W.cell? ⟨b, off + i * 4 + 1, none⟩ = some (.int .i64 (V1 i)) ∧ -9223372036854775808 ≤ V1 i ∧ V1 i ≤ 9223372036854775807) ∧ (W.cell? ⟨b, off + i * 4 + 2, none⟩ = some (.int .i64 (V2 i)) ∧ -9223372036854775808 ≤ V2 i ∧ V2 i ≤ 9223372036854775807) ∧ (W.cell? ⟨b, off + i * 4 + 3, none⟩ = some (.bool (V3 i)))
section
variable {H : Type} {enc : TypeId × Value → H} {w : World} {base : Nat} {spare : Nat → Bool} {held : Bool}
theorem open_acts14 {p : Option Addr} {len cap : Nat} {d : DataW H} {pl : List MemPlace} (h : DataW.Trod enc Try.prog w base spare held 22 (.slice p len cap) d pl) :
    ∃ V0 V1 V2 V3, Acts14 w p len V0 V1 V2 V3 := by
  obtain ⟨hr, hf⟩ := open_rows (P := Try.prog) Try.underlying22 Try.underlying27 (by kernel_rfl) (by kernel_rfl) (by decide) h
  refine ⟨fun i => intOf' (rowVal w p 4 i 0), fun i => intOf' (rowVal w p 4 i 1), fun i => intOf' (rowVal w p 4 i 2), fun i => boolOfActs14 (rowVal w p 4 i 3), hr.1, fun i hi => ?_⟩
  obtain ⟨b, off, rfl, hb, hc⟩ := hr.2 i hi
  obtain ⟨y0, n0, h0⟩ := hf i 0 _ hi rfl
  obtain ⟨y1, n1, h1⟩ := hf i 1 _ hi rfl
  obtain ⟨y2, n2, h2⟩ := hf i 2 _ hi rfl
  obtain ⟨y3, n3, h3⟩ := hf i 3 _ hi rfl
  obtain ⟨k0, e0, _, g0⟩ := DataW.trod_int Try.underlying3 h0
  obtain ⟨k1, e1, _, g1⟩ := DataW.trod_int Try.underlying3 h1
  obtain ⟨k2, e2, _, g2⟩ := DataW.trod_int Try.underlying3 h2
  obtain ⟨k3, e3, _⟩ := DataW.trod_bool Try.underlying4 h3
  simp only [List.cons.injEq, and_true] at e0 e1 e2 e3
  have c0 : w.cell? ⟨b, off + i * 4 + 0, none⟩ = some (rowVal w (some ⟨b, off, none⟩) 4 i 0) := hc 0 (by decide)
  have c1 : w.cell? ⟨b, off + i * 4 + 1, none⟩ = some (rowVal w (some ⟨b, off, none⟩) 4 i 1) := hc 1 (by decide)
  have c2 : w.cell? ⟨b, off + i * 4 + 2, none⟩ = some (rowVal w (some ⟨b, off, none⟩) 4 i 2) := hc 2 (by decide)
  have c3 : w.cell? ⟨b, off + i * 4 + 3, none⟩ = some (rowVal w (some ⟨b, off, none⟩) 4 i 3) := hc 3 (by decide)
  have e0' : rowVal w (some ⟨b, off, none⟩) 4 i 0 = .int .i64 (k0) := e0
  rw [e0'] at c0
  have e1' : rowVal w (some ⟨b, off, none⟩) 4 i 1 = .int .i64 (k1) := e1
  rw [e1'] at c1
  have e2' : rowVal w (some ⟨b, off, none⟩) 4 i 2 = .int .i64 (k2) := e2
  rw [e2'] at c2
  have e3' : rowVal w (some ⟨b, off, none⟩) 4 i 3 = .bool (k3) := e3
  rw [e3'] at c3
  refine ⟨b, off, rfl, hb, ?_, ?_, ?_, ?_⟩
  · show _ = some (Value.int .i64 (intOf' (rowVal w (some ⟨b, off, none⟩) 4 i 0))) ∧ _ ≤ intOf' (rowVal w (some ⟨b, off, none⟩) 4 i 0) ∧ intOf' (rowVal w (some ⟨b, off, none⟩) 4 i 0) ≤ _
    rw [e0']
    exact ⟨c0, (wf_bounds g0).1, (wf_bounds g0).2⟩
  · show _ = some (Value.int .i64 (intOf' (rowVal w (some ⟨b, off, none⟩) 4 i 1))) ∧ _ ≤ intOf' (rowVal w (some ⟨b, off, none⟩) 4 i 1) ∧ intOf' (rowVal w (some ⟨b, off, none⟩) 4 i 1) ≤ _
    rw [e1']
    exact ⟨c1, (wf_bounds g1).1, (wf_bounds g1).2⟩
  · show _ = some (Value.int .i64 (intOf' (rowVal w (some ⟨b, off, none⟩) 4 i 2))) ∧ _ ≤ intOf' (rowVal w (some ⟨b, off, none⟩) 4 i 2) ∧ intOf' (rowVal w (some ⟨b, off, none⟩) 4 i 2) ≤ _
    rw [e2']
    exact ⟨c2, (wf_bounds g2).1, (wf_bounds g2).2⟩
  · show _ = some (Value.bool (boolOfActs14 (rowVal w (some ⟨b, off, none⟩) 4 i 3)))
    rw [e3']
    exact c3
end
end Go.Proofs.Ythgfbnopbfiifaa
