/- How layer 9's acts lie in memory: a slice of structs of two integers and a string. -/
import Derived.Test.YtbjomkbiljpjmaaArgs
import Derived.Test.YtbjomkbiljpjmaaProg
namespace Go.Proofs.Ytbjomkbiljpjmaa
open Go Go.ChangeShapes Go.WideShapes Go.Deep Go.RowKit

def strOf' : Value → ByteArray
  | .string s => s
  | _ => ⟨#[]⟩
/-- Element i: its kind, its key, its text. -/
def Acts9 (W : World) (p : Option Addr) (len : Nat) (K1 K2 : Nat → Int) (S : Nat → ByteArray) : Prop :=
  len ≤ 9223372036854775807 ∧ ∀ i, i < len → ∃ b off, p = some ⟨b, off, none⟩ ∧ b < W.heap.size ∧
    W.cell? ⟨b, off + i * 3, none⟩ = some (.int .i64 (K1 i)) ∧ W.cell? ⟨b, off + i * 3 + 1, none⟩ = some (.int .i64 (K2 i)) ∧ W.cell? ⟨b, off + i * 3 + 2, none⟩ = some (.string (S i))
section
variable {H : Type} {enc : TypeId × Value → H} {w : World} {base : Nat} {spare : Nat → Bool} {held : Bool}
theorem open_acts9 {p : Option Addr} {len cap : Nat} {d : DataW H} {pl : List MemPlace} (h : DataW.Trod enc Try.prog w base spare held 47 (.slice p len cap) d pl) :
    ∃ K1 K2 S, Acts9 w p len K1 K2 S := by
  obtain ⟨hr, hf⟩ := open_rows (P := Try.prog) Try.underlying47 Try.underlying53 (by kernel_rfl) (by kernel_rfl) (by decide) h
  refine ⟨fun i => intOf' (rowVal w p 3 i 0), fun i => intOf' (rowVal w p 3 i 1), fun i => strOf' (rowVal w p 3 i 2), hr.1, fun i hi => ?_⟩
  obtain ⟨b, off, rfl, hb, hc⟩ := hr.2 i hi
  obtain ⟨y0, n0, h0⟩ := hf i 0 _ hi rfl
  obtain ⟨y1, n1, h1⟩ := hf i 1 _ hi rfl
  obtain ⟨y2, n2, h2⟩ := hf i 2 _ hi rfl
  obtain ⟨k0, e0, _, _⟩ := DataW.trod_int Try.underlying3 h0
  obtain ⟨k1, e1, _, _⟩ := DataW.trod_int Try.underlying3 h1
  obtain ⟨s2, e2, _, _⟩ := DataW.trod_string Try.underlying9 h2
  simp only [List.cons.injEq, and_true] at e0 e1 e2
  have c0 := hc 0 (by decide)
  have c1 := hc 1 (by decide)
  have c2 := hc 2 (by decide)
  refine ⟨b, off, rfl, hb, ?_, ?_, ?_⟩
  · rw [show off + i * 3 = off + i * 3 + 0 from rfl]
    refine c0.trans ?_
    show some (rowVal w (some ⟨b, off, none⟩) 3 i 0) = some (.int .i64 (intOf' (rowVal w (some ⟨b, off, none⟩) 3 i 0)))
    have e0' : rowVal w (some ⟨b, off, none⟩) 3 i 0 = .int .i64 k0 := e0
    rw [e0']; rfl
  · refine c1.trans ?_
    show some (rowVal w (some ⟨b, off, none⟩) 3 i 1) = some (.int .i64 (intOf' (rowVal w (some ⟨b, off, none⟩) 3 i 1)))
    have e1' : rowVal w (some ⟨b, off, none⟩) 3 i 1 = .int .i64 k1 := e1
    rw [e1']; rfl
  · refine c2.trans ?_
    show some (rowVal w (some ⟨b, off, none⟩) 3 i 2) = some (.string (strOf' (rowVal w (some ⟨b, off, none⟩) 3 i 2)))
    have e2' : rowVal w (some ⟨b, off, none⟩) 3 i 2 = .string s2 := e2
    rw [e2']; rfl
end
end Go.Proofs.Ytbjomkbiljpjmaa
