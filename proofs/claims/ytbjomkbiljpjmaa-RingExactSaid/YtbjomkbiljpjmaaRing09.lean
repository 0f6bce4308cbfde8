/- The laws of layer 9: the constant answers. -/
import Derived.Test.YtbjomkbiljpjmaaRingI4
import Derived.Test.YtbjomkbiljpjmaaRingS4
namespace Go.Proofs.Ytbjomkbiljpjmaa
open Go Go.MapKept Go.RowKit Go.Proofs

def sb (n : UInt8) : ByteArray := ⟨#[n]⟩
abbrev fS (k : Int) (v : ByteArray) (fresh : Bool) : Option (Fr ByteArray) := some ⟨k, v, 0, fresh⟩
abbrev outS (k : Int) (v : ByteArray) (g : Bool) : Obj := .cells #[.int .i64 k, .string v, .bool g] 55

set_option maxRecDepth 100000 in
set_option maxHeartbeats 800000 in
theorem awake9 (F : Heaplet) (w : World) (hs : Sat w F) :
    Calls Try.prog 18 #[] w (Ret (.bool true) (fun w' => Sat w' F)) := by
  have hnew : Calls Try.prog 25 #[.int .i64 2] w fun e w' => ∃ rb, e = .returned (.pointer (some ⟨rb, 0, none⟩)) ∧ RS.RingIs rb [none, none] 0 F w' := RS.new_any F 2 w hs
  have Hnew := Lib.hid hnew
  clear hnew
  go_enter Try.func18, Try.ntmps18
  go_wp2_with fail
  refine (Hnew.out).mono ?_
  rintro e w1 ⟨rb, rfl, h1⟩
  go_wp2_with fail
  have t1 : Calls Try.prog 26 #[.pointer (some ⟨rb, 0, none⟩), .int .i64 1, .string (sb 97)] w1 (Ret (.tuple #[.agg #[.int .i64 0, .string ⟨#[]⟩, .bool false], .bool true]) (RS.RingIs rb [fS 1 (sb 97) true, none] 0 F)) := RS.put_any rb _ _ _ _ h1 1 (sb 97)
  refine t1.mono ?_
  rintro e w2 ⟨rfl, h2⟩
  clear t1
  have g2 := h2.new (outS 0 ⟨#[]⟩ false)
  clear h2
  go_wp2_with fail
  generalize w2.alloc _ = W2 at *
  generalize w2.heap.size = o1 at *
  have t1 : Calls Try.prog 26 #[.pointer (some ⟨rb, 0, none⟩), .int .i64 2, .string (sb 98)] W2 (Ret (.tuple #[.agg #[.int .i64 0, .string ⟨#[]⟩, .bool false], .bool true]) (RS.RingIs rb [fS 1 (sb 97) true, fS 2 (sb 98) true] 0 _)) := RS.put_any rb _ _ _ _ g2 2 (sb 98)
  refine t1.mono ?_
  rintro e w3 ⟨rfl, h3⟩
  clear t1
  have g3 := h3.new (outS 0 ⟨#[]⟩ false)
  clear h3
  go_wp2_with fail
  generalize w3.alloc _ = W3 at *
  generalize w3.heap.size = o2 at *
  have t1 : Calls Try.prog 26 #[.pointer (some ⟨rb, 0, none⟩), .int .i64 3, .string (sb 99)] W3 (Ret (.tuple #[.agg #[.int .i64 1, .string (sb 97), .bool true], .bool true]) (RS.RingIs rb [fS 3 (sb 99) true, fS 2 (sb 98) false] 1 _)) := RS.put_any rb _ _ _ _ g3 3 (sb 99)
  refine t1.mono ?_
  rintro e w4 ⟨rfl, h4⟩
  clear t1
  have g4 := h4.new (outS 1 (sb 97) true)
  clear h4
  go_wp2_with fail
  generalize w4.alloc _ = W4 at *
  generalize w4.heap.size = o3 at *
  have t1 : Calls Try.prog 26 #[.pointer (some ⟨rb, 0, none⟩), .int .i64 4, .string (sb 100)] W4 (Ret (.tuple #[.agg #[.int .i64 2, .string (sb 98), .bool true], .bool true]) (RS.RingIs rb [fS 3 (sb 99) true, fS 4 (sb 100) true] 0 _)) := RS.put_any rb _ _ _ _ g4 4 (sb 100)
  refine t1.mono ?_
  rintro e w5 ⟨rfl, h5⟩
  clear t1
  have g5 := h5.new (outS 2 (sb 98) true)
  clear h5
  go_wp2_with fail
  generalize w5.alloc _ = W5 at *
  generalize w5.heap.size = o4 at *
  have t1 : Calls Try.prog 27 #[.pointer (some ⟨rb, 0, none⟩), .int .i64 4] W5 (Ret (.tuple #[.string (sb 100), .bool true]) (RS.RingIs rb [fS 3 (sb 99) true, fS 4 (sb 100) true] 0 _)) := RS.get_any rb _ _ _ _ g5 4
  refine t1.mono ?_
  rintro e w6 ⟨rfl, h6⟩
  clear t1
  have t2 : Calls Try.prog 31 #[.pointer (some ⟨rb, 0, none⟩)] w6 (Ret (.int .i64 2) (Same w6)) := RS.len_any rb _ _ _ _ h6
  have hf := h6.frame
  have a1 : w6.cell? ⟨o1, 2, none⟩ = some (.bool false) := by rw [cell_of hf.h3]; rfl
  have a2 : w6.cell? ⟨o2, 2, none⟩ = some (.bool false) := by rw [cell_of hf.h2]; rfl
  have b0 : w6.cell? ⟨o3, 0, none⟩ = some (kI 1) := by rw [cell_of hf.h1]; rfl
  have b1 : w6.cell? ⟨o3, 1, none⟩ = some (.string (sb 97)) := by rw [cell_of hf.h1]; rfl
  have b2 : w6.cell? ⟨o3, 2, none⟩ = some (.bool true) := by rw [cell_of hf.h1]; rfl
  have d0 : w6.cell? ⟨o4, 0, none⟩ = some (kI 2) := by rw [cell_of hf.h0]; rfl
  have d2 : w6.cell? ⟨o4, 2, none⟩ = some (.bool true) := by rw [cell_of hf.h0]; rfl
  have T2 := Lib.hid t2
  have Hf := Lib.hid hf
  have q1 : (sb 97).toList = [97] := by decide +kernel
  have q2 : (sb 100).toList = [100] := by decide +kernel
  clear t2 hf h6 g2 g3 g4 g5
  go_wp2_with fail
  refine (T2.out).mono ?_
  rintro e w7 ⟨rfl, rfl⟩
  go_wp2_with fail
  go_ret
  exact ⟨rfl, Hf.out.tail.tail.tail.tail⟩
end Go.Proofs.Ytbjomkbiljpjmaa
