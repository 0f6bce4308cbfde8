/- A string's bytes appended; a strings.Builder that the call has made. Conditions: none. -/
import Derived.Test.YtieaamlpadlfeaaGreatDoorSl
import Derived.Test.YtieaamlpadlfeaaGreatDoorGrow
import Derived.Lib.AppendStr
namespace Go.Proofs.YtieaamlpadlfeaaGreatDoor
open Go Go.MapKept Go.RowKit Go.Proofs

abbrev byV (b : UInt8) : Value := .int .u8 (b.toNat : Int)
section
variable {P : Program} {w : World} {T t u : TypeId} {i : TypeInfo} {v : Value} {n : Nat} {cs : List Value} {h F : Heaplet}
theorem sat_appendS (ht : P.underlying t = some (.slice T)) (hu : P.underlying u = some .string) (hi : P.info? T = some i) (hz : i.zero = some (.int .u8 0)) (hsize : i.size = 1) (hby : i.bytes = 1)
    (hv : SliceIs T 1 v n cs h) (s : Sat w (h ++ F)) (d : ByteArray) (h63 : n + d.size ≤ 1000000000) :
    ∃ v' w' h', (∀ ty, (Builtin.append_ #[t, u] ty #[v, .string d]).run P w = .ok v' w') ∧ SliceIs T 1 v' (n + d.size) (cs ++ Lib.strCells d) h' ∧ Sat w' (h' ++ F) := by
  have hlen : (cs ++ Lib.strCells d).length = (n + d.size) * 1 := by rw [List.length_append, hv.1, Lib.strCells_length, Nat.mul_one, Nat.mul_one]
  have hz1 : (Value.int IntKind.u8 0).cells.size = 1 := rfl
  rcases hv.2 with ⟨rfl, rfl, rfl⟩ | ⟨g, cap, cur, rfl, hnc, hcm, hcs, htake, rfl⟩
  · have hx : cs = [] := List.eq_nil_of_length_eq_zero (by simpa using hv.1)
    subst hx
    by_cases hm : d.size = 0
    · have hn : Lib.strCells d = [] := List.eq_nil_of_length_eq_zero (by rw [Lib.strCells_length]; exact hm)
      refine ⟨.slice none 0 0, w, [], fun ty => ?_, by rw [hm, hn]; exact SliceIs.nil T 1, s⟩
      have hf := Lib.run_firstCells_string (P := P) w 1 d
      rw [hm] at hf
      simp [Builtin.append_, run_underlying ht, run_underlying hu, sizeOf, typeInfo, hi, hsize, Builtin.lenOf, hm, hf]
    · have e1 : (d.data.map fun b => Value.int .u8 b.toNat) = (Lib.strCells d).toArray := by
        apply Array.ext'
        simp [Lib.strCells]
      have hge := grownCap_ge w d.size 0 T
      have hcm := grownCap_le_maxLen w d.size 0 T (by simp only [maxLen]; omega)
      refine ⟨_, _, _, fun ty => run_append_nil_string (P := P) w t u ty T i (.int .u8 0) ht hu hi hz d (by omega) (by omega) (by rw [hby]; omega), ⟨hlen, .inr ⟨w.heap.size, _, _, by simp, by omega, hcm, ?_, ?_, rfl⟩⟩, (Sat.drew s).new _⟩
      · rw [e1]
        simp only [Array.size_append, List.size_toArray, size_zeroCells, hz1, Lib.strCells_length]
        omega
      · rw [e1]
        simp only [Array.toList_append, List.nil_append]
        rw [← hlen]
        simp only [List.nil_append]
        exact List.take_left
  · have holds : ∀ j u, cs[j]? = some u → w.cell? ((⟨g, 0, none⟩ : Addr).add j) = some u := by
      intro j u hu
      have hadd : (⟨g, 0, none⟩ : Addr).add j = ⟨g, j, none⟩ := by unfold Addr.add; split <;> simp_all
      rw [hadd, cell_of s.h0]
      rw [← htake, List.getElem?_take] at hu
      split at hu
      · rwa [Array.getElem?_toList] at hu
      · cases hu
    have hcs' : cur.size = cap := by simpa using hcs
    by_cases hroom : n + d.size ≤ cap
    · refine ⟨_, _, _, fun ty => Lib.run_append_room_string (P := P) w t u ty T i ht hu hi hsize g n cap cur s.h0 d hroom (by omega), ⟨hlen, .inr ⟨g, cap, _, rfl, hroom, hcm, ?_, ?_, rfl⟩⟩, Sat.set s _ (heap_setRow s.h0) ⟨rfl, rfl, rfl⟩⟩
      · simp only [List.size_toArray, List.length_append, List.length_take, List.length_drop, Array.length_toList, Lib.strCells_length]
        omega
      · have ht' : cur.toList.take n = cs := by simpa using htake
        rw [ht', ← hlen]
        exact List.take_left
    · have hge := grownCap_ge w (n + d.size) cap T
      have hcm2 := grownCap_le_maxLen w (n + d.size) cap T (by simp only [maxLen]; omega)
      refine ⟨_, _, _, fun ty => Lib.run_append_grow_string (P := P) w t u ty T i (.int .u8 0) ht hu hi hz ⟨g, 0, none⟩ n cap cs (by rw [hsize]; exact hv.1) holds d (by omega) (by omega) (by rw [hby]; exact growslice_fits (by omega) (by omega)), ⟨hlen, .inr ⟨w.heap.size, _, _, rfl, hge, hcm2, ?_, ?_, rfl⟩⟩, ((Sat.drew s).tail).new _⟩
      · have := hv.1
        simp only [Array.size_append, List.size_toArray, size_zeroCells, hz1, Lib.strCells_length]
        omega
      · simp only [Array.toList_append, List.append_assoc]
        rw [← List.append_assoc, ← hlen]
        exact List.take_left
end
theorem strCells_eq (d : ByteArray) : Lib.strCells d = d.data.toList.map byV := rfl
end Go.Proofs.YtieaamlpadlfeaaGreatDoor
