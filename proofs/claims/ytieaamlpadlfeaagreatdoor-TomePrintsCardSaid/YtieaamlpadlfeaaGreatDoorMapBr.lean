/- A map with integer keys, in the kit's word for it; sorted keys. Conditions: none. -/
import Derived.Test.YtieaamlpadlfeaaGreatDoorApp
import Derived.Shelf.SlIterI.Nil
import Derived.Shelf.SortM.Plain
import Derived.Shelf.SortM.SortNone
namespace Go.Proofs.YtieaamlpadlfeaaGreatDoor
open Go Go.MapKept Go.RowKit Go.Proofs Go.Maps Go.Sort Go.Shelf Go.WideShapes

theorem Sat.monoB {w w' : World} {H : Heaplet} (s : Sat w H) (hb : Below w.heap.size w w') : Sat w' H := by
  refine ⟨fun x hx => ?_, s.2⟩
  have h := s.1 x hx
  cases x with
  | blk b o => exact (hb.block b (Array.getElem?_eq_some_iff.1 h).1).trans h
  | env w0 => exact ⟨hb.os.trans h.1, hb.tape.trans h.2.1, hb.output.trans h.2.2⟩
/-- The keys, rising. -/
def sortK (l : List Int) : List Int := l.mergeSort fun x y => decide (x ≤ y)
theorem sortK_perm (l : List Int) : (sortK l).Perm l := List.mergeSort_perm _ _
theorem sortK_sorted (l : List Int) : (sortK l).Pairwise (· ≤ ·) := by
  have := List.pairwise_mergeSort (le := fun x y : Int => decide (x ≤ y)) (fun a b c h1 h2 => by simp at *; omega) (fun a b => by simp; omega) l
  exact this.imp (fun h => by simpa using h)
theorem sortK_of_perm {l l' : List Int} (h : l.Perm l') : sortK l = sortK l' := by
  have h2 : (sortK l).Perm (sortK l') := ((sortK_perm l).trans h).trans (sortK_perm l').symm
  exact List.Perm.eq_of_pairwise (le := (· ≤ ·)) (fun a b _ _ h1 h2 => Int.le_antisymm h1 h2) (sortK_sorted l) (sortK_sorted l') h2
theorem owns_of_mapOk {V : Type} {P : Program} {k : TypeId} (hk : P.underlying k = some (.int .i64)) {ve : V → Value} {es : Array MapEntry} {clk : Nat} {D : List (Int × V)} (h : MapOk (.int .i64) kI ve es clk D) {w : World} {b : Nat} (hb : w.heap[b]? = some (.map es clk))
    (hr : ∀ p ∈ D, -9223372036854775808 ≤ p.1 ∧ p.1 ≤ 9223372036854775807) (hl : D.length ≤ maxLen) :
    ∃ D0 : DataW Unit, w.ownsMap P k (fun _ => some (.nil, [])) b D.length D0 ∧ (intKeys D0).Perm (D.map (·.1)) ∧ Maps.size D0 = D.length := by
  have hkeys : ∀ x ∈ es.toList, ∃ p ∈ D, x.key = kI p.1 := by
    intro x hx
    have : x.key ∈ es.toList.map (·.key) := List.mem_map.2 ⟨x, hx, rfl⟩
    rw [h.keys] at this
    obtain ⟨p, hp, e⟩ := List.mem_map.1 this
    exact ⟨p, hp, e.symm⟩
  have hwf : ∀ p ∈ D, (Lit.int .i64 p.1).wf = true := by
    intro p hp
    have := hr p hp
    simp [Lit.wf, IntKind.min, IntKind.max, IntKind.signed, IntKind.bits]
    omega
  have hrd : ∀ x ∈ es.toList, ∀ p ∈ D, x.key = kI p.1 → Go.WideElems.rd (H := Unit) P k (fun _ => some (.nil, [])) x = some (.int .i64 p.1, .nil) := by
    intro x hx p hp e
    unfold Go.WideElems.rd
    rw [e, keyOf_int_mk hk (hwf p hp)]
    rfl
  have hsz : es.size = D.length := h.size
  refine ⟨_, ⟨es, clk, hb, ⟨by rw [hsz]; exact hl, h.stamped, fun x hx => ?_⟩, by omega, rfl⟩, ?_, ?_⟩
  · obtain ⟨p, hp, e⟩ := hkeys x hx
    exact ⟨_, hrd x hx p hp e⟩
  · have e1 : (intKeys (DataW.map ((es.toList.map (Go.WideElems.rg (H := Unit) P k (fun _ => some (.nil, [])))).foldr DataW.insert []))).Perm ((es.toList.map (Go.WideElems.rg (H := Unit) P k (fun _ => some (.nil, [])))).map fun p => Go.intOf p.1) := (sorted_perm _).map _
    refine e1.trans (List.Perm.of_eq ?_)
    rw [List.map_map]
    have e2 : es.toList.map ((fun p : Lit × DataW Unit => Go.intOf p.1) ∘ Go.WideElems.rg P k (fun _ => some (.nil, []))) = es.toList.map (fun e => RowKit.intOf e.key) := by
      apply List.map_congr_left
      intro x hx
      obtain ⟨p, hp, e⟩ := hkeys x hx
      simp only [Function.comp, Go.WideElems.rg, hrd x hx p hp e, e]
      rfl
    rw [e2]
    have e3 := h.keys
    have e4 := congrArg (List.map RowKit.intOf) e3
    rw [List.map_map, List.map_map] at e4
    exact e4
  · show ((es.toList.map (Go.WideElems.rg P k _)).foldr DataW.insert []).length = _
    rw [(sorted_perm _).length_eq, List.length_map, Array.length_toList, hsz]
end Go.Proofs.YtieaamlpadlfeaaGreatDoor
