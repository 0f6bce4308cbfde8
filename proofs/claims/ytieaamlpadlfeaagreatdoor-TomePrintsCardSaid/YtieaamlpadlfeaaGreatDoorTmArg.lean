/- A step that comes in by value. Conditions: none. -/
import Derived.Test.YtieaamlpadlfeaaGreatDoorTbE
import Derived.Test.YtieaamlpadlfeaaGreatDoorArgs
import Derived.OpenShut
import Derived.ChangeSame
import Derived.ChangeArms
namespace Go.Proofs.YtieaamlpadlfeaaGreatDoor
open Go Go.MapKept Go.ChangeShapes Go.WideShapes Go.Deep Go.RowKit
section
variable {H : Type} {enc : TypeId × Value → H} {w : World} {base : Nat} {spare : Nat → Bool} {held : Bool}
/-- The elements of a slice that came in, each as its words. -/
theorem open_elems {P : Program} {t e : TypeId} {k fuel : Nat} {cs : List Value} {x : DataW H × List MemPlace} (ht : P.underlying t = some (.slice e)) (hC : P.cellsOf e = k) (h0 : 0 < k) (hf : DataW.trod enc P w base spare held fuel t cs = some x) :
    ∃ p len cap, cs = [.slice p len cap] ∧ len ≤ 9223372036854775807 ∧ ∀ i, i < len → ∃ b off us n y, p = some ⟨b, off, none⟩ ∧ b < w.heap.size ∧ us.length = k ∧ (∀ j v, us[j]? = some v → w.cell? ⟨b, off + i * k + j, none⟩ = some v) ∧ DataW.trod enc P w base spare held n e us = some y := by
  rcases open_slice ht hf with ⟨rfl, _⟩ | ⟨a, len', cap', m, n, D, Pl, rfl, hb, hl, hm, hmm, hx, hi⟩
  · exact ⟨none, 0, 0, rfl, by omega, fun i hi => by omega⟩
  · refine ⟨some a, len', cap', rfl, by unfold maxLen at hm; omega, fun i hil => ?_⟩
    have hml : len' ≤ m := by rw [hmm]; split <;> omega
    have spot0 : a.spot = none := by
      obtain ⟨cs', hc, ht'⟩ := hi 0 (by omega)
      rw [hC] at hc
      obtain ⟨_, hcl, hat⟩ := World.cells?_some hc
      have hcell := hat 0 h0
      rw [List.getElem?_eq_getElem (by omega)] at hcell
      simpa [Addr.add] using World.cell?_spot hcell
    obtain ⟨cs', hc, ht'⟩ := hi i (Nat.lt_of_lt_of_le hil hml)
    rw [hC] at hc
    obtain ⟨_, hcl, hat⟩ := World.cells?_some hc
    obtain ⟨bl, off, sp⟩ := a
    simp only at spot0
    subst spot0
    have hcl2 : cs'.length = k := by omega
    have key : ∀ j v, cs'[j]? = some v → w.cell? ⟨bl, off + i * k + j, none⟩ = some v := fun j v hj => by
      have hjl : j < k := by rw [← hcl2]; exact (List.getElem?_eq_some_iff.1 hj).1
      have hcell := hat j hjl
      rw [hj] at hcell
      have hadd : ((⟨bl, off, none⟩ : Addr).add (i * k)).add j = ⟨bl, off + i * k + j, none⟩ := by
        rw [add_add]
        unfold Addr.add
        by_cases hz : i * k + j = 0
        · simp only [hz, if_true, Nat.add_assoc, Nat.add_zero]
        · simp only [hz, if_false, Nat.add_assoc]
      rw [hadd] at hcell
      exact hcell
    have hlt : bl < w.heap.size := by
      have h0' : cs'[0]? = some cs'[0] := List.getElem?_eq_getElem (by omega)
      exact World.block_lt_of_cell? w ⟨bl, off + i * k + 0, none⟩ (key 0 _ h0')
    exact ⟨bl, off, cs', n, _, rfl, hlt, hcl2, key, ht'⟩
def intOfV : Value → Int
  | .int _ k => k
  | _ => 0
/-- A cell of memory. -/
def cellV (W : World) (p : Option Addr) (i : Nat) : Value :=
  match p with
  | some a => (W.cell? ⟨a.block, a.off + i, none⟩).getD undef
  | none => undef
/-- A step's numbers are Go's. -/
def StepOk (x : StepM) : Prop := I64 x.kind ∧ I64 x.client ∧ I64 x.n ∧ I64 x.call.kind ∧ I64 x.call.page ∧ I64 x.call.slot ∧ ∀ f ∈ x.fates, I64 f
set_option maxRecDepth 100000 in
theorem open_fates {fuel : Nat} {c : Value} {x : DataW H × List MemPlace} (hf : DataW.trod enc Tryz.prog w base spare held fuel 22 [c] = some x) : ∃ fs : List Int, FtAt (allOf w) c fs ∧ ∀ f ∈ fs, I64 f := by
  obtain ⟨p, len, cap, e, _, hc⟩ := open_elems (k := 1) Tryz.underlying22 (by kernel_rfl) (by decide) hf
  simp only [List.cons.injEq, and_true] at e
  subst e
  have key : ∀ i, i < len → ∃ b off k, p = some ⟨b, off, none⟩ ∧ b < w.heap.size ∧ w.cell? ⟨b, off + i, none⟩ = some (kI k) ∧ I64 k := by
    intro i hi
    obtain ⟨b, off, us, n, y, rfl, hb, hlen, hu, ht⟩ := hc i hi
    obtain ⟨u0, rfl⟩ : ∃ u0, us = [u0] := by
      match us, hlen with
      | [a], _ => exact ⟨a, rfl⟩
    obtain ⟨k0, e0, _, wf0⟩ := DataW.trod_int Tryz.underlying3 ht
    simp only [List.cons.injEq, and_true] at e0
    subst e0
    have g0 := hu 0 _ rfl
    rw [Nat.mul_one, Nat.add_zero] at g0
    exact ⟨b, off, k0, rfl, hb, g0, wf_bounds wf0⟩
  refine ⟨(List.range len).map fun i => intOfV (cellV w p i), ⟨p, cap, by simp, fun i f hfi => ?_⟩, fun f hf => ?_⟩
  · rw [List.getElem?_map] at hfi
    by_cases hi : i < len
    · rw [List.getElem?_range hi] at hfi
      cases hfi
      obtain ⟨b, off, k, rfl, hb, hk, _⟩ := key i hi
      refine ⟨b, off, rfl, fun w' hw => ?_⟩
      rw [hw.cellOld (a := ⟨b, off + i, none⟩) hb, hk]
      simp only [cellV]
      rw [hk]
      rfl
    · rw [List.getElem?_eq_none (by simpa using hi)] at hfi; cases hfi
  · obtain ⟨i, hi, rfl⟩ := List.mem_map.1 hf
    obtain ⟨b, off, k, rfl, hb, hk, hb2⟩ := key i (List.mem_range.1 hi)
    simp only [cellV]
    rw [hk]
    exact hb2
set_option maxRecDepth 100000 in
theorem open_step {r : Reach} {b0 : Nat} {v : Value} {d : DataW H} {pl : List MemPlace} (hv : Value.okWide Tryz.prog w r b0 26 v) (h : DataW.Trod enc Tryz.prog w base spare held 26 v d pl) :
    ∃ (x : StepM) (fv : Value), v = stepV x fv ∧ FtAt (allOf w) fv x.fates ∧ StepOk x := by
  obtain ⟨cs, rfl, hsz⟩ := okWide_struct Tryz.underlying26 hv
  have c9 : Tryz.prog.cellsOf 26 = 9 := by kernel_rfl
  rw [c9] at hsz
  obtain ⟨cs⟩ := cs
  obtain ⟨u0, u1, u2, u3, u4, u5, u6, u7, u8, rfl⟩ : ∃ u0 u1 u2 u3 u4 u5 u6 u7 u8, cs = [u0, u1, u2, u3, u4, u5, u6, u7, u8] := by
    match cs, hsz with
    | [a, b, c, d, e, f, g, h, i], _ => exact ⟨a, b, c, d, e, f, g, h, i, rfl⟩
  obtain ⟨fuel, hf⟩ := h
  have ht : DataW.trod enc Tryz.prog w base spare held fuel 26 [u0, u1, u2, u3, u4, u5, u6, u7, u8] = some (d, pl) := hf
  obtain ⟨xs, m, _, _, _, hlen, hg⟩ := DataW.trod_struct Tryz.underlying26 ht
  have hlen6 : xs.length = 6 := hlen
  obtain ⟨z0, z1, z2, z3, z4, z5, rfl⟩ : ∃ z0 z1 z2 z3 z4 z5, xs = [z0, z1, z2, z3, z4, z5] := by
    match xs, hlen6 with
    | [a, b, c, d, e, f], _ => exact ⟨a, b, c, d, e, f, rfl⟩
  have g0 : DataW.trod enc Tryz.prog w base spare held m 3 (([u0, u1, u2, u3, u4, u5, u6, u7, u8].drop 0).take (Tryz.prog.cellsOf 3)) = some z0 := hg 0 _ rfl
  have g1 : DataW.trod enc Tryz.prog w base spare held m 3 (([u0, u1, u2, u3, u4, u5, u6, u7, u8].drop 1).take (Tryz.prog.cellsOf 3)) = some z1 := hg 1 _ rfl
  have g2 : DataW.trod enc Tryz.prog w base spare held m 4 (([u0, u1, u2, u3, u4, u5, u6, u7, u8].drop 2).take (Tryz.prog.cellsOf 4)) = some z2 := hg 2 _ rfl
  have g3 : DataW.trod enc Tryz.prog w base spare held m 3 (([u0, u1, u2, u3, u4, u5, u6, u7, u8].drop 3).take (Tryz.prog.cellsOf 3)) = some z3 := hg 3 _ rfl
  have g4 : DataW.trod enc Tryz.prog w base spare held m 22 (([u0, u1, u2, u3, u4, u5, u6, u7, u8].drop 4).take (Tryz.prog.cellsOf 22)) = some z4 := hg 4 _ rfl
  have g5 : DataW.trod enc Tryz.prog w base spare held m 24 (([u0, u1, u2, u3, u4, u5, u6, u7, u8].drop 5).take (Tryz.prog.cellsOf 24)) = some z5 := hg 5 _ rfl
  have c0 : Tryz.prog.cellsOf 3 = 1 := by kernel_rfl
  have c1 : Tryz.prog.cellsOf 4 = 1 := by kernel_rfl
  have c2 : Tryz.prog.cellsOf 22 = 1 := by kernel_rfl
  have c3 : Tryz.prog.cellsOf 24 = 4 := by kernel_rfl
  have c4 : Tryz.prog.cellsOf 9 = 1 := by kernel_rfl
  simp only [c0, c1, c2, c3, List.drop_zero, List.take_succ_cons, List.take_zero, List.drop_succ_cons] at g0 g1 g2 g3 g4 g5
  obtain ⟨ys, m2, _, _, _, hlen2, hg2⟩ := DataW.trod_struct Tryz.underlying24 g5
  have hlen4 : ys.length = 4 := hlen2
  obtain ⟨y0, y1, y2, y3, rfl⟩ : ∃ y0 y1 y2 y3, ys = [y0, y1, y2, y3] := by
    match ys, hlen4 with
    | [a, b, c, d], _ => exact ⟨a, b, c, d, rfl⟩
  have f0 : DataW.trod enc Tryz.prog w base spare held m2 3 (([u5, u6, u7, u8].drop 0).take (Tryz.prog.cellsOf 3)) = some y0 := hg2 0 _ rfl
  have f1 : DataW.trod enc Tryz.prog w base spare held m2 3 (([u5, u6, u7, u8].drop 1).take (Tryz.prog.cellsOf 3)) = some y1 := hg2 1 _ rfl
  have f2 : DataW.trod enc Tryz.prog w base spare held m2 3 (([u5, u6, u7, u8].drop 2).take (Tryz.prog.cellsOf 3)) = some y2 := hg2 2 _ rfl
  have f3 : DataW.trod enc Tryz.prog w base spare held m2 9 (([u5, u6, u7, u8].drop 3).take (Tryz.prog.cellsOf 9)) = some y3 := hg2 3 _ rfl
  simp only [c0, c4, List.drop_zero, List.take_succ_cons, List.take_zero, List.drop_succ_cons] at f0 f1 f2 f3
  obtain ⟨k0, e0, _, w0⟩ := DataW.trod_int Tryz.underlying3 g0
  obtain ⟨k1, e1, _, w1⟩ := DataW.trod_int Tryz.underlying3 g1
  obtain ⟨k2, e2, _⟩ := DataW.trod_bool Tryz.underlying4 g2
  obtain ⟨k3, e3, _, w3⟩ := DataW.trod_int Tryz.underlying3 g3
  obtain ⟨k5, e5, _, w5⟩ := DataW.trod_int Tryz.underlying3 f0
  obtain ⟨k6, e6, _, w6⟩ := DataW.trod_int Tryz.underlying3 f1
  obtain ⟨k7, e7, _, w7⟩ := DataW.trod_int Tryz.underlying3 f2
  obtain ⟨k8, e8, _⟩ := DataW.trod_string Tryz.underlying9 f3
  simp only [List.cons.injEq, and_true] at e0 e1 e2 e3 e5 e6 e7 e8
  subst e0 e1 e2 e3 e5 e6 e7 e8
  obtain ⟨fs, hfs, hb⟩ := open_fates g4
  refine ⟨⟨k0, k1, k2, k3, fs, ⟨k5, k6, k7, k8.data.toList⟩⟩, u4, ?_, hfs, wf_bounds w0, wf_bounds w1, wf_bounds w3, wf_bounds w5, wf_bounds w6, wf_bounds w7, hb⟩
  show Value.agg #[_, _, _, _, _, _, _, _, Value.string k8] = Value.agg #[_, _, _, _, _, _, _, _, Value.string ⟨k8.data.toList.toArray⟩]
  rw [ba_mk k8]
end
end Go.Proofs.YtieaamlpadlfeaaGreatDoor
