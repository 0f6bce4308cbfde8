/- Texts put together: TwArg, Tx23. Conditions: none. -/
import Derived.OpenShut
import Derived.ChangeSame
import Derived.ChangeArms
import Derived.Test.YtgocmnejlbfplaaGreatDoorTy3
import Derived.Test.YtgocmnejlbfplaaGreatDoorTy24
import Derived.Test.YtgocmnejlbfplaaGreatDoorTy31
namespace Go.Proofs.YtgocmnejlbfplaaGreatDoor
open Go Go.MapKept Go.ChangeShapes Go.WideShapes Go.Deep Go.RowKit
section
variable {H : Type} {enc : TypeId × Value → H} {w : World} {base : Nat} {spare : Nat → Bool} {held : Bool}
/-- The elements of a slice that came in, each as its words. -/
theorem open_elems {P : Program} {t e : TypeId} {k fuel : Nat} {cs : List Value} {x : DataW H × List MemPlace} (ht : P.underlying t = some (.slice e)) (hC : P.cellsOf e = k) (h0 : 0 < k) (hf : DataW.trod enc P w base spare held fuel t cs = some x) :
    ∃ p len cap, cs = [.slice p len cap] ∧ len ≤ 9223372036854775807 ∧ ∀ i, i < len → ∃ b off us n y, p = some ⟨b, off, none⟩ ∧ b < w.heap.size ∧ us.length = k ∧ (∀ j v, us[j]? = some v → w.cell? ⟨b, off + i * k + j, none⟩ = some v) ∧ DataW.trod enc P w base spare held n e us = some y := by
  rcases open_slice ht hf with ⟨rfl, _⟩ | ⟨a, len', cap', m, n, D, Pl, rfl, hb, hl, hm, hmm, hx, hi⟩
  · exact ⟨none, 0, 0, rfl, by omega, fun i hi => by omega⟩
  · refine ⟨some a, len', cap', rfl, by unfold maxLen at hm; omega, fun i hil => ?_⟩
    have hml : len' ≤ m := by rw [hmm]; split <;> omega
    have spot0 : a.spot = none := by
      obtain ⟨cs', hc, ht'⟩ := hi 0 (by omega)
      rw [hC] at hc
      obtain ⟨_, hcl, hat⟩ := World.cells?_some hc
      have hcell := hat 0 h0
      rw [List.getElem?_eq_getElem (by omega)] at hcell
      simpa [Addr.add] using World.cell?_spot hcell
    obtain ⟨cs', hc, ht'⟩ := hi i (Nat.lt_of_lt_of_le hil hml)
    rw [hC] at hc
    obtain ⟨_, hcl, hat⟩ := World.cells?_some hc
    obtain ⟨bl, off, sp⟩ := a
    simp only at spot0
    subst spot0
    have hcl2 : cs'.length = k := by omega
    have key : ∀ j v, cs'[j]? = some v → w.cell? ⟨bl, off + i * k + j, none⟩ = some v := fun j v hj => by
      have hjl : j < k := by rw [← hcl2]; exact (List.getElem?_eq_some_iff.1 hj).1
      have hcell := hat j hjl
      rw [hj] at hcell
      have hadd : ((⟨bl, off, none⟩ : Addr).add (i * k)).add j = ⟨bl, off + i * k + j, none⟩ := by
        rw [add_add]
        unfold Addr.add
        by_cases hz : i * k + j = 0
        · simp only [hz, if_true, Nat.add_assoc, Nat.add_zero]
        · simp only [hz, if_false, Nat.add_assoc]
      rw [hadd] at hcell
      exact hcell
    have hlt : bl < w.heap.size := by
      have h0' : cs'[0]? = some cs'[0] := List.getElem?_eq_getElem (by omega)
      exact World.block_lt_of_cell? w ⟨bl, off + i * k + 0, none⟩ (key 0 _ h0')
    exact ⟨bl, off, cs', n, _, rfl, hlt, hcl2, key, ht'⟩
def boolOfV : Value → Bool
  | .bool b => b
  | _ => false
def strOfV : Value → ByteArray
  | .string s => s
  | _ => ⟨#[]⟩
def intOfV : Value → Int
  | .int _ k => k
  | _ => 0
/-- A cell of memory. -/
def cellV (W : World) (p : Option Addr) (i : Nat) : Value :=
  match p with
  | some a => (W.cell? ⟨a.block, a.off + i, none⟩).getD undef
  | none => undef
def slotsV (W : World) : Value → List Sl
  | .slice p len _ => (List.range len).map fun i => (boolOfV (cellV W p (i * 2)), strOfV (cellV W p (i * 2 + 1)))
  | _ => []
def pageV (W : World) (n s : Value) : Pg := ⟨intOfV n, slotsV W s⟩
def leafV (W : World) (p : Option Addr) (i : Nat) : Lf := (intOfV (cellV W p (i * 3)), pageV W (cellV W p (i * 3 + 1)) (cellV W p (i * 3 + 2)))
theorem range_at {len i : Nat} {α : Type} {f : Nat → α} {s : α} (h : ((List.range len).map f)[i]? = some s) : i < len ∧ s = f i := by
  rw [List.getElem?_map] at h
  by_cases hi : i < len
  · rw [List.getElem?_range hi] at h
    cases h
    exact ⟨hi, rfl⟩
  · rw [List.getElem?_eq_none (by simpa using hi)] at h; cases h
set_option maxRecDepth 100000 in
theorem open_slots {fuel : Nat} {c : Value} {x : DataW H × List MemPlace} (hf : DataW.trod enc Tryz.prog w base spare held fuel 46 [c] = some x) : SlAt (allOf w) c (slotsV w c) := by
  obtain ⟨p, len, cap, e, _, hc⟩ := open_elems (k := 2) Tryz.underlying46 (by kernel_rfl) (by decide) hf
  simp only [List.cons.injEq, and_true] at e
  subst e
  refine ⟨p, cap, by simp [slotsV], fun i s hs => ?_⟩
  obtain ⟨hi, rfl⟩ := range_at hs
  obtain ⟨b, off, us, n, y, rfl, hb, hlen, hu, ht⟩ := hc i hi
  obtain ⟨y0, y1, m, _, _, f0, f1⟩ := trod_struct2 Tryz.underlying59 ht
  obtain ⟨u0, u1, rfl⟩ : ∃ u0 u1, us = [u0, u1] := by
    match us, hlen with
    | [a, b], _ => exact ⟨a, b, rfl⟩
  obtain ⟨k0, e0, _⟩ := DataW.trod_bool Tryz.underlying4 f0
  obtain ⟨k1, e1, _⟩ := DataW.trod_string Tryz.underlying9 f1
  have c0 : Tryz.prog.cellsOf 4 = 1 := by kernel_rfl
  have c1 : Tryz.prog.cellsOf 9 = 1 := by kernel_rfl
  simp only [c0, c1, List.drop_zero, List.take_succ_cons, List.take_zero, List.drop_succ_cons, List.cons.injEq, and_true] at e0 e1
  subst e0 e1
  have g0 := hu 0 _ rfl
  have g1 := hu 1 _ rfl
  refine ⟨b, off, rfl, fun w' hw => ⟨?_, ?_⟩⟩
  · rw [hw.cellOld (a := ⟨b, off + i * 2, none⟩) hb]
    simp only [cellV]
    rw [show w.cell? ⟨b, off + i * 2, none⟩ = some (.bool k0) from g0]
    rfl
  · rw [hw.cellOld (a := ⟨b, off + i * 2 + 1, none⟩) hb]
    simp only [cellV]
    rw [show w.cell? ⟨b, off + (i * 2 + 1), none⟩ = some (.string k1) from g1, show w.cell? ⟨b, off + i * 2 + 1, none⟩ = some (.string k1) from g1]
    rfl
set_option maxRecDepth 100000 in
theorem open_leaves {p : Option Addr} {len cap : Nat} {d : DataW H} {pl : List MemPlace} (h : DataW.Trod enc Tryz.prog w base spare held 36 (.slice p len cap) d pl) :
    ∃ P : List Lf, P.length = len ∧ LvAt (allOf w) (.slice p len cap) P ∧ ∀ x ∈ P, (-9223372036854775808 ≤ x.1 ∧ x.1 ≤ 9223372036854775807) ∧ -9223372036854775808 ≤ x.2.lsn ∧ x.2.lsn ≤ 9223372036854775807 := by
  obtain ⟨fuel, hf⟩ := h
  obtain ⟨p', len', cap', e, hl, hc⟩ := open_elems (k := 3) Tryz.underlying36 (by kernel_rfl) (by decide) hf
  simp only [Value.cells, List.cons.injEq, and_true, Value.slice.injEq] at e
  obtain ⟨rfl, rfl, rfl⟩ := e
  have key : ∀ i, i < len → ∃ b off, p = some ⟨b, off, none⟩ ∧ SlAt (allOf w) (cellV w p (i * 3 + 2)) (leafV w p i).2.slots ∧ ((∀ w', Sat w' (allOf w) → w'.cell? ⟨b, off + i * 3, none⟩ = some (kI (leafV w p i).1) ∧ w'.cell? ⟨b, off + i * 3 + 1, none⟩ = some (kI (leafV w p i).2.lsn) ∧ w'.cell? ⟨b, off + i * 3 + 2, none⟩ = some (cellV w p (i * 3 + 2)))) ∧
      (-9223372036854775808 ≤ (leafV w p i).1 ∧ (leafV w p i).1 ≤ 9223372036854775807) ∧ -9223372036854775808 ≤ (leafV w p i).2.lsn ∧ (leafV w p i).2.lsn ≤ 9223372036854775807 := by
    intro i hi
    obtain ⟨b, off, us, n, y, rfl, hb, hlen, hu, ht⟩ := hc i hi
    obtain ⟨y0, y1, m, _, _, f0, f1⟩ := trod_struct2 Tryz.underlying55 ht
    obtain ⟨u0, u1, u2, rfl⟩ : ∃ u0 u1 u2, us = [u0, u1, u2] := by
      match us, hlen with
      | [a, b, c], _ => exact ⟨a, b, c, rfl⟩
    have c0 : Tryz.prog.cellsOf 3 = 1 := by kernel_rfl
    have c1 : Tryz.prog.cellsOf 48 = 2 := by kernel_rfl
    have c2 : Tryz.prog.cellsOf 46 = 1 := by kernel_rfl
    obtain ⟨z0, z1, m', _, _, h0, h1⟩ := trod_struct2 Tryz.underlying48 f1
    simp only [c0, c1, c2, List.drop_zero, List.take_succ_cons, List.take_zero, List.drop_succ_cons] at f0 h0 h1
    obtain ⟨k0, e0, _, wf0⟩ := DataW.trod_int Tryz.underlying3 f0
    obtain ⟨k1, e1, _, wf1⟩ := DataW.trod_int Tryz.underlying3 h0
    simp only [List.cons.injEq, and_true] at e0 e1
    subst e0 e1
    have hs := open_slots h1
    have g0 : w.cell? ⟨b, off + i * 3, none⟩ = some (kI k0) := hu 0 _ rfl
    have g1 : w.cell? ⟨b, off + i * 3 + 1, none⟩ = some (kI k1) := hu 1 _ rfl
    have g2 : w.cell? ⟨b, off + i * 3 + 2, none⟩ = some u2 := hu 2 _ rfl
    have v0 : cellV w (some ⟨b, off, none⟩) (i * 3) = kI k0 := by simp only [cellV]; rw [g0]; rfl
    have v1 : cellV w (some ⟨b, off, none⟩) (i * 3 + 1) = kI k1 := by simp only [cellV]; rw [show w.cell? ⟨b, off + (i * 3 + 1), none⟩ = some (kI k1) from g1]; rfl
    have v2 : cellV w (some ⟨b, off, none⟩) (i * 3 + 2) = u2 := by simp only [cellV]; rw [show w.cell? ⟨b, off + (i * 3 + 2), none⟩ = some u2 from g2]; rfl
    have hlv : leafV w (some ⟨b, off, none⟩) i = (k0, ⟨k1, slotsV w u2⟩) := by unfold leafV pageV; rw [v0, v1, v2]; rfl
    rw [hlv, v2]
    refine ⟨b, off, rfl, hs, fun w' hw => ?_, wf_bounds wf0, wf_bounds wf1⟩
    exact ⟨(hw.cellOld (a := ⟨b, off + i * 3, none⟩) hb).trans g0, (hw.cellOld (a := ⟨b, off + i * 3 + 1, none⟩) hb).trans g1, (hw.cellOld (a := ⟨b, off + i * 3 + 2, none⟩) hb).trans g2⟩
  refine ⟨(List.range len).map (leafV w p), by simp, ⟨p, cap, by simp, fun i q hq => ?_⟩, fun x hx => ?_⟩
  · obtain ⟨hi, rfl⟩ := range_at hq
    obtain ⟨b, off, e, hs, hw, _⟩ := key i hi
    exact ⟨b, off, _, e, hs, hw⟩
  · obtain ⟨i, hi, rfl⟩ := List.mem_map.1 hx
    obtain ⟨_, _, _, _, _, h⟩ := key i (List.mem_range.1 hi)
    exact h
set_option maxRecDepth 100000 in
theorem open_leaf {r : Reach} {b0 : Nat} {v : Value} {d : DataW H} {pl : List MemPlace} (hv : Value.okWide Tryz.prog w r b0 55 v) (h : DataW.Trod enc Tryz.prog w base spare held 55 v d pl) :
    ∃ (x : Lf) (sv : Value), v = lfV x.1 x.2.lsn sv ∧ SlAt (allOf w) sv x.2.slots ∧ (-9223372036854775808 ≤ x.1 ∧ x.1 ≤ 9223372036854775807) ∧ -9223372036854775808 ≤ x.2.lsn ∧ x.2.lsn ≤ 9223372036854775807 := by
  obtain ⟨cs, rfl, hsz⟩ := okWide_struct Tryz.underlying55 hv
  have c3 : Tryz.prog.cellsOf 55 = 3 := by kernel_rfl
  rw [c3] at hsz
  obtain ⟨cs⟩ := cs
  obtain ⟨u0, u1, u2, rfl⟩ : ∃ u0 u1 u2, cs = [u0, u1, u2] := by
    match cs, hsz with
    | [a, b, c], _ => exact ⟨a, b, c, rfl⟩
  obtain ⟨fuel, hf⟩ := h
  have ht : DataW.trod enc Tryz.prog w base spare held fuel 55 [u0, u1, u2] = some (d, pl) := hf
  obtain ⟨y0, y1, m, _, _, f0, f1⟩ := trod_struct2 Tryz.underlying55 ht
  have c0 : Tryz.prog.cellsOf 3 = 1 := by kernel_rfl
  have c1 : Tryz.prog.cellsOf 48 = 2 := by kernel_rfl
  have c2 : Tryz.prog.cellsOf 46 = 1 := by kernel_rfl
  obtain ⟨z0, z1, m', _, _, h0, h1⟩ := trod_struct2 Tryz.underlying48 f1
  simp only [c0, c1, c2, List.drop_zero, List.take_succ_cons, List.take_zero, List.drop_succ_cons] at f0 h0 h1
  obtain ⟨k0, e0, _, wf0⟩ := DataW.trod_int Tryz.underlying3 f0
  obtain ⟨k1, e1, _, wf1⟩ := DataW.trod_int Tryz.underlying3 h0
  simp only [List.cons.injEq, and_true] at e0 e1
  subst e0 e1
  exact ⟨(k0, ⟨k1, slotsV w u2⟩), u2, rfl, open_slots h1, wf_bounds wf0, wf_bounds wf1⟩
end
end Go.Proofs.YtgocmnejlbfplaaGreatDoor
namespace Go.Proofs.YtgocmnejlbfplaaGreatDoor
open Go Go.MapKept Go.ChangeShapes Go.WideShapes Go.Deep Go.RowKit
section
variable {H : Type} {enc : TypeId × Value → H} {w : World} {base : Nat} {spare : Nat → Bool} {held : Bool}
theorem wf_byte {k : Int} (h : (Lit.int .u8 k).wf = true) : 0 ≤ k ∧ k ≤ 255 := by
  simp [Lit.wf, IntKind.min, IntKind.max, IntKind.signed, IntKind.bits] at h
  omega
/-- What is known of an act that came in. -/
def ActOk (w : World) (p : Option Addr) (i : Nat) (x : Ax) : Prop := ∃ g off la lc fp fc, p = some ⟨g, off, none⟩ ∧ LvAt (allOf w) (.slice la x.ls.length lc) x.ls ∧ IsAt (allOf w) fp x.fl x.fa ∧ (x.fl ≤ 9223372036854775807 ∧ (∀ p ∈ x.ls, -9223372036854775808 ≤ p.2.lsn ∧ p.2.lsn ≤ 9223372036854775807) ∧ x.n ≤ 9223372036854775807) ∧
  ∀ w', Sat w' (allOf w) → w'.cell? ⟨g, off + i * 5, none⟩ = some (kI x.kind) ∧ w'.cell? ⟨g, off + i * 5 + 1, none⟩ = some (kI x.n) ∧ w'.cell? ⟨g, off + i * 5 + 2, none⟩ = some (.int .u8 (x.b.toNat : Int)) ∧ w'.cell? ⟨g, off + i * 5 + 3, none⟩ = some (.slice la x.ls.length lc) ∧ w'.cell? ⟨g, off + i * 5 + 4, none⟩ = some (.slice fp x.fl fc)
set_option maxRecDepth 100000 in
theorem open_acts {p : Option Addr} {len cap : Nat} {d : DataW H} {pl : List MemPlace} (h : DataW.Trod enc Tryz.prog w base spare held 22 (.slice p len cap) d pl) :
    ∃ X : List Ax, X.length = len ∧ AxAt (allOf w) (.slice p len cap) X ∧ len ≤ 9223372036854775807 := by
  obtain ⟨fuel, hf⟩ := h
  obtain ⟨p', len', cap', e, hl, hc⟩ := open_elems (k := 5) Tryz.underlying22 (by kernel_rfl) (by decide) hf
  simp only [Value.cells, List.cons.injEq, and_true, Value.slice.injEq] at e
  obtain ⟨rfl, rfl, rfl⟩ := e
  have key : ∀ i, i < len → ∃ x, ActOk w p i x := by
    intro i hi
    obtain ⟨b, off, us, n, y, rfl, hb, hlen, hu, ht⟩ := hc i hi
    obtain ⟨u0, u1, u2, u3, u4, rfl⟩ : ∃ u0 u1 u2 u3 u4, us = [u0, u1, u2, u3, u4] := by
      match us, hlen with
      | [a, b, c, d, e], _ => exact ⟨a, b, c, d, e, rfl⟩
    obtain ⟨xs, m, _, _, _, hlx, hfs⟩ := DataW.trod_struct Tryz.underlying39 ht
    obtain ⟨y0, y1, y2, y3, y4, rfl⟩ : ∃ y0 y1 y2 y3 y4, xs = [y0, y1, y2, y3, y4] := by
      match xs, hlx with
      | [a, b, c, d, e], _ => exact ⟨a, b, c, d, e, rfl⟩
    have c0 : Tryz.prog.cellsOf 3 = 1 := by kernel_rfl
    have c1 : Tryz.prog.cellsOf 5 = 1 := by kernel_rfl
    have c2 : Tryz.prog.cellsOf 36 = 1 := by kernel_rfl
    have c3 : Tryz.prog.cellsOf 37 = 1 := by kernel_rfl
    have f0 : DataW.trod enc Tryz.prog w base spare held m 3 (([u0, u1, u2, u3, u4].drop 0).take (Tryz.prog.cellsOf 3)) = some y0 := hfs 0 _ rfl
    rw [c0] at f0
    have f0 : DataW.trod enc Tryz.prog w base spare held m 3 [u0] = some y0 := f0
    have f1 : DataW.trod enc Tryz.prog w base spare held m 3 (([u0, u1, u2, u3, u4].drop 1).take (Tryz.prog.cellsOf 3)) = some y1 := hfs 1 _ rfl
    rw [c0] at f1
    have f1 : DataW.trod enc Tryz.prog w base spare held m 3 [u1] = some y1 := f1
    have f2 : DataW.trod enc Tryz.prog w base spare held m 5 (([u0, u1, u2, u3, u4].drop 2).take (Tryz.prog.cellsOf 5)) = some y2 := hfs 2 _ rfl
    rw [c1] at f2
    have f2 : DataW.trod enc Tryz.prog w base spare held m 5 [u2] = some y2 := f2
    have f3 : DataW.trod enc Tryz.prog w base spare held m 36 (([u0, u1, u2, u3, u4].drop 3).take (Tryz.prog.cellsOf 36)) = some y3 := hfs 3 _ rfl
    rw [c2] at f3
    have f3 : DataW.trod enc Tryz.prog w base spare held m 36 [u3] = some y3 := f3
    have f4 : DataW.trod enc Tryz.prog w base spare held m 37 (([u0, u1, u2, u3, u4].drop 4).take (Tryz.prog.cellsOf 37)) = some y4 := hfs 4 _ rfl
    rw [c3] at f4
    have f4 : DataW.trod enc Tryz.prog w base spare held m 37 [u4] = some y4 := f4
    obtain ⟨k0, e0, _, wf0⟩ := DataW.trod_int Tryz.underlying3 f0
    obtain ⟨k1, e1, _, wf1⟩ := DataW.trod_int Tryz.underlying3 f1
    obtain ⟨k2, e2, _, wf2⟩ := DataW.trod_int Tryz.underlying5 f2
    simp only [List.cons.injEq, and_true] at e0 e1 e2
    subst e0 e1 e2
    obtain ⟨la, ll, lc, e3, _, _⟩ := open_elems (k := 3) Tryz.underlying36 (by kernel_rfl) (by decide) f3
    cases e3
    obtain ⟨P, hP, hLv, hPb⟩ := open_leaves (p := la) (len := ll) (cap := lc) (d := y3.1) (pl := y3.2) ⟨m, f3⟩
    obtain ⟨fp, fl, fc, e4, hfl, _⟩ := open_elems (k := 1) Tryz.underlying37 (by kernel_rfl) (by decide) f4
    cases e4
    obtain ⟨A, hA⟩ := open_intSlice (p := fp) (len := fl) (cap := fc) (d := y4.1) (pl := y4.2) Tryz.underlying37 Tryz.underlying3 c0 ⟨m, f4⟩
    subst hP
    have wb := wf_byte wf2
    refine ⟨⟨k0, k1, UInt8.ofNat k2.toNat, P, fl, A⟩, b, off, la, lc, fp, fc, rfl, hLv, fun j hj => ?_, ⟨hfl, fun q hq => (hPb q hq).2, (wf_bounds wf1).2⟩, fun w' hw => ⟨?_, ?_, ?_, ?_, ?_⟩⟩
    · obtain ⟨b2, off2, ef, hb2, hcell, hbd⟩ := hA.2 j hj
      exact ⟨b2, off2, ef, hbd, fun w' hw => (hw.cellOld (a := ⟨b2, off2 + j, none⟩) hb2).trans hcell⟩
    · exact (hw.cellOld (a := ⟨b, off + i * 5, none⟩) hb).trans (hu 0 _ rfl)
    · exact (hw.cellOld (a := ⟨b, off + i * 5 + 1, none⟩) hb).trans (hu 1 _ rfl)
    · have : ((UInt8.ofNat k2.toNat).toNat : Int) = k2 := by rw [UInt8.toNat_ofNat']; omega
      show _ = some (Value.int .u8 ((UInt8.ofNat k2.toNat).toNat : Int))
      rw [this]
      exact (hw.cellOld (a := ⟨b, off + i * 5 + 2, none⟩) hb).trans (hu 2 _ rfl)
    · exact (hw.cellOld (a := ⟨b, off + i * 5 + 3, none⟩) hb).trans (hu 3 _ rfl)
    · exact (hw.cellOld (a := ⟨b, off + i * 5 + 4, none⟩) hb).trans (hu 4 _ rfl)
  obtain ⟨f, hff⟩ : ∃ f : Nat → Ax, ∀ i, i < len → ActOk w p i (f i) := by
    have h2 : ∀ i, ∃ x : Ax, i < len → ActOk w p i x := fun i => by
      by_cases hi : i < len
      · obtain ⟨x, hx⟩ := key i hi
        exact ⟨x, fun _ => hx⟩
      · exact ⟨⟨0, 0, 0, [], 0, fun _ => 0⟩, fun h => absurd h hi⟩
    exact ⟨fun i => Classical.choose (h2 i), fun i hi => Classical.choose_spec (h2 i) hi⟩
  refine ⟨(List.range len).map f, by simp, ⟨p, cap, by simp, fun i x hx => ?_⟩, hl⟩
  obtain ⟨hi, rfl⟩ := range_at hx
  exact hff i hi
end
end Go.Proofs.YtgocmnejlbfplaaGreatDoor
