/- Slots and images: isOdd, size, Good walked. Conditions: none. -/
import Derived.Test.YtgocmnejlbfplaaDoorPg0
import Derived.Test.YtgocmnejlbfplaaDoorGrow
import Derived.Test.YtgocmnejlbfplaaDoorProg
import Derived.ProofKit
import Derived.Lib.Hide
import Derived.Deep.CutBlock
namespace Go.Proofs.YtgocmnejlbfplaaDoor
open Go Go.MapKept Go.RowKit Go.Proofs

abbrev slV (s : Sl) : Value := .agg #[.bool s.1, kS s.2]
/-- Where F holds, the slots lie there. -/
def SlAt (F : Heaplet) (v : Value) (L : List Sl) : Prop := ∃ a cap, v = .slice a L.length cap ∧ ∀ (i : Nat) s, L[i]? = some s → ∃ g off, a = some ⟨g, off, none⟩ ∧ ∀ w, Sat w F → w.cell? ⟨g, off + i * 2, none⟩ = some (.bool s.1) ∧ w.cell? ⟨g, off + i * 2 + 1, none⟩ = some (kS s.2)
theorem SlAt.mono {F F' : Heaplet} {v : Value} {L : List Sl} (h : SlAt F v L) (hF : ∀ w, Sat w F' → Sat w F) : SlAt F' v L := by
  obtain ⟨a, cap, e, hc⟩ := h
  refine ⟨a, cap, e, fun i s hs => ?_⟩
  obtain ⟨g, off, e2, hw⟩ := hc i s hs
  exact ⟨g, off, e2, fun w hs => hw w (hF w hs)⟩
theorem SlAt.nil (F : Heaplet) (a : Option Addr) (cap : Nat) : SlAt F (.slice a 0 cap) [] := ⟨a, cap, rfl, fun i s h => by simp at h⟩
theorem ba_nil (d : ByteArray) : (d.toList == []) = decide (d.size = 0) := by
  have h : d.toList = d.data.toList := ByteArray.toList_eq d
  rw [h, ba_size]
  cases d.data.toList <;> simp
set_option maxRecDepth 100000 in
theorem isOdd_any (s : Sl) (w : World) : Calls Tryd.prog 60 #[slV s] w (Pur (.bool (oddS s)) w) := by
  obtain ⟨u, d⟩ := s
  unfold oddS Pur slV
  simp only
  have hb := ba_nil d
  by_cases h1 : 200 < d.size
  · have h1' : (200 : Int) < (d.size : Int) := by omega
    have h0 : decide (d.size = 0) = false := decide_eq_false (by omega)
    rw [h0] at hb
    cases u
    all_goals
      go_enter Tryd.func60, Tryd.ntmps60
      go_wp2_with fail
      go_ret
      exact ⟨by rw [h0, decide_eq_true h1]; rfl, Grown.alloc w _⟩
  · have h1' : ((200 : Int) < (d.size : Int)) = False := eq_false (by omega)
    obtain ⟨z, hz⟩ : ∃ z, decide (d.size = 0) = z := ⟨_, rfl⟩
    rw [hz] at hb
    rw [hz]
    cases u <;> cases z
    all_goals
      go_enter Tryd.func60, Tryd.ntmps60
      go_wp2_with fail
      go_ret
      exact ⟨by rw [decide_eq_false h1]; rfl, Grown.alloc w _⟩
/-- How many bytes the first ones need. -/
def szN (L : List Sl) (i : Nat) : Nat := szL (L.take i)
theorem szN_succ {L : List Sl} {i : Nat} {s : Sl} (h : L[i]? = some s) : szN L (i + 1) = szN L i + (1 + s.2.size) := by
  unfold szN szL
  rw [List.take_add_one, h]
  simp; omega
set_option maxRecDepth 100000 in
theorem size_any {v : Value} {L : List Sl} {F : Heaplet} {w : World} (hv : SlAt F v L) (s : Sat w F) (hl : L.length ≤ 1000) (hd : ∀ x ∈ L, x.2.size ≤ 1000000) :
    Calls Tryd.prog 61 #[v] w (Pur (.int .i64 (szL L)) w) := by
  obtain ⟨a, cap, rfl, hc⟩ := hv
  unfold Pur
  have HC := Lib.hid hc
  have HS := Lib.hid s
  have HD := Lib.hid hd
  have hb : ∀ i, i ≤ L.length → szN L i ≤ 9 + 1000001 * i := by
    intro i
    induction i with
    | zero => intro _; simp [szN, szL]
    | succ i ih =>
      intro hi
      have h1 := szN_succ (L := L) (i := i) (List.getElem?_eq_getElem (by omega))
      have h2 := hd _ (List.getElem_mem (h := (by omega : i < L.length)))
      have h3 := ih (by omega)
      omega
  have HB := Lib.hid hb
  have hl9 : (L.length : Int) ≤ 1000 := by omega
  clear hc s hd hb
  go_enter Tryd.func61, Tryd.ntmps61
  go_wp2_with fail
  go_loopw [3, 8] (fun v3 v8 wr => ∃ i : Nat, i ≤ L.length ∧ v8 = .int .i64 i ∧ v3 = .int .i64 (szN L i) ∧ Grown w wr) (fun _ v8 _ => 2000 - (RowKit.intOf v8).toNat)
  case atStart => exact ⟨0, by omega, rfl, rfl, Grown.refl w⟩
  case round =>
    obtain ⟨i, hi, rfl, rfl, hg⟩ := hrel
    have i0 : (0 : Int) ≤ (i : Int) := by omega
    have i9 : (i : Int) ≤ 1000 := by omega
    have hz := HB.out i hi
    by_cases hil : i < L.length
    · have i1 : (i : Int) < (L.length : Int) := by omega
      obtain ⟨x, hx⟩ : ∃ x, L[i]? = some x := ⟨_, List.getElem?_eq_getElem hil⟩
      obtain ⟨g, off, e, hu⟩ := HC.out i x hx
      subst e
      obtain ⟨u0, u1⟩ := hu wr (HS.out.grown hg)
      have hst := szN_succ hx
      have hxs := HD.out x (List.mem_of_getElem? hx)
      obtain ⟨xu, xd⟩ := x
      simp only at u0 u1 hst hxs
      have G1 := Lib.hid (hg.trans (Grown.alloc wr (.cells #[.bool xu, kS xd] 60)))
      have HST := Lib.hid hst
      have q0 : (0 : Int) ≤ (xd.size : Int) := by omega
      have q1 : (xd.size : Int) ≤ 1000000 := by omega
      have q2 : (0 : Int) ≤ (szN L i : Int) := by omega
      have q3 : (szN L i : Int) ≤ 1000001009 := by omega
      have q4 : wrap64 (1 + (xd.size : Int)) = 1 + (xd.size : Int) := IntWalk.wrap64_in _ (by omega)
      have q5 : wrap64 ((szN L i : Int) + (1 + (xd.size : Int))) = (szN L (i + 1) : Int) := by rw [IntWalk.wrap64_in _ (by omega), hst]; omega
      have q6 : IntKind.i64.wrap (1 + (xd.size : Int)) = 1 + (xd.size : Int) := IntWalk.i64_in _ (by omega)
      have q7 : IntKind.i64.wrap ((szN L i : Int) + (1 + (xd.size : Int))) = (szN L (i + 1) : Int) := by rw [IntWalk.i64_in _ (by omega), hst]; omega
      clear hx hu hg hst hxs hz
      go_upto_region 5 with (fail)
      go_wp2_with fail
      exact ⟨⟨i + 1, by omega, by simp, by simp [HST.out], G1.out⟩, by simp only [RowKit.intOf]; omega⟩
    · obtain rfl : i = L.length := by omega
      have e : szN L L.length = szL L := by unfold szN; rw [List.take_length]
      have G1 := Lib.hid hg
      clear hg hil hi
      go_wp2_with fail
      go_ret
      exact ⟨by rw [e]; rfl, G1.out⟩
end Go.Proofs.YtgocmnejlbfplaaDoor
