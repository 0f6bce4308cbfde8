/- Rows of records in memory: two change places; compared. Conditions: none. -/
import Derived.Test.YtficgjklagnbjaaGreatSt1
namespace Go.Proofs.YtficgjklagnbjaaGreat
open Go Go.MapKept Go.RowKit Go.Proofs Go.Shelf Go.Sort St

attribute [local go_sem] Oper.semAt_some

abbrev rwV (r : Rw) : Value := .agg #[kI r.1, kI r.2.1, kS r.2.2]
theorem rw_old {R : List Rw} {h F : Heaplet} {w : World} {g len cap k : Nat} {r : Rw} (hv : RwSl (.slice (some ⟨g, 0, none⟩) len cap) R h) (s : Sat w (h ++ F)) (hk : R[k]? = some r) :
    (∀ i, w.frozen? ⟨g, i, none⟩ = false) ∧ w.cell? ⟨g, k * 3, none⟩ = some (kI r.1) ∧ w.cell? ⟨g, k * 3 + 1, none⟩ = some (kI r.2.1) ∧ w.cell? ⟨g, k * 3 + 2, none⟩ = some (kS r.2.2) := by
  obtain ⟨_, _, el⟩ := sl_form hv
  cases el
  constructor
  · rcases hv.2 with ⟨e, _⟩ | ⟨g', cap', cur, e, _, _, _, _, rfl⟩
    · cases e
    · simp only [Value.slice.injEq, Option.some.injEq, Addr.mk.injEq] at e
      obtain ⟨⟨rfl, _, _⟩, _, rfl⟩ := e
      exact unfrozen_of (Sat.h0 s)
  · obtain ⟨a', cap', e, hc⟩ := sl_cells rwC_len hv s
    cases e
    obtain ⟨g', ea, _, hu⟩ := hc k r hk
    cases ea
    exact ⟨hu 0 _ rfl, hu 1 _ rfl, hu 2 _ rfl⟩
theorem rw_set3 {R : List Rw} {h F : Heaplet} {w : World} {g len cap k : Nat} {r : Rw} (r' : Rw) (hv : RwSl (.slice (some ⟨g, 0, none⟩) len cap) R h) (s : Sat w (h ++ F)) (hk : R[k]? = some r) :
    ∃ h', RwSl (.slice (some ⟨g, 0, none⟩) len cap) (R.set k r') h' ∧ Sat (((w.setCell ⟨g, k * 3, none⟩ (kI r'.1)).setCell ⟨g, k * 3 + 1, none⟩ (kI r'.2.1)).setCell ⟨g, k * 3 + 2, none⟩ (kS r'.2.2)) (h' ++ F) := by
  have hkl := (List.getElem?_eq_some_iff.1 hk).1
  obtain ⟨_, _, el⟩ := sl_form hv
  cases el
  have sg : ∀ (Z' : List Rw), Z'.length = R.length → ∀ k, RwSl (.slice (some ⟨g, 0, none⟩) R.length cap) Z' k → RwSl (.slice (some ⟨g, 0, none⟩) Z'.length cap) Z' k := fun Z' e k hk => by rw [e]; exact hk
  obtain ⟨k1, a1, s1⟩ := sl_set (f := 0) (q' := ((r'.1, r.2.1, r.2.2) : Rw)) rwC_len hv s hk (by decide) (u := kI r'.1) rfl
  have g1 := sg _ List.length_set _ a1
  obtain ⟨k2, a2, s2⟩ := sl_set (f := 1) (q' := ((r'.1, r'.2.1, r.2.2) : Rw)) rwC_len g1 s1 (List.getElem?_set_self hkl) (by decide) (u := kI r'.2.1) rfl
  rw [List.set_set] at a2
  have g2 := sg _ List.length_set _ (by rw [List.length_set] at a2; exact a2)
  obtain ⟨k3, a3, s3⟩ := sl_set (f := 2) (q' := r') rwC_len g2 s2 (List.getElem?_set_self hkl) (by decide) (u := kS r'.2.2) rfl
  rw [List.set_set] at a3
  exact ⟨k3, by rw [List.length_set] at a3; exact a3, s3⟩
/-- The world behind a change of places. -/
abbrev swW (w : World) (g p q : Nat) (x y : Rw) : World := (((((w.setCell ⟨g, p * 3, none⟩ (kI y.1)).setCell ⟨g, p * 3 + 1, none⟩ (kI y.2.1)).setCell ⟨g, p * 3 + 2, none⟩ (kS y.2.2)).setCell ⟨g, q * 3, none⟩ (kI x.1)).setCell ⟨g, q * 3 + 1, none⟩ (kI x.2.1)).setCell ⟨g, q * 3 + 2, none⟩ (kS x.2.2)
theorem rw_swap {R : List Rw} {h F : Heaplet} {w : World} {g len cap p q : Nat} {x y : Rw} (hv : RwSl (.slice (some ⟨g, 0, none⟩) len cap) R h) (s : Sat w (h ++ F)) (hp : R[p]? = some x) (hq : R[q]? = some y) :
    ∃ h', RwSl (.slice (some ⟨g, 0, none⟩) len cap) (swq R p q) h' ∧ Sat (swW w g p q x y) (h' ++ F) := by
  obtain ⟨h1, a1, s1⟩ := rw_set3 y hv s hp
  obtain ⟨z, hz⟩ : ∃ z, (R.set p y)[q]? = some z := ⟨_, List.getElem?_eq_getElem (by rw [List.length_set]; exact (List.getElem?_eq_some_iff.1 hq).1)⟩
  obtain ⟨h2, a2, s2⟩ := rw_set3 x a1 s1 hz
  have e : swq R p q = (R.set p y).set q x := by unfold swq; rw [hp, hq]
  exact ⟨h2, by rw [e]; exact a2, s2⟩
/-- Between the two stores of a change of places. -/
theorem rw_mid {R : List Rw} {h F : Heaplet} {w : World} {g len cap p q : Nat} {x y : Rw} (hv : RwSl (.slice (some ⟨g, 0, none⟩) len cap) R h) (s : Sat w (h ++ F)) (hp : R[p]? = some x) (hq : R[q]? = some y) :
    ∃ z0 z1 z2 : Rw, (w.setCell ⟨g, p * 3, none⟩ (kI y.1)).cell? ⟨g, q * 3, none⟩ = some (kI z0.1) ∧ ((w.setCell ⟨g, p * 3, none⟩ (kI y.1)).setCell ⟨g, p * 3 + 1, none⟩ (kI y.2.1)).cell? ⟨g, q * 3 + 1, none⟩ = some (kI z1.2.1) ∧ (((w.setCell ⟨g, p * 3, none⟩ (kI y.1)).setCell ⟨g, p * 3 + 1, none⟩ (kI y.2.1)).setCell ⟨g, p * 3 + 2, none⟩ (kS y.2.2)).cell? ⟨g, q * 3 + 2, none⟩ = some (kS z2.2.2) := by
  obtain ⟨_, _, el⟩ := sl_form hv
  cases el
  have sg : ∀ (Z' : List Rw), Z'.length = R.length → ∀ k, RwSl (.slice (some ⟨g, 0, none⟩) R.length cap) Z' k → RwSl (.slice (some ⟨g, 0, none⟩) Z'.length cap) Z' k := fun Z' e k hk => by rw [e]; exact hk
  have hz : ∀ u : Rw, ∃ z, (R.set p u)[q]? = some z := fun u => ⟨_, List.getElem?_eq_getElem (by rw [List.length_set]; exact (List.getElem?_eq_some_iff.1 hq).1)⟩
  have hkl := (List.getElem?_eq_some_iff.1 hp).1
  obtain ⟨k1, a1, s1⟩ := sl_set (f := 0) (q' := ((y.1, x.2.1, x.2.2) : Rw)) rwC_len hv s hp (by decide) (u := kI y.1) rfl
  have g1 := sg _ List.length_set _ a1
  obtain ⟨k2, a2, s2⟩ := sl_set (f := 1) (q' := ((y.1, y.2.1, x.2.2) : Rw)) rwC_len g1 s1 (List.getElem?_set_self hkl) (by decide) (u := kI y.2.1) rfl
  rw [List.set_set] at a2
  have g2 := sg _ List.length_set _ (by rw [List.length_set] at a2; exact a2)
  obtain ⟨k3, a3, s3⟩ := rw_set3 y hv s hp
  obtain ⟨z0, h0⟩ := hz (y.1, x.2.1, x.2.2)
  obtain ⟨z1, h1⟩ := hz (y.1, y.2.1, x.2.2)
  obtain ⟨z2, h2⟩ := hz y
  exact ⟨z0, z1, z2, (rw_old g1 s1 h0).2.1, (rw_old g2 s2 h1).2.2.1, (rw_old a3 s3 h2).2.2.2⟩
set_option maxRecDepth 100000 in
theorem rcmp_any (x y : Rw) (w : World) : Calls Tryz.prog 41 #[rwV x, rwV y] w (Ret (kI (cmpI x.1 y.1)) (Below w.heap.size w)) := by
  have hs := ((sat_all w).new (.cells #[kI x.1, kI x.2.1, kS x.2.2] 73)).new (.cells #[kI y.1, kI y.2.1, kS y.2.2] 73)
  rw [World.size_alloc] at hs
  have x0 : ((w.alloc (.cells #[kI x.1, kI x.2.1, kS x.2.2] 73)).alloc (.cells #[kI y.1, kI y.2.1, kS y.2.2] 73)).cell? ⟨w.heap.size, 0, none⟩ = some (kI x.1) := by rw [cell_of hs.h1]; rfl
  have y0 : ((w.alloc (.cells #[kI x.1, kI x.2.1, kS x.2.2] 73)).alloc (.cells #[kI y.1, kI y.2.1, kS y.2.2] 73)).cell? ⟨w.heap.size + 1, 0, none⟩ = some (kI y.1) := by rw [cell_of hs.h0]; rfl
  have HB := Lib.hid (Sat.below hs.tail.tail)
  clear hs
  go_enter Tryz.func41, Tryz.ntmps41
  go_wp2_with (go_at_call 42; refine (compare_int _ _ _).mono ?_; rintro e w' ⟨rfl, rfl⟩)
  go_ret
  exact ⟨rfl, HB.out⟩
theorem cmpI_lt {a b : Int} : (cmpI a b < 0) ↔ a < b := by
  unfold cmpI
  by_cases h : a < b
  · rw [if_pos h]; omega
  · rw [if_neg h]
    by_cases h2 : b < a
    · rw [if_pos h2]; omega
    · rw [if_neg h2]; omega
/-- Rows turned in place. -/
def SwRet (g n cap : Nat) (G : Heaplet) (P : List Rw → Prop) (e : Ending) (w' : World) : Prop := ∃ R h', e = .returned (.tuple #[]) ∧ P R ∧ RwSl (.slice (some ⟨g, 0, none⟩) n cap) R h' ∧ Sat w' (h' ++ G)
end Go.Proofs.YtficgjklagnbjaaGreat
