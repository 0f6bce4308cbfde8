/- 'append(a, b...)' of whole slices of one's own, an empty one too. Conditions: none. -/
import Derived.Test.YtgocmnejlbfplaaDoorSl
namespace Go.Proofs.YtgocmnejlbfplaaDoor
open Go Go.MapKept Go.RowKit Go.Proofs

section
variable {α : Type} {fl : α → List Value} {T t : TypeId} {sz n : Nat} {v : Value} {R : List α} {h F : Heaplet} {w : World} {P : Program}
theorem run_append_zero {i : TypeInfo} (ht : P.underlying t = some (.slice T)) (hi : P.info? T = some i) (a p : Option Addr) (n cap c : Nat) (hn : n ≤ cap) (ty : TypeId) :
    (Builtin.append_ #[t, t] ty #[.slice a n cap, .slice p 0 c]).run P w = .ok (.slice a n cap) w := by
  cases p with
  | none =>
    cases a with
    | none => simp [Builtin.append_, run_underlying ht, sizeOf, typeInfo, hi, Builtin.lenOf, hn, Builtin.firstCells]
    | some a => simp [Builtin.append_, run_underlying ht, sizeOf, typeInfo, hi, Builtin.lenOf, hn, Builtin.firstCells, storeCells]
  | some p =>
    have hf := run_firstCells_some (P := P) w i.size 0 p 0 c [] (by simp) (by simp)
    cases a with
    | none => simp [Builtin.append_, run_underlying ht, sizeOf, typeInfo, hi, Builtin.lenOf, hn, hf]
    | some a => simp [Builtin.append_, run_underlying ht, sizeOf, typeInfo, hi, Builtin.lenOf, hn, hf, storeCells]
theorem fm_inv (hfl : ∀ q, (fl q).length = sz) (hsz : 0 < sz) {j : Nat} {u : Value} (hu : (R.flatMap fl)[j]? = some u) : ∃ q, R[j / sz]? = some q ∧ (fl q)[j % sz]? = some u := by
  have hlt := (List.getElem?_eq_some_iff.1 hu).1
  rw [fm_len hfl] at hlt
  have hi : j / sz < R.length := Nat.div_lt_of_lt_mul (by rw [Nat.mul_comm]; exact hlt)
  refine ⟨R[j / sz], List.getElem?_eq_getElem hi, ?_⟩
  have hf : j % sz < (fl R[j / sz]).length := by rw [hfl]; exact Nat.mod_lt _ hsz
  have := fm_get hfl R (j / sz) (j % sz) _ _ (List.getElem?_eq_getElem hi) (List.getElem?_eq_getElem hf)
  rw [Nat.mul_comm, Nat.div_add_mod, hu] at this
  rw [List.getElem?_eq_getElem hf, this]
/-- Where the elements of what is appended lie. -/
def SrcAt (fl : α → List Value) (sz : Nat) (w : World) (a : Option Addr) (R : List α) : Prop :=
  ∀ i q, R[i]? = some q → ∃ g off, a = some ⟨g, off, none⟩ ∧ ∀ j u, (fl q)[j]? = some u → w.cell? ⟨g, off + i * sz + j, none⟩ = some u
theorem sl_app {i : TypeInfo} {z : Value} {bytes : Nat} (hfl : ∀ q, (fl q).length = sz) (ht : P.underlying t = some (.slice T)) (hi : P.info? T = some i) (hz : i.zero = some z) (hsize : i.size = sz) (hby : i.bytes = bytes) (hzs : z.cells.size = sz) (hsz : 0 < sz)
    (hv : SliceIs T sz v R.length (R.flatMap fl) h) (s : Sat w (h ++ F)) {a : Option Addr} {c : Nat} {R2 : List α} (hs : SrcAt fl sz w a R2) (h1 : ∀ q, ∀ u ∈ fl q, u.oneCell' = true) (h63 : R.length + R2.length ≤ maxLen) (hbytes : (R.length + R2.length) * bytes ≤ 140737488355328) :
    ∃ v' w' h', (∀ ty, (Builtin.append_ #[t, t] ty #[v, .slice a R2.length c]).run P w = .ok v' w') ∧ SliceIs T sz v' (R ++ R2).length ((R ++ R2).flatMap fl) h' ∧ Sat w' (h' ++ F) := by
  by_cases h0 : R2 = []
  · subst h0
    obtain ⟨va, vc, rfl⟩ := sl_form hv
    have hn : R.length ≤ vc := by
      rcases hv.2 with ⟨e2, e3, _⟩ | ⟨g', cap', cur, e2, hnc, _⟩
      · omega
      · simp only [Value.slice.injEq] at e2
        omega
    refine ⟨_, w, h, fun ty => run_append_zero ht hi va a R.length vc c hn ty, ?_, s⟩
    simpa using hv
  · have hpos : 0 < R2.length := List.length_pos_iff.2 h0
    obtain ⟨q0, hq0⟩ : ∃ q, R2[0]? = some q := ⟨_, List.getElem?_eq_getElem hpos⟩
    obtain ⟨g, off, rfl, _⟩ := hs 0 q0 hq0
    have hnews : ∀ j u, (R2.flatMap fl)[j]? = some u → w.cell? ((⟨g, off, none⟩ : Addr).add j) = some u := by
      intro j u hu
      obtain ⟨q, hq, hqu⟩ := fm_inv hfl hsz hu
      obtain ⟨g', off', e, hc⟩ := hs _ q hq
      cases e
      have := hc _ u hqu
      have hadd : (⟨g, off, none⟩ : Addr).add j = ⟨g, off + j, none⟩ := by
        unfold Addr.add
        by_cases hz : j = 0
        · simp [hz]
        · simp [hz]
      rw [hadd]
      rw [Nat.add_assoc, Nat.mul_comm, Nat.div_add_mod] at this
      exact this
    obtain ⟨v', w', h', hr, hsl, hsat⟩ := sat_append (P := P) (ty := 0) ht hi hz hsize hby hzs hsz hv s ⟨g, off, none⟩ R2.length c (R2.flatMap fl) (fm_len hfl R2) hnews (fun u hu => by
      obtain ⟨q, _, hq⟩ := List.mem_flatMap.1 hu
      exact h1 q u hq) hpos h63 hbytes
    refine ⟨v', w', h', fun ty => hr, ?_, hsat⟩
    rw [List.length_append, List.flatMap_append]
    exact hsl
end
end Go.Proofs.YtgocmnejlbfplaaDoor
