/- Maps whose values are pointers: the blocks behind them, in a row. Conditions: none. -/
import Derived.Test.YthgfbnopbfiifaaBase
import Derived.Test.YthgfbnopbfiifaaApp
namespace Go.Proofs.Ythgfbnopbfiifaa
open Go Go.MapKept Go.RowKit Go.Proofs

section
variable {V U : Type}
/-- What is read of the values. -/
def seenL (f : V → U) (L : List (Int × V)) : List (Int × U) := L.map fun p => (p.1, f p.2)
/-- The blocks behind the values. -/
def heapL (f : V → Heaplet) (L : List (Int × V)) : Heaplet := L.flatMap fun p => f p.2
theorem getL_seen (f : V → U) (k : Int) : ∀ L : List (Int × V), getL k (seenL f L) = (getL k L).map f
  | [] => rfl
  | q :: r => by
    have ih := getL_seen f k r
    unfold seenL at ih ⊢
    by_cases h : q.1 = k
    · simp [getL, h]
    · simp [getL, h, ih]
theorem seen_put (f : V → U) (k : Int) (v : V) : ∀ L : List (Int × V), seenL f (putL k v L) = putL k (f v) (seenL f L)
  | [] => rfl
  | q :: r => by
    have ih := seen_put f k v r
    unfold seenL at ih ⊢
    by_cases h : q.1 = k
    · simp [putL, h]
    · simp [putL, h, ih]
theorem seen_del (f : V → U) (k : Int) : ∀ L : List (Int × V), seenL f (delL k L) = delL k (seenL f L)
  | [] => rfl
  | q :: r => by
    have ih := seen_del f k r
    unfold seenL at ih ⊢
    by_cases h : q.1 = k
    · simp [delL, h]
    · simp [delL, h, ih]
theorem seen_keys (f : V → U) (L : List (Int × V)) : (seenL f L).map (·.1) = L.map (·.1) := by
  unfold seenL
  rw [List.map_map]; rfl
theorem heapL_get (f : V → Heaplet) {k : Int} {v : V} : ∀ {L : List (Int × V)}, getL k L = some v → (heapL f L).Perm (f v ++ heapL f (delL k L))
  | q :: r, h => by
    by_cases e : q.1 = k
    · simp only [getL, e, if_true, Option.some.injEq] at h
      subst h
      simp [delL, e, heapL]
    · simp only [getL, e, if_false] at h
      have ih := heapL_get f h
      simp only [delL, e, if_false, heapL, List.flatMap_cons] at ih ⊢
      exact (List.Perm.append_left _ ih).trans (List.perm_append_comm_assoc _ _ _)
theorem heapL_put (f : V → Heaplet) {k : Int} {v u : V} : ∀ {L : List (Int × V)}, getL k L = some v → (heapL f (putL k u L)).Perm (f u ++ heapL f (delL k L))
  | q :: r, h => by
    by_cases e : q.1 = k
    · simp [putL, delL, e, heapL]
    · simp only [getL, e, if_false] at h
      have ih := heapL_put f (u := u) h
      simp only [putL, delL, e, if_false, heapL, List.flatMap_cons] at ih ⊢
      exact (List.Perm.append_left _ ih).trans (List.perm_append_comm_assoc _ _ _)
theorem heapL_new (f : V → Heaplet) {k : Int} {u : V} : ∀ {L : List (Int × V)}, getL k L = none → (heapL f (putL k u L)).Perm (f u ++ heapL f L)
  | [], _ => by simp [putL, heapL]
  | q :: r, h => by
    by_cases e : q.1 = k
    · simp [getL, e] at h
    · simp only [getL, e, if_false] at h
      have ih := heapL_new f (u := u) h
      simp only [putL, e, if_false, heapL, List.flatMap_cons] at ih ⊢
      exact (List.Perm.append_left _ ih).trans (List.perm_append_comm_assoc _ _ _)
theorem pairs_put {ve : V → Value} {k : Int} {v u : V} (e : ve u = ve v) : ∀ {L : List (Int × V)}, getL k L = some v → (putL k u L).map (fun q => (kI q.1, ve q.2)) = L.map (fun q => (kI q.1, ve q.2))
  | q :: r, h => by
    by_cases e1 : q.1 = k
    · simp only [getL, e1, if_true, Option.some.injEq] at h
      simp [putL, e1, e, h]
    · simp only [getL, e1, if_false] at h
      have ih := pairs_put e h
      simp only [putL, e1, if_false, List.map_cons, ih]
theorem mapOk_put {ve : V → Value} {es : Array MapEntry} {clk : Nat} {L : List (Int × V)} (h : MapOk (.int .i64) kI ve es clk L) {k : Int} {v u : V} (hk : getL k L = some v) (e : ve u = ve v) : MapOk (.int .i64) kI ve es clk (putL k u L) :=
  ⟨h.reads.trans (pairs_put e hk).symm, h.isKey, h.inj, h.stamped⟩
end
end Go.Proofs.Ythgfbnopbfiifaa
