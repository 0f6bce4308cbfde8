/- A slice of the program's own, block-wise: append, and what it reads. -/
import Derived.Test.YtieaamlpadlfeaaGreatDoorBase
import Derived.Laws.AppendOwn
import Derived.WalkKit
namespace Go.Proofs.YtieaamlpadlfeaaGreatDoor
open Go

/-- THE SLICE v HOLDS n ELEMENTS (sz cells each, element type T), their cells in a row cs; h: the block that is its own (none if it is nil). -/
def SliceIs (T : TypeId) (sz : Nat) (v : Value) (n : Nat) (cs : List Value) (h : Heaplet) : Prop :=
  cs.length = n * sz ∧ ((v = .slice none 0 0 ∧ n = 0 ∧ h = []) ∨
    ∃ g cap cur, v = .slice (some ⟨g, 0, none⟩) n cap ∧ n ≤ cap ∧ cap ≤ maxLen ∧ cur.size = cap * sz ∧ cur.toList.take (n * sz) = cs ∧ h = [.blk g (.cells cur T)])
theorem SliceIs.nil (T : TypeId) (sz : Nat) : SliceIs T sz (.slice none 0 0) 0 [] [] := ⟨by simp, .inl ⟨rfl, rfl, rfl⟩⟩
theorem heap_setRow {w : World} {g : Nat} {old cs : Array Value} {t : TypeId} {z : Nat × Nat} (h : w.heap[g]? = some (.cells old t z)) : (w.setRow g cs).heap = w.heap.setIfInBounds g (.cells cs t z) := by
  apply Array.ext_getElem?
  intro j
  by_cases e : j = g
  · subst e
    rw [setRow_heap w j old cs t z h]
    have hlt := (Array.getElem?_eq_some_iff.1 h).1
    simp [hlt]
  · rw [setRow_other w g j cs e, Array.getElem?_setIfInBounds_ne (fun q => e q.symm)]
section
variable {P : Program} {w : World} {T t ty : TypeId} {i : TypeInfo} {z : Value} {sz bytes : Nat} {v : Value} {n : Nat} {cs : List Value} {h F : Heaplet}
/-- 'append(v, x..)' onto a slice of one's own, out of a slice whose cells are known. -/
theorem sat_append (ht : P.underlying t = some (.slice T)) (hi : P.info? T = some i) (hz : i.zero = some z) (hsize : i.size = sz) (hby : i.bytes = bytes) (hzs : z.cells.size = sz) (hsz : 0 < sz)
    (hv : SliceIs T sz v n cs h) (s : Sat w (h ++ F)) (a : Addr) (m c : Nat) (news : List Value) (hl : news.length = m * sz) (hnews : ∀ j u, news[j]? = some u → w.cell? (a.add j) = some u) (h1 : ∀ u ∈ news, u.oneCell' = true)
    (hm : 0 < m) (h63 : n + m ≤ maxLen) (hbytes : (n + m) * bytes ≤ 140737488355328) :
    ∃ v' w' h', (Builtin.append_ #[t, t] ty #[v, .slice (some a) m c]).run P w = .ok v' w' ∧ SliceIs T sz v' (n + m) (cs ++ news) h' ∧ Sat w' (h' ++ F) := by
  subst hsize
  subst hby
  have hsmall : n + m ≤ 9223372036854775807 := by simp only [maxLen] at h63; omega
  have hlen : (cs ++ news).length = (n + m) * i.size := by rw [List.length_append, hv.1, hl, Nat.add_mul]
  rcases hv.2 with ⟨rfl, rfl, rfl⟩ | ⟨g, cap, cur, rfl, hnc, hcm, hcs, htake, rfl⟩
  · have hx : cs = [] := List.eq_nil_of_length_eq_zero (by simpa using hv.1)
    subst hx
    have hr := run_append_nil (P := P) w t ty T i z ht hi hz a m c news hl hnews hm (by omega) (by simp only [Nat.zero_add] at hbytes; omega)
    have hge := grownCap_ge w m 0 T
    have hcm := grownCap_le_maxLen w m 0 T (by omega)
    refine ⟨_, _, _, hr, ⟨hlen, .inr ⟨w.heap.size, _, _, by simp, by omega, hcm, ?_, ?_, rfl⟩⟩, (Sat.drew s).new _⟩
    · simp only [Array.size_append, List.size_toArray, size_zeroCells, hzs, hl, ← Nat.add_mul]
      congr 1; omega
    · simp only [Array.toList_append, List.nil_append]
      rw [← hlen]
      simp only [List.nil_append]
      exact List.take_left
  · have holds : ∀ j u, cs[j]? = some u → w.cell? ((⟨g, 0, none⟩ : Addr).add j) = some u := by
      intro j u hu
      have hadd : (⟨g, 0, none⟩ : Addr).add j = ⟨g, j, none⟩ := by unfold Addr.add; split <;> simp_all
      rw [hadd, cell_of s.h0]
      rw [← htake, List.getElem?_take] at hu
      split at hu
      · rwa [Array.getElem?_toList] at hu
      · cases hu
    by_cases hroom : n + m ≤ cap
    · have hfit : n * i.size + news.length ≤ cur.size := by rw [hl, hcs, ← Nat.add_mul]; exact Nat.mul_le_mul_right _ hroom
      have hr := run_append_room (P := P) w t ty T i ht hi g n cap cur s.h0 a m c news hl hnews h1 hroom hfit
      refine ⟨_, _, _, hr, ⟨hlen, .inr ⟨g, cap, _, rfl, hroom, hcm, ?_, ?_, rfl⟩⟩, Sat.set s _ (heap_setRow s.h0) ⟨rfl, rfl, rfl⟩⟩
      · simp only [List.size_toArray, List.length_append, List.length_take, List.length_drop, Array.length_toList]
        omega
      · rw [htake, ← hlen]
        exact List.take_left
    · have hr := run_append_grow (P := P) w t ty T i z ht hi hz ⟨g, 0, none⟩ n cap cs hv.1 holds a m c news hl hnews (by omega) (by omega) (growslice_fits (by omega) hbytes)
      have hge := grownCap_ge w (n + m) cap T
      have hcm2 := grownCap_le_maxLen w (n + m) cap T h63
      refine ⟨_, _, _, hr, ⟨hlen, .inr ⟨w.heap.size, _, _, rfl, hge, hcm2, ?_, ?_, rfl⟩⟩, ((Sat.drew s).tail).new _⟩
      · simp only [Array.size_append, List.size_toArray, size_zeroCells, hzs, hv.1, hl, ← Nat.add_mul]
        congr 1; omega
      · simp only [Array.toList_append, List.append_assoc]
        rw [← List.append_assoc, ← hlen]
        exact List.take_left
/-- At the operation: the run of the append is known. -/
theorem wpList_append_run {ops : Array Oper} {rest : List Oper} {o : Oper} {a : Act} {Q : Exit → Act → World → Prop} (hgd : o.guard = none) (s x : Operand) (t1 t2 : TypeId)
    (ho : o.op = .call { callee := .builtin .append, args := #[s, x], argTypes := #[t1, t2] }) (v xv v' : Value) (w' : World) (hs : a.eval s = v) (hx : a.eval x = xv)
    (hr : ∀ ty, (Builtin.append_ #[t1, t2] ty #[v, xv]).run P w = .ok v' w') (hK : wpList P ops Q rest (a.put o.dst v') w') : wpList P ops Q (o :: rest) a w :=
  wpList_plain hgd fun _ hk => by
    unfold Oper.wp execOp
    simp only [ho, resolve, invoke, builtin, Sem.run_bind, Sem.run_pure, Result.andThen_ok, List.map_toArray, List.map_cons, List.map_nil, hs, hx, hr]
    exact hk _ _ hK
/-- What the slice's cells hold. -/
theorem SliceIs.cell (hv : SliceIs T sz v n cs h) (s : Sat w (h ++ F)) {g : Nat} {off len cap : Nat} (e : v = .slice (some ⟨g, off, none⟩) len cap) {j : Nat} {u : Value} (hu : cs[j]? = some u) : off = 0 ∧ len = n ∧ w.cell? ⟨g, j, none⟩ = some u := by
  rcases hv.2 with ⟨rfl, _⟩ | ⟨g', cap', cur, rfl, hnc, hcm, hcs, htake, rfl⟩
  · cases e
  · simp only [Value.slice.injEq, Option.some.injEq, Addr.mk.injEq] at e
    obtain ⟨⟨rfl, rfl, _⟩, rfl, rfl⟩ := e
    refine ⟨rfl, rfl, ?_⟩
    rw [cell_of s.h0]
    rw [← htake, List.getElem?_take] at hu
    split at hu
    · rwa [Array.getElem?_toList] at hu
    · cases hu
end
end Go.Proofs.YtieaamlpadlfeaaGreatDoor
