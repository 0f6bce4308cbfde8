/- Texts put together: App, MapBr, Sl, Grow, PaM, MeM, Pg1, Idx. Conditions: none. -/
import Derived.Laws.AppendOwn
import Derived.WalkKit
import Derived.Shelf.SlIterI.Nil
import Derived.Shelf.SortM.Plain
import Derived.Shelf.SortM.SortNone
import Derived.OwnWalk
import Derived.Sort.Grow
import Derived.Shelf.SlSortCmp.QuietGrown
import Derived.Test.YtficgjklagnbjaaGreatProg
import Derived.ProofKit
import Derived.Lib.Hide
import Derived.Deep.CutBlock
import Derived.Test.YtficgjklagnbjaaGreatFo1
namespace Go.Proofs.YtficgjklagnbjaaGreat
open Go

/-- THE SLICE v HOLDS n ELEMENTS (sz cells each, element type T), their cells in a row cs; h: the block that is its own (none if it is nil). -/
def SliceIs (T : TypeId) (sz : Nat) (v : Value) (n : Nat) (cs : List Value) (h : Heaplet) : Prop :=
  cs.length = n * sz ∧ ((v = .slice none 0 0 ∧ n = 0 ∧ h = []) ∨
    ∃ g cap cur, v = .slice (some ⟨g, 0, none⟩) n cap ∧ n ≤ cap ∧ cap ≤ maxLen ∧ cur.size = cap * sz ∧ cur.toList.take (n * sz) = cs ∧ h = [.blk g (.cells cur T)])
theorem SliceIs.nil (T : TypeId) (sz : Nat) : SliceIs T sz (.slice none 0 0) 0 [] [] := ⟨by simp, .inl ⟨rfl, rfl, rfl⟩⟩
theorem heap_setRow {w : World} {g : Nat} {old cs : Array Value} {t : TypeId} {z : Nat × Nat} (h : w.heap[g]? = some (.cells old t z)) : (w.setRow g cs).heap = w.heap.setIfInBounds g (.cells cs t z) := by
  apply Array.ext_getElem?
  intro j
  by_cases e : j = g
  · subst e
    rw [setRow_heap w j old cs t z h]
    have hlt := (Array.getElem?_eq_some_iff.1 h).1
    simp [hlt]
  · rw [setRow_other w g j cs e, Array.getElem?_setIfInBounds_ne (fun q => e q.symm)]
section
variable {P : Program} {w : World} {T t ty : TypeId} {i : TypeInfo} {z : Value} {sz bytes : Nat} {v : Value} {n : Nat} {cs : List Value} {h F : Heaplet}
/-- 'append(v, x..)' onto a slice of one's own, out of a slice whose cells are known. -/
theorem sat_append (ht : P.underlying t = some (.slice T)) (hi : P.info? T = some i) (hz : i.zero = some z) (hsize : i.size = sz) (hby : i.bytes = bytes) (hzs : z.cells.size = sz) (hsz : 0 < sz)
    (hv : SliceIs T sz v n cs h) (s : Sat w (h ++ F)) (a : Addr) (m c : Nat) (news : List Value) (hl : news.length = m * sz) (hnews : ∀ j u, news[j]? = some u → w.cell? (a.add j) = some u) (h1 : ∀ u ∈ news, u.oneCell' = true)
    (hm : 0 < m) (h63 : n + m ≤ maxLen) (hbytes : (n + m) * bytes ≤ 140737488355328) :
    ∃ v' w' h', (Builtin.append_ #[t, t] ty #[v, .slice (some a) m c]).run P w = .ok v' w' ∧ SliceIs T sz v' (n + m) (cs ++ news) h' ∧ Sat w' (h' ++ F) := by
  subst hsize
  subst hby
  have hsmall : n + m ≤ 9223372036854775807 := by simp only [maxLen] at h63; omega
  have hlen : (cs ++ news).length = (n + m) * i.size := by rw [List.length_append, hv.1, hl, Nat.add_mul]
  rcases hv.2 with ⟨rfl, rfl, rfl⟩ | ⟨g, cap, cur, rfl, hnc, hcm, hcs, htake, rfl⟩
  · have hx : cs = [] := List.eq_nil_of_length_eq_zero (by simpa using hv.1)
    subst hx
    have hr := run_append_nil (P := P) w t ty T i z ht hi hz a m c news hl hnews hm (by omega) (by simp only [Nat.zero_add] at hbytes; omega)
    have hge := grownCap_ge w m 0 T
    have hcm := grownCap_le_maxLen w m 0 T (by omega)
    refine ⟨_, _, _, hr, ⟨hlen, .inr ⟨w.heap.size, _, _, by simp, by omega, hcm, ?_, ?_, rfl⟩⟩, (Sat.drew s).new _⟩
    · simp only [Array.size_append, List.size_toArray, size_zeroCells, hzs, hl, ← Nat.add_mul]
      congr 1; omega
    · simp only [Array.toList_append, List.nil_append]
      rw [← hlen]
      simp only [List.nil_append]
      exact List.take_left
  · have holds : ∀ j u, cs[j]? = some u → w.cell? ((⟨g, 0, none⟩ : Addr).add j) = some u := by
      intro j u hu
      have hadd : (⟨g, 0, none⟩ : Addr).add j = ⟨g, j, none⟩ := by unfold Addr.add; split <;> simp_all
      rw [hadd, cell_of s.h0]
      rw [← htake, List.getElem?_take] at hu
      split at hu
      · rwa [Array.getElem?_toList] at hu
      · cases hu
    by_cases hroom : n + m ≤ cap
    · have hfit : n * i.size + news.length ≤ cur.size := by rw [hl, hcs, ← Nat.add_mul]; exact Nat.mul_le_mul_right _ hroom
      have hr := run_append_room (P := P) w t ty T i ht hi g n cap cur s.h0 a m c news hl hnews h1 hroom hfit
      refine ⟨_, _, _, hr, ⟨hlen, .inr ⟨g, cap, _, rfl, hroom, hcm, ?_, ?_, rfl⟩⟩, Sat.set s _ (heap_setRow s.h0) ⟨rfl, rfl, rfl⟩⟩
      · simp only [List.size_toArray, List.length_append, List.length_take, List.length_drop, Array.length_toList]
        omega
      · rw [htake, ← hlen]
        exact List.take_left
    · have hr := run_append_grow (P := P) w t ty T i z ht hi hz ⟨g, 0, none⟩ n cap cs hv.1 holds a m c news hl hnews (by omega) (by omega) (growslice_fits (by omega) hbytes)
      have hge := grownCap_ge w (n + m) cap T
      have hcm2 := grownCap_le_maxLen w (n + m) cap T h63
      refine ⟨_, _, _, hr, ⟨hlen, .inr ⟨w.heap.size, _, _, rfl, hge, hcm2, ?_, ?_, rfl⟩⟩, ((Sat.drew s).tail).new _⟩
      · simp only [Array.size_append, List.size_toArray, size_zeroCells, hzs, hv.1, hl, ← Nat.add_mul]
        congr 1; omega
      · simp only [Array.toList_append, List.append_assoc]
        rw [← List.append_assoc, ← hlen]
        exact List.take_left
/-- At the operation: the run of the append is known. -/
theorem wpList_append_run {ops : Array Oper} {rest : List Oper} {o : Oper} {a : Act} {Q : Exit → Act → World → Prop} (hgd : o.guard = none) (s x : Operand) (t1 t2 : TypeId)
    (ho : o.op = .call { callee := .builtin .append, args := #[s, x], argTypes := #[t1, t2] }) (v xv v' : Value) (w' : World) (hs : a.eval s = v) (hx : a.eval x = xv)
    (hr : ∀ ty, (Builtin.append_ #[t1, t2] ty #[v, xv]).run P w = .ok v' w') (hK : wpList P ops Q rest (a.put o.dst v') w') : wpList P ops Q (o :: rest) a w :=
  wpList_plain hgd fun _ hk => by
    unfold Oper.wp execOp
    simp only [ho, resolve, invoke, builtin, Sem.run_bind, Sem.run_pure, Result.andThen_ok, List.map_toArray, List.map_cons, List.map_nil, hs, hx, hr]
    exact hk _ _ hK
/-- What the slice's cells hold. -/
theorem SliceIs.cell (hv : SliceIs T sz v n cs h) (s : Sat w (h ++ F)) {g : Nat} {off len cap : Nat} (e : v = .slice (some ⟨g, off, none⟩) len cap) {j : Nat} {u : Value} (hu : cs[j]? = some u) : off = 0 ∧ len = n ∧ w.cell? ⟨g, j, none⟩ = some u := by
  rcases hv.2 with ⟨rfl, _⟩ | ⟨g', cap', cur, rfl, hnc, hcm, hcs, htake, rfl⟩
  · cases e
  · simp only [Value.slice.injEq, Option.some.injEq, Addr.mk.injEq] at e
    obtain ⟨⟨rfl, rfl, _⟩, rfl, rfl⟩ := e
    refine ⟨rfl, rfl, ?_⟩
    rw [cell_of s.h0]
    rw [← htake, List.getElem?_take] at hu
    split at hu
    · rwa [Array.getElem?_toList] at hu
    · cases hu
end
end Go.Proofs.YtficgjklagnbjaaGreat
namespace Go.Proofs.YtficgjklagnbjaaGreat
open Go Go.MapKept Go.RowKit Go.Proofs Go.Maps Go.Sort Go.Shelf Go.WideShapes

theorem Sat.monoB {w w' : World} {H : Heaplet} (s : Sat w H) (hb : Below w.heap.size w w') : Sat w' H := by
  refine ⟨fun x hx => ?_, s.2⟩
  have h := s.1 x hx
  cases x with
  | blk b o => exact (hb.block b (Array.getElem?_eq_some_iff.1 h).1).trans h
  | env w0 => exact ⟨hb.os.trans h.1, hb.tape.trans h.2.1, hb.output.trans h.2.2⟩
/-- The keys, rising. -/
def sortK (l : List Int) : List Int := l.mergeSort fun x y => decide (x ≤ y)
theorem sortK_perm (l : List Int) : (sortK l).Perm l := List.mergeSort_perm _ _
theorem sortK_sorted (l : List Int) : (sortK l).Pairwise (· ≤ ·) := by
  have := List.pairwise_mergeSort (le := fun x y : Int => decide (x ≤ y)) (fun a b c h1 h2 => by simp at *; omega) (fun a b => by simp; omega) l
  exact this.imp (fun h => by simpa using h)
theorem sortK_of_perm {l l' : List Int} (h : l.Perm l') : sortK l = sortK l' := by
  have h2 : (sortK l).Perm (sortK l') := ((sortK_perm l).trans h).trans (sortK_perm l').symm
  exact List.Perm.eq_of_pairwise (le := (· ≤ ·)) (fun a b _ _ h1 h2 => Int.le_antisymm h1 h2) (sortK_sorted l) (sortK_sorted l') h2
theorem owns_of_mapOk {V : Type} {P : Program} {k : TypeId} (hk : P.underlying k = some (.int .i64)) {ve : V → Value} {es : Array MapEntry} {clk : Nat} {D : List (Int × V)} (h : MapOk (.int .i64) kI ve es clk D) {w : World} {b : Nat} (hb : w.heap[b]? = some (.map es clk))
    (hr : ∀ p ∈ D, -9223372036854775808 ≤ p.1 ∧ p.1 ≤ 9223372036854775807) (hl : D.length ≤ maxLen) :
    ∃ D0 : DataW Unit, w.ownsMap P k (fun _ => some (.nil, [])) b D.length D0 ∧ (intKeys D0).Perm (D.map (·.1)) ∧ Maps.size D0 = D.length := by
  have hkeys : ∀ x ∈ es.toList, ∃ p ∈ D, x.key = kI p.1 := by
    intro x hx
    have : x.key ∈ es.toList.map (·.key) := List.mem_map.2 ⟨x, hx, rfl⟩
    rw [h.keys] at this
    obtain ⟨p, hp, e⟩ := List.mem_map.1 this
    exact ⟨p, hp, e.symm⟩
  have hwf : ∀ p ∈ D, (Lit.int .i64 p.1).wf = true := by
    intro p hp
    have := hr p hp
    simp [Lit.wf, IntKind.min, IntKind.max, IntKind.signed, IntKind.bits]
    omega
  have hrd : ∀ x ∈ es.toList, ∀ p ∈ D, x.key = kI p.1 → Go.WideElems.rd (H := Unit) P k (fun _ => some (.nil, [])) x = some (.int .i64 p.1, .nil) := by
    intro x hx p hp e
    unfold Go.WideElems.rd
    rw [e, keyOf_int_mk hk (hwf p hp)]
    rfl
  have hsz : es.size = D.length := h.size
  refine ⟨_, ⟨es, clk, hb, ⟨by rw [hsz]; exact hl, h.stamped, fun x hx => ?_⟩, by omega, rfl⟩, ?_, ?_⟩
  · obtain ⟨p, hp, e⟩ := hkeys x hx
    exact ⟨_, hrd x hx p hp e⟩
  · have e1 : (intKeys (DataW.map ((es.toList.map (Go.WideElems.rg (H := Unit) P k (fun _ => some (.nil, [])))).foldr DataW.insert []))).Perm ((es.toList.map (Go.WideElems.rg (H := Unit) P k (fun _ => some (.nil, [])))).map fun p => Go.intOf p.1) := (sorted_perm _).map _
    refine e1.trans (List.Perm.of_eq ?_)
    rw [List.map_map]
    have e2 : es.toList.map ((fun p : Lit × DataW Unit => Go.intOf p.1) ∘ Go.WideElems.rg P k (fun _ => some (.nil, []))) = es.toList.map (fun e => RowKit.intOf e.key) := by
      apply List.map_congr_left
      intro x hx
      obtain ⟨p, hp, e⟩ := hkeys x hx
      simp only [Function.comp, Go.WideElems.rg, hrd x hx p hp e, e]
      rfl
    rw [e2]
    have e3 := h.keys
    have e4 := congrArg (List.map RowKit.intOf) e3
    rw [List.map_map, List.map_map] at e4
    exact e4
  · show ((es.toList.map (Go.WideElems.rg P k _)).foldr DataW.insert []).length = _
    rw [(sorted_perm _).length_eq, List.length_map, Array.length_toList, hsz]
end Go.Proofs.YtficgjklagnbjaaGreat
namespace Go.Proofs.YtficgjklagnbjaaGreat
open Go Go.MapKept Go.RowKit Go.Proofs

section
variable {α : Type} {fl : α → List Value} {T t : TypeId} {sz n : Nat} {v : Value} {R : List α} {h F : Heaplet} {w : World} {P : Program}
theorem sl_form {cs : List Value} (hs : SliceIs T sz v n cs h) : ∃ a cap, v = .slice a n cap := by
  rcases hs.2 with ⟨rfl, e0, rfl⟩ | ⟨g, cap, cur, rfl, _⟩
  · exact ⟨none, 0, by rw [e0]⟩
  · exact ⟨_, _, rfl⟩
theorem sl_some {cs : List Value} (hs : SliceIs T sz v n cs h) (hn : 0 < n) : ∃ g cap, v = .slice (some ⟨g, 0, none⟩) n cap := by
  rcases hs.2 with ⟨rfl, e0, rfl⟩ | ⟨g, cap, cur, rfl, _⟩
  · omega
  · exact ⟨_, _, rfl⟩
theorem fm_len (hfl : ∀ q, (fl q).length = sz) : ∀ R : List α, (R.flatMap fl).length = R.length * sz
  | [] => by simp
  | x :: r => by rw [List.flatMap_cons, List.length_append, hfl, fm_len hfl r, List.length_cons, Nat.succ_mul]; omega
theorem fm_get (hfl : ∀ q, (fl q).length = sz) : ∀ (R : List α) (i j : Nat) (q : α) (u : Value), R[i]? = some q → (fl q)[j]? = some u → (R.flatMap fl)[i * sz + j]? = some u
  | [], i, j, q, u, hq, _ => by simp at hq
  | x :: r, 0, j, q, u, hq, hu => by
    simp at hq; subst hq
    have hj := (List.getElem?_eq_some_iff.1 hu).1
    rw [List.flatMap_cons, Nat.zero_mul, Nat.zero_add, List.getElem?_append_left hj]
    exact hu
  | x :: r, i + 1, j, q, u, hq, hu => by
    have ih := fm_get hfl r i j q u (by simpa using hq) hu
    rw [List.flatMap_cons, List.getElem?_append_right (by rw [hfl, Nat.succ_mul]; omega), hfl, show (i + 1) * sz + j - sz = i * sz + j from by rw [Nat.succ_mul]; omega]
    exact ih
theorem fm_set (hfl : ∀ q, (fl q).length = sz) : ∀ (R : List α) (i f : Nat) (q q' : α) (u : Value), R[i]? = some q → f < sz → (fl q).set f u = fl q' → (R.flatMap fl).set (i * sz + f) u = (R.set i q').flatMap fl
  | [], i, f, q, q', u, hq, _, _ => by simp at hq
  | x :: r, 0, f, q, q', u, hq, hf, e => by
    simp at hq; subst hq
    rw [List.flatMap_cons, Nat.zero_mul, Nat.zero_add, List.set_append, if_pos (by rw [hfl]; exact hf), e, List.set_cons_zero, List.flatMap_cons]
  | x :: r, i + 1, f, q, q', u, hq, hf, e => by
    have ih := fm_set hfl r i f q q' u (by simpa using hq) hf e
    rw [List.flatMap_cons, List.set_append, if_neg (by rw [hfl, Nat.succ_mul]; omega), hfl, show (i + 1) * sz + f - sz = i * sz + f from by rw [Nat.succ_mul]; omega, ih, List.set_cons_succ, List.flatMap_cons]
/-- The cells of an element. -/
theorem sl_cells (hfl : ∀ q, (fl q).length = sz) (hv : SliceIs T sz v R.length (R.flatMap fl) h) (s : Sat w (h ++ F)) : ∃ a cap, v = .slice a R.length cap ∧
    ∀ i q, R[i]? = some q → ∃ g, a = some ⟨g, 0, none⟩ ∧ (∀ j, w.frozen? ⟨g, j, none⟩ = false) ∧ ∀ j u, (fl q)[j]? = some u → w.cell? ⟨g, i * sz + j, none⟩ = some u := by
  obtain ⟨a, cap, rfl⟩ := sl_form hv
  refine ⟨a, cap, rfl, fun i q hq => ?_⟩
  have hv' := hv
  rcases hv.2 with ⟨_, e, _⟩ | ⟨g, cap', cur, e, _, _, _, _, rfl⟩
  · have := (List.getElem?_eq_some_iff.1 hq).1
    omega
  · cases e
    exact ⟨g, rfl, fun j => unfrozen_of s.h0 j, fun j u hu => (hv'.cell s rfl (fm_get hfl R i j q u hq hu)).2.2⟩
/-- One more is pushed: 'append' of an element that lies in a block of its own. -/
theorem sl_push {i : TypeInfo} {z : Value} {bytes : Nat} (hfl : ∀ q, (fl q).length = sz) (ht : P.underlying t = some (.slice T)) (hi : P.info? T = some i) (hz : i.zero = some z) (hsize : i.size = sz) (hby : i.bytes = bytes) (hzs : z.cells.size = sz) (hsz : 0 < sz)
    (hv : SliceIs T sz v R.length (R.flatMap fl) h) {x : Nat} {Tn : TypeId} {A B : Heaplet} (q : α) (s : Sat w (.blk x (.cells (fl q).toArray Tn) :: (A ++ (h ++ B)))) (h1 : ∀ u ∈ fl q, u.oneCell' = true) (h63 : R.length + 1 ≤ maxLen) (hbytes : (R.length + 1) * bytes ≤ 140737488355328) :
    ∃ v' w' h', (∀ ty, (Builtin.append_ #[t, t] ty #[v, .slice (some ⟨x, 0, none⟩) 1 1]).run P w = .ok v' w') ∧ SliceIs T sz v' (R ++ [q]).length ((R ++ [q]).flatMap fl) h' ∧ Sat w' (A ++ (h' ++ B)) := by
  have s1 : Sat w (h ++ (A ++ (.blk x (.cells (fl q).toArray Tn) :: B))) := by
    refine s.perm ?_
    have p1 : (HItem.blk x (.cells (fl q).toArray Tn) :: (A ++ (h ++ B))).Perm (A ++ (h ++ (.blk x (.cells (fl q).toArray Tn) :: B))) :=
      (List.perm_middle (l₁ := A)).symm.trans (List.Perm.append_left A (List.perm_middle (l₁ := h)).symm)
    exact p1.trans (List.perm_append_comm_assoc A h _)
  have hx := s.h0
  have hnews : ∀ j u, (fl q)[j]? = some u → w.cell? ((⟨x, 0, none⟩ : Addr).add j) = some u := by
    intro j u hu
    have hadd : (⟨x, 0, none⟩ : Addr).add j = ⟨x, j, none⟩ := by unfold Addr.add; split <;> simp_all
    rw [hadd, cell_of hx]
    simpa using hu
  obtain ⟨v', w', h', hr, hsl, hsat⟩ := sat_append (P := P) (ty := 0) ht hi hz hsize hby hzs hsz hv s1 ⟨x, 0, none⟩ 1 1 (fl q) (by rw [hfl, Nat.one_mul]) hnews h1 (by decide) h63 hbytes
  refine ⟨v', w', h', fun ty => hr, ?_, ?_⟩
  · rw [List.flatMap_append, List.length_append]
    simpa using hsl
  · exact ((hsat.perm (List.perm_append_comm_assoc h' A _)).perm (List.Perm.append_left A (List.perm_middle (l₁ := h'))) |>.perm List.perm_middle).tail
/-- A field turns. -/
theorem sl_set (hfl : ∀ q, (fl q).length = sz) {g cap i f : Nat} {q q' : α} (hv : SliceIs T sz (.slice (some ⟨g, 0, none⟩) R.length cap) R.length (R.flatMap fl) h) (s : Sat w (h ++ F)) (hq : R[i]? = some q) (hf : f < sz) {u : Value} (e : (fl q).set f u = fl q') :
    ∃ h', SliceIs T sz (.slice (some ⟨g, 0, none⟩) R.length cap) (R.set i q').length ((R.set i q').flatMap fl) h' ∧ Sat (w.setCell ⟨g, i * sz + f, none⟩ u) (h' ++ F) := by
  have hi := (List.getElem?_eq_some_iff.1 hq).1
  rcases hv.2 with ⟨e2, _⟩ | ⟨g', cap', cur, e2, hnc, hcm, hcs, htake, rfl⟩
  · cases e2
  · simp only [Value.slice.injEq, Option.some.injEq, Addr.mk.injEq] at e2
    obtain ⟨⟨rfl, _, _⟩, _, rfl⟩ := e2
    refine ⟨[.blk g (.cells (cur.setIfInBounds (i * sz + f) u) T)], ⟨by rw [fm_len hfl], .inr ⟨g, cap, _, by rw [List.length_set], by rw [List.length_set]; exact hnc, hcm, by simp [hcs], ?_, rfl⟩⟩, Sat.setCell s u⟩
    rw [Array.toList_setIfInBounds, List.take_set, List.length_set, htake, fm_set hfl R i f q q' u hq hf e]
/-- The last one goes: 's[:len(s)-1]'. -/
theorem sl_pop (hfl : ∀ q, (fl q).length = sz) {q : α} {g cap m : Nat} (hv : SliceIs T sz (.slice (some ⟨g, 0, none⟩) m cap) (R ++ [q]).length ((R ++ [q]).flatMap fl) h) : SliceIs T sz (.slice (some ⟨g, 0, none⟩) R.length cap) R.length (R.flatMap fl) h := by
  rcases hv.2 with ⟨e2, _⟩ | ⟨g', cap', cur, e2, hnc, hcm, hcs, htake, rfl⟩
  · cases e2
  · simp only [Value.slice.injEq, Option.some.injEq, Addr.mk.injEq] at e2
    obtain ⟨⟨rfl, _, _⟩, _, rfl⟩ := e2
    rw [List.length_append] at hnc htake
    refine ⟨fm_len hfl R, .inr ⟨g, cap, cur, rfl, by omega, hcm, hcs, ?_, rfl⟩⟩
    have h1 := congrArg (List.take (R.length * sz)) htake
    rw [List.take_take, Nat.min_eq_left (Nat.mul_le_mul_right _ (by omega)), List.flatMap_append, List.take_append_of_le_length (by rw [fm_len hfl]; exact Nat.le_refl _)] at h1
    rw [h1, ← fm_len hfl R, List.take_length]
theorem fm_one (R : List Int) : R.flatMap (fun x => [kI x]) = R.map kI := by
  induction R with
  | nil => rfl
  | cons x r ih => simp [ih]
/-- An empty slice, made. -/
theorem sl_new (T : TypeId) (sz g : Nat) : SliceIs T sz (.slice (some ⟨g, 0, none⟩) 0 0) 0 [] [.blk g (.cells #[] T)] :=
  ⟨by simp, .inr ⟨g, 0, #[], rfl, Nat.le_refl _, by simp [maxLen], by simp, by simp, rfl⟩⟩
end
end Go.Proofs.YtficgjklagnbjaaGreat
namespace Go.Proofs.YtficgjklagnbjaaGreat
open Go Go.MapKept Go.RowKit Go.Proofs Go.Sort

/-- Draws, and new blocks. -/
def Grown (w w' : World) : Prop := ∃ q os, w' = grow (w.drewN q) os
theorem Grown.refl (w : World) : Grown w w := ⟨0, #[], by rw [grow_empty]; rfl⟩
theorem Grown.alloc (w : World) (o : Obj) : Grown w (w.alloc o) := ⟨0, #[o], by rw [alloc_eq_grow]; rfl⟩
theorem Grown.drew (w : World) : Grown w w.drew := ⟨1, #[], by rw [grow_empty]; rfl⟩
theorem Grown.trans {a b c : World} (h : Grown a b) (k : Grown b c) : Grown a c := by
  obtain ⟨q, os, rfl⟩ := h
  obtain ⟨q', os', rfl⟩ := k
  exact ⟨q + q', os ++ os', by show grow (grow ((a.drewN q).drewN q') os) os' = _; rw [grow_grow, World.drewN_drewN]⟩
theorem Grown.same {w w' : World} (h : Same w w') : Grown w w' := by
  unfold Same at h; rw [← h]; exact Grown.refl w
theorem Grown.below {w w' : World} (h : Grown w w') : RowKit.Below w.heap.size w w' := by
  obtain ⟨q, os, rfl⟩ := h
  refine Sat.below ?_
  have hs : Sat (w.drewN q) (allOf w) := (sat_all w).of_heap rfl ⟨rfl, rfl, rfl⟩
  refine ⟨fun x hx => ?_, hs.2⟩
  have h := hs.1 x hx
  cases x with
  | blk b o => exact (heap_grow_old _ _ (Array.getElem?_eq_some_iff.1 h).1).trans h
  | env w0 => exact h
/-- It returns this; the world has grown at most. -/
def Pur (v : Value) (w : World) : Ending → World → Prop := Ret v (Grown w)
theorem Sat.grown {w w' : World} {F : Heaplet} (s : Sat w F) (h : Grown w w') : Sat w' F := s.monoB h.below
theorem Grown.drewN (w : World) (n : Nat) : Grown w (w.drewN n) := ⟨n, #[], by rw [grow_empty]⟩
end Go.Proofs.YtficgjklagnbjaaGreat
namespace Go.Proofs.YtficgjklagnbjaaGreat
open Go Go.MapKept Go.RowKit Go.Proofs Go.Sort

/-- A transaction's name. -/
structure Tx where
  c : Int
  e : Int
  n : Int
deriving DecidableEq
/-- An entry. -/
structure En where
  kind : Int
  t : Tx
  lsn : Int
  prev : Int
  page : Int
  slot : Int
  wu : Bool
  wd : ByteArray
  iu : Bool
  idt : ByteArray
  next : Int
abbrev tC (t : Tx) : List Value := [kI t.c, kI t.e, kI t.n]
abbrev eC (x : En) : List Value := [kI x.kind, kI x.t.c, kI x.t.e, kI x.t.n, kI x.lsn, kI x.prev, kI x.page, kI x.slot, .bool x.wu, kS x.wd, .bool x.iu, kS x.idt, kI x.next]
abbrev tV (t : Tx) : Value := .agg #[kI t.c, kI t.e, kI t.n]
abbrev eV (x : En) : Value := .agg #[kI x.kind, kI x.t.c, kI x.t.e, kI x.t.n, kI x.lsn, kI x.prev, kI x.page, kI x.slot, .bool x.wu, kS x.wd, .bool x.iu, kS x.idt, kI x.next]
def withinM (n lo hi : Int) : Bool := decide (lo ≤ n) && decide (n ≤ hi)
def knownM (t : Tx) : Bool := withinM t.c 1 8 && withinM t.e 1 1073741824 && withinM t.n 1 1073741824
def slotM (u : Bool) (d : ByteArray) : Bool := decide ((d.size : Int) ≤ 200) && (u || d.toList == [])
def changeM (x : En) : Bool := withinM x.page 0 1023 && withinM x.slot 0 31 && slotM x.wu x.wd && slotM x.iu x.idt
/-- An entry with the fields alone that all kinds have. -/
def plainM (x : En) : En := { kind := x.kind, t := x.t, lsn := x.lsn, prev := x.prev, page := 0, slot := 0, wu := false, wd := ⟨#[]⟩, iu := false, idt := ⟨#[]⟩, next := 0 }
def bareM (x : En) : Bool := x.page == 0 && x.slot == 0 && !x.wu && x.wd.toList == [] && !x.iu && x.idt.toList == [] && x.next == 0
def headM (x : En) : Bool := knownM x.t && withinM x.lsn 1 1099511627776 && withinM x.prev 0 (x.lsn - 1)
/-- Whether an entry can be. -/
def goodM (x : En) : Bool :=
  headM x && (if x.kind = 1 then changeM x && x.next == 0 else if x.kind = 2 then changeM x && withinM x.next 0 x.prev else if x.kind = 3 ∨ x.kind = 4 then bareM x else false)
def isEndM (x : En) : Bool := x.kind == 3 || x.kind == 4
def cmpI (a b : Int) : Int := if a < b then -1 else if b < a then 1 else 0
def cmpT (a b : Tx) : Int := if cmpI a.c b.c ≠ 0 then cmpI a.c b.c else if cmpI a.e b.e ≠ 0 then cmpI a.e b.e else cmpI a.n b.n
end Go.Proofs.YtficgjklagnbjaaGreat
namespace Go.Proofs.YtficgjklagnbjaaGreat
open Go Go.MapKept Go.RowKit Go.Proofs

abbrev En.was (x : En) : Sl := (x.wu, x.wd)
abbrev En.is (x : En) : Sl := (x.iu, x.idt)
def chgM (x : En) : Bool := x.kind == 1 || x.kind == 2
/-- A page behind an entry; whether it was changed; the error. -/
def redoM (p : Pg) (x : En) : Pg × Bool × Int :=
  if (!goodP p || !goodM x || !chgM x) = true then (emptyP, false, 1)
  else if x.lsn ≤ p.lsn then (p, false, 0)
  else if atM p x.slot ≠ x.was then (emptyP, false, 21)
  else if (putM p x.slot x.is).2 ≠ 0 then (emptyP, false, (putM p x.slot x.is).2) else (⟨x.lsn, (putM p x.slot x.is).1.slots⟩, true, 0)
def zeroE : En := ⟨0, ⟨0, 0, 0⟩, 0, 0, 0, 0, false, ⟨#[]⟩, false, ⟨#[]⟩, 0⟩
/-- The entry that undoes another. -/
def turnE (x : En) (lsn prev : Int) : En := { x with kind := 2, lsn := lsn, prev := prev, next := x.prev, wu := x.iu, wd := x.idt, iu := x.wu, idt := x.wd }
def turnM (x : En) (lsn prev : Int) : En × Int := if (!goodM x || !(x.kind == 1) || !goodM (turnE x lsn prev)) = true then (zeroE, 1) else (turnE x lsn prev, 0)
/-- A page behind entries. -/
def allM (page : Int) : List En → Pg → Pg × Int
  | [], p => (p, 0)
  | x :: l, p => if (!chgM x || !(x.page == page)) = true then allM page l p else if (redoM p x).2.2 ≠ 0 then (emptyP, (redoM p x).2.2) else allM page l (redoM p x).1
def patchM (p : Pg) (page : Int) (l : List En) : Pg × Int := if goodP p = true then allM page l p else (emptyP, 1)
end Go.Proofs.YtficgjklagnbjaaGreat
namespace Go.Proofs.YtficgjklagnbjaaGreat
open Go Go.MapKept Go.RowKit Go.Proofs

abbrev slV (s : Sl) : Value := .agg #[.bool s.1, kS s.2]
/-- Where F holds, the slots lie there. -/
def SlAt (F : Heaplet) (v : Value) (L : List Sl) : Prop := ∃ a cap, v = .slice a L.length cap ∧ ∀ (i : Nat) s, L[i]? = some s → ∃ g off, a = some ⟨g, off, none⟩ ∧ ∀ w, Sat w F → w.cell? ⟨g, off + i * 2, none⟩ = some (.bool s.1) ∧ w.cell? ⟨g, off + i * 2 + 1, none⟩ = some (kS s.2)
theorem SlAt.mono {F F' : Heaplet} {v : Value} {L : List Sl} (h : SlAt F v L) (hF : ∀ w, Sat w F' → Sat w F) : SlAt F' v L := by
  obtain ⟨a, cap, e, hc⟩ := h
  refine ⟨a, cap, e, fun i s hs => ?_⟩
  obtain ⟨g, off, e2, hw⟩ := hc i s hs
  exact ⟨g, off, e2, fun w hs => hw w (hF w hs)⟩
theorem SlAt.nil (F : Heaplet) (a : Option Addr) (cap : Nat) : SlAt F (.slice a 0 cap) [] := ⟨a, cap, rfl, fun i s h => by simp at h⟩
theorem ba_nil (d : ByteArray) : (d.toList == []) = decide (d.size = 0) := by
  have h : d.toList = d.data.toList := ByteArray.toList_eq d
  rw [h, ba_size]
  cases d.data.toList <;> simp
set_option maxRecDepth 100000 in
theorem isOdd_any (s : Sl) (w : World) : Calls Tryz.prog 64 #[slV s] w (Pur (.bool (oddS s)) w) := by
  obtain ⟨u, d⟩ := s
  unfold oddS Pur slV
  simp only
  have hb := ba_nil d
  by_cases h1 : 200 < d.size
  · have h1' : (200 : Int) < (d.size : Int) := by omega
    have h0 : decide (d.size = 0) = false := decide_eq_false (by omega)
    rw [h0] at hb
    cases u
    all_goals
      go_enter Tryz.func64, Tryz.ntmps64
      go_wp2_with fail
      go_ret
      exact ⟨by rw [h0, decide_eq_true h1]; rfl, Grown.alloc w _⟩
  · have h1' : ((200 : Int) < (d.size : Int)) = False := eq_false (by omega)
    obtain ⟨z, hz⟩ : ∃ z, decide (d.size = 0) = z := ⟨_, rfl⟩
    rw [hz] at hb
    rw [hz]
    cases u <;> cases z
    all_goals
      go_enter Tryz.func64, Tryz.ntmps64
      go_wp2_with fail
      go_ret
      exact ⟨by rw [decide_eq_false h1]; rfl, Grown.alloc w _⟩
/-- How many bytes the first ones need. -/
def szN (L : List Sl) (i : Nat) : Nat := szL (L.take i)
theorem szN_succ {L : List Sl} {i : Nat} {s : Sl} (h : L[i]? = some s) : szN L (i + 1) = szN L i + (1 + s.2.size) := by
  unfold szN szL
  rw [List.take_add_one, h]
  simp; omega
set_option maxRecDepth 100000 in
theorem size_any {v : Value} {L : List Sl} {F : Heaplet} {w : World} (hv : SlAt F v L) (s : Sat w F) (hl : L.length ≤ 1000) (hd : ∀ x ∈ L, x.2.size ≤ 1000000) :
    Calls Tryz.prog 65 #[v] w (Pur (.int .i64 (szL L)) w) := by
  obtain ⟨a, cap, rfl, hc⟩ := hv
  unfold Pur
  have HC := Lib.hid hc
  have HS := Lib.hid s
  have HD := Lib.hid hd
  have hb : ∀ i, i ≤ L.length → szN L i ≤ 9 + 1000001 * i := by
    intro i
    induction i with
    | zero => intro _; simp [szN, szL]
    | succ i ih =>
      intro hi
      have h1 := szN_succ (L := L) (i := i) (List.getElem?_eq_getElem (by omega))
      have h2 := hd _ (List.getElem_mem (h := (by omega : i < L.length)))
      have h3 := ih (by omega)
      omega
  have HB := Lib.hid hb
  have hl9 : (L.length : Int) ≤ 1000 := by omega
  clear hc s hd hb
  go_enter Tryz.func65, Tryz.ntmps65
  go_wp2_with fail
  go_loopw [3, 8] (fun v3 v8 wr => ∃ i : Nat, i ≤ L.length ∧ v8 = .int .i64 i ∧ v3 = .int .i64 (szN L i) ∧ Grown w wr) (fun _ v8 _ => 2000 - (RowKit.intOf v8).toNat)
  case atStart => exact ⟨0, by omega, rfl, rfl, Grown.refl w⟩
  case round =>
    obtain ⟨i, hi, rfl, rfl, hg⟩ := hrel
    have i0 : (0 : Int) ≤ (i : Int) := by omega
    have i9 : (i : Int) ≤ 1000 := by omega
    have hz := HB.out i hi
    by_cases hil : i < L.length
    · have i1 : (i : Int) < (L.length : Int) := by omega
      obtain ⟨x, hx⟩ : ∃ x, L[i]? = some x := ⟨_, List.getElem?_eq_getElem hil⟩
      obtain ⟨g, off, e, hu⟩ := HC.out i x hx
      subst e
      obtain ⟨u0, u1⟩ := hu wr (HS.out.grown hg)
      have hst := szN_succ hx
      have hxs := HD.out x (List.mem_of_getElem? hx)
      obtain ⟨xu, xd⟩ := x
      simp only at u0 u1 hst hxs
      have G1 := Lib.hid (hg.trans (Grown.alloc wr (.cells #[.bool xu, kS xd] 41)))
      have HST := Lib.hid hst
      have q0 : (0 : Int) ≤ (xd.size : Int) := by omega
      have q1 : (xd.size : Int) ≤ 1000000 := by omega
      have q2 : (0 : Int) ≤ (szN L i : Int) := by omega
      have q3 : (szN L i : Int) ≤ 1000001009 := by omega
      have q4 : wrap64 (1 + (xd.size : Int)) = 1 + (xd.size : Int) := IntWalk.wrap64_in _ (by omega)
      have q5 : wrap64 ((szN L i : Int) + (1 + (xd.size : Int))) = (szN L (i + 1) : Int) := by rw [IntWalk.wrap64_in _ (by omega), hst]; omega
      have q6 : IntKind.i64.wrap (1 + (xd.size : Int)) = 1 + (xd.size : Int) := IntWalk.i64_in _ (by omega)
      have q7 : IntKind.i64.wrap ((szN L i : Int) + (1 + (xd.size : Int))) = (szN L (i + 1) : Int) := by rw [IntWalk.i64_in _ (by omega), hst]; omega
      clear hx hu hg hst hxs hz
      go_upto_region 5 with (fail)
      go_wp2_with fail
      exact ⟨⟨i + 1, by omega, by simp, by simp [HST.out], G1.out⟩, by simp only [RowKit.intOf]; omega⟩
    · obtain rfl : i = L.length := by omega
      have e : szN L L.length = szL L := by unfold szN; rw [List.take_length]
      have G1 := Lib.hid hg
      clear hg hil hi
      go_wp2_with fail
      go_ret
      exact ⟨by rw [e]; rfl, G1.out⟩
end Go.Proofs.YtficgjklagnbjaaGreat
namespace Go.Proofs.YtficgjklagnbjaaGreat
open Go

def idxF {α : Type} (P : α → Bool) (L : List α) : Int := match L.findIdx? P with | some i => i | none => -1
theorem idxF_found {α : Type} {P : α → Bool} {L : List α} {j : Nat} {x : α} (hx : L[j]? = some x) (hp : P x = true) (hno : ∀ i y, i < j → L[i]? = some y → P y = false) : idxF P L = j := by
  have h : L.findIdx? P = some j := by
    rw [List.findIdx?_eq_some_iff_getElem]
    obtain ⟨hj, e⟩ := List.getElem?_eq_some_iff.1 hx
    exact ⟨hj, by rw [e]; exact hp, fun i hi => by simpa using hno i _ hi (List.getElem?_eq_getElem (by omega))⟩
  unfold idxF
  rw [h]
theorem idxF_none {α : Type} {P : α → Bool} {L : List α} (hno : ∀ i y, i < L.length → L[i]? = some y → P y = false) : idxF P L = -1 := by
  have h : L.findIdx? P = none := by
    rw [List.findIdx?_eq_none_iff]
    intro y hy
    obtain ⟨i, hi, e⟩ := List.mem_iff_getElem.1 hy
    exact hno i y hi (by rw [List.getElem?_eq_getElem hi, e])
  unfold idxF
  rw [h]
theorem idxF_any {α : Type} (P : α → Bool) (L : List α) : decide (0 ≤ idxF P L) = L.any P := by
  unfold idxF
  cases h : L.findIdx? P with
  | some i =>
    obtain ⟨hl, hi, _⟩ := List.findIdx?_eq_some_iff_getElem.1 h
    have : L.any P = true := List.any_eq_true.2 ⟨L[i], List.getElem_mem _, hi⟩
    rw [this]
    simp
  | none =>
    have hn := List.findIdx?_eq_none_iff.1 h
    have : L.any P = false := by rw [List.any_eq_false]; intro x hx; rw [hn x hx]; decide
    rw [this]; decide
theorem idxF_some {α : Type} {P : α → Bool} {L : List α} {j : Int} (h : idxF P L = j) (h0 : 0 ≤ j) : ∃ (i : Nat) (x : α), j = i ∧ L[i]? = some x ∧ P x = true ∧ ∀ k y, k < i → L[k]? = some y → P y = false := by
  unfold idxF at h
  cases hf : L.findIdx? P with
  | none => rw [hf] at h; simp only at h; omega
  | some i =>
    rw [hf] at h
    simp only at h
    obtain ⟨hi, hp, hno⟩ := List.findIdx?_eq_some_iff_getElem.1 hf
    refine ⟨i, L[i], h.symm, List.getElem?_eq_getElem hi, hp, fun k y hk hy => ?_⟩
    have h1 := hno k hk
    obtain ⟨hk2, e⟩ := List.getElem?_eq_some_iff.1 hy
    rw [← e]
    simpa using h1
end Go.Proofs.YtficgjklagnbjaaGreat
