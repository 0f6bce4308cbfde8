/- Texts put together: Base. Conditions: none. -/
import Derived.WalkKit
import Derived.ChangeMaps4
namespace Go.Proofs.YtgocmnejlbfplaaGreatDoor
open Go Go.MapKept

/-- A piece of memory that is known: a block's object; or: streams, tape and output are as in that world. -/
inductive HItem where
  | blk (b : Nat) (o : Obj)
  | env (w0 : World)
abbrev Heaplet := List HItem
def HItem.on (w : World) : HItem → Prop
  | .blk b o => w.heap[b]? = some o
  | .env w0 => w.os = w0.os ∧ w.tape = w0.tape ∧ w.output = w0.output
def HItem.no : HItem → Option Nat
  | .blk b _ => some b
  | .env _ => none

abbrev kI (k : Int) : Value := .int .i64 k
theorem kI_key : ∀ k, IsKey (.int .i64) (kI k) := fun _ => rfl
theorem kI_inj : ∀ a b, kI a = kI b → a = b := fun _ _ h => by simpa using h
abbrev kS (s : ByteArray) : Value := .string s
/-- It returns this value, and the world is so. -/
def Ret (v : Value) (R : World → Prop) (e : Ending) (w : World) : Prop := e = .returned v ∧ R w
theorem ret_mk {v : Value} {R : World → Prop} {w : World} (h : R w) : Ret v R (.returned v) w := ⟨rfl, h⟩
theorem ret_of {u v : Value} {R : World → Prop} {w : World} (e : u = v) (h : R w) : Ret v R (.returned u) w := ⟨by rw [e], h⟩
def Same (w w' : World) : Prop := w = w'

/-- THE WORLD HOLDS THESE BLOCKS, all different. -/
def Sat (w : World) (h : Heaplet) : Prop := (∀ x ∈ h, x.on w) ∧ (h.filterMap HItem.no).Nodup

section
variable {w : World} {x0 x1 x2 x3 x4 x5 : HItem} {h : Heaplet} {b0 b1 b2 b3 b4 : Nat} {o0 o1 o2 o3 o4 : Obj}
theorem Sat.h0 (s : Sat w (.blk b0 o0 :: h)) : w.heap[b0]? = some o0 := s.1 _ (.head _)
theorem Sat.h1 (s : Sat w (x0 :: .blk b1 o1 :: h)) : w.heap[b1]? = some o1 := s.1 _ (.tail _ (.head _))
theorem Sat.h2 (s : Sat w (x0 :: x1 :: .blk b2 o2 :: h)) : w.heap[b2]? = some o2 := s.1 _ (.tail _ (.tail _ (.head _)))
theorem Sat.h3 (s : Sat w (x0 :: x1 :: x2 :: .blk b3 o3 :: h)) : w.heap[b3]? = some o3 := s.1 _ (.tail _ (.tail _ (.tail _ (.head _))))
theorem Sat.h4 (s : Sat w (x0 :: x1 :: x2 :: x3 :: .blk b4 o4 :: h)) : w.heap[b4]? = some o4 := s.1 _ (.tail _ (.tail _ (.tail _ (.tail _ (.head _)))))
theorem Sat.get {b : Nat} {o : Obj} (s : Sat w h) (m : HItem.blk b o ∈ h) : w.heap[b]? = some o := s.1 _ m
theorem Sat.perm {h' : Heaplet} (s : Sat w h) (p : h.Perm h') : Sat w h' :=
  ⟨fun x hx => s.1 x (p.mem_iff.2 hx), (p.filterMap _).nodup_iff.1 s.2⟩
theorem Sat.tail (s : Sat w (x0 :: h)) : Sat w h := by
  refine ⟨fun y hy => s.1 y (.tail _ hy), ?_⟩
  have := s.2
  cases x0 <;> simp only [HItem.no, List.filterMap_cons] at this
  · exact (List.nodup_cons.1 this).2
  · exact this
theorem Sat.right : ∀ {h' : Heaplet}, Sat w (h' ++ h) → Sat w h
  | [], s => s
  | _ :: _, s => Sat.right (Sat.tail s)
theorem Sat.swap (s : Sat w (x0 :: x1 :: h)) : Sat w (x1 :: x0 :: h) := s.perm (List.Perm.swap _ _ _)
/-- The third comes first. -/
theorem Sat.rot3 (s : Sat w (x0 :: x1 :: x2 :: h)) : Sat w (x2 :: x0 :: x1 :: h) :=
  s.perm (((List.Perm.swap x2 x1 h).cons x0).trans (List.Perm.swap x2 x0 (x1 :: h)))
/-- The first goes behind two. -/
theorem Sat.unrot3 (s : Sat w (x2 :: x0 :: x1 :: h)) : Sat w (x0 :: x1 :: x2 :: h) :=
  s.perm (((List.Perm.swap x2 x1 h).cons x0).trans (List.Perm.swap x2 x0 (x1 :: h))).symm
/-- The fourth comes first; and back. -/
theorem Sat.rot4 (s : Sat w (x0 :: x1 :: x2 :: x3 :: h)) : Sat w (x3 :: x0 :: x1 :: x2 :: h) := s.perm (List.perm_middle (l₁ := [x0, x1, x2]))
theorem Sat.unrot4 (s : Sat w (x3 :: x0 :: x1 :: x2 :: h)) : Sat w (x0 :: x1 :: x2 :: x3 :: h) := s.perm (List.perm_middle (l₁ := [x0, x1, x2])).symm
theorem Sat.comm {h1 h2 : Heaplet} (s : Sat w (h1 ++ (h2 ++ h))) : Sat w (h2 ++ (h1 ++ h)) := by
  refine s.perm ?_
  rw [← List.append_assoc, ← List.append_assoc]
  exact List.perm_append_comm.append_right h
theorem Sat.lt {b : Nat} {o : Obj} (s : Sat w h) (m : HItem.blk b o ∈ h) : b < w.heap.size := by
  have := s.get m
  exact (Array.getElem?_eq_some_iff.1 this).1
theorem Sat.notIn {b : Nat} {o : Obj} (s : Sat w (.blk b o :: h)) : ∀ x ∈ h, x.no ≠ some b := by
  intro x hx e
  have := s.2
  simp only [HItem.no, List.filterMap_cons] at this
  exact (List.nodup_cons.1 this).1 (List.mem_filterMap.2 ⟨x, hx, e⟩)
theorem Sat.ne {b c : Nat} {o o' : Obj} (s : Sat w (.blk b o :: h)) (m : HItem.blk c o' ∈ h) : c ≠ b := fun e => s.notIn _ m (by simp [HItem.no, e])
/-- Streams, tape and output stay. -/
def Quiet (w w' : World) : Prop := w'.os = w.os ∧ w'.tape = w.tape ∧ w'.output = w.output
theorem HItem.on_env {w' w0 : World} (q : Quiet w w') (h : (HItem.env w0).on w) : (HItem.env w0).on w' :=
  ⟨q.1.trans h.1, q.2.1.trans h.2.1, q.2.2.trans h.2.2⟩
theorem Sat.of_heap {w' : World} (s : Sat w h) (e : w'.heap = w.heap) (q : Quiet w w') : Sat w' h := by
  refine ⟨fun x hx => ?_, s.2⟩
  have := s.1 x hx
  cases x with
  | blk b o => show w'.heap[b]? = some o; rw [e]; exact this
  | env w0 => exact HItem.on_env q this
theorem Sat.drew (s : Sat w h) : Sat w.drew h := s.of_heap rfl ⟨rfl, rfl, rfl⟩
theorem Sat.set {b : Nat} {o : Obj} (s : Sat w (.blk b o :: h)) (o' : Obj) {w' : World} (hw : w'.heap = w.heap.setIfInBounds b o') (q : Quiet w w') : Sat w' (.blk b o' :: h) := by
  have hlt := s.lt (List.mem_cons_self ..)
  have hn := s.notIn
  refine ⟨fun x hx => ?_, s.2⟩
  cases hx with
  | head => show w'.heap[b]? = some o'; rw [hw]; simp [hlt]
  | tail _ hx =>
    have h1 := s.1 x (.tail _ hx)
    have h2 := hn x hx
    cases x with
    | blk c p =>
      have hne : b ≠ c := fun e => h2 (by simp [HItem.no, e])
      show w'.heap[c]? = some p
      rw [hw, Array.getElem?_setIfInBounds_ne hne]
      exact h1
    | env w0 => exact HItem.on_env q h1
theorem Sat.new (s : Sat w h) (o : Obj) : Sat (w.alloc o) (.blk w.heap.size o :: h) := by
  refine ⟨fun x hx => ?_, ?_⟩
  · cases hx with
    | head => show (w.heap.push o)[w.heap.size]? = some o; simp
    | tail _ hx =>
      have h1 := s.1 x hx
      cases x with
      | blk c p =>
        have hlt : c < w.heap.size := s.lt hx
        show (w.heap.push o)[c]? = some p
        rw [Array.getElem?_push, if_neg (Nat.ne_of_lt hlt)]
        exact h1
      | env w0 => exact HItem.on_env (w := w) ⟨rfl, rfl, rfl⟩ h1
  · simp only [HItem.no, List.filterMap_cons, List.nodup_cons]
    refine ⟨fun hm => ?_, s.2⟩
    obtain ⟨x, hx, e⟩ := List.mem_filterMap.1 hm
    cases x with
    | blk c p =>
      have hlt : c < w.heap.size := s.lt hx
      simp only [HItem.no, Option.some.injEq] at e
      omega
    | env w0 => simp [HItem.no] at e
end
theorem heap_setCell {w : World} {b i : Nat} {c : Array Value} {t : TypeId} {z : Nat × Nat} (h : w.heap[b]? = some (.cells c t z)) (v : Value) :
    (w.setCell ⟨b, i, none⟩ v).heap = w.heap.setIfInBounds b (.cells (c.setIfInBounds i v) t z) := by
  apply Array.ext_getElem?
  intro j
  simp only [World.setCell, Array.getElem?_modify, Array.getElem?_setIfInBounds]
  by_cases e : b = j
  · subst e
    obtain ⟨hlt, hv⟩ := Array.getElem?_eq_some_iff.1 h
    simp [hlt, hv]
  · simp [e]
theorem Sat.setCell {w : World} {b i : Nat} {c : Array Value} {t : TypeId} {z : Nat × Nat} {h : Heaplet} (s : Sat w (.blk b (.cells c t z) :: h)) (v : Value) :
    Sat (w.setCell ⟨b, i, none⟩ v) (.blk b (.cells (c.setIfInBounds i v) t z) :: h) :=
  s.set _ (heap_setCell s.h0 v) ⟨rfl, rfl, rfl⟩

/-- ALL THAT A WORLD HOLDS. -/
def allOf (W : World) : Heaplet := .env W :: (List.range W.heap.size).map fun i => .blk i (W.heap[i]?.getD default)
theorem sat_all (W : World) : Sat W (allOf W) := by
  refine ⟨fun x hx => ?_, ?_⟩
  · cases hx with
    | head => exact ⟨rfl, rfl, rfl⟩
    | tail _ hx =>
      obtain ⟨i, hi, rfl⟩ := List.mem_map.1 hx
      have := List.mem_range.1 hi
      show W.heap[i]? = some _
      simp [this]
  · have : ((List.range W.heap.size).map fun i => HItem.blk i (W.heap[i]?.getD default)).filterMap HItem.no = List.range W.heap.size := by
      rw [List.filterMap_map]
      have : (HItem.no ∘ fun i => HItem.blk i (W.heap[i]?.getD default)) = some := rfl
      rw [this]; simp
    simp only [allOf, HItem.no, List.filterMap_cons, this]
    exact List.nodup_range
theorem Sat.old {W w : World} (s : Sat w (allOf W)) {i : Nat} (hi : i < W.heap.size) : w.heap[i]? = W.heap[i]? := by
  have := s.get (b := i) (o := W.heap[i]?.getD default) (.tail _ (List.mem_map.2 ⟨i, List.mem_range.2 hi, rfl⟩))
  rw [this]; simp [hi]
theorem Sat.cellOld {W w : World} (s : Sat w (allOf W)) {a : Addr} (hi : a.block < W.heap.size) : w.cell? a = W.cell? a := by
  simp only [World.cell?]
  rw [s.old hi]
theorem Sat.below {W w : World} (s : Sat w (allOf W)) : RowKit.Below W.heap.size W w := by
  have e : w.os = W.os ∧ w.tape = W.tape ∧ w.output = W.output := s.1 (.env W) (.head _)
  refine ⟨e.1, e.2.1, e.2.2, ?_, fun k hk => s.old hk⟩
  rcases Nat.eq_zero_or_pos W.heap.size with h0 | h0
  · omega
  · have h1 := s.old (i := W.heap.size - 1) (by omega)
    have h2 : W.heap[W.heap.size - 1]? = some W.heap[W.heap.size - 1] := by simp
    rw [h2] at h1
    have := (Array.getElem?_eq_some_iff.1 h1).1
    omega
theorem cell_of {w : World} {b : Nat} {c : Array Value} {t : TypeId} {z : Nat × Nat} (h : w.heap[b]? = some (.cells c t z)) (i : Nat) : w.cell? ⟨b, i, none⟩ = c[i]? := by
  simp [World.cell?, h]
theorem unfrozen_of {w : World} {b : Nat} {c : Array Value} {t : TypeId} (h : w.heap[b]? = some (.cells c t (0, 0))) (i : Nat) : w.frozen? ⟨b, i, none⟩ = false := by
  simp [World.frozen?, h]

/-! ### maps as lists of pairs -/
section
variable {K V : Type} [DecidableEq K]
def putL (k : K) (v : V) : List (K × V) → List (K × V)
  | [] => [(k, v)]
  | p :: r => if p.1 = k then (k, v) :: r else p :: putL k v r
def delL (k : K) : List (K × V) → List (K × V)
  | [] => []
  | p :: r => if p.1 = k then r else p :: delL k r
def getL (k : K) : List (K × V) → Option V
  | [] => none
  | p :: r => if p.1 = k then some p.2 else getL k r

theorem getL_putL (k j : K) (v : V) : ∀ D : List (K × V), getL j (putL k v D) = if j = k then some v else getL j D
  | [] => by by_cases h : j = k <;> simp [putL, getL, h]; intro h'; exact absurd h'.symm h
  | p :: r => by
    by_cases h : p.1 = k
    · by_cases h2 : j = k
      · simp [putL, getL, h, h2]
      · have : ¬ k = j := fun e => h2 e.symm
        simp [putL, getL, h, h2, this]
    · by_cases h2 : p.1 = j
      · have : ¬ j = k := fun e => h (h2.trans e)
        simp [putL, getL, h2, this]
      · simp [putL, getL, h, h2, getL_putL k j v r]
theorem getL_none {k : K} : ∀ {D : List (K × V)}, getL k D = none ↔ k ∉ D.map (·.1)
  | [] => by simp [getL]
  | p :: r => by
    have ih := @getL_none k r
    by_cases h : p.1 = k
    · simp [getL, h]
    · have h' : ¬ k = p.1 := fun e => h e.symm
      simp [getL, h, ih, h']
theorem getL_mem {k : K} {v : V} : ∀ {D : List (K × V)}, getL k D = some v → (k, v) ∈ D
  | p :: r, h => by
    by_cases e : p.1 = k
    · simp only [getL, e, if_true, Option.some.injEq] at h
      rw [← e, ← h]; exact .head _
    · simp only [getL, e, if_false] at h
      exact .tail _ (getL_mem h)
theorem getL_of_mem {k : K} {v : V} : ∀ {D : List (K × V)}, (D.map (·.1)).Nodup → (k, v) ∈ D → getL k D = some v
  | p :: r, hn, h => by
    simp only [List.map_cons, List.nodup_cons] at hn
    cases h with
    | head => simp [getL]
    | tail _ h =>
      have : ¬ p.1 = k := fun e => hn.1 (e ▸ List.mem_map.2 ⟨_, h, rfl⟩)
      simp [getL, this, getL_of_mem hn.2 h]
theorem keys_putL (k : K) (v : V) : ∀ D : List (K × V), (putL k v D).map (·.1) = if k ∈ D.map (·.1) then D.map (·.1) else D.map (·.1) ++ [k]
  | [] => by simp [putL]
  | p :: r => by
    by_cases h : p.1 = k
    · simp [putL, h]
    · have h' : ¬ k = p.1 := fun e => h e.symm
      have ih := keys_putL k v r
      simp only [putL, h, if_false, List.map_cons, ih, List.mem_cons, h', false_or]
      split <;> simp
theorem nodup_putL (k : K) (v : V) {D : List (K × V)} (h : (D.map (·.1)).Nodup) : ((putL k v D).map (·.1)).Nodup := by
  rw [keys_putL]
  split
  · exact h
  · rename_i hk
    refine List.nodup_append.2 ⟨h, by simp, ?_⟩
    intro a ha b hb e
    simp only [List.mem_singleton] at hb
    exact hk (hb ▸ e ▸ ha)
theorem sub_delL (k : K) : ∀ D : List (K × V), (delL k D).Sublist D
  | [] => .slnil
  | p :: r => by
    by_cases h : p.1 = k
    · simp only [delL, h, if_true]; exact List.sublist_cons_self _ _
    · simp only [delL, h, if_false]; exact (sub_delL k r).cons_cons _
theorem nodup_delL (k : K) {D : List (K × V)} (h : (D.map (·.1)).Nodup) : ((delL k D).map (·.1)).Nodup := ((sub_delL k D).map _).nodup h
theorem getL_delL (k j : K) : ∀ D : List (K × V), (D.map (·.1)).Nodup → getL j (delL k D) = if j = k then none else getL j D
  | [], _ => by simp [delL, getL]
  | p :: r, h => by
    simp only [List.map_cons, List.nodup_cons] at h
    by_cases hk : p.1 = k
    · simp only [delL, hk, if_true]
      by_cases hj : j = k
      · simp only [hj, if_true]
        exact getL_none.2 (hk ▸ h.1)
      · have : ¬ k = j := fun e => hj e.symm
        simp [getL, hk, hj, this]
    · have ih := getL_delL k j r h.2
      by_cases hj : p.1 = j
      · have : ¬ j = k := fun e => hk (hj.trans e)
        simp [delL, getL, hj, this]
      · simp [delL, getL, hk, hj, ih]
theorem length_putL (k : K) (v : V) (D : List (K × V)) : (putL k v D).length = if (getL k D).isSome then D.length else D.length + 1 := by
  have := congrArg List.length (keys_putL k v D)
  rw [List.length_map] at this
  rw [this]
  by_cases h : k ∈ D.map (·.1)
  · have : (getL k D).isSome = true := by
      cases hg : getL k D with
      | some _ => rfl
      | none => exact absurd h (getL_none.1 hg)
    simp only [h, this, if_true, List.length_map]
  · have hg := getL_none.2 h
    simp [h, hg]
theorem length_delL (k : K) : ∀ D : List (K × V), (delL k D).length = if (getL k D).isSome then D.length - 1 else D.length
  | [] => rfl
  | p :: r => by
    by_cases h : p.1 = k
    · simp [delL, getL, h]
    · have ih := length_delL k r
      simp only [delL, getL, h, if_false, List.length_cons, ih]
      cases hg : getL k r with
      | none => simp
      | some v =>
        have : r ≠ [] := by intro e; subst e; simp [getL] at hg
        have : 0 < r.length := List.length_pos_iff.2 this
        simp; omega
end

section
variable {K V : Type} [DecidableEq K]
/-- THE ENTRIES READ AS THIS LIST OF PAIRS (in the order of their coming); 'ke', 've': how keys and values lie in memory. -/
structure MapOk (d : TypeDesc) (ke : K → Value) (ve : V → Value) (es : Array MapEntry) (clock : Nat) (D : List (K × V)) : Prop where
  reads : es.toList.map (fun e => (e.key, e.val)) = D.map (fun p => (ke p.1, ve p.2))
  isKey : ∀ k, IsKey d (ke k)
  inj : ∀ a b, ke a = ke b → a = b
  stamped : Stamped es clock

variable {d : TypeDesc} {ke : K → Value} {ve : V → Value} {es : Array MapEntry} {clock : Nat} {D : List (K × V)}
omit [DecidableEq K] in
theorem MapOk.keys (h : MapOk d ke ve es clock D) : es.toList.map (·.key) = D.map (fun p => ke p.1) := by
  have := congrArg (List.map Prod.fst) h.reads
  simpa [Function.comp_def] using this
omit [DecidableEq K] in
theorem MapOk.nodup (h : MapOk d ke ve es clock D) : (D.map (·.1)).Nodup := by
  have h3 := h.stamped.2.2
  rw [h.keys] at h3
  have : D.map (fun p => ke p.1) = (D.map (·.1)).map ke := by simp [Function.comp_def]
  rw [this] at h3
  rw [List.Nodup, List.pairwise_map] at h3
  exact h3.imp (fun hne e => hne (by rw [e]))
omit [DecidableEq K] in
theorem MapOk.entryKeys (h : MapOk d ke ve es clock D) : ∀ x ∈ es.toList, IsKey d x.key := by
  intro x hx
  have : x.key ∈ es.toList.map (·.key) := List.mem_map.2 ⟨x, hx, rfl⟩
  rw [h.keys] at this
  obtain ⟨p, _, e⟩ := List.mem_map.1 this
  rw [← e]; exact h.isKey _
omit [DecidableEq K] in
theorem MapOk.size (h : MapOk d ke ve es clock D) : es.size = D.length := by
  have := congrArg List.length h.reads
  simpa using this
/-- Where k's entry stands, or the list's end. -/
def posL (k : K) : List (K × V) → Nat
  | [] => 0
  | p :: r => if p.1 = k then 0 else posL k r + 1
theorem findNow_getL (hk : ∀ k, IsKey d (ke k)) (hi : ∀ a b, ke a = ke b → a = b) (k : K) : ∀ (l : List MapEntry) (D : List (K × V)) (i : Nat), l.map (fun e => (e.key, e.val)) = D.map (fun p => (ke p.1, ve p.2)) →
    Instr.findNow d (ke k) l i = some ((getL k D).map fun v => (i + posL k D, ve v))
  | [], [], _, _ => rfl
  | [], _ :: _, _, h => by simp at h
  | _ :: _, [], _, h => by simp at h
  | e :: l, p :: D, i, h => by
    simp only [List.map_cons, List.cons.injEq, Prod.mk.injEq] at h
    obtain ⟨⟨h1, h2⟩, h3⟩ := h
    obtain ⟨r, hr, hiff⟩ := sameNow_of_keys (hk k) (hk p.1)
    by_cases hkp : p.1 = k
    · have : r = true := hiff.2 (by rw [hkp])
      subst this
      rw [hkp] at hr
      simp [Instr.findNow, h1, hr, h2, hkp, getL, posL]
    · have : r = false := by
        cases r with
        | false => rfl
        | true => exact absurd (hi _ _ (hiff.1 rfl)).symm hkp
      subst this
      have ih := findNow_getL hk hi k l D (i + 1) h3
      simp only [Instr.findNow, h1, hr, ih, getL, hkp, if_false, posL]
      cases getL k D <;> simp
      omega
theorem pos_lt {k : K} {v : V} : ∀ {D : List (K × V)}, getL k D = some v → posL k D < D.length ∧ D[posL k D]? = some (k, v)
  | p :: r, h => by
    by_cases e : p.1 = k
    · simp only [getL, e, if_true, Option.some.injEq] at h
      subst h; subst e; simp [posL]
    · simp only [getL, e, if_false] at h
      have := pos_lt h
      simp only [posL, e, if_false, List.length_cons, List.getElem?_cons_succ]
      exact ⟨by omega, this.2⟩

theorem putL_set (k : K) (v u : V) : ∀ D : List (K × V), getL k D = some u → putL k v D = D.set (posL k D) (k, v)
  | p :: r, h => by
    by_cases e : p.1 = k
    · simp [putL, posL, e]
    · simp only [getL, e, if_false] at h
      simp [putL, posL, e, putL_set k v u r h]
theorem putL_push (k : K) (v : V) : ∀ D : List (K × V), getL k D = none → putL k v D = D ++ [(k, v)]
  | [], _ => rfl
  | p :: r, h => by
    by_cases e : p.1 = k
    · simp [getL, e] at h
    · simp only [getL, e, if_false] at h
      simp [putL, e, putL_push k v r h]
theorem delL_erase (k : K) (u : V) : ∀ D : List (K × V), getL k D = some u → delL k D = D.eraseIdx (posL k D)
  | p :: r, h => by
    by_cases e : p.1 = k
    · simp [delL, posL, e]
    · simp only [getL, e, if_false] at h
      simp [delL, posL, e, delL_erase k u r h]
theorem delL_none (k : K) : ∀ D : List (K × V), getL k D = none → delL k D = D
  | [], _ => rfl
  | p :: r, h => by
    by_cases e : p.1 = k
    · simp [getL, e] at h
    · simp only [getL, e, if_false] at h
      simp [delL, e, delL_none k r h]

variable {P : Program} {w : World} {t kt et : TypeId} {b : Nat}
/-- 'm[k]', 'v, ok := m[k]'. -/
theorem run_lookup_ok (ht : P.underlying t = some (.map kt et)) (hd : P.underlying kt = some d) {z : Value} (hz : (zeroValue et).run P w = .ok z w)
    (hb : w.heap[b]? = some (.map es clock)) (h : MapOk d ke ve es clock D) (k : K) :
    (Instr.lookup t (.map (some b)) (ke k) false).run P w = .ok (((getL k D).map ve).getD z) w := by
  have hf := findNow_getL h.isKey h.inj k es.toList D 0 h.reads
  cases hg : getL k D with
  | none =>
    rw [hg] at hf
    simp [Instr.lookup, run_underlying ht, MapKept.run_getObj_map hb, run_checkKey hd (h.isKey k), run_findKey hd hf, Result.andThen, hz]
  | some v =>
    rw [hg] at hf
    simp [Instr.lookup, run_underlying ht, MapKept.run_getObj_map hb, run_checkKey hd (h.isKey k), run_findKey hd hf, Result.andThen]
theorem run_lookup2_ok (ht : P.underlying t = some (.map kt et)) (hd : P.underlying kt = some d) {z : Value} (hz : (zeroValue et).run P w = .ok z w)
    (hb : w.heap[b]? = some (.map es clock)) (h : MapOk d ke ve es clock D) (k : K) :
    (Instr.lookup t (.map (some b)) (ke k) true).run P w = .ok (.tuple #[((getL k D).map ve).getD z, .bool (getL k D).isSome]) w := by
  have hf := findNow_getL h.isKey h.inj k es.toList D 0 h.reads
  cases hg : getL k D with
  | none =>
    rw [hg] at hf
    simp [Instr.lookup, run_underlying ht, MapKept.run_getObj_map hb, run_checkKey hd (h.isKey k), run_findKey hd hf, Result.andThen, hz]
  | some v =>
    rw [hg] at hf
    simp [Instr.lookup, run_underlying ht, MapKept.run_getObj_map hb, run_checkKey hd (h.isKey k), run_findKey hd hf, Result.andThen]
/-- 'm[k] = v': some world in which this block alone has turned. -/
theorem run_update_ok (ht : P.underlying t = some (.map kt et)) (hd : P.underlying kt = some d)
    (hb : w.heap[b]? = some (.map es clock)) (h : MapOk d ke ve es clock D) (k : K) (v : V) :
    ∃ es' clock', (Instr.mapUpdate t (.map (some b)) (ke k) (ve v)).run P w = .ok () (ChangeMaps.setBlock w b (.map es' clock')) ∧ MapOk d ke ve es' clock' (putL k v D) := by
  have hf := findNow_getL h.isKey h.inj k es.toList D 0 h.reads
  cases hg : getL k D with
  | none =>
    rw [hg] at hf
    have hne : ∀ x ∈ es.toList, x.key ≠ ke k := by
      intro x hx e
      have : x.key ∈ es.toList.map (·.key) := List.mem_map.2 ⟨x, hx, rfl⟩
      rw [h.keys] at this
      obtain ⟨p, hp, e2⟩ := List.mem_map.1 this
      have := h.inj _ _ (e2.trans e)
      exact getL_none.1 hg (List.mem_map.2 ⟨p, hp, this⟩)
    refine ⟨es.push ⟨ke k, ve v, clock⟩, clock + 1, ?_, ⟨?_, h.isKey, h.inj, stamped_push h.stamped hne⟩⟩
    · simp [Instr.mapUpdate, run_underlying ht, MapKept.run_getObj_map hb, run_checkKey hd (h.isKey k), run_findKey hd hf, MapKept.run_setObj_map _ hb, Result.andThen, ChangeMaps.setBlock]
    · rw [putL_push k v D hg]
      simp [h.reads]
  | some u =>
    rw [hg] at hf
    have hp := pos_lt hg
    have hlen := h.size
    have hj : posL k D < es.size := by rw [hlen]; exact hp.1
    have hkey : (es[posL k D]).key = ke k := by
      have := congrArg (fun l => l[posL k D]?) h.keys
      simp only [List.getElem?_map, Array.getElem?_toList, hp.2, Option.map_some] at this
      rw [Array.getElem?_eq_getElem hj] at this
      simpa using this
    refine ⟨es.modify (posL k D) (fun e' => { e' with key := ke k, val := ve v }), clock, ?_, ⟨?_, h.isKey, h.inj, stamped_modify h.stamped _ _ (fun _ _ => rfl) (fun e' _ he' => ?_)⟩⟩
    · simp only [Option.map_some, Nat.zero_add] at hf
      simp [Instr.mapUpdate, run_underlying ht, MapKept.run_getObj_map hb, run_checkKey hd (h.isKey k), run_findKey hd hf, hj, hkey, MapKept.run_keyThatStays (h.isKey k), MapKept.run_setObj_map _ hb, Result.andThen, ChangeMaps.setBlock]
    · rw [putL_set k v u D hg, List.map_set, ← h.reads]
      apply List.ext_getElem?
      intro j
      simp only [List.getElem?_map, Array.getElem?_toList, Array.getElem?_modify, List.getElem?_set, List.length_map, Array.length_toList]
      by_cases e : posL k D = j
      · subst e
        simp [hj]
      · simp [e]
    · rw [Array.getElem?_eq_getElem hj] at he'
      cases he'
      exact hkey.symm
/-- 'delete(m, k)'. -/
theorem run_delete_ok {ty : TypeId} (ht : P.underlying t = some (.map kt et)) (hd : P.underlying kt = some d)
    (hb : w.heap[b]? = some (.map es clock)) (h : MapOk d ke ve es clock D) (k : K) :
    ∃ es', (Builtin.delete_ #[t, kt] ty #[.map (some b), ke k]).run P w = .ok (.tuple #[]) (ChangeMaps.setBlock w b (.map es' clock)) ∧ MapOk d ke ve es' clock (delL k D) := by
  have hf := findNow_getL h.isKey h.inj k es.toList D 0 h.reads
  cases hg : getL k D with
  | none =>
    rw [hg] at hf
    refine ⟨es, ?_, by rw [delL_none k D hg]; exact h⟩
    simp [Builtin.delete_, run_underlying ht, MapKept.run_getObj_map hb, run_checkKey hd (h.isKey k), run_findKey hd hf, MapKept.run_setObj_map _ hb, Result.andThen, ChangeMaps.setBlock]
  | some u =>
    rw [hg] at hf
    have hp := pos_lt hg
    have hlen := h.size
    have hj : posL k D < es.size := by rw [hlen]; exact hp.1
    refine ⟨es.eraseIdxIfInBounds (posL k D), ?_, ⟨?_, h.isKey, h.inj, stamped_erase h.stamped _⟩⟩
    · simp only [Option.map_some, Nat.zero_add] at hf
      simp [Builtin.delete_, run_underlying ht, MapKept.run_getObj_map hb, run_checkKey hd (h.isKey k), run_findKey hd hf, MapKept.run_setObj_map _ hb, Result.andThen, ChangeMaps.setBlock]
    · have hsub : (es.eraseIdxIfInBounds (posL k D)).toList = es.toList.eraseIdx (posL k D) := by
        unfold Array.eraseIdxIfInBounds
        rw [dif_pos hj]
        simp
      rw [hsub, delL_erase k u D hg, ChangeMaps.map_eraseIdx, ChangeMaps.map_eraseIdx, h.reads]
omit [DecidableEq K] in
theorem run_len_ok {ty : TypeId} (ht : P.underlying t = some (.map kt et)) (hb : w.heap[b]? = some (.map es clock)) (h : MapOk d ke ve es clock D) :
    (Builtin.len_ #[t] ty #[.map (some b)]).run P w = .ok (.int .i64 D.length) w := by
  simp [Builtin.len_, run_underlying ht, MapKept.run_getObj_map hb, Result.andThen, h.size, goInt]
end
theorem mapOk_new {K V : Type} [DecidableEq K] {d : TypeDesc} {ke : K → Value} {ve : V → Value} (h1 : ∀ k, IsKey d (ke k)) (h2 : ∀ a b, ke a = ke b → a = b) : MapOk d ke ve #[] 0 [] := ⟨rfl, h1, h2, stamped_empty 0⟩
theorem Sat.setBlock {w : World} {b : Nat} {o : Obj} {h : Heaplet} (s : Sat w (.blk b o :: h)) (o' : Obj) : Sat (ChangeMaps.setBlock w b o') (.blk b o' :: h) := s.set o' rfl ⟨rfl, rfl, rfl⟩
section
variable {K V : Type} [DecidableEq K] {d : TypeDesc} {ke : K → Value} {ve : V → Value} {es : Array MapEntry} {clock : Nat} {D : List (K × V)} {P : Program} {w : World} {t kt et : TypeId} {b : Nat} {F : Heaplet}
/-- 'm[k] = v' in the block-wise view. -/
theorem sat_update (ht : P.underlying t = some (.map kt et)) (hd : P.underlying kt = some d) (h : MapOk d ke ve es clock D) (s : Sat w (.blk b (.map es clock) :: F)) (k : K) (v : V) :
    ∃ w' es' clock', (Instr.mapUpdate t (.map (some b)) (ke k) (ve v)).run P w = .ok () w' ∧ MapOk d ke ve es' clock' (putL k v D) ∧ Sat w' (.blk b (.map es' clock') :: F) := by
  obtain ⟨es', clock', h1, h2⟩ := run_update_ok ht hd s.h0 h k v
  exact ⟨_, es', clock', h1, h2, s.setBlock _⟩
theorem sat_delete {ty : TypeId} (ht : P.underlying t = some (.map kt et)) (hd : P.underlying kt = some d) (h : MapOk d ke ve es clock D) (s : Sat w (.blk b (.map es clock) :: F)) (k : K) :
    ∃ w' es', (Builtin.delete_ #[t, kt] ty #[.map (some b), ke k]).run P w = .ok (.tuple #[]) w' ∧ MapOk d ke ve es' clock (delL k D) ∧ Sat w' (.blk b (.map es' clock) :: F) := by
  obtain ⟨es', h1, h2⟩ := run_delete_ok (ty := ty) ht hd s.h0 h k
  exact ⟨_, es', h1, h2, s.setBlock _⟩
end
/-- 'int(uint(x) % m)'. -/
def umod (x m : Int) : Int := RowKit.wrap64 ((IntKind.u64.wrap x).tmod m)
theorem umod_bd (x m : Int) (h0 : 0 < m) (h1 : m ≤ 1000000000) : 0 ≤ umod x m ∧ umod x m < m := by
  unfold umod
  have hu : 0 ≤ IntKind.u64.wrap x := by rw [IntKind.wrap_u64]; omega
  have h2 : (IntKind.u64.wrap x).tmod m = (IntKind.u64.wrap x) % m := Int.tmod_eq_emod_of_nonneg hu
  have h3 := Int.emod_nonneg (IntKind.u64.wrap x) (show m ≠ 0 by omega)
  have h4 := Int.emod_lt_of_pos (IntKind.u64.wrap x) h0
  rw [h2, IntWalk.wrap64_in _ ⟨by omega, by omega⟩]
  exact ⟨h3, h4⟩

end Go.Proofs.YtgocmnejlbfplaaGreatDoor
