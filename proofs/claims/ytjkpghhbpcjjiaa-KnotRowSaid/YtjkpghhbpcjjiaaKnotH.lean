/- The graph of who waits for whom: how it lies in memory. Conditions: none. -/
import Derived.Test.YtjkpghhbpcjjiaaKnotM
import Derived.Test.YtjkpghhbpcjjiaaMapR
import Derived.Test.YtjkpghhbpcjjiaaSl
import Derived.Test.YtjkpghhbpcjjiaaSortK15
import Derived.Test.YtjkpghhbpcjjiaaProg
import Derived.ProofKit
import Derived.Lib.Hide
import Derived.Deep.LoopGhost
namespace Go.Proofs.Ytjkpghhbpcjjiaa
open Go Go.MapKept Go.RowKit Go.Proofs

/-! ### blocks by entries -/
section
variable {V : Type} (it : V → HItem)
def entH (L : List (Int × V)) : Heaplet := L.map fun p => it p.2
variable {it}
theorem entH_get {p : Int} {v : V} : ∀ {L : List (Int × V)}, getL p L = some v → (entH it L).Perm (it v :: entH it (delL p L))
  | q :: r, h => by
    by_cases e : q.1 = p
    · simp only [getL, e, if_true, Option.some.injEq] at h
      subst h
      simp [delL, e, entH]
    · simp only [getL, e, if_false] at h
      have ih := entH_get h
      simp only [delL, e, if_false, entH, List.map_cons] at ih ⊢
      exact (ih.cons _).trans (List.Perm.swap _ _ _)
theorem entH_put {p : Int} {v u : V} : ∀ {L : List (Int × V)}, getL p L = some v → (entH it (putL p u L)).Perm (it u :: entH it (delL p L))
  | q :: r, h => by
    by_cases e : q.1 = p
    · simp [putL, delL, e, entH]
    · simp only [getL, e, if_false] at h
      have ih := entH_put (u := u) h
      simp only [putL, delL, e, if_false, entH, List.map_cons] at ih ⊢
      exact (ih.cons _).trans (List.Perm.swap _ _ _)
theorem entH_new {p : Int} {u : V} : ∀ {L : List (Int × V)}, getL p L = none → (entH it (putL p u L)).Perm (it u :: entH it L)
  | [], _ => by simp [putL, entH]
  | q :: r, h => by
    by_cases e : q.1 = p
    · simp [getL, e] at h
    · simp only [getL, e, if_false] at h
      have ih := entH_new (u := u) h
      simp only [putL, e, if_false, entH, List.map_cons] at ih ⊢
      exact (ih.cons _).trans (List.Perm.swap _ _ _)
end
abbrev Nbr := List (Int × Unit)
def kU : Unit → Value := fun _ => .bool true
/-- Whom a name waits for: a map in a block of its own. -/
structure Nd where
  g : Nat
  es : Array MapEntry
  clk : Nat
  D : Nbr
abbrev GL := List (Int × Nd)
def nv (n : Nd) : Value := .map (some n.g)
def ndI (n : Nd) : HItem := .blk n.g (.map n.es n.clk)
def NdOk (n : Nd) : Prop := MapOk (.int .i64) kI kU n.es n.clk n.D
/-- An edge. -/
def E (L : GL) : Rl := fun a b => ∃ n, getL a L = some n ∧ getL b n.D = some ()
/-- THE GRAPH at m. -/
def GraphH (m : Nat) (es : Array MapEntry) (clk : Nat) (L : GL) : Heaplet := .blk m (.map es clk) :: entH ndI L
def GraphIs (m : Nat) (L : GL) (F : Heaplet) (w : World) : Prop :=
  (∀ p ∈ L, NdOk p.2) ∧ ∃ es clk, MapOk (.int .i64) kI nv es clk L ∧ Sat w (GraphH m es clk L ++ F)
theorem reads_mod {a : Int} {n n' : Nd} (hg : n'.g = n.g) : ∀ {L : GL}, getL a L = some n → (putL a n' L).map (fun q => (kI q.1, nv q.2)) = L.map (fun q => (kI q.1, nv q.2))
  | q :: r, h => by
    by_cases e : q.1 = a
    · simp only [getL, e, if_true, Option.some.injEq] at h
      subst h
      simp [putL, e, nv, hg]
    · simp only [getL, e, if_false] at h
      have ih := reads_mod hg h
      simp only [putL, e, if_false, List.map_cons, ih]
theorem mapOk_mod {es : Array MapEntry} {clk : Nat} {L : GL} (h : MapOk (.int .i64) kI nv es clk L) {a : Int} {n n' : Nd} (hg : n'.g = n.g) (hk : getL a L = some n) : MapOk (.int .i64) kI nv es clk (putL a n' L) :=
  ⟨h.reads.trans (reads_mod hg hk).symm, h.isKey, h.inj, h.stamped⟩
theorem nd_put {P : Nd → Prop} {a : Int} {n : Nd} {L : GL} (h : ∀ p ∈ L, P p.2) (hn : P n) : ∀ p ∈ putL a n L, P p.2 := by
  induction L with
  | nil => intro p hp; simp [putL] at hp; subst hp; exact hn
  | cons q r ih =>
    intro p hp
    by_cases e : q.1 = a
    · simp only [putL, e, if_true, List.mem_cons] at hp
      rcases hp with rfl | hp
      · exact hn
      · exact h p (.tail _ hp)
    · simp only [putL, e, if_false, List.mem_cons] at hp
      rcases hp with rfl | hp
      · exact h _ (.head _)
      · exact ih (fun x hx => h x (.tail _ hx)) p hp
section
variable {m : Nat} {L : GL} {F : Heaplet} {w : World}
theorem GraphIs.frame (h : GraphIs m L F w) : Sat w F := by
  obtain ⟨_, es, clk, hm, hs⟩ := h
  exact hs.right
theorem GraphIs.nodup (h : GraphIs m L F w) : (L.map (·.1)).Nodup := by
  obtain ⟨_, es, clk, hm, hs⟩ := h
  exact hm.nodup
theorem GraphIs.permF {F' : Heaplet} (h : GraphIs m L F w) (p : F.Perm F') : GraphIs m L F' w := by
  obtain ⟨ho, es, clk, hm, hs⟩ := h
  exact ⟨ho, es, clk, hm, hs.perm (p.append_left _)⟩
theorem GraphIs.drop {A : Heaplet} (h : GraphIs m L (A ++ F) w) : GraphIs m L F w := by
  obtain ⟨ho, es, clk, hm, hs⟩ := h
  exact ⟨ho, es, clk, hm, (hs.perm (List.perm_append_comm_assoc (GraphH m es clk L) A F)).right⟩
theorem GraphIs.new (h : GraphIs m L F w) (o : Obj) : GraphIs m L (.blk w.heap.size o :: F) (w.alloc o) := by
  obtain ⟨ho, es, clk, hm, hs⟩ := h
  exact ⟨ho, es, clk, hm, (hs.new o).perm (List.perm_middle (l₁ := GraphH m es clk L)).symm⟩
theorem GraphIs.drew (h : GraphIs m L F w) : GraphIs m L F w.drew := by
  obtain ⟨ho, es, clk, hm, hs⟩ := h
  exact ⟨ho, es, clk, hm, hs.drew⟩
theorem zeroM (w : World) : (zeroValue 82).run Try.prog w = .ok (.map none) w := by kernel_rfl
theorem zeroB (w : World) : (zeroValue 4).run Try.prog w = .ok (.bool false) w := by kernel_rfl
def nbV : Option Nd → Value
  | some n => nv n
  | none => .map none
theorem GraphIs.look (h : GraphIs m L F w) (a : Int) : (Instr.lookup 79 (.map (some m)) (kI a) false).run Try.prog w = .ok (nbV (getL a L)) w := by
  obtain ⟨ho, es, clk, hm, hs⟩ := h
  have hb : w.heap[m]? = some (.map es clk) := hs.get (.head _)
  have := run_lookup_ok (P := Try.prog) (t := 79) (kt := 3) (et := 82) (z := .map none) Try.underlying79 Try.underlying3 (zeroM w) hb hm a
  rw [this]
  cases getL a L <;> rfl
/-- A new name, whom nobody is waited for by yet. -/
theorem GraphIs.start (h : GraphIs m L F w) {a : Int} (hk : getL a L = none) :
    ∃ w', (Instr.mapUpdate 79 (.map (some m)) (kI a) (.map (some w.heap.size))).run Try.prog (w.alloc (.map #[] 0)) = .ok () w' ∧ GraphIs m (putL a ⟨w.heap.size, #[], 0, []⟩ L) F w' := by
  obtain ⟨ho, es, clk, hm, hs⟩ := h
  have h1 := hs.new (.map #[] 0)
  have h2 : Sat (w.alloc (.map #[] 0)) (.blk m (.map es clk) :: (.blk w.heap.size (.map #[] 0) :: (entH ndI L ++ F))) := h1.swap
  obtain ⟨w', es', clk', hr, hm', hs'⟩ := sat_update (P := Try.prog) (t := 79) (kt := 3) (et := 82) Try.underlying79 Try.underlying3 hm h2 a ⟨w.heap.size, #[], 0, []⟩
  refine ⟨w', hr, nd_put ho (mapOk_new kI_key kI_inj), es', clk', hm', ?_⟩
  refine hs'.perm (List.Perm.cons _ ?_)
  exact ((entH_new (it := ndI) (u := ⟨w.heap.size, #[], 0, []⟩) hk).append_right F).symm
/-- The neighbours' map, its own. -/
theorem GraphIs.nb (h : GraphIs m L F w) {a : Int} {n : Nd} (hk : getL a L = some n) : NdOk n ∧ ∃ es clk A, MapOk (.int .i64) kI nv es clk L ∧ Sat w (ndI n :: (A ++ F)) ∧
    ∀ n', n'.g = n.g → NdOk n' → ∀ {F' w'}, Sat w' (ndI n' :: (A ++ F')) → GraphIs m (putL a n' L) F' w' := by
  obtain ⟨ho, es, clk, hm, hs⟩ := h
  have hn : NdOk n := ho (a, n) (getL_mem hk)
  refine ⟨hn, es, clk, .blk m (.map es clk) :: entH ndI (delL a L), hm, ?_, fun n' hg hn' {F' w'} hs' => ⟨nd_put ho hn', es, clk, mapOk_mod hm hg hk, ?_⟩⟩
  · have p : (GraphH m es clk L ++ F).Perm (ndI n :: ((.blk m (.map es clk) :: entH ndI (delL a L)) ++ F)) := by
      refine List.Perm.append_right F (l₂ := ndI n :: .blk m (.map es clk) :: entH ndI (delL a L)) ?_
      exact ((entH_get (it := ndI) hk).cons _).trans (List.Perm.swap _ _ _)
    exact hs.perm p
  · have p : (ndI n' :: ((.blk m (.map es clk) :: entH ndI (delL a L)) ++ F')).Perm (GraphH m es clk (putL a n' L) ++ F') := by
      refine List.Perm.append_right F' (l₁ := ndI n' :: .blk m (.map es clk) :: entH ndI (delL a L)) ?_
      exact (List.Perm.swap _ _ _).trans ((entH_put (it := ndI) (u := n') hk).symm.cons _)
    exact hs'.perm p
/-- One is waited for more. -/
theorem GraphIs.edge (h : GraphIs m L F w) {a : Int} {n : Nd} (hk : getL a L = some n) (b : Int) :
    ∃ w' n', (Instr.mapUpdate 82 (nv n) (kI b) (.bool true)).run Try.prog w = .ok () w' ∧ n'.D = putL b () n.D ∧ GraphIs m (putL a n' L) F w' := by
  obtain ⟨hn, es, clk, A, hm, hs, back⟩ := h.nb hk
  obtain ⟨w', es', clk', hr, hm', hs'⟩ := sat_update (P := Try.prog) (t := 82) (kt := 3) (et := 4) Try.underlying82 Try.underlying3 hn hs b ()
  exact ⟨w', ⟨n.g, es', clk', putL b () n.D⟩, hr, rfl, back ⟨n.g, es', clk', putL b () n.D⟩ rfl hm' hs'⟩
end
/-! ### what the steps do to the edges -/
theorem E_start {L : GL} {a : Int} {g : Nat} (hk : getL a L = none) (x y : Int) : E (putL a ⟨g, #[], 0, []⟩ L) x y ↔ E L x y := by
  unfold E
  rw [getL_putL]
  by_cases e : x = a
  · subst e
    rw [if_pos rfl, hk]
    constructor
    · rintro ⟨n, h1, h2⟩
      cases h1
      simp [getL] at h2
    · rintro ⟨n, h1, _⟩
      cases h1
  · rw [if_neg e]
theorem E_edge {L : GL} {a b : Int} {n n' : Nd} (hk : getL a L = some n) (hD : n'.D = putL b () n.D) (x y : Int) : E (putL a n' L) x y ↔ (E L x y ∨ (x = a ∧ y = b)) := by
  unfold E
  rw [getL_putL]
  by_cases e : x = a
  · subst e
    rw [if_pos rfl, hk]
    constructor
    · rintro ⟨n1, h1, h2⟩
      cases h1
      rw [hD, getL_putL] at h2
      by_cases ey : y = b
      · exact .inr ⟨rfl, ey⟩
      · rw [if_neg ey] at h2
        exact .inl ⟨n, rfl, h2⟩
    · rintro (⟨n1, h1, h2⟩ | ⟨_, rfl⟩)
      · cases h1
        refine ⟨n', rfl, ?_⟩
        rw [hD, getL_putL]
        split
        · rfl
        · exact h2
      · refine ⟨n', rfl, ?_⟩
        rw [hD, getL_putL, if_pos rfl]
  · rw [if_neg e]
    constructor
    · exact .inl
    · rintro (h | ⟨rfl, _⟩)
      · exact h
      · exact absurd rfl e
/-- The graph has just these edges. -/
def GOk (L : GL) (l : List (Int × Int)) : Prop := (∀ a b, E L a b ↔ (a, b) ∈ l) ∧ ∀ a ∈ L.map (·.1), a ∈ l.map (·.1)
theorem keys_put {V : Type} {a x : Int} {n : V} {L : List (Int × V)} (h : x ∈ (putL a n L).map (·.1)) : x = a ∨ x ∈ L.map (·.1) := by
  rw [keys_putL] at h
  split at h
  · exact .inr h
  · rcases List.mem_append.1 h with h | h
    · exact .inr h
    · exact .inl (by simpa using h)
theorem GOk.step {L L1 : GL} {l : List (Int × Int)} {a b : Int} {n n' : Nd} (h : GOk L l) (h1 : L1 = L ∨ (getL a L = none ∧ ∃ g, L1 = putL a ⟨g, #[], 0, []⟩ L)) (hk : getL a L1 = some n) (hD : n'.D = putL b () n.D) : GOk (putL a n' L1) (l ++ [(a, b)]) := by
  have e1 : ∀ x y, E L1 x y ↔ E L x y := by
    rcases h1 with rfl | ⟨hn, g, rfl⟩
    · exact fun x y => Iff.rfl
    · exact fun x y => E_start hn x y
  refine ⟨fun x y => ?_, fun x hx => ?_⟩
  · rw [E_edge hk hD, e1, h.1]
    simp only [List.mem_append, List.mem_singleton, Prod.mk.injEq]
  · rw [List.map_append, List.mem_append]
    rcases keys_put hx with rfl | hx
    · exact .inr (by simp)
    · rcases h1 with rfl | ⟨hn, g, rfl⟩
      · exact .inl (h.2 x hx)
      · rcases keys_put hx with rfl | hx
        · exact .inr (by simp)
        · exact .inl (h.2 x hx)
theorem gok_nil : GOk [] [] := ⟨fun a b => by simp [E, getL], fun a h => by simp at h⟩
end Go.Proofs.Ytjkpghhbpcjjiaa
