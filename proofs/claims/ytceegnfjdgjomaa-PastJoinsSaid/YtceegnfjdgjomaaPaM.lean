/- What a log tells, in plain data: entries, names, which entries can be. Conditions: none. -/
import Derived.Test.YtceegnfjdgjomaaMapBr
import Derived.Test.YtceegnfjdgjomaaSl
import Derived.Sort.Grow
import Derived.Shelf.SlSortCmp.QuietGrown
namespace Go.Proofs.Ytceegnfjdgjomaa
open Go Go.MapKept Go.RowKit Go.Proofs Go.Sort

/-- A transaction's name. -/
structure Tx where
  c : Int
  e : Int
  n : Int
deriving DecidableEq
/-- An entry. -/
structure En where
  kind : Int
  t : Tx
  lsn : Int
  prev : Int
  page : Int
  slot : Int
  wu : Bool
  wd : ByteArray
  iu : Bool
  idt : ByteArray
  next : Int
abbrev tC (t : Tx) : List Value := [kI t.c, kI t.e, kI t.n]
abbrev eC (x : En) : List Value := [kI x.kind, kI x.t.c, kI x.t.e, kI x.t.n, kI x.lsn, kI x.prev, kI x.page, kI x.slot, .bool x.wu, kS x.wd, .bool x.iu, kS x.idt, kI x.next]
abbrev tV (t : Tx) : Value := .agg #[kI t.c, kI t.e, kI t.n]
abbrev eV (x : En) : Value := .agg #[kI x.kind, kI x.t.c, kI x.t.e, kI x.t.n, kI x.lsn, kI x.prev, kI x.page, kI x.slot, .bool x.wu, kS x.wd, .bool x.iu, kS x.idt, kI x.next]
def withinM (n lo hi : Int) : Bool := decide (lo ≤ n) && decide (n ≤ hi)
def knownM (t : Tx) : Bool := withinM t.c 1 8 && withinM t.e 1 1073741824 && withinM t.n 1 1073741824
def slotM (u : Bool) (d : ByteArray) : Bool := decide ((d.size : Int) ≤ 200) && (u || d.toList == [])
def changeM (x : En) : Bool := withinM x.page 0 1023 && withinM x.slot 0 31 && slotM x.wu x.wd && slotM x.iu x.idt
/-- An entry with the fields alone that all kinds have. -/
def plainM (x : En) : En := { kind := x.kind, t := x.t, lsn := x.lsn, prev := x.prev, page := 0, slot := 0, wu := false, wd := ⟨#[]⟩, iu := false, idt := ⟨#[]⟩, next := 0 }
def bareM (x : En) : Bool := x.page == 0 && x.slot == 0 && !x.wu && x.wd.toList == [] && !x.iu && x.idt.toList == [] && x.next == 0
def headM (x : En) : Bool := knownM x.t && withinM x.lsn 1 1099511627776 && withinM x.prev 0 (x.lsn - 1)
/-- Whether an entry can be. -/
def goodM (x : En) : Bool :=
  headM x && (if x.kind = 1 then changeM x && x.next == 0 else if x.kind = 2 then changeM x && withinM x.next 0 x.prev else if x.kind = 3 ∨ x.kind = 4 then bareM x else false)
def isEndM (x : En) : Bool := x.kind == 3 || x.kind == 4
def cmpI (a b : Int) : Int := if a < b then -1 else if b < a then 1 else 0
def cmpT (a b : Tx) : Int := if cmpI a.c b.c ≠ 0 then cmpI a.c b.c else if cmpI a.e b.e ≠ 0 then cmpI a.e b.e else cmpI a.n b.n
/-- Draws, and new blocks. -/
def Grown (w w' : World) : Prop := ∃ q os, w' = grow (w.drewN q) os
theorem Grown.refl (w : World) : Grown w w := ⟨0, #[], by rw [grow_empty]; rfl⟩
theorem Grown.alloc (w : World) (o : Obj) : Grown w (w.alloc o) := ⟨0, #[o], by rw [alloc_eq_grow]; rfl⟩
theorem Grown.drew (w : World) : Grown w w.drew := ⟨1, #[], by rw [grow_empty]; rfl⟩
theorem Grown.trans {a b c : World} (h : Grown a b) (k : Grown b c) : Grown a c := by
  obtain ⟨q, os, rfl⟩ := h
  obtain ⟨q', os', rfl⟩ := k
  exact ⟨q + q', os ++ os', by show grow (grow ((a.drewN q).drewN q') os) os' = _; rw [grow_grow, World.drewN_drewN]⟩
theorem Grown.same {w w' : World} (h : Same w w') : Grown w w' := by
  unfold Same at h; rw [← h]; exact Grown.refl w
theorem Grown.below {w w' : World} (h : Grown w w') : RowKit.Below w.heap.size w w' := by
  obtain ⟨q, os, rfl⟩ := h
  refine Sat.below ?_
  have hs : Sat (w.drewN q) (allOf w) := (sat_all w).of_heap rfl ⟨rfl, rfl, rfl⟩
  refine ⟨fun x hx => ?_, hs.2⟩
  have h := hs.1 x hx
  cases x with
  | blk b o => exact (heap_grow_old _ _ (Array.getElem?_eq_some_iff.1 h).1).trans h
  | env w0 => exact h
/-- It returns this; the world has grown at most. -/
def Pur (v : Value) (w : World) : Ending → World → Prop := Ret v (Grown w)
end Go.Proofs.Ytceegnfjdgjomaa
