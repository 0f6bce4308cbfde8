/- The plate's small calls, each walked once. Conditions: none. -/
import Derived.Test.YtgocmnejlbfplaaDoorApp
import Derived.Test.YtgocmnejlbfplaaDoorProg
import Derived.ProofKit
import Derived.Lib.Hide
namespace Go.Proofs.YtgocmnejlbfplaaDoor
open Go Go.MapKept Go.RowKit Go.Proofs

theorem kS_inj : ∀ a b, kS a = kS b → a = b := fun _ _ h => by simpa using h
/-- The plate, in plain data. -/
structure PM where
  count : Int
  secs : List (Int × ByteArray)
  queue : List (Int × ByteArray)
  down : Bool
  acts : Int
  armed : Int
  life : Int
def flatQ (q : List (Int × ByteArray)) : List Value := q.flatMap fun x => [kI x.1, kS x.2]
abbrev plateObj (M : PM) (m : Nat) (qv : Value) : Obj := .cells #[kI M.count, .map (some m), qv, .bool M.down, kI M.acts, kI M.armed, kI M.life] 64
/-- THE PLATE AT BLOCK b IS M; the rest of memory: F. -/
def PlateIs (b : Nat) (M : PM) (F : Heaplet) (w : World) : Prop :=
  ∃ m es clk qv qh, MapOk (.int .i64) kI kS es clk M.secs ∧ SliceIs 76 2 qv M.queue.length (flatQ M.queue) qh ∧
    Sat w (.blk b (plateObj M m qv) :: .blk m (.map es clk) :: (qh ++ F))
/-- What the small calls want: the seven cells. -/
theorem PlateIs.cells {b : Nat} {M : PM} {F : Heaplet} {w : World} (h : PlateIs b M F w) :
    ∃ m qv, w.cell? ⟨b, 0, none⟩ = some (kI M.count) ∧ w.cell? ⟨b, 1, none⟩ = some (.map (some m)) ∧ w.cell? ⟨b, 2, none⟩ = some qv ∧ w.cell? ⟨b, 3, none⟩ = some (.bool M.down) ∧
      w.cell? ⟨b, 4, none⟩ = some (kI M.acts) ∧ w.cell? ⟨b, 5, none⟩ = some (kI M.armed) ∧ w.cell? ⟨b, 6, none⟩ = some (kI M.life) ∧ ∀ i, w.frozen? ⟨b, i, none⟩ = false := by
  obtain ⟨m, es, clk, qv, qh, _, _, hs⟩ := h
  have hb := hs.h0
  refine ⟨m, qv, ?_, ?_, ?_, ?_, ?_, ?_, ?_, fun i => unfrozen_of hb i⟩ <;> (rw [cell_of hb]; rfl)
theorem PlateIs.frame {b : Nat} {M : PM} {F : Heaplet} {w : World} (h : PlateIs b M F w) : Sat w F := by
  obtain ⟨m, es, clk, qv, qh, _, _, hs⟩ := h
  exact Sat.right hs.tail.tail
theorem PlateIs.drew {b : Nat} {M : PM} {F : Heaplet} {w : World} (h : PlateIs b M F w) : PlateIs b M F w.drew := by
  obtain ⟨m, es, clk, qv, qh, h1, h2, hs⟩ := h
  exact ⟨m, es, clk, qv, qh, h1, h2, hs.drew⟩
theorem PlateIs.new {b : Nat} {M : PM} {F : Heaplet} {w : World} (h : PlateIs b M F w) (o : Obj) : PlateIs b M (.blk w.heap.size o :: F) (w.alloc o) := by
  obtain ⟨m, es, clk, qv, qh, h1, h2, hs⟩ := h
  exact ⟨m, es, clk, qv, qh, h1, h2, (hs.new o).perm (List.perm_middle (l₁ := HItem.blk b _ :: .blk m _ :: qh)).symm⟩
theorem PlateIs.unF {b : Nat} {M : PM} {x : HItem} {F : Heaplet} {w : World} (h : PlateIs b M (x :: F) w) : PlateIs b M F w := by
  obtain ⟨m, es, clk, qv, qh, h1, h2, hs⟩ := h
  exact ⟨m, es, clk, qv, qh, h1, h2, (hs.perm (List.perm_middle (l₁ := HItem.blk b _ :: .blk m _ :: qh))).tail⟩
/-- A field that is a plain value turns. -/
theorem PlateIs.setField {b : Nat} {M M' : PM} {F : Heaplet} {w : World} (h : PlateIs b M F w) (i : Nat) (v : Value) (e1 : M'.secs = M.secs) (e2 : M'.queue = M.queue)
    (e : ∀ m qv, (#[kI M.count, .map (some m), qv, .bool M.down, kI M.acts, kI M.armed, kI M.life] : Array Value).setIfInBounds i v = #[kI M'.count, .map (some m), qv, .bool M'.down, kI M'.acts, kI M'.armed, kI M'.life]) :
    PlateIs b M' F (w.setCell ⟨b, i, none⟩ v) := by
  obtain ⟨m, es, clk, qv, qh, h1, h2, hs⟩ := h
  refine ⟨m, es, clk, qv, qh, by rw [e1]; exact h1, by rw [e2]; exact h2, ?_⟩
  have := hs.setCell (i := i) v
  rw [e m qv] at this
  exact this

def errNil : Int := 2
def errDown : Int := 10
def errArg : Int := 1
def readyM (M : PM) (n : Int) : Int := if M.down then 10 else if n < 0 ∨ M.count ≤ n then 1 else 0

theorem ready_nil (n : Int) (w : World) : Calls Tryd.prog 32 #[.pointer none, .int .i64 n] w (Ret (.int .i64 2) (Same w)) := by
  go_enter Tryd.func32, Tryd.ntmps32
  go_wp2
  go_ret
  exact ⟨rfl, rfl⟩
theorem ready_any (b : Nat) (M : PM) (F : Heaplet) (n : Int) (w : World) (h : PlateIs b M F w) :
    Calls Tryd.prog 32 #[.pointer (some ⟨b, 0, none⟩), .int .i64 n] w (Ret (.int .i64 (readyM M n)) (Same w)) := by
  obtain ⟨m, qv, c0, c1, c2, c3, c4, c5, c6, u⟩ := h.cells
  clear h u c1 c2 c4 c5 c6
  unfold readyM
  cases hd : M.down with
  | true =>
    rw [hd] at c3
    clear hd
    go_enter Tryd.func32, Tryd.ntmps32
    go_wp2
    go_ret
    exact ⟨rfl, rfl⟩
  | false =>
    rw [hd] at c3
    clear hd
    generalize M.count = c at *
    by_cases h1 : n < 0
    · have e : (if false = true then (10 : Int) else if n < 0 ∨ c ≤ n then 1 else 0) = 1 := by simp [h1]
      rw [e]
      go_enter Tryd.func32, Tryd.ntmps32
      go_wp2
      go_ret
      exact ⟨rfl, rfl⟩
    · by_cases h2 : c ≤ n
      · have e : (if false = true then (10 : Int) else if n < 0 ∨ c ≤ n then 1 else 0) = 1 := by simp [h2]
        rw [e]
        go_enter Tryd.func32, Tryd.ntmps32
        go_wp2
        go_ret
        exact ⟨rfl, rfl⟩
      · have e : (if false = true then (10 : Int) else if n < 0 ∨ c ≤ n then 1 else 0) = 0 := by simp [h1, h2]
        rw [e]
        have h3 : n < c := by omega
        go_enter Tryd.func32, Tryd.ntmps32
        go_wp2
        go_ret
        exact ⟨rfl, rfl⟩
end Go.Proofs.YtgocmnejlbfplaaDoor
