/- How the locks and the two arrays of LatchKeeps lie in memory. Conditions: none. -/
import Derived.Test.YtcndmiepbodpnaaLKeepsE
import Derived.Test.YtcndmiepbodpnaaLatch5
namespace Go.Proofs.Ytcndmiepbodpnaa
open Go Go.MapKept Go.RowKit Go.Proofs

/-- The locks at b hold D; the array nb what is needed, the array ob who owes. -/
def LK (b nb ob : Nat) (D : Lks) (f : Int → Int) (g : Int → Bool) (F : Heaplet) (w : World) : Prop :=
  LatchIs b D (.blk ob (.cells (arr6 fun j => .bool (g j)) 51) :: .blk nb (.cells (arr6 fun j => kI (f j)) 50) :: F) w
theorem LatchIs.drewN {b : Nat} {D : Lks} {F : Heaplet} {w : World} (h : LatchIs b D F w) (n : Nat) : LatchIs b D F (w.drewN n) := by
  obtain ⟨m, L, e, es, clk, hm, hs⟩ := h
  exact ⟨m, L, e, es, clk, hm, hs.of_heap rfl ⟨rfl, rfl, rfl⟩⟩
theorem LatchIs.drew {b : Nat} {D : Lks} {F : Heaplet} {w : World} (h : LatchIs b D F w) : LatchIs b D F w.drew := by
  obtain ⟨m, L, e, es, clk, hm, hs⟩ := h
  exact ⟨m, L, e, es, clk, hm, hs.drew⟩
theorem LatchIs.setF {b g i : Nat} {D : Lks} {F : Heaplet} {w : World} {c : Array Value} {t : TypeId} {z : Nat × Nat} (h : LatchIs b D (.blk g (.cells c t z) :: F) w) (v : Value) :
    LatchIs b D (.blk g (.cells (c.setIfInBounds i v) t z) :: F) (w.setCell ⟨g, i, none⟩ v) := by
  obtain ⟨m, L, e, h⟩ := h
  exact ⟨m, L, e, h.setF v⟩
section
variable {b nb ob : Nat} {D : Lks} {f : Int → Int} {g : Int → Bool} {F : Heaplet} {w : World}
theorem LK.ext (h : LK b nb ob D f g F w) {f' : Int → Int} {g' : Int → Bool} (hf : ∀ j, 0 ≤ j → j < 6 → f j = f' j) (hg : ∀ j, 0 ≤ j → j < 6 → g j = g' j) : LK b nb ob D f' g' F w := by
  unfold LK at *
  rw [arr6_ext (f := fun j => kI (f j)) (g := fun j => kI (f' j)) (fun j a c => by simp only [hf j a c]), arr6_ext (f := fun j => Value.bool (g j)) (g := fun j => Value.bool (g' j)) (fun j a c => by simp only [hg j a c])] at h
  exact h
theorem LK.need (h : LK b nb ob D f g F w) {p : Int} (h0 : 0 ≤ p) (h1 : p < 6) : w.cell? ⟨nb, p.toNat, none⟩ = some (kI (f p)) := by
  rw [cell_of h.frame.h1, arr6_get _ h0 h1]
theorem LK.owed (h : LK b nb ob D f g F w) {p : Int} (h0 : 0 ≤ p) (h1 : p < 6) : w.cell? ⟨ob, p.toNat, none⟩ = some (.bool (g p)) := by
  rw [cell_of h.frame.h0, arr6_get _ h0 h1]
theorem LK.fneed (h : LK b nb ob D f g F w) (i : Nat) : w.frozen? ⟨nb, i, none⟩ = false := unfrozen_of h.frame.h1 i
theorem LK.fowed (h : LK b nb ob D f g F w) (i : Nat) : w.frozen? ⟨ob, i, none⟩ = false := unfrozen_of h.frame.h0 i
theorem LK.setOwed (h : LK b nb ob D f g F w) {p : Int} (h0 : 0 ≤ p) (h1 : p < 6) (v : Bool) : LK b nb ob D f (fun j => if j = p then v else g j) F (w.setCell ⟨ob, p.toNat, none⟩ (.bool v)) := by
  unfold LK at *
  have := h.setF (i := p.toNat) (.bool v)
  rw [arr6_set _ _ h0 h1] at this
  rw [arr6_ext (f := fun j => Value.bool (if j = p then v else g j)) (g := fun j => if j = p then Value.bool v else Value.bool (g j)) (fun j _ _ => by split <;> rfl)]
  exact this
theorem LK.setNeed (h : LK b nb ob D f g F w) {p : Int} (h0 : 0 ≤ p) (h1 : p < 6) (v : Int) : LK b nb ob D (fun j => if j = p then v else f j) g F (w.setCell ⟨nb, p.toNat, none⟩ (kI v)) := by
  unfold LK at *
  have h2 := h.weaken (E := []) (List.Perm.swap _ _ _)
  have := h2.setF (i := p.toNat) (kI v)
  rw [arr6_set _ _ h0 h1] at this
  have h3 := this.weaken (E := []) (List.Perm.swap _ _ _)
  rw [arr6_ext (f := fun j => kI (if j = p then v else f j)) (g := fun j => if j = p then kI v else kI (f j)) (fun j _ _ => by split <;> rfl)]
  exact h3
theorem LK.drewN (h : LK b nb ob D f g F w) (n : Nat) : LK b nb ob D f g F (w.drewN n) := LatchIs.drewN h n
theorem LK.drew (h : LK b nb ob D f g F w) : LK b nb ob D f g F w.drew := LatchIs.drew h
theorem LK.rest (h : LK b nb ob D f g F w) : Sat w F := h.frame.tail.tail
theorem LK.drop {hh : Heaplet} (h : LK b nb ob D f g (hh ++ F) w) : LK b nb ob D f g F w := LatchIs.weaken (E := hh) h (List.perm_append_comm_assoc [_, _] hh F)
theorem LK.bring {hh : Heaplet} (h : LatchIs b D (hh ++ (.blk ob (.cells (arr6 fun j => .bool (g j)) 51) :: .blk nb (.cells (arr6 fun j => kI (f j)) 50) :: F)) w) : LK b nb ob D f g (hh ++ F) w :=
  LatchIs.weaken (E := []) h (List.perm_append_comm_assoc hh [_, _] F)
theorem LK.start (h : LatchIs b D (.blk ob (.cells #[.bool false, .bool false, .bool false, .bool false, .bool false, .bool false] 51) :: .blk nb (.cells #[.int .i64 0, .int .i64 0, .int .i64 0, .int .i64 0, .int .i64 0, .int .i64 0] 50) :: F) w) : LK b nb ob D (fun _ => 0) (fun _ => false) F w := h
end
theorem has_q (b : Nat) (D : Lks) (F : Heaplet) (p : Int) (x : Bool) (w : World) (h : LatchIs b D F w) :
    Calls Try.prog 10 #[.pointer (some ⟨b, 0, none⟩), .int .i64 p, .bool x] w fun e w' => e = .returned (.bool (hasM D p x)) ∧ w' = w :=
  (has_any b D F p x w h).mono fun _ _ h => ⟨h.1, h.2.symm⟩
theorem used_q (b : Nat) (D : Lks) (F : Heaplet) (p : Int) (w : World) (h : LatchIs b D F w) :
    Calls Try.prog 21 #[.pointer (some ⟨b, 0, none⟩), .int .i64 p] w fun e w' => e = .returned (.int .i64 (usedM D p)) ∧ w' = w :=
  (used_any b D F p w h).mono fun _ _ h => ⟨h.1, h.2.symm⟩
theorem flatLet_get : ∀ (l : List (Int × Bool)) (j : Nat) (y : Int × Bool), l[j]? = some y → (flatLet l)[j * 2]? = some (kI y.1) ∧ (flatLet l)[j * 2 + 1]? = some (.bool y.2)
  | [], j, y, h => by simp at h
  | x :: l, 0, y, h => by
    simp at h; subst h
    exact ⟨rfl, rfl⟩
  | x :: l, j + 1, y, h => by
    obtain ⟨h1, h2⟩ := flatLet_get l j y (by simpa using h)
    have e : flatLet (x :: l) = kI x.1 :: .bool x.2 :: flatLet l := rfl
    rw [e, show (j + 1) * 2 = j * 2 + 1 + 1 from by omega, show j * 2 + 1 + 1 + 1 = (j * 2 + 1) + 1 + 1 from rfl]
    simp only [List.getElem?_cons_succ]
    exact ⟨h1, h2⟩
end Go.Proofs.Ytcndmiepbodpnaa
