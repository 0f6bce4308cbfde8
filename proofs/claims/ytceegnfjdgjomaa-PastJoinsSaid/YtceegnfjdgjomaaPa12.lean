/- What Read holds while it goes over the entries. Conditions: none. -/
import Derived.Test.YtceegnfjdgjomaaPa11
import Derived.Test.YtceegnfjdgjomaaSortK17
import Derived.Test.YtceegnfjdgjomaaLater
namespace Go.Proofs.Ytceegnfjdgjomaa
open Go Go.MapKept Go.RowKit Go.Proofs Go.Sort Go.Shelf

theorem snoc_ind {α : Type} {p : List α → Prop} (h0 : p []) (h1 : ∀ m x, p m → p (m ++ [x])) : ∀ m, p m := fun m => by
  rw [← List.reverse_reverse m]
  induction m.reverse with
  | nil => exact h0
  | cons x r ih => rw [List.reverse_cons]; exact h1 _ _ ih
/-! ### what is told, in plain words -/
def stepL (l : List En) (D : List (Tx × Int)) (x : En) : List (Tx × Int) := if (goodM x && !endM l x.t) = true then putL x.t x.lsn D else D
def stepD (R : List Tx) (x : En) : List Tx := if (goodM x && ((x.kind == 3) && !hasM R x.t)) = true then R ++ [x.t] else R
def stepP (first : Int) (D : List (Int × Int)) (i : Nat) (x : En) : List (Int × Int) := if (goodM x && ((getL x.page D).isNone && !isEndM x)) = true then putL x.page (first + i) D else D
def lastM (l m : List En) : List (Tx × Int) := m.foldl (stepL l) []
def doneM (m : List En) : List Tx := m.foldl stepD []
def firstM (first : Int) : List En → Nat → List (Int × Int) → List (Int × Int)
  | [], _, D => D
  | x :: r, i, D => firstM first r (i + 1) (stepP first D i x)
def pagM (first : Int) (m : List En) : List (Int × Int) := firstM first m 0 []
theorem lastM_snoc (l m : List En) (x : En) : lastM l (m ++ [x]) = stepL l (lastM l m) x := by simp [lastM]
theorem doneM_snoc (m : List En) (x : En) : doneM (m ++ [x]) = stepD (doneM m) x := by simp [doneM]
theorem firstM_snoc (first : Int) (x : En) : ∀ (m : List En) (i : Nat) (D : List (Int × Int)), firstM first (m ++ [x]) i D = stepP first (firstM first m i D) (i + m.length) x
  | [], i, D => by simp [firstM]
  | y :: r, i, D => by
    rw [List.cons_append, firstM, firstM_snoc first x r (i + 1), firstM]
    congr 1
    simp; omega
theorem pagM_snoc (first : Int) (m : List En) (x : En) : pagM first (m ++ [x]) = stepP first (pagM first m) m.length x := by
  unfold pagM
  rw [firstM_snoc, Nat.zero_add]
theorem lastM_len (l : List En) : ∀ m : List En, (lastM l m).length ≤ m.length := by
  refine snoc_ind (by simp [lastM]) fun m x ih => ?_
  rw [lastM_snoc]
  unfold stepL
  split
  · rw [length_putL]; split <;> simp <;> omega
  · simp; omega
theorem doneM_len : ∀ m : List En, (doneM m).length ≤ m.length := by
  refine snoc_ind (by simp [doneM]) fun m x ih => ?_
  rw [doneM_snoc]
  unfold stepD
  split
  · simp; omega
  · simp; omega
theorem pagM_len (first : Int) : ∀ m : List En, (pagM first m).length ≤ m.length := by
  refine snoc_ind (by simp [pagM, firstM]) fun m x ih => ?_
  rw [pagM_snoc]
  unfold stepP
  split
  · rw [length_putL]; split <;> simp <;> omega
  · simp; omega
/-- A view. -/
structure VM where
  losers : List (Tx × Int)
  done : List Tx
  pages : List (Int × Int)
def losersM (l : List En) : List (Tx × Int) := (sortT ((lastM l l).map (·.1))).map fun t => (t, (getL t (lastM l l)).getD 0)
def pagesM (l : List En) (first : Int) : List (Int × Int) := (sortK ((pagM first l).map (·.1))).map fun p => (p, (getL p (pagM first l)).getD 0)
def readM (l : List En) (first : Int) : VM := if withinM first 1 1099511627776 then ⟨losersM l, doneM l, pagesM l first⟩ else ⟨[], [], []⟩

theorem zeroI (w : World) : (zeroValue 3).run Try.prog w = .ok (.int .i64 0) w := by kernel_rfl
theorem und_mii : Try.prog.underlying 57 = some (.map 3 3) := by kernel_rfl
abbrev vwO (a b c : Value) : Obj := .cells #[a, b, c] 33
/-- BETWEEN TWO ENTRIES. -/
def RdIs (vb pb lb eb : Nat) (l : List En) (DL : List (Tx × Int)) (R : List Tx) (DP : List (Int × Int)) (G : Heaplet) (w : World) : Prop :=
  ∃ v h es0 clk0 D0 es1 clk1 es2 clk2, MapOkS tV vB es0 clk0 D0 ∧ (∀ k, (getL k D0).getD false = endM l k) ∧ MapOkS tV kI es1 clk1 DL ∧ MapOk (.int .i64) kI kI es2 clk2 DP ∧ TSl v R h ∧
    Sat w (.blk vb (vwO (.slice none 0 0) v (.slice none 0 0)) :: .blk pb (.map es2 clk2) :: .blk lb (.map es1 clk1) :: .blk eb (.map es0 clk0) :: (h ++ G))
section
variable {vb pb lb eb : Nat} {l : List En} {DL : List (Tx × Int)} {R : List Tx} {DP : List (Int × Int)} {G : Heaplet} {w : World}
theorem RdIs.frame (h : RdIs vb pb lb eb l DL R DP G w) : Sat w G := by
  obtain ⟨v, h, es0, clk0, D0, es1, clk1, es2, clk2, h0, h1, h2, h3, h4, s⟩ := h
  exact s.tail.tail.tail.tail.right
theorem RdIs.grown {w' : World} (h : RdIs vb pb lb eb l DL R DP G w) (k : Grown w w') : RdIs vb pb lb eb l DL R DP G w' := by
  obtain ⟨v, h, es0, clk0, D0, es1, clk1, es2, clk2, h0, h1, h2, h3, h4, s⟩ := h
  exact ⟨v, h, es0, clk0, D0, es1, clk1, es2, clk2, h0, h1, h2, h3, h4, s.grown k⟩
theorem RdIs.new (h : RdIs vb pb lb eb l DL R DP G w) (o : Obj) : RdIs vb pb lb eb l DL R DP (.blk w.heap.size o :: G) (w.alloc o) := by
  obtain ⟨v, h, es0, clk0, D0, es1, clk1, es2, clk2, h0, h1, h2, h3, h4, s⟩ := h
  refine ⟨v, h, es0, clk0, D0, es1, clk1, es2, clk2, h0, h1, h2, h3, h4, (s.new o).perm ?_⟩
  have e := (List.perm_middle (a := HItem.blk w.heap.size o) (l₁ := [HItem.blk vb (vwO (.slice none 0 0) v (.slice none 0 0)), .blk pb (.map es2 clk2), .blk lb (.map es1 clk1), .blk eb (.map es0 clk0)] ++ h) (l₂ := G)).symm
  simpa using e
theorem RdIs.lookE (h : RdIs vb pb lb eb l DL R DP G w) (t : Tx) : (Instr.lookup 54 (.map (some eb)) (tV t) false).run Try.prog w = .ok (.bool (endM l t)) w := by
  obtain ⟨v, h, es0, clk0, D0, es1, clk1, es2, clk2, h0, h1, h2, h3, h4, s⟩ := h
  obtain ⟨d, hd⟩ := und_tx
  rw [lookS und_mtb keys_tx hd (z := .bool false) (by simp [go_sem]) s.h3 h0 t, ← h1 t]
  cases getL t D0 <;> rfl
theorem RdIs.lookP (h : RdIs vb pb lb eb l DL R DP G w) (p : Int) : (Instr.lookup 57 (.map (some pb)) (kI p) true).run Try.prog w = .ok (.tuple #[((getL p DP).map kI).getD (kI 0), .bool (getL p DP).isSome]) w := by
  obtain ⟨v, h, es0, clk0, D0, es1, clk1, es2, clk2, h0, h1, h2, h3, h4, s⟩ := h
  exact run_lookup2_ok und_mii Try.underlying3 (zeroI _) s.h1 h3 p
theorem RdIs.last (h : RdIs vb pb lb eb l DL R DP G w) (t : Tx) (n : Int) : ∃ w', (Instr.mapUpdate 56 (.map (some lb)) (tV t) (kI n)).run Try.prog w = .ok () w' ∧ RdIs vb pb lb eb l (putL t n DL) R DP G w' := by
  obtain ⟨v, h, es0, clk0, D0, es1, clk1, es2, clk2, h0, h1, h2, h3, h4, s⟩ := h
  obtain ⟨d, hd⟩ := und_tx
  obtain ⟨w', es', clk', hr, h2', s'⟩ := sat_updS und_mti keys_tx hd h2 s.rot3 t n
  exact ⟨w', hr, v, h, es0, clk0, D0, es', clk', es2, clk2, h0, h1, h2', h3, h4, s'.unrot3⟩
theorem RdIs.page (h : RdIs vb pb lb eb l DL R DP G w) (p n : Int) : ∃ w', (Instr.mapUpdate 57 (.map (some pb)) (kI p) (kI n)).run Try.prog w = .ok () w' ∧ RdIs vb pb lb eb l DL R (putL p n DP) G w' := by
  obtain ⟨v, h, es0, clk0, D0, es1, clk1, es2, clk2, h0, h1, h2, h3, h4, s⟩ := h
  obtain ⟨w', es', clk', hr, h3', s'⟩ := sat_update und_mii Try.underlying3 h3 s.swap p n
  exact ⟨w', hr, v, h, es0, clk0, D0, es1, clk1, es', clk', h0, h1, h2, h3', h4, s'.swap⟩
/-- The slice of who is done. -/
theorem RdIs.slice (h : RdIs vb pb lb eb l DL R DP G w) : ∃ a cap, w.cell? ⟨vb, 1, none⟩ = some (.slice a R.length cap) ∧ TxsAt w a R := by
  obtain ⟨v, h, es0, clk0, D0, es1, clk1, es2, clk2, h0, h1, h2, h3, h4, s⟩ := h
  have s2 : Sat w (h ++ ([.blk vb (vwO (.slice none 0 0) v (.slice none 0 0)), .blk pb (.map es2 clk2), .blk lb (.map es1 clk1), .blk eb (.map es0 clk0)] ++ G)) := s.perm (List.perm_append_comm_assoc [HItem.blk vb (vwO (.slice none 0 0) v (.slice none 0 0)), .blk pb (.map es2 clk2), .blk lb (.map es1 clk1), .blk eb (.map es0 clk0)] h G)
  obtain ⟨a, cap, rfl, ht⟩ := txs_at h4 s2
  exact ⟨a, cap, by rw [cell_of s.h0]; rfl, ht⟩
/-- One more is done. -/
theorem RdIs.push (h : RdIs vb pb lb eb l DL R DP G w) (t : Tx) (hl : R.length + 1 ≤ 200000) {v : Value} (hv : w.cell? ⟨vb, 1, none⟩ = some v) :
    ∃ a n c w', (∀ ty, (Builtin.append_ #[30, 30] ty #[v, .slice (some ⟨w.heap.size, 0, none⟩) 1 1]).run Try.prog (w.alloc (.cells #[kI t.c, kI t.e, kI t.n] 23)) = .ok (.slice a n c) w') ∧
      w'.cell? ⟨vb, 1, none⟩ = some v ∧ w'.frozen? ⟨vb, 1, none⟩ = false ∧ RdIs vb pb lb eb l DL (R ++ [t]) DP G (w'.setCell ⟨vb, 1, none⟩ (.slice a n c)) := by
  obtain ⟨v1, h, es0, clk0, D0, es1, clk1, es2, clk2, h0, h1, h2, h3, h4, s⟩ := h
  obtain rfl : v = v1 := by
    have : w.cell? ⟨vb, 1, none⟩ = some v1 := by rw [cell_of s.h0]; rfl
    rw [hv] at this
    exact Option.some.inj this
  obtain ⟨v', w', h', hr, hv', hs'⟩ := tx_push (A := [.blk vb (vwO (.slice none 0 0) v (.slice none 0 0)), .blk pb (.map es2 clk2), .blk lb (.map es1 clk1), .blk eb (.map es0 clk0)]) t h4 (s.new (.cells #[kI t.c, kI t.e, kI t.n] 23)) hl
  have hs2 : Sat w' (.blk vb (vwO (.slice none 0 0) v (.slice none 0 0)) :: .blk pb (.map es2 clk2) :: .blk lb (.map es1 clk1) :: .blk eb (.map es0 clk0) :: (h' ++ G)) := hs'
  obtain ⟨a, c, rfl⟩ := sl_form hv'
  exact ⟨a, _, c, w', hr, by rw [cell_of hs2.h0]; rfl, unfrozen_of hs2.h0 1, _, h', es0, clk0, D0, es1, clk1, es2, clk2, h0, h1, h2, h3, hv', hs2.setCell _⟩
end
theorem keysT_box (mb : Option Nat) (w : World) : Calls Try.prog 26 #[.map mb] w fun e w' =>
    e = .returned (.func (.func 41) #[] #[.pointer (some ⟨w.heap.size, 0, none⟩)]) ∧ w' = w.alloc (.cells #[.map mb] 56) := by
  go_enter Try.func26, Try.ntmps26
  go_wp2
  go_ret
  exact ⟨rfl, rfl⟩
end Go.Proofs.Ytceegnfjdgjomaa
