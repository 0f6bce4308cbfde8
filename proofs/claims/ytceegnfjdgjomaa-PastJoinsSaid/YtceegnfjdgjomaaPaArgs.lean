/- How entries and names that came in lie in memory. Conditions: none. -/
import Derived.Test.YtceegnfjdgjomaaArgs
import Derived.Test.YtceegnfjdgjomaaPa5
namespace Go.Proofs.Ytceegnfjdgjomaa
open Go Go.ChangeShapes Go.WideShapes Go.Deep Go.RowKit Go.MapKept

/-- A slice of entries that came in. -/
def EnsAt (W : World) (p : Option Addr) (l : List En) : Prop :=
  l.length ≤ 9223372036854775807 ∧ FitL l ∧ ∀ i q, l[i]? = some q → ∃ g off, p = some ⟨g, off, none⟩ ∧ g < W.heap.size ∧ EnO W g (off + i * 13) q
theorem EnsAt.ens {W : World} {p : Option Addr} {l : List En} (h : EnsAt W p l) (cap : Nat) : EnsIn (allOf W) (.slice p l.length cap) l := by
  refine ⟨p, cap, rfl, fun w hw i q hq => ?_⟩
  obtain ⟨g, off, e, hg, h0, h1, h2, h3, h4, h5, h6, h7, h8, h9, h10, h11, h12⟩ := h.2.2 i q hq
  have k : ∀ o, w.cell? ⟨g, o, none⟩ = W.cell? ⟨g, o, none⟩ := fun o => hw.cellOld hg
  refine ⟨g, off, e, ?_⟩
  unfold EnO
  rw [k, k, k, k, k, k, k, k, k, k, k, k, k]
  exact ⟨h0, h1, h2, h3, h4, h5, h6, h7, h8, h9, h10, h11, h12⟩
section
variable {H : Type} {enc : TypeId × Value → H} {w : World} {base : Nat} {spare : Nat → Bool} {held : Bool}
theorem fld_of {P : Program} {fs : Array Field} {cs : List Value} {n : Nat} {xs : List (DataW H × List MemPlace)} (hlen : xs.length = fs.size)
    (hf : ∀ (i : Nat) (f : Field), fs[i]? = some f → DataW.trod enc P w base spare held n f.type ((cs.drop f.offset).take (P.cellsOf f.type)) = xs[i]?) (j : Nat) (f : Field) (hj : fs[j]? = some f) :
    ∃ y, DataW.trod enc P w base spare held n f.type ((cs.drop f.offset).take (P.cellsOf f.type)) = some y := by
  have hlt : j < xs.length := by rw [hlen]; exact (Array.getElem?_eq_some_iff.1 hj).1
  exact ⟨xs[j], by rw [hf j f hj, List.getElem?_eq_getElem hlt]⟩
theorem open_txc {n : Nat} {a b c : Value} {y : DataW H × List MemPlace} (h : DataW.trod enc Try.prog w base spare held n 23 [a, b, c] = some y) : ∃ t : Tx, a = kI t.c ∧ b = kI t.e ∧ c = kI t.n := by
  have c3 : Try.prog.cellsOf 3 = 1 := by kernel_rfl
  obtain ⟨ys, m, _, rfl, hl, hlen, hf⟩ := DataW.trod_struct Try.underlying23 h
  obtain ⟨y0, g0⟩ := fld_of hlen hf 0 _ rfl
  obtain ⟨y1, g1⟩ := fld_of hlen hf 1 _ rfl
  obtain ⟨y2, g2⟩ := fld_of hlen hf 2 _ rfl
  simp [c3] at g0 g1 g2
  obtain ⟨k0, e0, _, w0⟩ := DataW.trod_int Try.underlying3 g0
  obtain ⟨k1, e1, _, w1⟩ := DataW.trod_int Try.underlying3 g1
  obtain ⟨k2, e2, _, w2⟩ := DataW.trod_int Try.underlying3 g2
  simp only [List.cons.injEq, and_true] at e0 e1 e2
  exact ⟨⟨k0, k1, k2⟩, e0, e1, e2⟩
theorem open_slc {n : Nat} {a b : Value} {y : DataW H × List MemPlace} (h : DataW.trod enc Try.prog w base spare held n 41 [a, b] = some y) : ∃ (u : Bool) (d : ByteArray), a = .bool u ∧ b = kS d := by
  have cb : Try.prog.cellsOf 4 = 1 := by kernel_rfl
  have cs : Try.prog.cellsOf 9 = 1 := by kernel_rfl
  obtain ⟨ys, m, _, rfl, hl, hlen, hf⟩ := DataW.trod_struct Try.underlying41 h
  obtain ⟨y0, g0⟩ := fld_of hlen hf 0 _ rfl
  obtain ⟨y1, g1⟩ := fld_of hlen hf 1 _ rfl
  simp [cb, cs] at g0 g1
  obtain ⟨k0, e0, _⟩ := DataW.trod_bool Try.underlying4 g0
  obtain ⟨k1, e1, _⟩ := DataW.trod_string Try.underlying9 g1
  simp only [List.cons.injEq, and_true] at e0 e1
  exact ⟨k0, k1, e0, e1⟩
set_option maxRecDepth 100000 in
theorem open_enc {n : Nat} {cs : List Value} {y : DataW H × List MemPlace} (h : DataW.trod enc Try.prog w base spare held n 43 cs = some y) : ∃ x : En, cs = eC x ∧ -9223372036854775808 ≤ x.lsn ∧ x.lsn ≤ 9223372036854775807 := by
  have c3 : Try.prog.cellsOf 3 = 1 := by kernel_rfl
  have ct : Try.prog.cellsOf 23 = 3 := by kernel_rfl
  have cl : Try.prog.cellsOf 41 = 2 := by kernel_rfl
  have ce : Try.prog.cellsOf 43 = 13 := by kernel_rfl
  obtain ⟨ys, m, _, rfl, hl, hlen, hf⟩ := DataW.trod_struct Try.underlying43 h
  rw [ce] at hl
  match cs, hl with
  | [a0, a1, a2, a3, a4, a5, a6, a7, a8, a9, a10, a11, a12], _ =>
    obtain ⟨y0, g0⟩ := fld_of hlen hf 0 _ rfl
    obtain ⟨y1, g1⟩ := fld_of hlen hf 1 _ rfl
    obtain ⟨y2, g2⟩ := fld_of hlen hf 2 _ rfl
    obtain ⟨y3, g3⟩ := fld_of hlen hf 3 _ rfl
    obtain ⟨y4, g4⟩ := fld_of hlen hf 4 _ rfl
    obtain ⟨y5, g5⟩ := fld_of hlen hf 5 _ rfl
    obtain ⟨y6, g6⟩ := fld_of hlen hf 6 _ rfl
    obtain ⟨y7, g7⟩ := fld_of hlen hf 7 _ rfl
    obtain ⟨y8, g8⟩ := fld_of hlen hf 8 _ rfl
    simp [c3, ct, cl] at g0 g1 g2 g3 g4 g5 g6 g7 g8
    obtain ⟨k0, e0, _, w0⟩ := DataW.trod_int Try.underlying3 g0
    obtain ⟨t, rfl, rfl, rfl⟩ := open_txc g1
    obtain ⟨k2, e2, _, w2⟩ := DataW.trod_int Try.underlying3 g2
    obtain ⟨k3, e3, _, w3⟩ := DataW.trod_int Try.underlying3 g3
    obtain ⟨k4, e4, _, w4⟩ := DataW.trod_int Try.underlying3 g4
    obtain ⟨k5, e5, _, w5⟩ := DataW.trod_int Try.underlying3 g5
    obtain ⟨u6, d6, rfl, rfl⟩ := open_slc g6
    obtain ⟨u7, d7, rfl, rfl⟩ := open_slc g7
    obtain ⟨k8, e8, _, w8⟩ := DataW.trod_int Try.underlying3 g8
    simp only [List.cons.injEq, and_true] at e0 e2 e3 e4 e5 e8
    subst e0 e2 e3 e4 e5 e8
    exact ⟨⟨k0, t, k2, k3, k4, k5, u6, d6, u7, d7, k8⟩, rfl, (wf_bounds w2).1, (wf_bounds w2).2⟩
theorem list_of {α : Type} {p : Nat → α → Prop} : ∀ n : Nat, (∀ i, i < n → ∃ a, p i a) → ∃ l : List α, l.length = n ∧ ∀ i a, l[i]? = some a → p i a
  | 0, _ => ⟨[], rfl, fun i a h => by simp at h⟩
  | n + 1, h => by
    obtain ⟨l, hl, hp⟩ := list_of n (fun i hi => h i (by omega))
    obtain ⟨a, ha⟩ := h n (by omega)
    refine ⟨l ++ [a], by simp [hl], fun i b hb => ?_⟩
    by_cases hi : i < l.length
    · rw [List.getElem?_append_left hi] at hb; exact hp i b hb
    · rw [List.getElem?_append_right (by omega)] at hb
      have : i - l.length = 0 := by
        have := (List.getElem?_eq_some_iff.1 hb).1
        simp at this; omega
      rw [this] at hb
      simp only [List.getElem?_cons_zero, Option.some.injEq] at hb
      subst hb
      have : i = n := by omega
      rw [this]; exact ha
theorem open_ens {p : Option Addr} {len cap : Nat} {d : DataW H} {pl : List MemPlace} (h : DataW.Trod enc Try.prog w base spare held 27 (.slice p len cap) d pl) : ∃ l : List En, len = l.length ∧ l.length ≤ cap ∧ EnsAt w p l := by
  have ce : Try.prog.cellsOf 43 = 13 := by kernel_rfl
  obtain ⟨fuel, hf⟩ := h
  rcases open_slice Try.underlying27 hf with ⟨hcs, _⟩ | ⟨a, len', cap', m, n, D, Pl, hcs, hb, hl, hm, hmm, hx, hi⟩
  · simp [Value.cells] at hcs
    obtain ⟨rfl, rfl, rfl⟩ := hcs
    exact ⟨[], rfl, by simp, by simp, (by intro x hx; cases hx), fun i q hq => by simp at hq⟩
  · simp [Value.cells] at hcs
    obtain ⟨rfl, rfl, rfl⟩ := hcs
    have hml : len ≤ m := by rw [hmm]; split <;> omega
    rw [ce] at hi
    have spot0 : 0 < len → a.spot = none := by
      intro h0l
      obtain ⟨cs', hc, ht⟩ := hi 0 (by omega)
      obtain ⟨_, hcl, hat⟩ := World.cells?_some hc
      have hcell := hat 0 (by omega)
      rw [List.getElem?_eq_getElem (by omega)] at hcell
      simpa [Addr.add] using World.cell?_spot hcell
    have key : ∀ i, i < len → ∃ x : En, (-9223372036854775808 ≤ x.lsn ∧ x.lsn ≤ 9223372036854775807) ∧ ∃ g off, some a = some ⟨g, off, none⟩ ∧ g < w.heap.size ∧ EnO w g (off + i * 13) x := by
      intro i hil
      obtain ⟨cs', hc, ht⟩ := hi i (Nat.lt_of_lt_of_le hil hml)
      obtain ⟨x, rfl, hfit⟩ := open_enc ht
      obtain ⟨_, hcl, hat⟩ := World.cells?_some hc
      have hsp : a.spot = none := spot0 (by omega)
      obtain ⟨bl, off, sp⟩ := a
      simp only at hsp
      subst hsp
      have hadd : ∀ j, ((⟨bl, off, none⟩ : Addr).add (i * 13)).add j = ⟨bl, off + i * 13 + j, none⟩ := by
        intro j
        rw [add_add]
        unfold Addr.add
        by_cases hz : i * 13 + j = 0
        · simp only [hz, if_true, Nat.add_assoc, Nat.add_zero]
        · simp only [hz, if_false, Nat.add_assoc]
      have hcell : ∀ j v, j < 13 → (eC x)[j]? = some v → w.cell? ⟨bl, off + i * 13 + j, none⟩ = some v := by
        intro j v hj hv
        have := hat j hj
        rw [hadd, hv] at this
        exact this
      have c0 := hcell 0 _ (by omega) rfl
      refine ⟨x, hfit, bl, off, rfl, World.block_lt_of_cell? w _ c0, c0, hcell 1 _ (by omega) rfl, hcell 2 _ (by omega) rfl, hcell 3 _ (by omega) rfl, hcell 4 _ (by omega) rfl, hcell 5 _ (by omega) rfl, hcell 6 _ (by omega) rfl, hcell 7 _ (by omega) rfl, hcell 8 _ (by omega) rfl, hcell 9 _ (by omega) rfl, hcell 10 _ (by omega) rfl, hcell 11 _ (by omega) rfl, hcell 12 _ (by omega) rfl⟩
    obtain ⟨l, hll, hp⟩ := list_of len key
    refine ⟨l, hll.symm, by omega, by unfold maxLen at hm; omega, fun x hx => ?_, fun i q hq => (hp i q hq).2⟩
    obtain ⟨i, hi⟩ := List.getElem?_of_mem hx
    exact (hp i x hi).1
set_option maxRecDepth 100000 in
/-- A name by value. -/
theorem open_txv {r : Reach} {b0 : Nat} {v : Value} {d : DataW H} {p : List MemPlace} (hv : Value.okWide Try.prog w r b0 23 v) (h : DataW.Trod enc Try.prog w base spare held 23 v d p) : ∃ t : Tx, v = tV t := by
  obtain ⟨c0, c1, c2, y0, y1, y2, m, rfl, rfl, rfl, g0, g1, g2⟩ := Joins.open_agg3 Try.underlying23 (by kernel_rfl) (by kernel_rfl) hv h
  obtain ⟨k0, e0, _, w0⟩ := DataW.trod_int Try.underlying3 g0
  obtain ⟨k1, e1, _, w1⟩ := DataW.trod_int Try.underlying3 g1
  obtain ⟨k2, e2, _, w2⟩ := DataW.trod_int Try.underlying3 g2
  simp only [List.cons.injEq, and_true] at e0 e1 e2
  subst e0 e1 e2
  exact ⟨⟨k0, k1, k2⟩, rfl⟩
end
end Go.Proofs.Ytceegnfjdgjomaa
