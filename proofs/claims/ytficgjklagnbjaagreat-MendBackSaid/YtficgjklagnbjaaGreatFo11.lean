/- Texts put together: Pa8, Me16, Me17. Conditions: none. -/
import Derived.Test.YtficgjklagnbjaaGreatFo7
import Derived.Test.YtficgjklagnbjaaGreatFo10
namespace Go.Proofs.YtficgjklagnbjaaGreat
open Go Go.MapKept Go.RowKit Go.Proofs Go.Sort

abbrev TSl (v : Value) (R : List Tx) (h : Heaplet) : Prop := SliceIs 56 3 v R.length (R.flatMap tC) h
theorem tC_len (q : Tx) : (tC q).length = 3 := rfl
/-- The cells of names. -/
def TxsAt (w : World) (a : Option Addr) (R : List Tx) : Prop :=
  ∀ i q, R[i]? = some q → ∃ g off, a = some ⟨g, off, none⟩ ∧ w.cell? ⟨g, off + i * 3, none⟩ = some (kI q.c) ∧ w.cell? ⟨g, off + i * 3 + 1, none⟩ = some (kI q.e) ∧ w.cell? ⟨g, off + i * 3 + 2, none⟩ = some (kI q.n)
theorem TxsAt.grown {w w' : World} {a : Option Addr} {R : List Tx} (h : TxsAt w a R) (k : Grown w w') : TxsAt w' a R := by
  intro i q hq
  obtain ⟨g, off, e, h0, h1, h2⟩ := h i q hq
  exact ⟨g, off, e, k.cell h0, k.cell h1, k.cell h2⟩
theorem txs_at {v : Value} {R : List Tx} {h F : Heaplet} (hv : TSl v R h) {w : World} (s : Sat w (h ++ F)) : ∃ a cap, v = .slice a R.length cap ∧ TxsAt w a R := by
  obtain ⟨a, cap, e, hc⟩ := sl_cells tC_len hv s
  refine ⟨a, cap, e, fun i q hq => ?_⟩
  obtain ⟨g, ea, _, hu⟩ := hc i q hq
  refine ⟨g, 0, ea, ?_⟩
  rw [Nat.zero_add]
  exact ⟨hu 0 _ rfl, hu 1 _ rfl, hu 2 _ rfl⟩
def hasM (R : List Tx) (t : Tx) : Bool := R.any fun u => decide (u = t)
theorem has_step (R : List Tx) (t : Tx) (r : Nat) (x : Tx) (hx : R[r]? = some x) : hasM (R.take (r + 1)) t = (hasM (R.take r) t || decide (x = t)) := by
  unfold hasM
  rw [List.take_add_one, hx]
  simp
theorem eq_txx (x t : Tx) (w : World) : (binOp .eql 56 (tV t) (tV x)).run Tryz.prog w = .ok (.bool (decide (x = t))) w := by
  rw [eq_tx t x w]
  congr 2
  by_cases h : x = t
  · subst h; rfl
  · have : ¬ t = x := fun e => h e.symm
    simp [h, this]
set_option maxRecDepth 100000 in
set_option maxHeartbeats 4000000 in
theorem index_any (a : Option Addr) (cap : Nat) (R : List Tx) (t : Tx) (w : World) (hc : TxsAt w a R) (hl : R.length ≤ 100000) :
    Calls Tryz.prog 80 #[.slice a R.length cap, tV t] w fun e w' => ∃ i : Int, e = .returned (.int .i64 i) ∧ (0 ≤ i ↔ hasM R t = true) ∧ Grown w w' := by
  have HG := Lib.hid (Grown.alloc w (.cells #[kI t.c, kI t.e, kI t.n] 56))
  have HC := Lib.hid (hc.grown HG.out)
  have hs := (sat_all w).new (.cells #[kI t.c, kI t.e, kI t.n] 56)
  have hm : ∃ W0, W0 = w.alloc (.cells #[kI t.c, kI t.e, kI t.n] 56) ∧ W0.cell? ⟨w.heap.size, 0, none⟩ = some (kI t.c) ∧ W0.cell? ⟨w.heap.size, 1, none⟩ = some (kI t.e) ∧ W0.cell? ⟨w.heap.size, 2, none⟩ = some (kI t.n) :=
    ⟨_, rfl, by rw [cell_of hs.h0]; rfl, by rw [cell_of hs.h0]; rfl, by rw [cell_of hs.h0]; rfl⟩
  have HEQ := Lib.hid eq_txx
  clear hc hs
  go_enter Tryz.func80, Tryz.ntmps80
  go_wp2_with fail
  obtain ⟨W0, e, m0, m1, m2⟩ := hm
  rw [← e] at HC HG ⊢
  clear e
  have HM := Lib.hid (And.intro m0 (And.intro m1 m2))
  clear m0 m1 m2
  generalize w.heap.size = m at *
  go_loopw [8] (fun v8 wr => ∃ r n : Nat, r ≤ R.length ∧ v8 = .int .i64 r ∧ hasM (R.take r) t = false ∧ wr = W0.drewN n) (fun v8 _ => 200000 - (RowKit.intOf v8).toNat)
  case atStart => exact ⟨0, 0, by omega, rfl, rfl, rfl⟩
  case round =>
    obtain ⟨r, n, hr, rfl, hb, rfl⟩ := hrel
    have r0 : (0 : Int) ≤ (r : Int) := by omega
    have HB := Lib.hid hb
    clear hb
    by_cases hlr : r < R.length
    · have r1 : (r : Int) < (R.length : Int) := by omega
      obtain ⟨x, hx⟩ : ∃ x, R[r]? = some x := ⟨_, List.getElem?_eq_getElem hlr⟩
      obtain ⟨g, off, rfl, e0, e1, e2⟩ := HC.out r x hx
      obtain ⟨m0, m1, m2⟩ := HM.out
      have hst := has_step R t r x hx
      rw [HB.out, Bool.false_or] at hst
      have hin : decide (x = t) = true → hasM R t = true := fun h => List.any_eq_true.2 ⟨x, List.mem_of_getElem? hx, h⟩
      have HST := Lib.hid (And.intro hst hin)
      have heq := HEQ.out x t
      obtain ⟨bt, hbt⟩ : ∃ bt, decide (x = t) = bt := ⟨_, rfl⟩
      rw [hbt] at heq
      have HBT := Lib.hid hbt
      clear hst hin hx hbt
      go_upto_region 4 with (fail)
      go_quiet (fail)
      cases bt with
      | false =>
        go_wp2_with fail
        exact ⟨⟨r + 1, n + nq, by omega, by simp, by rw [HST.out.1, HBT.out], rfl⟩, by simp only [RowKit.intOf]; omega⟩
      | true =>
        go_wp2_with fail
        go_ret
        exact ⟨(r : Int), rfl, ⟨fun _ => HST.out.2 HBT.out, fun _ => r0⟩, HG.out.trans ((Grown.drewN W0 n).trans (Grown.drewN _ nq))⟩
    · obtain rfl : r = R.length := by omega
      have hb := HB.out
      rw [List.take_length] at hb
      have HB2 := Lib.hid hb
      clear hb hlr
      go_wp2_with fail
      go_ret
      exact ⟨-1, rfl, ⟨fun h => absurd h (by decide), fun h => by rw [HB2.out] at h; cases h⟩, HG.out.trans (Grown.drewN W0 n)⟩
set_option maxRecDepth 100000 in
theorem contains_any (a : Option Addr) (cap : Nat) (R : List Tx) (t : Tx) (w : World) (hc : TxsAt w a R) (hl : R.length ≤ 100000) :
    Calls Tryz.prog 53 #[.slice a R.length cap, tV t] w (Pur (.bool (hasM R t)) w) := by
  unfold Pur
  have HG := Lib.hid (Grown.alloc w (.cells #[kI t.c, kI t.e, kI t.n] 56))
  have HI := Lib.hid (index_any a cap R t _ (hc.grown HG.out) hl)
  clear hc
  go_enter Tryz.func53, Tryz.ntmps53
  go_wp2_with fail
  refine HI.out.mono ?_
  rintro e w3 ⟨i, rfl, hi, hg⟩
  have HH := Lib.hid (HG.out.trans hg)
  have HB : Hid (decide (0 ≤ i) = hasM R t) := Lib.hid (by
    cases hh : hasM R t with
    | true => simpa using hi.2 hh
    | false => 
      have : ¬ (0 ≤ i) := fun q => by rw [hi.1 q] at hh; cases hh
      simpa using this)
  clear hi hg HI
  go_wp2_with fail
  go_ret
  exact ⟨by rw [← HB.out]; rfl, HH.out⟩
theorem one_t (q : Tx) : ∀ u ∈ tC q, u.oneCell' = true := by
  intro u hu
  simp only [List.mem_cons, List.not_mem_nil, or_false] at hu
  rcases hu with rfl | rfl | rfl <;> rfl
theorem infoTx : (Tryz.prog.info? 56).map (fun i => (i.zero, i.size, i.bytes)) = some (some (.agg #[kI 0, kI 0, kI 0]), 3, 24) := by kernel_rfl
theorem tx_push {R : List Tx} {v : Value} {h A B : Heaplet} {w : World} {x : Nat} (q : Tx) (hv : TSl v R h) (s : Sat w (.blk x (.cells #[kI q.c, kI q.e, kI q.n] 56) :: (A ++ (h ++ B)))) (hlen : R.length + 1 ≤ 200000) :
    ∃ v' w' h', (∀ ty, (Builtin.append_ #[90, 90] ty #[v, .slice (some ⟨x, 0, none⟩) 1 1]).run Tryz.prog w = .ok v' w') ∧ TSl v' (R ++ [q]) h' ∧ Sat w' (A ++ (h' ++ B)) := by
  obtain ⟨i0, hi, hz, hsize, hby⟩ := info_parts infoTx
  exact sl_push (P := Tryz.prog) tC_len Tryz.underlying90 hi hz hsize hby rfl (by decide) hv q s (one_t q) (by unfold maxLen; omega) (by omega)
/-- A loser, a page's first entry: their cells. -/
abbrev lC (q : Tx × Int) : List Value := [kI q.1.c, kI q.1.e, kI q.1.n, kI q.2]
abbrev LSl (v : Value) (R : List (Tx × Int)) (h : Heaplet) : Prop := SliceIs 89 4 v R.length (R.flatMap lC) h
theorem lC_len (q : Tx × Int) : (lC q).length = 4 := rfl
theorem infoLo : (Tryz.prog.info? 89).map (fun i => (i.zero, i.size, i.bytes)) = some (some (.agg #[kI 0, kI 0, kI 0, kI 0]), 4, 32) := by kernel_rfl
theorem lo_push {R : List (Tx × Int)} {v : Value} {h A B : Heaplet} {w : World} {x : Nat} (q : Tx × Int) (hv : LSl v R h) (s : Sat w (.blk x (.cells #[kI q.1.c, kI q.1.e, kI q.1.n, kI q.2] 89) :: (A ++ (h ++ B)))) (hlen : R.length + 1 ≤ 200000) :
    ∃ v' w' h', (∀ ty, (Builtin.append_ #[83, 83] ty #[v, .slice (some ⟨x, 0, none⟩) 1 1]).run Tryz.prog w = .ok v' w') ∧ LSl v' (R ++ [q]) h' ∧ Sat w' (A ++ (h' ++ B)) := by
  obtain ⟨i0, hi, hz, hsize, hby⟩ := info_parts infoLo
  exact sl_push (P := Tryz.prog) lC_len Tryz.underlying83 hi hz hsize hby rfl (by decide) hv q s (by simp [Value.oneCell']) (by unfold maxLen; omega) (by omega)
abbrev pC (q : Int × Int) : List Value := [kI q.1, kI q.2]
abbrev FSl (v : Value) (R : List (Int × Int)) (h : Heaplet) : Prop := SliceIs 132 2 v R.length (R.flatMap pC) h
theorem pC_len (q : Int × Int) : (pC q).length = 2 := rfl
theorem infoFi : (Tryz.prog.info? 132).map (fun i => (i.zero, i.size, i.bytes)) = some (some (.agg #[kI 0, kI 0]), 2, 16) := by kernel_rfl
theorem fi_push {R : List (Int × Int)} {v : Value} {h A B : Heaplet} {w : World} {x : Nat} (q : Int × Int) (hv : FSl v R h) (s : Sat w (.blk x (.cells #[kI q.1, kI q.2] 132) :: (A ++ (h ++ B)))) (hlen : R.length + 1 ≤ 200000) :
    ∃ v' w' h', (∀ ty, (Builtin.append_ #[91, 91] ty #[v, .slice (some ⟨x, 0, none⟩) 1 1]).run Tryz.prog w = .ok v' w') ∧ FSl v' (R ++ [q]) h' ∧ Sat w' (A ++ (h' ++ B)) := by
  obtain ⟨i0, hi, hz, hsize, hby⟩ := info_parts infoFi
  exact sl_push (P := Tryz.prog) pC_len Tryz.underlying91 hi hz hsize hby rfl (by decide) hv q s (by simp [Value.oneCell']) (by unfold maxLen; omega) (by omega)
end Go.Proofs.YtficgjklagnbjaaGreat
namespace Go.Proofs.YtficgjklagnbjaaGreat
open Go Go.MapKept Go.RowKit Go.Proofs Go.Sort

def sameE (x y : En) : Bool := decide (y.t = x.t) && y.lsn == x.lsn
set_option maxRecDepth 100000 in
theorem pick1_any (y x : En) (cb : Nat) (w : World) (hc : EnAt w cb x) :
    Calls Tryz.prog 88 #[eV y, .pointer (some ⟨cb, 0, none⟩)] w (Ret (.bool (sameE x y)) (Below w.heap.size w)) := by
  suffices h : Calls Tryz.prog 88 #[eV y, .pointer (some ⟨cb, 0, none⟩)] w (Pur (.bool (sameE x y)) w) from h.mono (fun e w' => ret_below)
  unfold Pur sameE
  obtain ⟨z0, z1, z2, z3, z4, z5, z6, z7, z8, z9, z10, z11, z12⟩ := enAt_new w y
  obtain ⟨c0, c1, c2, c3, c4, _, _, _, _, _, _, _, _⟩ := hc.grown (Grown.alloc w (eO y))
  have HG := Lib.hid (Grown.alloc w (eO y))
  have heq := eq_tx y.t x.t
  have hgd : ∀ W, (eqGuard .eql 56 (.tmp 5) (.tmp 7) (tV y.t) (tV x.t)).run Tryz.prog W = .ok () W := fun W => by first | rfl | (simp [go_sem, eqGuard])
  cases hbt : decide (y.t = x.t) with
  | false =>
    rw [hbt] at heq
    clear hbt hc
    go_enter Tryz.func88, Tryz.ntmps88
    go_wp2_with fail
    go_ret
    exact ⟨rfl, HG.out⟩
  | true =>
    rw [hbt] at heq
    clear hbt hc
    go_enter Tryz.func88, Tryz.ntmps88
    go_wp2_with fail
    go_ret
    exact ⟨rfl, HG.out⟩
/-- Where F holds, v is the slice of these losers. -/
def LoIn (F : Heaplet) (v : Value) (L : List (Tx × Int)) : Prop :=
  ∃ a cap, v = .slice a L.length cap ∧ ∀ w, Sat w F → ∀ i q, L[i]? = some q → ∃ g off, a = some ⟨g, off, none⟩ ∧ w.cell? ⟨g, off + i * 4, none⟩ = some (kI q.1.c) ∧ w.cell? ⟨g, off + i * 4 + 1, none⟩ = some (kI q.1.e) ∧ w.cell? ⟨g, off + i * 4 + 2, none⟩ = some (kI q.1.n) ∧ w.cell? ⟨g, off + i * 4 + 3, none⟩ = some (kI q.2)
theorem lo_in {v : Value} {L : List (Tx × Int)} {h : Heaplet} (hv : LSl v L h) (F : Heaplet) : LoIn (h ++ F) v L := by
  obtain ⟨a, cap, rfl⟩ := sl_form hv
  refine ⟨a, cap, rfl, fun w hs i q hq => ?_⟩
  obtain ⟨a', cap', e, hc⟩ := sl_cells lC_len hv hs
  cases e
  obtain ⟨g, ea, _, hu⟩ := hc i q hq
  refine ⟨g, 0, ea, ?_⟩
  rw [Nat.zero_add]
  exact ⟨hu 0 _ rfl, hu 1 _ rfl, hu 2 _ rfl, hu 3 _ rfl⟩
theorem LoIn.mono {F F' : Heaplet} {v : Value} {L : List (Tx × Int)} (h : LoIn F v L) (hs : ∀ w, Sat w F' → Sat w F) : LoIn F' v L := by
  obtain ⟨a, cap, e, hc⟩ := h
  exact ⟨a, cap, e, fun w hw => hc w (hs w hw)⟩
def pickG (l : List En) : En → Int → List (Tx × Int) → En × Bool × Int
  | b, k, [] => (b, decide (0 ≤ k), 0)
  | b, k, q :: r => if (nextM (ofM l q.1)).2.2 ≠ 0 then (b, false, (nextM (ofM l q.1)).2.2)
    else if (nextM (ofM l q.1)).2.1 = false then pickG l b k r
    else if k < idxF (sameE (nextM (ofM l q.1)).1) l then pickG l (nextM (ofM l q.1)).1 (idxF (sameE (nextM (ofM l q.1)).1) l) r
    else pickG l b k r
def pickM (l : List En) (L : List (Tx × Int)) : En × Bool × Int := pickG l zeroE (-1) L
theorem pick_results (tm : Array Value) (W9 : World) (g : Nat) (c : Int) (b : Bool) (y : En) (h1 : (tm[2]?).getD undef = .pointer (some ⟨g, 0, none⟩)) (h2 : (tm[3]?).getD undef = .bool b) (h3 : (tm[4]?).getD undef = .int .i64 c) (h : EnAt W9 g y) :
    (results Tryz.f60 tm).run Tryz.prog W9 = .ok (.tuple #[eV y, .bool b, .int .i64 c]) W9 := by
  obtain ⟨r0, r1, r2, r3, r4, r5, r6, r7, r8, r9, r10, r11, r12⟩ := h
  simp [results, Tryz.results60, go_sem, h1, h2, h3, r0, r1, r2, r3, r4, r5, r6, r7, r8, r9, r10, r11, r12]
end Go.Proofs.YtficgjklagnbjaaGreat
namespace Go.Proofs.YtficgjklagnbjaaGreat
open Go Go.MapKept Go.RowKit Go.Proofs Go.Sort

abbrev zO : Obj := .cells #[kI 0, kI 0, kI 0, kI 0, kI 0, kI 0, kI 0, kI 0, .bool false, kS ⟨#[]⟩, .bool false, kS ⟨#[]⟩, kI 0] 58
theorem idxG_bd {α : Type} {P : α → Bool} {l : List α} : -1 ≤ idxF P l ∧ idxF P l ≤ l.length := by
  by_cases h0 : 0 ≤ idxF P l
  · obtain ⟨i, x, e, hx, _⟩ := idxF_some rfl h0
    have := (List.getElem?_eq_some_iff.1 hx).1
    omega
  · have : idxF P l = -1 := by
      unfold idxF at h0 ⊢
      split at h0
      · omega
      · rfl
    omega
theorem idxF_bd {α : Type} {P : α → Bool} {l : List α} (h : (l.length : Int) ≤ 100000) : -1 ≤ idxF P l ∧ idxF P l ≤ 100000 := by
  have := idxG_bd (P := P) (l := l)
  omega
theorem lo0 {F : Heaplet} {v : Value} {l : List (Tx × Int)} (h : LoIn F v l) : ∃ a cap, v = .slice a l.length cap ∧ True := by
  obtain ⟨a, cap, e, _⟩ := h
  exact ⟨a, cap, e, trivial⟩
set_option maxRecDepth 100000 in
set_option maxHeartbeats 4000000 in
theorem pick_any {lv pv sv : Value} {l : List En} {L : List (Tx × Int)} {G : Heaplet} {w : World} {b : Nat} (hE : EnsIn G lv l) (hL : LoIn G sv L) (s : Sat w (.blk b (udO lv pv sv) :: G)) (hl : l.length ≤ 100000) (hf : FitL l) (hll : L.length ≤ 100000) :
    Calls Tryz.prog 60 #[.pointer (some ⟨b, 0, none⟩)] w (Ret (.tuple #[eV (pickM l L).1, .bool (pickM l L).2.1, kI (pickM l L).2.2]) (Below w.heap.size w)) := by
  obtain ⟨rx, ri, re, hr⟩ : ∃ rx ri re, pickM l L = (rx, ri, re) := ⟨_, _, _, rfl⟩
  rw [hr]
  have HR := Lib.hid hr
  have HFIN : Hid (∀ w', Sat w' (allOf w) → Below w.heap.size w w') := Lib.hid (fun w' h => Sat.below h)
  have HOLD : Hid (∀ w', Sat w' (allOf w) → Sat w' (.blk b (udO lv pv sv) :: G)) := Lib.hid (fun w' h => s.monoB (Sat.below h))
  obtain ⟨AW, hAW⟩ : ∃ AW, allOf w = AW := ⟨_, rfl⟩
  have H0 : Hid (Sat (w.alloc (eO zeroE)) (.blk w.heap.size (eO zeroE) :: AW)) := Lib.hid (by rw [← hAW]; exact (sat_all w).new _)
  rw [hAW] at HOLD HFIN
  obtain ⟨W1, hW1⟩ : ∃ W1, w.alloc (eO zeroE) = W1 := ⟨_, rfl⟩
  rw [hW1] at H0
  have HW1 := Lib.hid hW1
  obtain ⟨PB, hPB⟩ : ∃ PB : World → Prop, Below w.heap.size w = PB := ⟨_, rfl⟩
  rw [hPB] at HFIN ⊢
  have HEND : Hid (∀ (W : World) (x : En), Sat W (.blk w.heap.size (eO x) :: AW) →
      (∀ tm : Array Value, (tm[2]?).getD undef = .pointer (some ⟨w.heap.size, 0, none⟩) → (tm[3]?).getD undef = .bool ri → (tm[4]?).getD undef = .int .i64 re → (results Tryz.f60 tm).run Tryz.prog (put13 W w.heap.size rx) = .ok (.tuple #[eV rx, .bool ri, .int .i64 re]) (put13 W w.heap.size rx)) ∧
      Ret (.tuple #[eV rx, .bool ri, kI re]) PB (.returned (.tuple #[eV rx, .bool ri, .int .i64 re])) (put13 W w.heap.size rx)) := Lib.hid (fun W x hW => by
    have h5 := sat_put13 (y := rx) hW
    exact ⟨fun tm h6 h7 h8 => pick_results tm _ _ re ri rx h6 h7 h8 (enAt_of h5.h0), rfl, HFIN.out _ h5.tail⟩)
  obtain ⟨a0, c0, rfl, _⟩ := hE0 hE
  obtain ⟨la, lc, rfl, hlo⟩ := hL
  have HLO := Lib.hid hlo
  have HE := Lib.hid hE
  have HF := Lib.hid (And.intro hl hf)
  have hll9 : (L.length : Int) ≤ 100000 := by omega
  have hub : ∀ W, Sat W AW → W.cell? ⟨b, 0, none⟩ = some (.slice a0 l.length c0) ∧ W.cell? ⟨b, 2, none⟩ = some (.slice la L.length lc) := fun W hW => ⟨by rw [cell_of (HOLD.out W hW).h0]; rfl, by rw [cell_of (HOLD.out W hW).h0]; rfl⟩
  have HUB := Lib.hid hub
  obtain ⟨_, ub2⟩ := hub _ H0.out.tail
  clear hlo hr s hE hf hAW hPB hW1 hub
  go_enter Tryz.func60, Tryz.ntmps60
  go_upto_region 2 with (fail)
  have hw : w.alloc (.cells #[kI 0, kI 0, kI 0, kI 0, kI 0, kI 0, kI 0, kI 0, .bool false, kS ⟨#[]⟩, .bool false, kS ⟨#[]⟩, kI 0] 58) = W1 := HW1.out
  rw [hw]
  clear hw HW1
  generalize w.heap.size = g at *
  go_wp2_with fail
  clear ub2
  go_loopw [5, 18] (fun v5 v18 wr => ∃ (i : Nat) (k : Int) (bx : En), i ≤ L.length ∧ -1 ≤ k ∧ k ≤ 100000 ∧ v18 = .int .i64 i ∧ v5 = .int .i64 k ∧ pickG l bx k (L.drop i) = (rx, ri, re) ∧ Sat wr (.blk g (eO bx) :: AW)) (fun _ v18 _ => 200000 - (RowKit.intOf v18).toNat)
  case atStart => exact ⟨0, -1, zeroE, by omega, by omega, by omega, rfl, rfl, HR.out, H0.out⟩
  case round =>
    clear H0 HR
    obtain ⟨i, k, bx, hi, hk0, hk9, rfl, rfl, hrest, hs⟩ := hrel
    have i0 : (0 : Int) ≤ (i : Int) := by omega
    by_cases hil : i < L.length
    · have i1 : (i : Int) < (L.length : Int) := by omega
      obtain ⟨q, hq⟩ : ∃ q, L[i]? = some q := ⟨_, List.getElem?_eq_getElem hil⟩
      obtain ⟨eg, off, rfl, e0, e1, e2, e3⟩ := HLO.out wr (HOLD.out wr hs.tail).tail i q hq
      have hdr : L.drop i = q :: L.drop (i + 1) := by rw [List.drop_eq_getElem_cons hil]; congr 1; exact Option.some.inj ((List.getElem?_eq_getElem hil).symm.trans hq)
      rw [hdr] at hrest
      simp only [pickG] at hrest
      have HRS := Lib.hid hrest
      have hs1 := hs.new (.cells #[kI q.1.c, kI q.1.e, kI q.1.n, kI q.2] 89)
      have HS := Lib.hid hs1
      clear hq hdr hrest hs hs1
      go_upto_region 5 with (fail)
      clear e0 e1 e2 e3
      generalize wr.alloc (.cells #[kI q.1.c, kI q.1.e, kI q.1.n, kI q.2] 89) = W4 at *
      generalize wr.heap.size = lb at *
      have hcell : ∀ W, Sat W (.blk lb (.cells #[kI q.1.c, kI q.1.e, kI q.1.n, kI q.2] 89) :: .blk g (eO bx) :: AW) → W.cell? ⟨b, 0, none⟩ = some (.slice a0 l.length c0) ∧ W.cell? ⟨lb, 0, none⟩ = some (kI q.1.c) ∧ W.cell? ⟨lb, 1, none⟩ = some (kI q.1.e) ∧ W.cell? ⟨lb, 2, none⟩ = some (kI q.1.n) := fun W hW =>
        ⟨(HUB.out W hW.tail.tail).1, by rw [cell_of hW.h0]; rfl, by rw [cell_of hW.h0]; rfl, by rw [cell_of hW.h0]; rfl⟩
      have HC := Lib.hid hcell
      have K1 := Lib.hid (hcell _ HS.out)
      have K2 := Lib.hid (hcell _ HS.out.drew)
      obtain ⟨nx, nb, ne, hn⟩ : ∃ nx nb ne, nextM (ofM l q.1) = (nx, nb, ne) := ⟨_, _, _, rfl⟩
      have hrs := HRS.out
      rw [hn] at hrs
      simp only at hrs
      have HRS2 := Lib.hid hrs
      have HOF : Hid (∀ (W : World) (H : Heaplet), Sat W (H ++ (.blk lb (.cells #[kI q.1.c, kI q.1.e, kI q.1.n, kI q.2] 89) :: .blk g (eO bx) :: AW)) → Calls Tryz.prog 36 #[.slice a0 l.length c0, tV q.1] W fun e w' => ∃ v' h, e = .returned v' ∧ EnSl v' (ofM l q.1) h ∧ Sat w' (h ++ (H ++ (.blk lb (.cells #[kI q.1.c, kI q.1.e, kI q.1.n, kI q.2] 89) :: .blk g (eO bx) :: AW)))) := Lib.hid (fun W H hW => Of_any _ l q.1 _ W hW (HE.out.mono (fun W' h => (HOLD.out W' h.right.tail.tail).tail)) HF.out.1 HF.out.2)
      have HNX : Hid (∀ (v' : Value) (h H : Heaplet) (W : World), EnSl v' (ofM l q.1) h → Sat W (h ++ H) → Calls Tryz.prog 35 #[v'] W (Ret (.tuple #[eV nx, .bool nb, kI ne]) (Below W.heap.size W))) := Lib.hid (fun v' h H W hv hW => by
        have := next_any (ens_in hv H) hW (by have := ofM_len l q.1; have := HF.out.1; omega) (fun x hx => ofM_good hx)
        rw [hn] at this; exact this)
      have K3 := Lib.hid (hcell _ (HS.out.new zO).drew.tail)
      have HS2 : Hid (Sat (W4.alloc zO).drew ([.blk W4.heap.size (zO)] ++ (.blk lb (.cells #[kI q.1.c, kI q.1.e, kI q.1.n, kI q.2] 89) :: .blk g (eO bx) :: AW))) := Lib.hid (HS.out.new zO).drew
      clear hcell hrs HRS
      go_cut [8, 9, 10] (fun v8 v9 v10 wx => ∃ c, v8 = .pointer (some ⟨c, 0, none⟩) ∧ v9 = .bool nb ∧ v10 = kI ne ∧ Sat wx (.blk c (eO nx) :: .blk lb (.cells #[kI q.1.c, kI q.1.e, kI q.1.n, kI q.2] 89) :: .blk g (eO bx) :: AW))
      case first =>
        go_region_held3 (fun w' => w'.cell? ⟨b, 0, none⟩ = some (.slice a0 l.length c0) ∧ w'.cell? ⟨lb, 0, none⟩ = some (kI q.1.c) ∧ w'.cell? ⟨lb, 1, none⟩ = some (kI q.1.e) ∧ w'.cell? ⟨lb, 2, none⟩ = some (kI q.1.n))
          (with_reducible first | exact K1.out | exact K2.out | exact K3.out | exact K6.out | exact K7.out | exact K8.out | exact K9.out | exact K10.out | exact K10.out.1 | exact K10.out.2.1 | exact K10.out.2.2.1 | exact K10.out.2.2.2)
          (first
            | (go_at_call 36
               first
               | ((with_reducible refine (HOF.out _ [] HS.out.drew).mono ?_)
                  rintro e w6 ⟨v', h, rfl, hv', hs6⟩
                  have K6 := Lib.hid (HC.out _ hs6.right)
                  have K7 := Lib.hid (HC.out _ (hs6.new (zO)).tail.right)
                  have HV : Hid (EnSl v' (ofM l q.1) h ∧ Sat w6 (h ++ (.blk lb (.cells #[kI q.1.c, kI q.1.e, kI q.1.n, kI q.2] 89) :: .blk g (eO bx) :: AW))) := Lib.hid ⟨hv', hs6⟩
                  have HV2 : Hid (EnSl v' (ofM l q.1) h ∧ Sat (w6.alloc (zO)) (h ++ (.blk w6.heap.size (zO) :: .blk lb (.cells #[kI q.1.c, kI q.1.e, kI q.1.n, kI q.2] 89) :: .blk g (eO bx) :: AW))) := Lib.hid ⟨hv', (hs6.new (zO)).perm List.perm_middle.symm⟩)
               | ((with_reducible refine (HOF.out _ _ HS2.out).mono ?_)
                  rintro e w6 ⟨v', h, rfl, hv', hs6⟩
                  have K6 := Lib.hid (HC.out _ hs6.right.right)
                  have HV : Hid (EnSl v' (ofM l q.1) h ∧ Sat w6 (h ++ (.blk W4.heap.size (zO) :: .blk lb (.cells #[kI q.1.c, kI q.1.e, kI q.1.n, kI q.2] 89) :: .blk g (eO bx) :: AW))) := Lib.hid ⟨hv', hs6⟩))
            | (go_at_call 35
               first
               | ((with_reducible refine (HNX.out _ _ _ _ HV.out.1 HV.out.2).mono ?_)
                  rintro e w7 ⟨rfl, hb⟩
                  have HS7 := Lib.hid (HV.out.2.monoB hb).right
                  first
                  | (have K8 := Lib.hid (HC.out _ HS7.out)
                     have K9 := Lib.hid (HC.out _ (HS7.out.new (zO)).tail)
                     have K10 := Lib.hid (HC.out _ (HS7.out.new (eO nx)).tail))
                  | (have K8 := Lib.hid (HC.out _ HS7.out.tail); have K10 := Lib.hid (HC.out _ (sat_put13 (x := zeroE) (y := nx) HS7.out).tail); have ff := unfrozen_of HS7.out.h0; obtain ⟨z0, z1, z2, z3, z4, z5, z6, z7, z8, z9, z10, z11, z12⟩ := enAt_of (x := zeroE) HS7.out.h0))
               | ((with_reducible refine (HNX.out _ _ _ _ HV2.out.1 HV2.out.2).mono ?_)
                  rintro e w7 ⟨rfl, hb⟩
                  have HS7 := Lib.hid (HV2.out.2.monoB hb).right
                  have K8 := Lib.hid (HC.out _ HS7.out.tail); have K10 := Lib.hid (HC.out _ (sat_put13 (x := zeroE) (y := nx) HS7.out).tail); have ff := unfrozen_of HS7.out.h0; obtain ⟨z0, z1, z2, z3, z4, z5, z6, z7, z8, z9, z10, z11, z12⟩ := enAt_of (x := zeroE) HS7.out.h0)))
        · have FIN := Lib.hid (HS7.out.new (eO nx))
          clear HS7 HV HV2 K1 K2 K3 K6 K7 K8 K9 K10
          go_wp2_with fail
          go_meet
          exact ⟨_, rfl, rfl, rfl, FIN.out⟩
        · have FIN := Lib.hid (sat_put13 (x := zeroE) (y := nx) HS7.out)
          clear HS7 HV HV2 K1 K2 K3 K6 K7 K8 K10
          go_wp2_with fail
          go_meet
          exact ⟨_, rfl, rfl, rfl, FIN.out⟩
        · have FIN := Lib.hid (sat_put13 (x := zeroE) (y := nx) HS7.out)
          clear HS7 HV K1 K2 K3 K6 K8 K10
          go_wp2_with fail
          go_meet
          exact ⟨_, rfl, rfl, rfl, FIN.out⟩
      case rest =>
        obtain ⟨c, rfl, rfl, rfl, hs9⟩ := hcut
        clear HOF HNX K1 K2 K3 HS2 HS HC HLO
        by_cases hne : ne = 0
        · subst hne
          have hrs := HRS2.out
          rw [if_neg (by decide)] at hrs
          cases nb with
          | false =>
            rw [if_pos rfl] at hrs
            have FIN := Lib.hid (And.intro hrs hs9.tail.tail)
            clear hrs hs9 HRS2
            go_wp2_with fail
            exact ⟨⟨i + 1, k, bx, by omega, hk0, hk9, by simp, rfl, FIN.out.1, FIN.out.2⟩, by simp only [RowKit.intOf]; omega⟩
          | true =>
            rw [if_neg (by decide)] at hrs
            have hE1 : EnsIn (.blk c (eO nx) :: .blk lb (.cells #[kI q.1.c, kI q.1.e, kI q.1.n, kI q.2] 89) :: .blk g (eO bx) :: AW) (.slice a0 l.length c0) l := HE.out.mono (fun W h => (HOLD.out W h.tail.tail.tail).tail)
            have HIDX := Lib.hid (idx_pick (cb := c) (P := sameE nx) hE1 hs9 HF.out.1 (fun y W hy hW => pick1_any y nx c W (enAt_of hW.h0)))
            obtain ⟨r, hr⟩ : ∃ r, idxF (sameE nx) l = r := ⟨_, rfl⟩
            have hrb : -1 ≤ r ∧ r ≤ 100000 := by rw [← hr]; exact idxF_bd (by have := HF.out.1; omega)
            rw [hr] at HIDX hrs
            have HRS3 := Lib.hid hrs
            have HS9 := Lib.hid hs9
            have hu0 := (HUB.out _ hs9.tail.tail.tail).1
            clear hE1 hr hrs hs9 HRS2
            go_wp2_with fail
            refine (HIDX.out).mono ?_
            rintro e w8 ⟨rfl, hb⟩
            have HS8 := Lib.hid (HS9.out.monoB hb)
            clear hb HIDX hu0
            by_cases hkr : k < r
            · have hrs := HRS3.out
              rw [if_pos hkr] at hrs
              obtain ⟨z0, z1, z2, z3, z4, z5, z6, z7, z8, z9, z10, z11, z12⟩ := enAt_of HS8.out.h0
              obtain ⟨y0, y1, y2, y3, y4, y5, y6, y7, y8, y9, y10, y11, y12⟩ := enAt_of HS8.out.h2
              have ff := unfrozen_of HS8.out.h2
              have FIN : Hid (pickG l nx r (L.drop (i + 1)) = (rx, ri, re) ∧ Sat (put13 w8 g nx) (.blk g (eO nx) :: AW)) := Lib.hid ⟨hrs, sat_put13 HS8.out.tail.tail⟩
              clear hrs HS8 HRS3 HS9
              go_wp2_with fail
              exact ⟨⟨i + 1, r, nx, by omega, hrb.1, hrb.2, by simp, rfl, FIN.out.1, FIN.out.2⟩, by simp only [RowKit.intOf]; omega⟩
            · have hrs := HRS3.out
              rw [if_neg hkr] at hrs
              have hkr' : (k < r) = False := eq_false hkr
              have FIN : Hid (pickG l bx k (L.drop (i + 1)) = (rx, ri, re) ∧ Sat w8 (.blk g (eO bx) :: AW)) := Lib.hid ⟨hrs, HS8.out.tail.tail⟩
              clear hrs HS8 HRS3 HS9
              go_wp2_with fail
              exact ⟨⟨i + 1, k, bx, by omega, hk0, hk9, by simp, rfl, FIN.out.1, FIN.out.2⟩, by simp only [RowKit.intOf]; omega⟩
        · have hrs := HRS2.out
          rw [if_pos hne] at hrs
          have hb1 : (ne == 0) = false := beq_eq_false_iff_ne.2 hne
          have hb2 : (ne != 0) = true := by rw [bne, hb1]; rfl
          have h1 : bx = rx := congrArg Prod.fst hrs
          have h2 : false = ri := congrArg (fun y => y.2.1) hrs
          have h3 : ne = re := congrArg (fun y => y.2.2) hrs
          subst h1; subst h2; subst h3
          have hs10 := hs9.tail.tail
          obtain ⟨y0, y1, y2, y3, y4, y5, y6, y7, y8, y9, y10, y11, y12⟩ := enAt_of hs10.h0
          have ff := unfrozen_of hs10.h0
          have HH := Lib.hid (HEND.out _ _ hs10)
          clear hrs hs9 hs10 HRS2 hne HEND
          go_wp2_with fail
          exact bodyPost_ret (HH.out.1 _ rfl rfl rfl) rfl HH.out.2
    · obtain rfl : i = L.length := by omega
      rw [List.drop_length] at hrest
      have hq : (bx, decide (0 ≤ k), (0 : Int)) = (rx, ri, re) := hrest
      have h1 : bx = rx := congrArg Prod.fst hq
      have h2 : decide (0 ≤ k) = ri := congrArg (fun y => y.2.1) hq
      have h3 : 0 = re := congrArg (fun y => y.2.2) hq
      subst h1; subst h3
      obtain ⟨y0, y1, y2, y3, y4, y5, y6, y7, y8, y9, y10, y11, y12⟩ := enAt_of hs.h0
      have ff := unfrozen_of hs.h0
      have HH := Lib.hid (HEND.out _ _ hs)
      clear hrest hs hq HEND HE HLO HOLD HFIN
      by_cases hk : 0 ≤ k
      · have hkd : decide (0 ≤ k) = true := decide_eq_true hk
        rw [hkd] at h2
        subst h2
        clear hkd
        go_wp2_with fail
        exact bodyPost_ret (HH.out.1 _ rfl rfl rfl) rfl HH.out.2
      · have hkd : decide (0 ≤ k) = false := decide_eq_false hk
        have hk' : (0 ≤ k) = False := eq_false hk
        rw [hkd] at h2
        subst h2
        clear hkd
        go_wp2_with fail
        exact bodyPost_ret (HH.out.1 _ rfl rfl rfl) rfl HH.out.2
end Go.Proofs.YtficgjklagnbjaaGreat
