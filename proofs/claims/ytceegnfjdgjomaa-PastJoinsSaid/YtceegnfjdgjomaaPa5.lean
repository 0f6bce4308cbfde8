/- Lists of entries: great, ended walked. Conditions: none. -/
import Derived.Test.YtceegnfjdgjomaaMapS
namespace Go.Proofs.Ytceegnfjdgjomaa
open Go Go.MapKept Go.RowKit Go.Proofs Go.Sort

/-- An entry's cells from o on. -/
def EnO (w : World) (g o : Nat) (x : En) : Prop :=
  w.cell? ⟨g, o, none⟩ = some (kI x.kind) ∧ w.cell? ⟨g, o + 1, none⟩ = some (kI x.t.c) ∧ w.cell? ⟨g, o + 2, none⟩ = some (kI x.t.e) ∧ w.cell? ⟨g, o + 3, none⟩ = some (kI x.t.n) ∧ w.cell? ⟨g, o + 4, none⟩ = some (kI x.lsn) ∧ w.cell? ⟨g, o + 5, none⟩ = some (kI x.prev) ∧
  w.cell? ⟨g, o + 6, none⟩ = some (kI x.page) ∧ w.cell? ⟨g, o + 7, none⟩ = some (kI x.slot) ∧ w.cell? ⟨g, o + 8, none⟩ = some (.bool x.wu) ∧ w.cell? ⟨g, o + 9, none⟩ = some (kS x.wd) ∧ w.cell? ⟨g, o + 10, none⟩ = some (.bool x.iu) ∧ w.cell? ⟨g, o + 11, none⟩ = some (kS x.idt) ∧ w.cell? ⟨g, o + 12, none⟩ = some (kI x.next)
/-- Where F holds, v is the slice of these entries. -/
def EnsIn (F : Heaplet) (v : Value) (l : List En) : Prop :=
  ∃ a cap, v = .slice a l.length cap ∧ ∀ w, Sat w F → ∀ i q, l[i]? = some q → ∃ g off, a = some ⟨g, off, none⟩ ∧ EnO w g (off + i * 13) q
abbrev EnSl (v : Value) (l : List En) (h : Heaplet) : Prop := SliceIs 43 13 v l.length (l.flatMap eC) h
theorem eC_len (q : En) : (eC q).length = 13 := rfl
theorem ens_in {v : Value} {l : List En} {h : Heaplet} (hv : EnSl v l h) (F : Heaplet) : EnsIn (h ++ F) v l := by
  obtain ⟨a, cap, rfl⟩ := sl_form hv
  refine ⟨a, cap, rfl, fun w hs i q hq => ?_⟩
  obtain ⟨a', cap', e, hc⟩ := sl_cells eC_len hv hs
  cases e
  obtain ⟨g, ea, _, hu⟩ := hc i q hq
  refine ⟨g, 0, ea, ?_⟩
  rw [Nat.zero_add]
  exact ⟨hu 0 _ rfl, hu 1 _ rfl, hu 2 _ rfl, hu 3 _ rfl, hu 4 _ rfl, hu 5 _ rfl, hu 6 _ rfl, hu 7 _ rfl, hu 8 _ rfl, hu 9 _ rfl, hu 10 _ rfl, hu 11 _ rfl, hu 12 _ rfl⟩
theorem EnsIn.mono {F F' : Heaplet} {v : Value} {l : List En} (h : EnsIn F v l) (hs : ∀ w, Sat w F' → Sat w F) : EnsIn F' v l := by
  obtain ⟨a, cap, e, hc⟩ := h
  exact ⟨a, cap, e, fun w hw => hc w (hs w hw)⟩
theorem EnsIn.right {F : Heaplet} {v : Value} {l : List En} (h : EnsIn F v l) (A : Heaplet) : EnsIn (A ++ F) v l := h.mono (fun _ hw => hw.right)
theorem EnsIn.cons {F : Heaplet} {v : Value} {l : List En} (h : EnsIn F v l) (A : HItem) : EnsIn (A :: F) v l := h.mono (fun _ hw => hw.tail)
/-- The numbers fit. -/
def FitL (l : List En) : Prop := ∀ x ∈ l, -9223372036854775808 ≤ x.lsn ∧ x.lsn ≤ 9223372036854775807
theorem FitL.get {l : List En} (h : FitL l) {i : Nat} {x : En} (hx : l[i]? = some x) : -9223372036854775808 ≤ x.lsn ∧ x.lsn ≤ 9223372036854775807 := h x (List.mem_of_getElem? hx)
theorem Sat.grown {w w' : World} {F : Heaplet} (s : Sat w F) (h : Grown w w') : Sat w' F := s.monoB h.below
/-- Whether entries are more than is asked. -/
def bigM (x : En) : Bool := decide (1024 < (x.wd.size : Int)) || decide (1024 < (x.idt.size : Int))
def greatM (l : List En) : Bool := decide (80 < l.length) || l.any bigM
set_option maxRecDepth 100000 in
set_option maxHeartbeats 2000000 in
theorem great_any (v : Value) (l : List En) (F : Heaplet) (w : World) (hs : Sat w F) (hE : EnsIn F v l) : Calls Try.prog 10 #[v] w (Ret (.bool (greatM l)) (Same w)) := by
  obtain ⟨a, cap, rfl, hc⟩ := hE
  have HC := Lib.hid (hc w hs)
  clear hc hs
  unfold greatM
  by_cases h80 : l.length ≤ 80
  · have hd : decide (80 < l.length) = false := by simpa using h80
    rw [hd, Bool.false_or]
    clear hd
    go_enter Try.func10, Try.ntmps10
    go_wp2_with fail
    go_loopw [3] (fun v3 wx => ∃ r : Nat, r ≤ l.length ∧ v3 = .int .i64 r ∧ (l.take r).any bigM = false ∧ wx = w) (fun v3 _ => 1000 - (RowKit.intOf v3).toNat)
    case atStart => exact ⟨0, by omega, rfl, by simp, rfl⟩
    case round =>
      obtain ⟨r, hr, rfl, hb, rfl⟩ := hrel
      have r0 : (0 : Int) ≤ (r : Int) := by omega
      by_cases hlr : r < l.length
      · have r1 : (r : Int) < (l.length : Int) := by omega
        obtain ⟨x, hx⟩ : ∃ x, l[r]? = some x := ⟨_, List.getElem?_eq_getElem hlr⟩
        obtain ⟨g, off, rfl, _, _, _, _, _, _, _, _, _, e9, _, e11, _⟩ := HC.out r x hx
        have htk : l.take (r + 1) = l.take r ++ [x] := by rw [List.take_add_one, hx]; rfl
        have hst : (l.take (r + 1)).any bigM = bigM x := by rw [htk, List.any_append, hb, Bool.false_or]; simp
        have hin : bigM x = true → l.any bigM = true := fun h => List.any_eq_true.2 ⟨x, List.mem_of_getElem? hx, h⟩
        have HF := Lib.hid (And.intro hst hin)
        have hbx : bigM x = (decide (1024 < (x.wd.size : Int)) || decide (1024 < (x.idt.size : Int))) := rfl
        have HBX := Lib.hid hbx
        clear hst hin hbx htk hx hb
        by_cases h1 : (1024 : Int) < (x.wd.size : Int)
        · go_wp2_with fail
          go_ret
          exact ⟨by rw [HF.out.2 (by rw [HBX.out]; simp [h1])]; rfl, rfl⟩
        · by_cases h2 : (1024 : Int) < (x.idt.size : Int)
          · go_wp2_with fail
            go_ret
            exact ⟨by rw [HF.out.2 (by rw [HBX.out]; simp [h2])]; rfl, rfl⟩
          · go_wp2_with fail
            exact ⟨⟨r + 1, by omega, by simp, by rw [HF.out.1, HBX.out]; simp [h1, h2], trivial⟩, by simp only [RowKit.intOf]; omega⟩
      · obtain rfl : r = l.length := by omega
        rw [List.take_length] at hb
        have HB := Lib.hid hb
        clear hb hlr
        go_wp2_with fail
        go_ret
        exact ⟨by rw [HB.out]; rfl, rfl⟩
  · have hd : decide (80 < l.length) = true := by simp; omega
    rw [hd, Bool.true_or]
    have h81 : (80 : Int) < (l.length : Int) := by omega
    clear hd h80
    go_enter Try.func10, Try.ntmps10
    go_wp2_with fail
    go_ret
    exact ⟨rfl, rfl⟩
/-- Whether a transaction is at its end. -/
def endM (l : List En) (t : Tx) : Bool := l.any fun x => goodM x && isEndM x && decide (x.t = t)
abbrev vB (b : Bool) : Value := .bool b
def EndMap (b : Nat) (l : List En) (F : Heaplet) (w : World) : Prop := ∃ es clk D, MapOkS tV vB es clk D ∧ (∀ k, (getL k D).getD false = endM l k) ∧ Sat w (.blk b (.map es clk) :: F)
section
variable {b : Nat} {l : List En} {F : Heaplet} {w : World}
theorem und_mtb : Try.prog.underlying 54 = some (.map 23 4) := by kernel_rfl
theorem und_tx : ∃ d, Try.prog.underlying 23 = some d := by
  refine Option.isSome_iff_exists.1 ?_
  kernel_rfl
theorem EndMap.frame (h : EndMap b l F w) : Sat w F := by
  obtain ⟨es, clk, D, _, _, s⟩ := h
  exact s.tail
theorem EndMap.grown {w' : World} (h : EndMap b l F w) (k : Grown w w') : EndMap b l F w' := by
  obtain ⟨es, clk, D, h1, h2, s⟩ := h
  exact ⟨es, clk, D, h1, h2, s.grown k⟩
theorem EndMap.look (h : EndMap b l F w) (t : Tx) : (Instr.lookup 54 (.map (some b)) (tV t) false).run Try.prog w = .ok (.bool (endM l t)) w := by
  obtain ⟨es, clk, D, h1, h2, s⟩ := h
  obtain ⟨d, hd⟩ := und_tx
  rw [lookS und_mtb keys_tx hd (z := .bool false) (by simp [go_sem]) s.h0 h1 t, ← h2 t]
  cases getL t D <;> rfl
theorem EndMap.skip (h : EndMap b l F w) {x : En} (hx : (goodM x && isEndM x) = false) : EndMap b (l ++ [x]) F w := by
  obtain ⟨es, clk, D, h1, h2, s⟩ := h
  refine ⟨es, clk, D, h1, fun k => ?_, s⟩
  rw [h2 k]
  simp [endM, hx]
theorem EndMap.step (h : EndMap b l F w) {x : En} (hx : (goodM x && isEndM x) = true) : ∃ w', (Instr.mapUpdate 54 (.map (some b)) (tV x.t) (.bool true)).run Try.prog w = .ok () w' ∧ EndMap b (l ++ [x]) F w' := by
  obtain ⟨es, clk, D, h1, h2, s⟩ := h
  obtain ⟨d, hd⟩ := und_tx
  obtain ⟨w', es', clk', hr, h1', s'⟩ := sat_updS und_mtb keys_tx hd h1 s x.t true
  refine ⟨w', hr, es', clk', _, h1', fun k => ?_, s'⟩
  rw [getL_putL]
  unfold endM
  rw [List.any_append]
  have := h2 k
  unfold endM at this
  by_cases e : k = x.t
  · subst e
    simp [hx]
  · have e2 : ¬ x.t = k := fun q => e q.symm
    simp [e, e2, this]
end
end Go.Proofs.Ytceegnfjdgjomaa
