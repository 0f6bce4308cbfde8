/- A step and its line: what Print leans on. Conditions: none. -/
import Derived.Test.YtieaamlpadlfeaaGreatDoorTb9
import Derived.Shelf.Slices.Equal
import Derived.Shelf.Slices.Empties2
import Derived.Shelf.Strings.OnBuilder
import Derived.Lib.ItoaLen
namespace Go.Proofs.YtieaamlpadlfeaaGreatDoor
open Go Go.MapKept Go.RowKit Go.Proofs

attribute [local go_sem] Oper.semAt_some

theorem bs_eq (a b : Bs) : ((⟨a.toArray⟩ : ByteArray) = ⟨b.toArray⟩) = (a = b) := by
  apply propext
  constructor
  · intro h
    have := congrArg (fun d => d.data.toList) h
    simpa using this
  · rintro rfl; rfl
theorem bs_list (a : Bs) : (⟨a.toArray⟩ : ByteArray).toList = a := by rw [ByteArray.toList_eq]
theorem eq_call (x y : CallM) (w : World) : (binOp .eql 24 (callV x) (callV y)).run Tryz.prog w = .ok (.bool (decide (x = y))) w := by
  obtain ⟨a, b, c, d⟩ := x
  obtain ⟨a', b', c', d'⟩ := y
  have e : decide ((⟨a, b, c, d⟩ : CallM) = ⟨a', b', c', d'⟩) = ((a == a') && ((b == b') && ((c == c') && (d == d')))) := by
    by_cases h1 : a = a' <;> by_cases h2 : b = b' <;> by_cases h3 : c = c' <;> by_cases h4 : d = d' <;> simp [h1, h2, h3, h4]
  rw [e]
  simp [go_sem]
  repeat' split
  all_goals
    simp_all
theorem guard_call (x y : CallM) (w : World) (o1 o2 : Operand) : (eqGuard .eql 24 o1 o2 (callV x) (callV y)).run Tryz.prog w = .ok () w := by
  simp [go_sem, eqGuard]
theorem ft_some {F : Heaplet} {v : Value} {fs : List Int} (h : FtAt F v fs) (hn : 0 < fs.length) : ∃ g off cap, v = .slice (some ⟨g, off, none⟩) fs.length cap ∧ ∀ w, Sat w F → ∀ j, j < fs.length → w.cell? ⟨g, off + j, none⟩ = some (kI (fs.getD j 0)) := by
  obtain ⟨a, cap, rfl, hu⟩ := h
  obtain ⟨g, off, rfl, _⟩ := hu 0 (fs[0]) (List.getElem?_eq_getElem hn)
  refine ⟨g, off, cap, rfl, fun w hw j hj => ?_⟩
  obtain ⟨g', off', e, h2⟩ := hu j fs[j] (List.getElem?_eq_getElem hj)
  obtain ⟨rfl, rfl⟩ : g' = g ∧ off' = off := by injection e with e; injection e with e1 e2; exact ⟨e1.symm, e2.symm⟩
  rw [h2 w hw, List.getD_eq_getElem?_getD, List.getElem?_eq_getElem hj]
  rfl
theorem equal_at {F : Heaplet} {w : World} {v1 v2 : Value} {f1 f2 : List Int} (s : Sat w F) (h1 : FtAt F v1 f1) (h2 : FtAt F v2 f2) (hl1 : f1.length ≤ 1000000) (hl2 : f2.length ≤ 1000000) :
    Calls Tryz.prog 14 #[v1, v2] w (Ret (.bool (decide (f1 = f2))) (fun W => Sat W F)) := by
  by_cases hl : f1.length = f2.length
  · by_cases h0 : 0 < f1.length
    · obtain ⟨g1, o1, c1, rfl, u1⟩ := ft_some h1 h0
      obtain ⟨g2, o2, c2, rfl, u2⟩ := ft_some h2 (by omega)
      refine (Any.slices_Equal_int Tryz.laysEqual g1 o1 f1.length c1 g2 o2 f2.length c2 f1 f2 w (Nat.le_refl _) (Nat.le_refl _) (by omega) (by omega) (u1 w s) (u2 w s)).mono ?_
      rintro e w' ⟨rfl, q, rfl⟩
      refine ⟨?_, s.grown (Grown.drewN w q)⟩
      rw [List.take_length, List.take_length]
      by_cases hf : f1 = f2
      · subst hf; simp
      · rw [decide_eq_false hf, beq_eq_false_iff_ne.2 hf]
    · obtain ⟨a1, c1, rfl, _⟩ := h1
      obtain ⟨a2, c2, rfl, _⟩ := h2
      obtain rfl : f1 = [] := List.eq_nil_of_length_eq_zero (by omega)
      obtain rfl : f2 = [] := List.eq_nil_of_length_eq_zero (by simp at hl; omega)
      refine (Any.slices_Equal_int_empty Tryz.laysEqual a1 a2 c1 0 c2 w (by decide)).mono ?_
      rintro e w' ⟨rfl, rfl⟩
      exact ⟨rfl, s⟩
  · obtain ⟨a1, c1, rfl, _⟩ := h1
    obtain ⟨a2, c2, rfl, _⟩ := h2
    refine (Any.slices_Equal_int_lens Tryz.laysEqual a1 a2 f1.length c1 f2.length c2 w hl).mono ?_
    rintro e w' ⟨rfl, rfl⟩
    refine ⟨?_, s⟩
    rw [decide_eq_false (fun h => hl (by rw [h]))]
theorem join_sum (ws : List Bs) : (lineL ws).length ≤ (ws.map (fun x => x.length + 1)).sum := by
  show ([32].intercalate ws).length ≤ _
  induction ws with
  | nil => simp [List.intercalate]
  | cons x t ih =>
    cases t with
    | nil => simp [List.intercalate]
    | cons y t =>
      have e : List.intercalate [32] (x :: y :: t) = x ++ ([32] ++ List.intercalate [32] (y :: t)) := by simp [List.intercalate]
      rw [e]
      simp only [List.length_append, List.length_singleton, List.map_cons, List.sum_cons] at ih ⊢
      omega
theorem wordL_len (d : Bs) : (wordL d).length ≤ 3 * d.length + 1 := by
  unfold wordL
  split
  · simp
  · induction d with
    | nil => simp
    | cons c t ih =>
      rw [List.flatMap_cons, List.length_append]
      have h1 : (wordC c).length ≤ 3 := by unfold wordC; split <;> simp
      have h2 : (t.flatMap wordC).length ≤ 3 * t.length + 1 := by
        by_cases ht : t = []
        · subst ht; simp
        · exact ih ht
      simp only [List.length_cons]
      omega
theorem wordOf_len (names : List Bs) (B : Nat) (h : ∀ x ∈ names, x.length ≤ B) (k : Int) : (wordOf names k).length ≤ B := by
  unfold wordOf
  split
  · simp
  · rw [List.getD_eq_getElem?_getD]
    cases e : names[k.toNat - 1]? with
    | none => simp
    | some x => exact h x (List.mem_of_getElem? e)
theorem itoa_len {n : Int} (h : I64 n) : (Lib.itoa n).length ≤ 21 := Lib.itoa_length_le n h.1 h.2
theorem called_sum {x : CallM} (hp : I64 x.page) (hs : I64 x.slot) : ((calledP x).map (fun x => x.length + 1)).sum ≤ 60 + 3 * x.data.length := by
  have h1 := itoa_len hp
  have h2 := itoa_len hs
  have h3 := wordL_len x.data
  have h4 : (wordOf callNames x.kind).length ≤ 8 := wordOf_len _ 8 (by decide) _
  unfold calledP
  simp only [List.map_cons, List.sum_cons, List.map_append, List.sum_append]
  split <;> split <;> split <;> simp <;> omega
theorem mid_sum {x : StepM} (hc : I64 x.client) (hn : I64 x.n) (hp : I64 x.call.page) (hs : I64 x.call.slot) : ((midP x).map (fun x => x.length + 1)).sum ≤ 90 + 3 * x.call.data.length := by
  have h1 := itoa_len hc
  have h2 := itoa_len hn
  have h3 := called_sum hp hs
  have h4 : (wayW x.up).length ≤ 4 := by unfold wayW; cases x.up <;> decide
  unfold midP
  split
  · simp only [List.map_cons, List.sum_cons]
    omega
  · split
    · simp
      omega
    · split
      · simp
        omega
      · split
        · simp
          omega
        · simp
theorem fates_sum (fs : List Int) (h : ∀ f ∈ fs, I64 f) : ((fs.map Lib.itoa).map (fun x => x.length + 1)).sum ≤ 22 * fs.length := by
  induction fs with
  | nil => simp
  | cons f t ih =>
    have h1 := itoa_len (h f (.head _))
    have h2 := ih (fun g hg => h g (.tail _ hg))
    simp only [List.map_cons, List.sum_cons, List.length_cons]
    omega
theorem line_len {x : StepM} (hc : I64 x.client) (hn : I64 x.n) (hfs : ∀ f ∈ x.fates, I64 f) (hp : I64 x.call.page) (hs : I64 x.call.slot) : (lineL (wrP x)).length ≤ 100 + 3 * x.call.data.length + 22 * x.fates.length := by
  have h0 := join_sum (wrP x)
  have h1 := mid_sum hc hn hp hs
  have h2 := fates_sum x.fates hfs
  have h4 : (wordOf stepNames x.kind).length ≤ 8 := wordOf_len _ 8 (by decide) _
  have e : ((wrP x).map (fun x => x.length + 1)).sum = (wordOf stepNames x.kind).length + 1 + (((midP x).map (fun x => x.length + 1)).sum + ((x.fates.map Lib.itoa).map (fun x => x.length + 1)).sum) := by
    unfold wrP
    simp only [List.map_cons, List.sum_cons, List.map_append, List.sum_append]
  omega
end Go.Proofs.YtieaamlpadlfeaaGreatDoor
