/- Lines as words, words as lines: in plain data. Conditions: none. -/
import Derived.Test.YtieaamlpadlfeaaGreatDoorTo2
import Derived.Lib.Split
import Derived.Lib.SplitLaws
import Derived.Lib.Join
namespace Go.Proofs.YtieaamlpadlfeaaGreatDoor
open Go

/-- The words between a byte. -/
def cutL (b : UInt8) : Bs → List Bs
  | [] => [[]]
  | c :: s => if c = b then [] :: cutL b s else match cutL b s with
    | [] => [[c]]
    | w :: t => (c :: w) :: t
theorem cutL_ne (b : UInt8) (s : Bs) : cutL b s ≠ [] := by
  cases s with
  | nil => simp [cutL]
  | cons c s =>
    simp only [cutL]
    split
    · simp
    · split <;> simp
theorem cutL_free (b : UInt8) : ∀ (s w : Bs), w ∈ cutL b s → b ∉ w := by
  intro s
  induction s with
  | nil => intro w h; simp only [cutL, List.mem_cons, List.not_mem_nil, or_false] at h; rw [h]; simp
  | cons c s ih =>
    intro w h
    simp only [cutL] at h
    by_cases hc : c = b
    · rw [if_pos hc] at h
      rcases List.mem_cons.1 h with rfl | h
      · simp
      · exact ih w h
    · rw [if_neg hc] at h
      cases e : cutL b s with
      | nil => exact absurd e (cutL_ne b s)
      | cons v t =>
        rw [e] at h
        simp only at h
        rcases List.mem_cons.1 h with rfl | h
        · intro hb
          rcases List.mem_cons.1 hb with rfl | hb
          · exact hc rfl
          · exact ih v (by rw [e]; exact .head _) hb
        · exact ih w (by rw [e]; exact .tail _ h)
theorem joinTail_cons (b : UInt8) (w : Bs) (t : List Bs) : Lib.joinTail [b] (w :: t) = b :: (w ++ Lib.joinTail [b] t) := by
  simp [Lib.joinTail]
theorem join_cut (b : UInt8) : ∀ s : Bs, Lib.join (cutL b s) [b] = s := by
  intro s
  induction s with
  | nil => rw [cutL, Lib.join_one]
  | cons c s ih =>
    simp only [cutL]
    cases e : cutL b s with
    | nil => exact absurd e (cutL_ne b s)
    | cons v t =>
      rw [e, Lib.join_cons] at ih
      by_cases hc : c = b
      · rw [if_pos hc, Lib.join_cons, joinTail_cons, ih, hc]
        rfl
      · rw [if_neg hc]
        simp only
        rw [Lib.join_cons, List.cons_append, ih]
theorem cut_append (b : UInt8) : ∀ (w r : Bs), b ∉ w → cutL b (w ++ b :: r) = w :: cutL b r := by
  intro w
  induction w with
  | nil => intro r _; simp [cutL]
  | cons c w ih =>
    intro r h
    have hc : c ≠ b := fun e => h (by rw [e]; exact .head _)
    rw [List.cons_append, cutL, if_neg hc, ih r (fun x => h (.tail _ x))]
theorem cut_free {b : UInt8} : ∀ {w : Bs}, b ∉ w → cutL b w = [w] := by
  intro w
  induction w with
  | nil => intro _; rfl
  | cons c w ih =>
    intro h
    have hc : c ≠ b := fun e => h (by rw [e]; exact .head _)
    rw [cutL, if_neg hc, ih (fun x => h (.tail _ x))]
theorem cut_join (b : UInt8) : ∀ (ws : List Bs), ws ≠ [] → (∀ w ∈ ws, b ∉ w) → cutL b (Lib.join ws [b]) = ws := by
  intro ws
  induction ws with
  | nil => intro h; exact absurd rfl h
  | cons w t ih =>
    intro _ h
    cases t with
    | nil => rw [Lib.join_one]; exact cut_free (h w (.head _))
    | cons v t =>
      rw [Lib.join_cons, joinTail_cons, cut_append b w _ (h w (.head _)), ← Lib.join_cons, ih (by simp) (fun x hx => h x (.tail _ hx))]
theorem index_byte_at {b : UInt8} : ∀ {s : Bs} {k : Nat}, Lib.indexByte s b = (k : Int) → b ∉ s.take k ∧ s = s.take k ++ b :: s.drop (k + 1) := by
  intro s
  induction s with
  | nil => intro k h; simp [Lib.indexByte] at h
  | cons c s ih =>
    intro k h
    unfold Lib.indexByte at h
    by_cases hc : c = b
    · rw [if_pos (by simp [hc])] at h
      obtain rfl : k = 0 := by omega
      simp [hc]
    · rw [if_neg (by simp [hc])] at h
      by_cases hi : Lib.indexByte s b = -1
      · rw [if_pos (by simp [hi])] at h; omega
      · rw [if_neg (by simp [hi])] at h
        have hg := Lib.indexByte_ge s b
        obtain ⟨j, hj⟩ : ∃ j : Nat, Lib.indexByte s b = (j : Int) := ⟨(Lib.indexByte s b).toNat, by omega⟩
        obtain ⟨h1, h2⟩ := ih hj
        obtain rfl : k = j + 1 := by omega
        refine ⟨fun hm => ?_, ?_⟩
        · rw [List.take_succ_cons] at hm
          rcases List.mem_cons.1 hm with rfl | hm
          · exact hc rfl
          · exact h1 hm
        · rw [List.take_succ_cons, List.drop_succ_cons, List.cons_append, ← h2]
theorem index_byte_not {b : UInt8} : ∀ {s : Bs}, Lib.indexByte s b = -1 → b ∉ s := by
  intro s h hm
  obtain ⟨k, hk⟩ := List.mem_iff_getElem?.1 hm
  exact Lib.indexByte_none h k hk
theorem splitK_cut (b : UInt8) : ∀ (k : Nat) (s : Bs), s.count b ≤ k → Lib.splitK [b] 0 k s = cutL b s := by
  intro k
  induction k with
  | zero =>
    intro s h
    rw [Lib.splitK, cut_free]
    exact List.count_eq_zero.1 (by omega)
  | succ k ih =>
    intro s h
    rw [Lib.splitK, Lib.index_one]
    by_cases hi : Lib.indexByte s b = -1
    · rw [if_pos (by simp [hi]), cut_free (index_byte_not hi)]
    · rw [if_neg (by simp [hi])]
      have hg := Lib.indexByte_ge s b
      obtain ⟨j, hj⟩ : ∃ j : Nat, Lib.indexByte s b = (j : Int) := ⟨(Lib.indexByte s b).toNat, by omega⟩
      obtain ⟨h1, h2⟩ := index_byte_at hj
      rw [hj]
      simp only [Int.toNat_natCast, Nat.add_zero, List.length_cons, List.length_nil, Nat.zero_add]
      have hc : (s.drop (j + 1)).count b ≤ k := by
        have e := congrArg (List.count b) h2
        rw [List.count_append, List.count_cons_self] at e
        omega
      rw [ih _ hc]
      conv => rhs; rw [h2]
      rw [cut_append b _ _ h1]
theorem split_cut (b : UInt8) (s : ByteArray) : (Lib.splitB ⟨#[b]⟩ 0 (Lib.countB s ⟨#[b]⟩) s).map (·.data.toList) = cutL b s.data.toList := by
  rw [Lib.splitB_data]
  refine splitK_cut b _ _ ?_
  have := Lib.count_one b s.data.toList
  unfold Lib.countB
  exact Nat.le_of_eq this.symm
abbrev wordsL (l : Bs) : List Bs := cutL 32 l
abbrev lineL (ws : List Bs) : Bs := Lib.join ws [32]
theorem lineL_words (l : Bs) : lineL (wordsL l) = l := join_cut 32 l
theorem not32 {w : Bs} (h : ∀ x ∈ w, 33 ≤ x.toNat) : (32 : UInt8) ∉ w := fun hm => absurd (h 32 hm) (by decide)
theorem itoa_free (n : Int) : (32 : UInt8) ∉ Lib.itoa n := not32 (itoa_bds n)
theorem wordL_free (s : Bs) : (32 : UInt8) ∉ wordL s := not32 (fun _ h => (wordL_bds h).1)
theorem callW_free {x : CallM} {ws : List Bs} (h : CallW x ws) : ∀ w ∈ ws, (32 : UInt8) ∉ w := by
  cases h with
  | alone k hk =>
    intro w hw
    simp only [List.mem_cons, List.not_mem_nil, or_false] at hw
    subst hw
    rcases hk with rfl | rfl | rfl | rfl <;> decide
  | paged k p s hk =>
    intro w hw
    simp only [List.mem_cons, List.not_mem_nil, or_false] at hw
    rcases hw with rfl | rfl | rfl
    · rcases hk with rfl | rfl <;> decide
    · exact itoa_free _
    · exact itoa_free _
  | insert p d =>
    intro w hw
    simp only [List.mem_cons, List.not_mem_nil, or_false] at hw
    rcases hw with rfl | rfl | rfl
    · decide
    · exact itoa_free _
    · exact wordL_free _
  | update p s d =>
    intro w hw
    simp only [List.mem_cons, List.not_mem_nil, or_false] at hw
    rcases hw with rfl | rfl | rfl | rfl
    · decide
    · exact itoa_free _
    · exact itoa_free _
    · exact wordL_free _
  | back s =>
    intro w hw
    simp only [List.mem_cons, List.not_mem_nil, or_false] at hw
    rcases hw with rfl | rfl
    · decide
    · exact itoa_free _
theorem stepW_free {s : StepM} {ws : List Bs} (h : StepW s ws) : ∀ w ∈ ws, (32 : UInt8) ∉ w := by
  cases h with
  | call c x ws hc hx =>
    intro w hw
    rcases List.mem_cons.1 hw with rfl | hw
    · decide
    rcases List.mem_cons.1 hw with rfl | hw
    · exact itoa_free _
    · exact callW_free hx w hw
  | move k up c n hk =>
    intro w hw
    simp only [List.mem_cons, List.not_mem_nil, or_false] at hw
    rcases hw with rfl | rfl | rfl | rfl
    · rcases hk with rfl | rfl | rfl <;> decide
    · cases up <;> decide
    · exact itoa_free _
    · exact itoa_free _
  | tick k c hk =>
    intro w hw
    simp only [List.mem_cons, List.not_mem_nil, or_false] at hw
    rcases hw with rfl | rfl
    · rcases hk with rfl | rfl <;> decide
    · exact itoa_free _
  | crash c n =>
    intro w hw
    simp only [List.mem_cons, List.not_mem_nil, or_false] at hw
    rcases hw with rfl | rfl | rfl
    · decide
    · exact itoa_free _
    · exact itoa_free _
  | start c n fs =>
    intro w hw
    rcases List.mem_cons.1 hw with rfl | hw
    · decide
    rcases List.mem_cons.1 hw with rfl | hw
    · exact itoa_free _
    rcases List.mem_cons.1 hw with rfl | hw
    · exact itoa_free _
    · obtain ⟨f, _, rfl⟩ := List.mem_map.1 hw
      exact itoa_free _
  | bare k hk =>
    intro w hw
    simp only [List.mem_cons, List.not_mem_nil, or_false] at hw
    subst hw
    rcases hk with rfl | rfl <;> decide
theorem stepW_ne {s : StepM} {ws : List Bs} (h : StepW s ws) : ws ≠ [] := by cases h <;> simp
theorem stepW_line {s : StepM} {ws : List Bs} (h : StepW s ws) : wordsL (lineL ws) = ws := cut_join 32 ws (stepW_ne h) (stepW_free h)
/-- A step and its line. -/
def StepL (s : StepM) (l : Bs) : Prop := StepW s (wordsL l)
theorem StepL.only {s t : StepM} {l : Bs} (h : StepL s l) (h2 : StepL t l) : t = s := StepW.words h h2
theorem StepL.of {s : StepM} {ws : List Bs} (h : StepW s ws) : StepL s (lineL ws) := by
  unfold StepL
  rw [stepW_line h]
  exact h
theorem StepW.only {s : StepM} {a b : List Bs} (h : StepW s a) (h2 : StepW s b) : a = b := by
  cases h with
  | call c x ws hc hx =>
    generalize e : (⟨1, c, false, 0, [], x⟩ : StepM) = y at h2
    cases h2 with
    | call c' x' ws' hc' hx' => injection e with e1 e2 e3 e4 e5 e6; subst e6; rw [e2, hx.only hx']
    | move k' up' c' n' hk' => injection e with e1; omega
    | tick k' c' hk' => injection e with e1; omega
    | crash c' n' => injection e with e1; omega
    | start c' n' fs' => injection e with e1; omega
    | bare k' hk' => injection e with e1; omega
  | move k up c n hk =>
    generalize e : (⟨(k : Int), c, up, n, [], CallM.zero⟩ : StepM) = y at h2
    cases h2 with
    | call c' x' ws' hc' hx' => injection e with e1; omega
    | move k' up' c' n' hk' => injection e with e1 e2 e3 e4 e5 e6; rw [Int.natCast_inj.1 e1, e2, e3, e4]
    | tick k' c' hk' => injection e with e1; omega
    | crash c' n' => injection e with e1; omega
    | start c' n' fs' => injection e with e1; omega
    | bare k' hk' => injection e with e1; omega
  | tick k c hk =>
    generalize e : (⟨(k : Int), c, false, 0, [], CallM.zero⟩ : StepM) = y at h2
    cases h2 with
    | call c' x' ws' hc' hx' => injection e with e1; omega
    | move k' up' c' n' hk' => injection e with e1; omega
    | tick k' c' hk' => injection e with e1 e2 e3 e4 e5 e6; rw [Int.natCast_inj.1 e1, e2]
    | crash c' n' => injection e with e1; omega
    | start c' n' fs' => injection e with e1; omega
    | bare k' hk' => injection e with e1; omega
  | crash c n =>
    generalize e : (⟨6, c, false, n, [], CallM.zero⟩ : StepM) = y at h2
    cases h2 with
    | call c' x' ws' hc' hx' => injection e with e1; omega
    | move k' up' c' n' hk' => injection e with e1; omega
    | tick k' c' hk' => injection e with e1; omega
    | crash c' n' => injection e with e1 e2 e3 e4 e5 e6; rw [e2, e4]
    | start c' n' fs' => injection e with e1; omega
    | bare k' hk' => injection e with e1; omega
  | start c n fs =>
    generalize e : (⟨7, c, false, n, fs, CallM.zero⟩ : StepM) = y at h2
    cases h2 with
    | call c' x' ws' hc' hx' => injection e with e1; omega
    | move k' up' c' n' hk' => injection e with e1; omega
    | tick k' c' hk' => injection e with e1; omega
    | crash c' n' => injection e with e1; omega
    | start c' n' fs' => injection e with e1 e2 e3 e4 e5 e6; rw [e2, e4, e5]
    | bare k' hk' => injection e with e1; omega
  | bare k hk =>
    generalize e : (⟨(k : Int), 0, false, 0, [], CallM.zero⟩ : StepM) = y at h2
    cases h2 with
    | call c' x' ws' hc' hx' => injection e with e1; omega
    | move k' up' c' n' hk' => injection e with e1; omega
    | tick k' c' hk' => injection e with e1; omega
    | crash c' n' => injection e with e1; omega
    | start c' n' fs' => injection e with e1; omega
    | bare k' hk' => injection e with e1; rw [Int.natCast_inj.1 e1]
theorem StepL.line {s : StepM} {l l' : Bs} (h : StepL s l) (h2 : StepL s l') : l = l' := by
  have e := StepW.only h h2
  rw [← lineL_words l, ← lineL_words l', e]
end Go.Proofs.YtieaamlpadlfeaaGreatDoor
