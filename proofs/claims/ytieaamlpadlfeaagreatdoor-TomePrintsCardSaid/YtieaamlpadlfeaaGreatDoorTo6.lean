/- Answers fixed by number; scripts as lines: in plain data. Conditions: none. -/
import Derived.Test.YtieaamlpadlfeaaGreatDoorTo5
namespace Go.Proofs.YtieaamlpadlfeaaGreatDoor
open Go

theorem itoa_dig (n : Nat) (h : n < 10) : Lib.itoa (n : Int) = [UInt8.ofNat (48 + n)] := by
  unfold Lib.itoa
  rw [if_neg (by omega), Int.toNat_natCast, Lib.decDigits, dif_pos h]
/-- "client 2 insert 3 a%20b". -/
def lineA : Bs := [99, 108, 105, 101, 110, 116, 32, 50, 32, 105, 110, 115, 101, 114, 116, 32, 51, 32, 97, 37, 50, 48, 98]
def stepA : StepM := ⟨1, 2, false, 0, [], ⟨3, 3, 0, [97, 32, 98]⟩⟩
theorem parse_A : parseR (wordsL lineA) = some stepA := by
  refine parseR_iff.2 ?_
  have h2 : Lib.itoa 2 = [50] := itoa_dig 2 (by decide)
  have h3 : Lib.itoa 3 = [51] := itoa_dig 3 (by decide)
  have e : wordsL lineA = nameOf stepNames 1 :: Lib.itoa 2 :: [nameOf callNames 3, Lib.itoa 3, wordL [97, 32, 98]] := by
    rw [h2, h3]
    decide
  rw [e]
  exact .call 2 ⟨3, 3, 0, [97, 32, 98]⟩ _ (by decide) (.insert 3 _ (by decide))
/-- "start 0 0 1 2". -/
def stepB : StepM := ⟨7, 0, false, 0, [1, 2], CallM.zero⟩
def lineB : Bs := [115, 116, 97, 114, 116, 32, 48, 32, 48, 32, 49, 32, 50]
theorem print_B : (if parseR (wordsL (lineL (wrP stepB))) = some stepB then some (lineL (wrP stepB)) else none) = some lineB := by
  have h0 : Lib.itoa 0 = [48] := itoa_dig 0 (by decide)
  have h1 : Lib.itoa 1 = [49] := itoa_dig 1 (by decide)
  have h2 : Lib.itoa 2 = [50] := itoa_dig 2 (by decide)
  have hw : StepW stepB (nameOf stepNames 7 :: Lib.itoa 0 :: Lib.itoa 0 :: [1, 2].map Lib.itoa) := .start 0 0 [1, 2] (by decide) (by decide) (by decide)
  have e := wrP_of hw
  rw [e, if_pos (parseR_iff.2 (by rw [stepW_line hw]; exact hw))]
  rw [List.map_cons, List.map_cons, List.map_nil, h0, h1, h2]
  congr 1
/-- "# a remark\ncalm\nnonsense\n\ncheck". -/
def textC : Bs := [35, 32, 97, 32, 114, 101, 109, 97, 114, 107, 10, 99, 97, 108, 109, 10, 110, 111, 110, 115, 101, 110, 115, 101, 10, 10, 99, 104, 101, 99, 107]
def stepsC : List StepM := [⟨10, 0, false, 0, [], CallM.zero⟩, ⟨9, 0, false, 0, [], CallM.zero⟩]
theorem script_C : scriptS (cutL 10 textC) = (stepsC, 1) := by
  have e : cutL 10 textC = [[35, 32, 97, 32, 114, 101, 109, 97, 114, 107], [99, 97, 108, 109], [110, 111, 110, 115, 101, 110, 115, 101], [], [99, 104, 101, 99, 107]] := by decide
  have p1 : parseR (wordsL [99, 97, 108, 109]) = some ⟨10, 0, false, 0, [], CallM.zero⟩ := parseR_iff.2 (by
    have e : wordsL [99, 97, 108, 109] = [nameOf stepNames 10] := by decide
    rw [e]
    exact .bare 10 (.inr rfl))
  have p2 : parseR (wordsL [99, 104, 101, 99, 107]) = some ⟨9, 0, false, 0, [], CallM.zero⟩ := parseR_iff.2 (by
    have e : wordsL [99, 104, 101, 99, 107] = [nameOf stepNames 9] := by decide
    rw [e]
    exact .bare 9 (.inl rfl))
  have p3 : parseR (wordsL [110, 111, 110, 115, 101, 110, 115, 101]) = none := by
    have e : wordsL [110, 111, 110, 115, 101, 110, 115, 101] = [[110, 111, 110, 115, 101, 110, 115, 101]] := by decide
    rw [e]
    unfold parseR
    have k0 : kindOf stepNames [110, 111, 110, 115, 101, 110, 115, 101] = 0 := by decide
    simp only [k0, if_pos]
  rw [e]
  simp [scriptS, mute, p1, p2, p3, stepsC]
theorem scriptS_nil : scriptS [] = ([], 0) := rfl
theorem scriptS_snoc (a : List Bs) (l : Bs) : scriptS (a ++ [l]) = if mute l then scriptS a else match parseR (wordsL l) with
    | some s => ((scriptS a).1 ++ [s], (scriptS a).2)
    | none => ((scriptS a).1, (scriptS a).2 + 1) := by
  induction a with
  | nil =>
    simp only [List.nil_append, scriptS]
    split
    · rfl
    · cases parseR (wordsL l) <;> simp
  | cons x t ih =>
    simp only [List.cons_append, scriptS]
    rw [ih]
    by_cases hl : mute l = true
    · simp only [if_pos hl]
    · simp only [if_neg hl]
      cases parseR (wordsL l) with
      | none =>
        dsimp only
        split
        · rfl
        · cases parseR (wordsL x) <;> rfl
      | some s =>
        dsimp only
        split
        · rfl
        · cases parseR (wordsL x) <;> rfl
theorem scriptS_len (a : List Bs) : (scriptS a).1.length + (scriptS a).2 ≤ a.length := by
  induction a with
  | nil => simp [scriptS]
  | cons x t ih =>
    simp only [scriptS, List.length_cons]
    split
    · omega
    · split
      · simp only [List.length_cons]; omega
      · simp only; omega
/-- Cut so far: the parts that are whole, and the one that is under way. -/
def CutI (b : UInt8) (s : Bs) (fr i : Nat) (ps : List Bs) : Prop := fr ≤ i ∧ i ≤ s.length ∧ cutL b s = ps ++ cutL b (s.drop fr) ∧ b ∉ (s.take i).drop fr
theorem CutI.start (b : UInt8) (s : Bs) : CutI b s 0 0 [] := ⟨by omega, by omega, by simp, by simp⟩
theorem CutI.more {b : UInt8} {s : Bs} {fr i : Nat} {ps : List Bs} (h : CutI b s fr i ps) {c : UInt8} (hc : s[i]? = some c) (hn : c ≠ b) : CutI b s fr (i + 1) ps := by
  obtain ⟨h1, h2, h3, h4⟩ := h
  have hl := (List.getElem?_eq_some_iff.1 hc).1
  refine ⟨by omega, by omega, h3, ?_⟩
  rw [List.take_add_one, hc, List.drop_append_of_le_length (by rw [List.length_take]; omega)]
  simp only [Option.toList_some, List.mem_append, List.mem_singleton, not_or]
  exact ⟨h4, fun e => hn e.symm⟩
theorem drop_split (s : Bs) (fr i : Nat) (h1 : fr ≤ i) (h2 : i ≤ s.length) : s.drop fr = (s.take i).drop fr ++ s.drop i := by
  conv => lhs; rw [← List.take_append_drop i s]
  rw [List.drop_append_of_le_length (by rw [List.length_take]; omega)]
theorem CutI.cut {b : UInt8} {s : Bs} {fr i : Nat} {ps : List Bs} (h : CutI b s fr i ps) (hc : s[i]? = some b) : CutI b s (i + 1) (i + 1) (ps ++ [(s.take i).drop fr]) := by
  obtain ⟨h1, h2, h3, h4⟩ := h
  have hl := (List.getElem?_eq_some_iff.1 hc).1
  refine ⟨by omega, by omega, ?_, by simp⟩
  rw [h3, drop_split s fr i h1 h2]
  have e : s.drop i = b :: s.drop (i + 1) := by
    rw [List.drop_eq_getElem_cons hl]
    rw [List.getElem?_eq_getElem hl] at hc
    cases hc
    rfl
  rw [e, cut_append b _ _ h4, List.append_assoc]
  rfl
theorem CutI.done {b : UInt8} {s : Bs} {fr : Nat} {ps : List Bs} (h : CutI b s fr s.length ps) : cutL b s = ps ++ [(s.take s.length).drop fr] := by
  obtain ⟨h1, h2, h3, h4⟩ := h
  rw [List.take_length] at h4 ⊢
  rw [h3, cut_free h4]
end Go.Proofs.YtieaamlpadlfeaaGreatDoor
