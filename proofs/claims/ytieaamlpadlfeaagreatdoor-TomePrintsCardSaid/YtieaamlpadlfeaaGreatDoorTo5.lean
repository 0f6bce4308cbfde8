/- Steps written, lines put in order: in plain data. Conditions: none. -/
import Derived.Test.YtieaamlpadlfeaaGreatDoorTo4
namespace Go.Proofs.YtieaamlpadlfeaaGreatDoor
open Go

theorem parseP_res (ws : List Bs) : (if (parseP ws).2.bad = false ∧ (parseP ws).2.ws = [] then some (parseP ws).1 else none) = parseR ws := by
  by_cases h : (parseP ws).2.bad = false ∧ (parseP ws).2.ws = []
  · rw [if_pos h]
    exact (parseR_iff.2 (parse_some h.1 h.2)).symm
  · rw [if_neg h]
    cases hr : parseR ws with
    | none => rfl
    | some s =>
      rw [parse_of (parseR_iff.1 hr)] at h
      exact absurd ⟨rfl, rfl⟩ h
/-- The word at a place. -/
def wordOf (names : List Bs) (k : Int) : Bs := if k < 1 ∨ (names.length : Int) < k then [] else names.getD (k.toNat - 1) []
theorem wordOf_name {names : List Bs} {k : Nat} (h : 1 ≤ k ∧ k ≤ names.length) : wordOf names k = nameOf names k := by
  unfold wordOf nameOf
  rw [if_neg (by omega), Int.toNat_natCast]
def pagedP (k : Int) : Bool := decide (2 ≤ k) && decide (k ≤ 5)
def slotP (k : Int) : Bool := (pagedP k && decide (k ≠ 3)) || decide (k = 7)
def dataP (k : Int) : Bool := decide (k = 3) || decide (k = 4)
/-- A call's words, as the program writes them. -/
def calledP (x : CallM) : List Bs := wordOf callNames x.kind :: ((if pagedP x.kind then [Lib.itoa x.page] else []) ++ ((if slotP x.kind then [Lib.itoa x.slot] else []) ++ (if dataP x.kind then [wordL x.data] else [])))
def midP (s : StepM) : List Bs :=
  if s.kind = 1 then Lib.itoa s.client :: calledP s.call
  else if s.kind = 2 ∨ s.kind = 3 ∨ s.kind = 4 then [wayW s.up, Lib.itoa s.client, Lib.itoa s.n]
  else if s.kind = 5 ∨ s.kind = 8 then [Lib.itoa s.client]
  else if s.kind = 6 ∨ s.kind = 7 then [Lib.itoa s.client, Lib.itoa s.n]
  else []
/-- A step's words, as the program writes them. -/
def wrP (s : StepM) : List Bs := wordOf stepNames s.kind :: (midP s ++ s.fates.map Lib.itoa)
theorem called_of {x : CallM} {ws : List Bs} (h : CallW x ws) : calledP x = ws := by
  cases h with
  | alone k hk => rcases hk with rfl | rfl | rfl | rfl <;> rfl
  | paged k p s hk => rcases hk with rfl | rfl <;> rfl
  | insert p d => rfl
  | update p s d => rfl
  | back s => rfl
theorem wrP_of {s : StepM} {ws : List Bs} (h : StepW s ws) : wrP s = ws := by
  cases h with
  | call c x ws hc hx =>
    show nameOf stepNames 1 :: ((Lib.itoa c :: calledP x) ++ []) = _
    rw [called_of hx, List.append_nil]
  | move k up c n hk => rcases hk with rfl | rfl | rfl <;> rfl
  | tick k c hk => rcases hk with rfl | rfl <;> rfl
  | crash c n => rfl
  | start c n fs => rfl
  | bare k hk => rcases hk with rfl | rfl <;> rfl
open Classical in
/-- The line of a step. -/
noncomputable def printS (s : StepM) : Option Bs := if h : ∃ l, StepL s l then some h.choose else none
theorem printS_iff {s : StepM} {l : Bs} : printS s = some l ↔ StepL s l := by
  unfold printS
  constructor
  · intro h
    split at h
    · rename_i hx
      cases h
      exact hx.choose_spec
    · cases h
  · intro h
    rw [dif_pos ⟨l, h⟩]
    congr 1
    exact StepL.line (⟨l, h⟩ : ∃ l, StepL s l).choose_spec h
theorem printS_none {s : StepM} (h : ∀ l, ¬ StepL s l) : printS s = none := by
  cases e : printS s with
  | none => rfl
  | some l => exact absurd (printS_iff.1 e) (h l)
/-- Written, read again, held against the step. -/
theorem printP_res (s : StepM) : printS s = if parseR (wordsL (lineL (wrP s))) = some s then some (lineL (wrP s)) else none := by
  by_cases h : parseR (wordsL (lineL (wrP s))) = some s
  · rw [if_pos h]
    exact printS_iff.2 (parseR_iff.1 h)
  · rw [if_neg h]
    refine printS_none (fun l hl => h ?_)
    have e := wrP_of hl
    rw [e, lineL_words]
    exact parseR_iff.2 hl
/-- A call's words behind a blank each, as the document writes them. -/
def fillW : Bs → CallM → Bs
  | [], _ => []
  | c :: f, x => (if c = 112 then 32 :: Lib.itoa x.page else if c = 115 then 32 :: Lib.itoa x.slot else 32 :: wordL x.data) ++ fillW f x
def wrR (s : StepM) : Bs :=
  let t := nameOf stepNames s.kind.toNat ++ (if 1 < s.kind ∧ s.kind < 5 then (32 : UInt8) :: wayW s.up else [])
  if 8 < s.kind then t
  else if s.kind = 1 then
    if s.call.kind < 1 ∨ 9 < s.call.kind then []
    else t ++ (32 :: Lib.itoa s.client) ++ (32 :: nameOf callNames s.call.kind.toNat) ++ fillW (formR s.call.kind.toNat) s.call
  else t ++ (32 :: Lib.itoa s.client) ++ (if s.kind ≠ 5 ∧ s.kind ≠ 8 then (32 : UInt8) :: Lib.itoa s.n else []) ++ (s.fates.map fun f => (32 : UInt8) :: Lib.itoa f).flatten
theorem lineL_cons (w : Bs) (t : List Bs) : lineL (w :: t) = w ++ (t.map fun v => (32 : UInt8) :: v).flatten := by
  unfold lineL
  rw [Lib.join_cons]
  rfl
theorem wrR_of {s : StepM} {ws : List Bs} (h : StepW s ws) : wrR s = lineL ws := by
  cases h with
  | call c x ws hc hx =>
    cases hx with
    | alone k hk =>
      rcases hk with rfl | rfl | rfl | rfl
      all_goals
        rw [lineL_cons]
        simp [wrR, fillW, formR, nameOf, stepNames, callNames]
    | paged k p s hk =>
      rcases hk with rfl | rfl
      all_goals
        rw [lineL_cons]
        simp [wrR, fillW, formR, nameOf, stepNames, callNames]
    | insert p d =>
      rw [lineL_cons]
      simp [wrR, fillW, formR, nameOf, stepNames, callNames]
    | update p s d =>
      rw [lineL_cons]
      simp [wrR, fillW, formR, nameOf, stepNames, callNames]
    | back s =>
      rw [lineL_cons]
      simp [wrR, fillW, formR, nameOf, stepNames, callNames]
  | move k up c n hk =>
    rcases hk with rfl | rfl | rfl
    all_goals
      rw [lineL_cons]
      simp [wrR, nameOf, stepNames]
  | tick k c hk =>
    rcases hk with rfl | rfl
    all_goals
      rw [lineL_cons]
      simp [wrR, nameOf, stepNames]
  | crash c n =>
    rw [lineL_cons]
    simp [wrR, nameOf, stepNames]
  | start c n fs =>
    rw [lineL_cons]
    simp [wrR, nameOf, stepNames]
    rfl
  | bare k hk =>
    rcases hk with rfl | rfl
    all_goals
      rw [lineL_cons]
      simp [wrR, nameOf, stepNames]
theorem printR_res (s : StepM) : printS s = if (1 ≤ s.kind ∧ s.kind ≤ 10) ∧ parseR (wordsL (wrR s)) = some s then some (wrR s) else none := by
  by_cases h : (1 ≤ s.kind ∧ s.kind ≤ 10) ∧ parseR (wordsL (wrR s)) = some s
  · rw [if_pos h]
    exact printS_iff.2 (parseR_iff.1 h.2)
  · rw [if_neg h]
    refine printS_none (fun l hl => h ?_)
    have e := wrR_of hl
    refine ⟨?_, ?_⟩
    · unfold StepL at hl
      generalize wordsL l = ws at hl
      clear e h
      cases hl with
      | call c x ws hc hx => simp only; omega
      | move k up c n hk => simp only; omega
      | tick k c hk => simp only; omega
      | crash c n => simp only; omega
      | start c n fs => simp only; omega
      | bare k hk => simp only; omega
    · rw [e, lineL_words]
      exact parseR_iff.2 hl
/-- A line of a script that plays no part. -/
def mute (l : Bs) : Bool := decide (l = []) || decide (l.head? = some 35)
/-- A script's steps, and how many lines were none's. -/
noncomputable def scriptS : List Bs → List StepM × Nat
  | [] => ([], 0)
  | l :: t => if mute l then scriptS t else match parseR (wordsL l) with
    | some s => (s :: (scriptS t).1, (scriptS t).2)
    | none => ((scriptS t).1, (scriptS t).2 + 1)
end Go.Proofs.YtieaamlpadlfeaaGreatDoor
