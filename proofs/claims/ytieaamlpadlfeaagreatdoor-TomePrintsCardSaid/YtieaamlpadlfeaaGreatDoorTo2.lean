/- Steps as words, words as steps: in plain data. Conditions: none. -/
import Derived.Test.YtieaamlpadlfeaaGreatDoorTo1
namespace Go.Proofs.YtieaamlpadlfeaaGreatDoor
open Go

structure CallM where
  kind : Int
  page : Int
  slot : Int
  data : Bs
deriving DecidableEq
structure StepM where
  kind : Int
  client : Int
  up : Bool
  n : Int
  fates : List Int
  call : CallM
deriving DecidableEq
abbrev CallM.zero : CallM := ⟨0, 0, 0, []⟩
abbrev StepM.zero : StepM := ⟨0, 0, false, 0, [], CallM.zero⟩
def stepNames : List Bs := [[99, 108, 105, 101, 110, 116],
  [109, 111, 118, 101],
  [100, 114, 111, 112],
  [116, 119, 105, 99, 101],
  [116, 105, 99, 107],
  [99, 114, 97, 115, 104],
  [115, 116, 97, 114, 116],
  [110, 111, 116, 105, 99, 101],
  [99, 104, 101, 99, 107],
  [99, 97, 108, 109]]
def callNames : List Bs := [[98, 101, 103, 105, 110],
  [114, 101, 97, 100],
  [105, 110, 115, 101, 114, 116],
  [117, 112, 100, 97, 116, 101],
  [100, 101, 108, 101, 116, 101],
  [115, 97, 118, 101],
  [98, 97, 99, 107],
  [99, 111, 109, 109, 105, 116],
  [114, 111, 108, 108, 98, 97, 99, 107]]
def upW : Bs := [117, 112]
def downW : Bs := [100, 111, 119, 110]
/-- The place of a word among words, from 1 on; 0: it is none of them. -/
def kindOf (names : List Bs) (w : Bs) : Nat := if w ∈ names then names.idxOf w + 1 else 0
def nameOf (names : List Bs) (k : Nat) : Bs := names.getD (k - 1) []
abbrev wayW (up : Bool) : Bs := if up then upW else downW
theorem kindOf_le (names : List Bs) (w : Bs) : kindOf names w ≤ names.length := by
  unfold kindOf
  split
  · rename_i h
    have := List.idxOf_lt_length_iff.2 h
    omega
  · omega
theorem kindOf_name {names : List Bs} {w : Bs} {k : Nat} (h : kindOf names w = k) (hk : k ≠ 0) : w = nameOf names k := by
  unfold kindOf at h
  split at h
  · rename_i hm
    have hl := List.idxOf_lt_length_iff.2 hm
    subst h
    unfold nameOf
    rw [Nat.add_sub_cancel, List.getD_eq_getElem?_getD, List.getElem?_eq_getElem hl, List.getElem_idxOf hl]
    rfl
  · omega

/-- A call and its words. -/
inductive CallW : CallM → List Bs → Prop
  | alone (k : Nat) (hk : k = 1 ∨ k = 6 ∨ k = 8 ∨ k = 9) : CallW ⟨k, 0, 0, []⟩ [nameOf callNames k]
  | paged (k : Nat) (p s : Int) (hk : k = 2 ∨ k = 5) (hp : I64 p) (hs : I64 s) : CallW ⟨k, p, s, []⟩ [nameOf callNames k, Lib.itoa p, Lib.itoa s]
  | insert (p : Int) (d : Bs) (hp : I64 p) : CallW ⟨3, p, 0, d⟩ [nameOf callNames 3, Lib.itoa p, wordL d]
  | update (p s : Int) (d : Bs) (hp : I64 p) (hs : I64 s) : CallW ⟨4, p, s, d⟩ [nameOf callNames 4, Lib.itoa p, Lib.itoa s, wordL d]
  | back (s : Int) (hs : I64 s) : CallW ⟨7, 0, s, []⟩ [nameOf callNames 7, Lib.itoa s]
/-- A step and its words. -/
inductive StepW : StepM → List Bs → Prop
  | call (c : Int) (x : CallM) (ws : List Bs) (hc : I64 c) (hx : CallW x ws) : StepW ⟨1, c, false, 0, [], x⟩ (nameOf stepNames 1 :: Lib.itoa c :: ws)
  | move (k : Nat) (up : Bool) (c n : Int) (hk : k = 2 ∨ k = 3 ∨ k = 4) (hc : I64 c) (hn : I64 n) : StepW ⟨k, c, up, n, [], CallM.zero⟩ [nameOf stepNames k, wayW up, Lib.itoa c, Lib.itoa n]
  | tick (k : Nat) (c : Int) (hk : k = 5 ∨ k = 8) (hc : I64 c) : StepW ⟨k, c, false, 0, [], CallM.zero⟩ [nameOf stepNames k, Lib.itoa c]
  | crash (c n : Int) (hc : I64 c) (hn : I64 n) : StepW ⟨6, c, false, n, [], CallM.zero⟩ [nameOf stepNames 6, Lib.itoa c, Lib.itoa n]
  | start (c n : Int) (fs : List Int) (hc : I64 c) (hn : I64 n) (hf : ∀ f ∈ fs, I64 f) : StepW ⟨7, c, false, n, fs, CallM.zero⟩ (nameOf stepNames 7 :: Lib.itoa c :: Lib.itoa n :: fs.map Lib.itoa)
  | bare (k : Nat) (hk : k = 9 ∨ k = 10) : StepW ⟨k, 0, false, 0, [], CallM.zero⟩ [nameOf stepNames k]

/-- Words that are taken off, and whether one was wrong. -/
structure Rd where
  ws : List Bs
  bad : Bool
def Rd.word (r : Rd) : Bs × Rd := match r.ws with
  | [] => ([], ⟨[], true⟩)
  | w :: t => (w, ⟨t, r.bad⟩)
def Rd.num (r : Rd) : Int × Rd := (numV r.word.1, ⟨r.word.2.ws, r.word.2.bad || (numS r.word.1).isNone⟩)
noncomputable def Rd.text (r : Rd) : Bs × Rd := ((textS r.word.1).getD [], ⟨r.word.2.ws, r.word.2.bad || (textS r.word.1).isNone⟩)
def Rd.way (r : Rd) : Bool × Rd := (decide (r.word.1 = upW), ⟨r.word.2.ws, r.word.2.bad || (decide (r.word.1 ≠ upW) && decide (r.word.1 ≠ downW))⟩)
/-- A call is read. -/
noncomputable def Rd.call (r : Rd) : CallM × Rd :=
  let k := kindOf callNames r.word.1
  let r1 : Rd := ⟨r.word.2.ws, r.word.2.bad || decide (k = 0)⟩
  if k = 3 then (⟨3, r1.num.1, 0, r1.num.2.text.1⟩, r1.num.2.text.2)
  else if k = 4 then (⟨4, r1.num.1, r1.num.2.num.1, r1.num.2.num.2.text.1⟩, r1.num.2.num.2.text.2)
  else if k = 2 ∨ k = 5 then (⟨k, r1.num.1, r1.num.2.num.1, []⟩, r1.num.2.num.2)
  else if k = 7 then (⟨7, 0, r1.num.1, []⟩, r1.num.2)
  else (⟨k, 0, 0, []⟩, r1)
/-- All that is left, as numbers. -/
def numsR : List Bs → Bool → List Int × Bool
  | [], b => ([], b)
  | w :: t, b => (numV w :: (numsR t (b || (numS w).isNone)).1, (numsR t (b || (numS w).isNone)).2)
/-- A line is read. -/
noncomputable def parseP (ws : List Bs) : StepM × Rd :=
  let r : Rd := (Rd.mk ws false).word.2
  let k := kindOf stepNames (Rd.mk ws false).word.1
  if k = 1 then (⟨1, r.num.1, false, 0, [], r.num.2.call.1⟩, r.num.2.call.2)
  else if k = 2 ∨ k = 3 ∨ k = 4 then (⟨k, r.way.2.num.1, r.way.1, r.way.2.num.2.num.1, [], CallM.zero⟩, r.way.2.num.2.num.2)
  else if k = 5 ∨ k = 8 then (⟨k, r.num.1, false, 0, [], CallM.zero⟩, r.num.2)
  else if k = 6 then (⟨6, r.num.1, false, r.num.2.num.1, [], CallM.zero⟩, r.num.2.num.2)
  else if k = 7 then (⟨7, r.num.1, false, r.num.2.num.1, (numsR r.num.2.num.2.ws r.num.2.num.2.bad).1, CallM.zero⟩, ⟨[], (numsR r.num.2.num.2.ws r.num.2.num.2.bad).2⟩)
  else (⟨k, 0, false, 0, [], CallM.zero⟩, ⟨r.ws, r.bad || decide (k = 0)⟩)

theorem Rd.num_ok {w : Bs} {t : List Bs} {n : Int} (h : numS w = some n) : (Rd.mk (w :: t) false).num = (n, ⟨t, false⟩) := by
  simp [Rd.num, Rd.word, numV_of h, h]
theorem Rd.text_ok {w s : Bs} {t : List Bs} (h : textS w = some s) : (Rd.mk (w :: t) false).text = (s, ⟨t, false⟩) := by
  simp [Rd.text, Rd.word, h]
theorem Rd.num_some {r : Rd} (h : r.num.2.bad = false) : ∃ n, r.ws = Lib.itoa n :: r.num.2.ws ∧ r.bad = false ∧ I64 n ∧ r.num.1 = n := by
  obtain ⟨ws, b⟩ := r
  cases ws with
  | nil => simp [Rd.num, Rd.word] at h
  | cons w t =>
    simp only [Rd.num, Rd.word, Bool.or_eq_false_iff] at h
    obtain ⟨h1, h2⟩ := h
    obtain ⟨n, hn⟩ : ∃ n, numS w = some n := by
      cases e : numS w with
      | none => rw [e] at h2; cases h2
      | some n => exact ⟨n, rfl⟩
    exact ⟨n, by simp only [Rd.num, Rd.word]; rw [(numS_iff.1 hn).1], h1, (numS_iff.1 hn).2, numV_of hn⟩
theorem Rd.text_some {r : Rd} (h : r.text.2.bad = false) : ∃ s, r.ws = wordL s :: r.text.2.ws ∧ r.bad = false ∧ r.text.1 = s := by
  obtain ⟨ws, b⟩ := r
  cases ws with
  | nil => simp [Rd.text, Rd.word] at h
  | cons w t =>
    simp only [Rd.text, Rd.word, Bool.or_eq_false_iff] at h
    obtain ⟨h1, h2⟩ := h
    obtain ⟨s, hs⟩ : ∃ s, textS w = some s := by
      cases e : textS w with
      | none => rw [e] at h2; cases h2
      | some n => exact ⟨n, rfl⟩
    exact ⟨s, by simp only [Rd.text, Rd.word]; rw [textS_iff.1 hs], h1, by simp [Rd.text, Rd.word, hs]⟩
theorem Rd.way_some {r : Rd} (h : r.way.2.bad = false) : r.ws = wayW r.way.1 :: r.way.2.ws ∧ r.bad = false := by
  obtain ⟨ws, b⟩ := r
  cases ws with
  | nil => simp [Rd.way, Rd.word] at h
  | cons w t =>
    simp only [Rd.way, Rd.word, Bool.or_eq_false_iff] at h
    obtain ⟨h1, h2⟩ := h
    refine ⟨?_, h1⟩
    simp only [Rd.way, Rd.word]
    by_cases hu : w = upW
    · simp [hu]
    · by_cases hd : w = downW
      · subst hd; rfl
      · simp [hu, hd] at h2
theorem nums_some : ∀ {ws : List Bs} {b : Bool}, (numsR ws b).2 = false → b = false ∧ ∃ fs, (∀ f ∈ fs, I64 f) ∧ ws = fs.map Lib.itoa ∧ (numsR ws b).1 = fs := by
  intro ws
  induction ws with
  | nil =>
    intro b h
    exact ⟨h, [], by simp, rfl, rfl⟩
  | cons w t ih =>
    intro b h
    simp only [numsR] at h ⊢
    obtain ⟨h1, fs, h2, h3, h4⟩ := ih h
    rw [Bool.or_eq_false_iff] at h1
    obtain ⟨n, hn⟩ : ∃ n, numS w = some n := by
      cases e : numS w with
      | none => rw [e] at h1; exact absurd h1.2 (by decide)
      | some n => exact ⟨n, rfl⟩
    refine ⟨h1.1, n :: fs, fun f hf => ?_, ?_, ?_⟩
    · rcases List.mem_cons.1 hf with rfl | hf
      · exact (numS_iff.1 hn).2
      · exact h2 f hf
    · rw [List.map_cons, (numS_iff.1 hn).1, h3]
    · rw [h4, numV_of hn]
theorem nums_ok : ∀ (fs : List Int), (∀ f ∈ fs, I64 f) → numsR (fs.map Lib.itoa) false = (fs, false) := by
  intro fs
  induction fs with
  | nil => intro _; rfl
  | cons f fs ih =>
    intro h
    have hn : numS (Lib.itoa f) = some f := numS_iff.2 ⟨rfl, h f (.head _)⟩
    simp only [List.map_cons, numsR, hn, Option.isNone_some, Bool.or_false, ih (fun g hg => h g (.tail _ hg)), numV_of hn]
theorem word_eq (ws : List Bs) : (Rd.mk ws false).word = (ws.headD [], ⟨ws.tail, ws.isEmpty⟩) := by cases ws <;> rfl
theorem Rd.call_of {x : CallM} {ws : List Bs} (h : CallW x ws) : (Rd.mk ws false).call = (x, ⟨[], false⟩) := by
  have nn : ∀ {n : Int} {t : List Bs}, I64 n → (Rd.mk (Lib.itoa n :: t) false).num = (n, ⟨t, false⟩) := fun h => Rd.num_ok (numS_iff.2 ⟨rfl, h⟩)
  have tt : ∀ {s : Bs} {t : List Bs}, (Rd.mk (wordL s :: t) false).text = (s, ⟨t, false⟩) := Rd.text_ok (textS_iff.2 rfl)
  cases h with
  | alone k hk =>
    rcases hk with rfl | rfl | rfl | rfl <;> rfl
  | paged k p s hk hp hs =>
    rcases hk with rfl | rfl
    · show (CallM.mk 2 ((Rd.mk [Lib.itoa p, Lib.itoa s] false).num.1) ((Rd.mk [Lib.itoa p, Lib.itoa s] false).num.2.num.1) [], (Rd.mk [Lib.itoa p, Lib.itoa s] false).num.2.num.2) = _
      rw [nn hp, nn hs]
      rfl
    · show (CallM.mk 5 ((Rd.mk [Lib.itoa p, Lib.itoa s] false).num.1) ((Rd.mk [Lib.itoa p, Lib.itoa s] false).num.2.num.1) [], (Rd.mk [Lib.itoa p, Lib.itoa s] false).num.2.num.2) = _
      rw [nn hp, nn hs]
      rfl
  | insert p d hp =>
    show (CallM.mk 3 ((Rd.mk [Lib.itoa p, wordL d] false).num.1) 0 ((Rd.mk [Lib.itoa p, wordL d] false).num.2.text.1), (Rd.mk [Lib.itoa p, wordL d] false).num.2.text.2) = _
    rw [nn hp, tt]
  | update p s d hp hs =>
    show (CallM.mk 4 ((Rd.mk [Lib.itoa p, Lib.itoa s, wordL d] false).num.1) ((Rd.mk [Lib.itoa p, Lib.itoa s, wordL d] false).num.2.num.1) ((Rd.mk [Lib.itoa p, Lib.itoa s, wordL d] false).num.2.num.2.text.1), (Rd.mk [Lib.itoa p, Lib.itoa s, wordL d] false).num.2.num.2.text.2) = _
    rw [nn hp, nn hs, tt]
  | back s hs =>
    show (CallM.mk 7 0 ((Rd.mk [Lib.itoa s] false).num.1) [], (Rd.mk [Lib.itoa s] false).num.2) = _
    rw [nn hs]
theorem parse_of {s : StepM} {ws : List Bs} (h : StepW s ws) : parseP ws = (s, ⟨[], false⟩) := by
  have nn : ∀ {n : Int} {t : List Bs}, I64 n → (Rd.mk (Lib.itoa n :: t) false).num = (n, ⟨t, false⟩) := fun h => Rd.num_ok (numS_iff.2 ⟨rfl, h⟩)
  have ww : ∀ {u : Bool} {t : List Bs}, (Rd.mk (wayW u :: t) false).way = (u, ⟨t, false⟩) := fun {u t} => by cases u <;> rfl
  cases h with
  | call c x ws hc hx =>
    show (StepM.mk 1 ((Rd.mk (Lib.itoa c :: ws) false).num.1) false 0 [] ((Rd.mk (Lib.itoa c :: ws) false).num.2.call.1), (Rd.mk (Lib.itoa c :: ws) false).num.2.call.2) = _
    rw [nn hc, Rd.call_of hx]
  | move k up c n hk hc hn =>
    rcases hk with rfl | rfl | rfl
    all_goals
      show (StepM.mk _ ((Rd.mk [wayW up, Lib.itoa c, Lib.itoa n] false).way.2.num.1) ((Rd.mk [wayW up, Lib.itoa c, Lib.itoa n] false).way.1) ((Rd.mk [wayW up, Lib.itoa c, Lib.itoa n] false).way.2.num.2.num.1) [] _, (Rd.mk [wayW up, Lib.itoa c, Lib.itoa n] false).way.2.num.2.num.2) = _
      rw [ww, nn hc, nn hn]
      rfl
  | tick k c hk hc =>
    rcases hk with rfl | rfl
    all_goals
      show (StepM.mk _ ((Rd.mk [Lib.itoa c] false).num.1) false 0 [] _, (Rd.mk [Lib.itoa c] false).num.2) = _
      rw [nn hc]
      rfl
  | crash c n hc hn =>
    show (StepM.mk 6 ((Rd.mk [Lib.itoa c, Lib.itoa n] false).num.1) false ((Rd.mk [Lib.itoa c, Lib.itoa n] false).num.2.num.1) [] _, (Rd.mk [Lib.itoa c, Lib.itoa n] false).num.2.num.2) = _
    rw [nn hc, nn hn]
  | start c n fs hc hn hf =>
    show (StepM.mk 7 ((Rd.mk (Lib.itoa c :: Lib.itoa n :: fs.map Lib.itoa) false).num.1) false ((Rd.mk (Lib.itoa c :: Lib.itoa n :: fs.map Lib.itoa) false).num.2.num.1) ((numsR (Rd.mk (Lib.itoa c :: Lib.itoa n :: fs.map Lib.itoa) false).num.2.num.2.ws (Rd.mk (Lib.itoa c :: Lib.itoa n :: fs.map Lib.itoa) false).num.2.num.2.bad).1) _, Rd.mk [] (numsR (Rd.mk (Lib.itoa c :: Lib.itoa n :: fs.map Lib.itoa) false).num.2.num.2.ws (Rd.mk (Lib.itoa c :: Lib.itoa n :: fs.map Lib.itoa) false).num.2.num.2.bad).2) = _
    rw [nn hc, nn hn]
    simp only [nums_ok fs hf]
  | bare k hk =>
    rcases hk with rfl | rfl <;> rfl
theorem Rd.word_some {r : Rd} (h : r.word.2.bad = false) : r.ws = r.word.1 :: r.word.2.ws ∧ r.bad = false := by
  obtain ⟨ws, b⟩ := r
  cases ws with
  | nil => simp [Rd.word] at h
  | cons w t => exact ⟨rfl, h⟩
theorem Rd.call_some {r : Rd} (h : r.call.2.bad = false) (h2 : r.call.2.ws = []) : CallW r.call.1 r.ws ∧ r.bad = false := by
  obtain ⟨k, hk⟩ : ∃ k, kindOf callNames r.word.1 = k := ⟨_, rfl⟩
  have hle : k ≤ 9 := by rw [← hk]; exact kindOf_le callNames _
  obtain ⟨r1, hr1⟩ : ∃ r1 : Rd, Rd.mk r.word.2.ws (r.word.2.bad || decide (k = 0)) = r1 := ⟨_, rfl⟩
  have key : r1.bad = false → k ≠ 0 ∧ r.ws = nameOf callNames k :: r1.ws ∧ r.bad = false := fun hb => by
    rw [← hr1] at hb ⊢
    rw [Bool.or_eq_false_iff] at hb
    have hk0 : k ≠ 0 := by simpa using hb.2
    obtain ⟨e1, e2⟩ := Rd.word_some hb.1
    rw [← kindOf_name hk hk0]
    exact ⟨hk0, e1, e2⟩
  unfold Rd.call at h h2 ⊢
  simp only [hk, hr1] at h h2 ⊢
  by_cases k3 : k = 3
  · subst k3
    simp only [if_true] at h h2 ⊢
    obtain ⟨d, e1, b1, e2⟩ := Rd.text_some h
    obtain ⟨p, e3, b2, i3, e4⟩ := Rd.num_some b1
    obtain ⟨_, e5, b3⟩ := key b2
    rw [e5, e3, e1, h2, e2, e4]
    exact ⟨.insert p d i3, b3⟩
  rw [if_neg k3] at h h2 ⊢
  by_cases k4 : k = 4
  · subst k4
    simp only [if_true] at h h2 ⊢
    obtain ⟨d, e1, b1, e2⟩ := Rd.text_some h
    obtain ⟨q, e6, b4, i6, e7⟩ := Rd.num_some b1
    obtain ⟨p, e3, b2, i3, e4⟩ := Rd.num_some b4
    obtain ⟨_, e5, b3⟩ := key b2
    rw [e5, e3, e6, e1, h2, e2, e4, e7]
    exact ⟨.update p q d i3 i6, b3⟩
  rw [if_neg k4] at h h2 ⊢
  by_cases k25 : k = 2 ∨ k = 5
  · rw [if_pos k25] at h h2 ⊢
    obtain ⟨q, e6, b4, i6, e7⟩ := Rd.num_some h
    obtain ⟨p, e3, b2, i3, e4⟩ := Rd.num_some b4
    obtain ⟨_, e5, b3⟩ := key b2
    simp only at h2 ⊢
    rw [e5, e3, e6, h2, e4, e7]
    exact ⟨.paged k p q k25 i3 i6, b3⟩
  rw [if_neg k25] at h h2 ⊢
  by_cases k7 : k = 7
  · subst k7
    simp only [if_true] at h h2 ⊢
    obtain ⟨p, e3, b2, i3, e4⟩ := Rd.num_some h
    obtain ⟨_, e5, b3⟩ := key b2
    rw [e5, e3, h2, e4]
    exact ⟨.back p i3, b3⟩
  rw [if_neg k7] at h h2 ⊢
  obtain ⟨k0, e5, b3⟩ := key h
  simp only at h2 ⊢
  rw [e5, h2]
  exact ⟨.alone k (by omega), b3⟩
theorem parse_some {ws : List Bs} (h : (parseP ws).2.bad = false) (h2 : (parseP ws).2.ws = []) : StepW (parseP ws).1 ws := by
  obtain ⟨r, hr⟩ : ∃ r : Rd, (Rd.mk ws false).word.2 = r := ⟨_, rfl⟩
  obtain ⟨k, hk⟩ : ∃ k, kindOf stepNames (Rd.mk ws false).word.1 = k := ⟨_, rfl⟩
  have hle : k ≤ 10 := by rw [← hk]; exact kindOf_le stepNames _
  have key : r.bad = false → k ≠ 0 → ws = nameOf stepNames k :: r.ws := fun hb hk0 => by
    rw [← hr] at hb ⊢
    rw [← kindOf_name hk hk0]
    exact (Rd.word_some hb).1
  unfold parseP at h h2 ⊢
  simp only [hk, hr] at h h2 ⊢
  by_cases k1 : k = 1
  · subst k1
    simp only [if_true] at h h2 ⊢
    obtain ⟨c1, b1⟩ := Rd.call_some h h2
    obtain ⟨c, e3, b2, i3, e4⟩ := Rd.num_some b1
    have e5 := key b2 (by omega)
    rw [e5, e3, e4]
    exact .call c _ _ i3 c1
  rw [if_neg k1] at h h2 ⊢
  by_cases k234 : k = 2 ∨ k = 3 ∨ k = 4
  · rw [if_pos k234] at h h2 ⊢
    obtain ⟨n, e6, b4, i6, e7⟩ := Rd.num_some h
    obtain ⟨c, e3, b2, i3, e4⟩ := Rd.num_some b4
    obtain ⟨e8, b5⟩ := Rd.way_some b2
    have e5 := key b5 (by omega)
    simp only at h2 ⊢
    rw [e4, e7]
    have e : ws = [nameOf stepNames k, wayW r.way.1, Lib.itoa c, Lib.itoa n] := by rw [e5, e8, e3, e6, h2]
    rw [e]
    exact .move k _ c n k234 i3 i6
  rw [if_neg k234] at h h2 ⊢
  by_cases k58 : k = 5 ∨ k = 8
  · rw [if_pos k58] at h h2 ⊢
    obtain ⟨c, e3, b2, i3, e4⟩ := Rd.num_some h
    have e5 := key b2 (by omega)
    simp only at h2 ⊢
    rw [e5, e3, h2, e4]
    exact .tick k c k58 i3
  rw [if_neg k58] at h h2 ⊢
  by_cases k6 : k = 6
  · subst k6
    simp only [if_true] at h h2 ⊢
    obtain ⟨n, e6, b4, i6, e7⟩ := Rd.num_some h
    obtain ⟨c, e3, b2, i3, e4⟩ := Rd.num_some b4
    have e5 := key b2 (by omega)
    rw [e5, e3, e6, h2, e4, e7]
    exact .crash c n i3 i6
  rw [if_neg k6] at h h2 ⊢
  by_cases k7 : k = 7
  · subst k7
    simp only [if_true] at h h2 ⊢
    obtain ⟨b1, fs, i1, e1, e2⟩ := nums_some h
    obtain ⟨n, e6, b4, i6, e7⟩ := Rd.num_some b1
    obtain ⟨c, e3, b2, i3, e4⟩ := Rd.num_some b4
    have e5 := key b2 (by omega)
    rw [e2, e4, e7]
    have e : ws = nameOf stepNames 7 :: Lib.itoa c :: Lib.itoa n :: fs.map Lib.itoa := by rw [e5, e3, e6, e1]
    rw [e]
    exact .start c n fs i3 i6 i1
  rw [if_neg k7] at h h2 ⊢
  simp only [Bool.or_eq_false_iff, decide_eq_false_iff_not] at h
  have e5 := key h.1 h.2
  simp only at h2 ⊢
  rw [e5, h2]
  exact .bare k (by omega)
/-- A step's words are its only ones, and no other's. -/
theorem StepW.words {s : StepM} {ws : List Bs} (h : StepW s ws) : ∀ {t}, StepW t ws → t = s := fun h2 => by
  have e1 := parse_of h
  rw [parse_of h2] at e1
  cases e1
  rfl
theorem CallW.only {x : CallM} {a b : List Bs} (h : CallW x a) (h2 : CallW x b) : a = b := by
  cases h with
  | alone k hk =>
    generalize e : (⟨(k : Int), 0, 0, []⟩ : CallM) = y at h2
    cases h2 with
    | alone k' _ => injection e with e1; rw [Int.natCast_inj.1 e1]
    | paged k' p s hk' => injection e with e1; omega
    | insert p d => injection e with e1; omega
    | update p s d => injection e with e1; omega
    | back s => injection e with e1; omega
  | paged k p s hk =>
    generalize e : (⟨(k : Int), p, s, []⟩ : CallM) = y at h2
    cases h2 with
    | alone k' _ => injection e with e1; omega
    | paged k' p s hk' => injection e with e1 e2 e3; rw [Int.natCast_inj.1 e1, e2, e3]
    | insert p d => injection e with e1; omega
    | update p s d => injection e with e1; omega
    | back s => injection e with e1; omega
  | insert p d =>
    generalize e : (⟨3, p, 0, d⟩ : CallM) = y at h2
    cases h2 with
    | alone k' _ => injection e with e1; omega
    | paged k' p s hk' => injection e with e1; omega
    | insert p d => injection e with e1 e2 e3 e4; rw [e2, e4]
    | update p s d => injection e with e1; omega
    | back s => injection e with e1; omega
  | update p s d =>
    generalize e : (⟨4, p, s, d⟩ : CallM) = y at h2
    cases h2 with
    | alone k' _ => injection e with e1; omega
    | paged k' p s hk' => injection e with e1; omega
    | insert p d => injection e with e1; omega
    | update p s d => injection e with e1 e2 e3 e4; rw [e2, e3, e4]
    | back s => injection e with e1; omega
  | back s =>
    generalize e : (⟨7, 0, s, []⟩ : CallM) = y at h2
    cases h2 with
    | alone k' _ => injection e with e1; omega
    | paged k' p s hk' => injection e with e1; omega
    | insert p d => injection e with e1; omega
    | update p s d => injection e with e1; omega
    | back s => injection e with e1 e2 e3; rw [e3]
end Go.Proofs.YtieaamlpadlfeaaGreatDoor
