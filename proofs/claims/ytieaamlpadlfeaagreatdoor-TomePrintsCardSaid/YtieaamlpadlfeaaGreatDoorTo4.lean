/- The document's reading of numbers, calls and steps: in plain data. Conditions: none. -/
import Derived.Test.YtieaamlpadlfeaaGreatDoorTo3
namespace Go.Proofs.YtieaamlpadlfeaaGreatDoor
open Go

/-- What digits come to. -/
def valD (l : Bs) : Nat := l.foldl (fun a c => 10 * a + (c.toNat - 48)) 0
def digD (c : UInt8) : Prop := 48 ≤ c.toNat ∧ c.toNat ≤ 57
instance (c : UInt8) : Decidable (digD c) := by unfold digD; exact inferInstance
theorem valD_snoc (l : Bs) (c : UInt8) : valD (l ++ [c]) = 10 * valD l + (c.toNat - 48) := by simp [valD]
theorem valD_lt : ∀ (k : Nat) (l : Bs), l.length = k → (∀ c ∈ l, digD c) → valD l < 10 ^ k := by
  intro k
  induction k with
  | zero => intro l hl _; rw [List.length_eq_zero_iff.1 hl]; decide
  | succ k ih =>
    intro l hl h
    rw [← List.dropLast_concat_getLast (l := l) (by intro e; rw [e] at hl; cases hl)]
    rw [valD_snoc]
    have h1 := ih l.dropLast (by simp; omega) (fun c hc => h c (List.dropLast_subset l hc))
    have h2 := h (l.getLast (by intro e; rw [e] at hl; cases hl)) (List.getLast_mem _)
    unfold digD at h2
    rw [Nat.pow_succ]
    omega
theorem valD_dec : ∀ (k u : Nat), u < k → valD (Lib.decDigits u) = u := by
  intro k
  induction k with
  | zero => intro u h; omega
  | succ k ih =>
    intro u hk
    rw [Lib.decDigits]
    have hd : ∀ d : Nat, d < 10 → (UInt8.ofNat (48 + d)).toNat = 48 + d := fun d hd => by
      rw [UInt8.toNat_ofNat']
      omega
    by_cases h : u < 10
    · rw [dif_pos h]
      show 10 * 0 + ((UInt8.ofNat (48 + u)).toNat - 48) = u
      rw [hd u h]
      omega
    · rw [dif_neg h, valD_snoc, ih (u / 10) (by omega), hd _ (by omega)]
      omega
theorem dec_val (u : Nat) : valD (Lib.decDigits u) = u := valD_dec (u + 1) u (by omega)
theorem dec_len : ∀ (k u : Nat), u < 10 ^ (k + 1) → (Lib.decDigits u).length ≤ k + 1 := by
  intro k
  induction k with
  | zero =>
    intro u h
    rw [Lib.decDigits, dif_pos (by omega)]
    simp
  | succ k ih =>
    intro u h
    rw [Lib.decDigits]
    by_cases h9 : u < 10
    · rw [dif_pos h9]; simp
    · rw [dif_neg h9, List.length_append]
      have := ih (u / 10) (by rw [Nat.pow_succ] at h; omega)
      simp only [List.length_cons, List.length_nil]
      omega
theorem dec_pos (u : Nat) : 1 ≤ (Lib.decDigits u).length := by
  obtain ⟨d, r, e, _⟩ := dec_head u
  rw [e]; simp
/-- The digits behind the sign. -/
def magR (w : Bs) : Bs := if 1 < w.length ∧ w.head? = some 45 then w.tail else w
def negR (w : Bs) : Bool := decide (1 < w.length ∧ w.head? = some 45)
/-- The number that the document reads out of a word, before it is written again. -/
def readR (w : Bs) : Option Int :=
  if (magR w).length < 1 ∨ 19 < (magR w).length then none
  else if ∀ c ∈ magR w, digD c then
    if (negR w = true ∧ 9223372036854775808 < valD (magR w)) ∨ (negR w = false ∧ 9223372036854775808 ≤ valD (magR w)) then none
    else some (if negR w then -(valD (magR w) : Int) else (valD (magR w) : Int))
  else none
theorem readR_itoa {n : Int} (h : I64 n) : readR (Lib.itoa n) = some n := by
  obtain ⟨h0, h1⟩ := h
  have hlen : ∀ u : Nat, u ≤ 9223372036854775808 → 1 ≤ (Lib.decDigits u).length ∧ (Lib.decDigits u).length ≤ 19 := fun u hu => ⟨dec_pos u, dec_len 18 u (by omega)⟩
  have hdig : ∀ u : Nat, ∀ c ∈ Lib.decDigits u, digD c := fun u c hc => dec_bds u c hc
  unfold Lib.itoa
  by_cases hn : n < 0
  · rw [if_pos hn]
    have hl := hlen n.natAbs (by omega)
    have e1 : magR (45 :: Lib.decDigits n.natAbs) = Lib.decDigits n.natAbs := by
      unfold magR
      rw [if_pos ⟨by simp only [List.length_cons]; omega, rfl⟩]
      rfl
    have e2 : negR (45 :: Lib.decDigits n.natAbs) = true := by
      unfold negR
      exact decide_eq_true ⟨by simp only [List.length_cons]; omega, rfl⟩
    unfold readR
    rw [e1, e2, dec_val, if_neg (by omega), if_pos (hdig _), if_neg (by simp; omega)]
    simp only [if_true]
    congr 1
    omega
  · rw [if_neg hn]
    have hl := hlen n.toNat (by omega)
    obtain ⟨d, r, e, hd⟩ := dec_head n.toNat
    have hno : ¬ (1 < (Lib.decDigits n.toNat).length ∧ (Lib.decDigits n.toNat).head? = some 45) := by
      rw [e]
      rintro ⟨_, h2⟩
      simp only [List.head?_cons, Option.some.injEq] at h2
      have := congrArg UInt8.toNat h2
      rw [UInt8.toNat_ofNat'] at this
      have e45 : (45 : UInt8).toNat = 45 := rfl
      omega
    have e1 : magR (Lib.decDigits n.toNat) = Lib.decDigits n.toNat := by
      unfold magR
      rw [if_neg hno]
    have e2 : negR (Lib.decDigits n.toNat) = false := by
      unfold negR
      exact decide_eq_false hno
    unfold readR
    rw [e1, e2, dec_val, if_neg (by omega), if_pos (hdig _), if_neg (by simp; omega)]
    simp only [Bool.false_eq_true, if_false]
    congr 1
    omega
theorem readR_bds {w : Bs} {n : Int} (h : readR w = some n) : I64 n := by
  unfold readR at h
  split at h
  · cases h
  split at h
  · split at h
    · cases h
    · rename_i h3
      cases h
      unfold I64
      cases hn : negR w with
      | true => simp [hn] at h3 ⊢; omega
      | false => simp [hn] at h3 ⊢; omega
  · cases h
/-- Read and written again. -/
theorem readR_num (w : Bs) : numS w = (readR w).bind fun n => if Lib.itoa n = w then some n else none := by
  cases hr : readR w with
  | none =>
    cases hn : numS w with
    | none => rfl
    | some n =>
      obtain ⟨e, h⟩ := numS_iff.1 hn
      rw [← e, readR_itoa h] at hr
      cases hr
  | some m =>
    simp only [Option.bind_some]
    by_cases e : Lib.itoa m = w
    · rw [if_pos e]
      exact numS_iff.2 ⟨e, readR_bds hr⟩
    · rw [if_neg e]
      cases hn : numS w with
      | none => rfl
      | some n =>
        obtain ⟨e2, h⟩ := numS_iff.1 hn
        rw [← e2, readR_itoa h] at hr
        cases hr
        exact absurd e2 e

/-- What stands behind a call's word. -/
def formR (k : Nat) : Bs := ([[], [], [112, 115], [112, 100], [112, 115, 100], [112, 115], [], [115], [], []] : List Bs).getD k []
noncomputable def fillR : Bs → List Bs → CallM → Option CallM
  | [], _, x => some x
  | _ :: _, [], _ => none
  | c :: f, w :: t, x =>
    if c = 100 then (textS w).bind fun s => fillR f t { x with data := s }
    else (numS w).bind fun n => if c = 112 then fillR f t { x with page := n } else fillR f t { x with slot := n }
noncomputable def callR (l : List Bs) : Option CallM := match l with
  | [] => none
  | w :: t => if kindOf callNames w = 0 ∨ t.length ≠ (formR (kindOf callNames w)).length then none else fillR (formR (kindOf callNames w)) t ⟨kindOf callNames w, 0, 0, []⟩
/-- Words as numbers, if all are. -/
def numsS : List Bs → Option (List Int)
  | [] => some []
  | w :: t => (numS w).bind fun n => (numsS t).map (n :: ·)
theorem numsS_iff : ∀ {l : List Bs} {ns : List Int}, numsS l = some ns ↔ l = ns.map Lib.itoa ∧ ∀ n ∈ ns, I64 n := by
  intro l
  induction l with
  | nil =>
    intro ns
    simp only [numsS, Option.some.injEq]
    constructor
    · rintro rfl; exact ⟨rfl, by simp⟩
    · rintro ⟨h, _⟩
      cases ns with
      | nil => rfl
      | cons a b => simp at h
  | cons w t ih =>
    intro ns
    simp only [numsS]
    constructor
    · intro h
      cases hn : numS w with
      | none => rw [hn] at h; cases h
      | some n =>
        rw [hn] at h
        simp only [Option.bind_some] at h
        cases ht : numsS t with
        | none => rw [ht] at h; cases h
        | some m =>
          rw [ht] at h
          cases h
          obtain ⟨e1, e2⟩ := ih.1 ht
          obtain ⟨e3, e4⟩ := numS_iff.1 hn
          refine ⟨by rw [List.map_cons, e3, ← e1], fun x hx => ?_⟩
          rcases List.mem_cons.1 hx with rfl | hx
          · exact e4
          · exact e2 x hx
    · rintro ⟨h, hb⟩
      cases ns with
      | nil => simp at h
      | cons n m =>
        rw [List.map_cons] at h
        injection h with h1 h2
        rw [numS_iff.2 ⟨h1.symm, hb n (.head _)⟩, Option.bind_some, ih.2 ⟨h2, fun x hx => hb x (.tail _ hx)⟩]
        rfl
def wantR (k : Nat) : Nat := ([0, 0, 2, 2, 2, 1, 2, 2, 1, 0, 0] : List Nat).getD k 0
def tailR (k : Nat) (up : Bool) (l : List Bs) : Option StepM :=
  (numsS l).bind fun ns => if ns.length < wantR k ∨ (wantR k < ns.length ∧ k ≠ 7) then none
    else some ⟨k, if 0 < wantR k then ns.getD 0 0 else 0, up, if 1 < wantR k then ns.getD 1 0 else 0, if k = 7 then ns.drop 2 else [], CallM.zero⟩
noncomputable def parseR (ws : List Bs) : Option StepM := match ws with
  | [] => none
  | w :: l =>
    let k := kindOf stepNames w
    if k = 0 then none
    else if 1 < k ∧ k < 5 then match l with
      | [] => none
      | u :: t => if u = upW ∨ u = downW then tailR k (decide (u = upW)) t else none
    else if k = 1 then match l with
      | [] => none
      | c :: t => (numS c).bind fun n => (callR t).map fun x => ⟨1, n, false, 0, [], x⟩
    else tailR k false l
theorem fill_nil (t : List Bs) (x : CallM) : fillR [] t x = some x := by cases t <;> rfl
theorem fill_p (f : Bs) (w : Bs) (t : List Bs) (x : CallM) : fillR (112 :: f) (w :: t) x = (numS w).bind fun n => fillR f t { x with page := n } := rfl
theorem fill_s (f : Bs) (w : Bs) (t : List Bs) (x : CallM) : fillR (115 :: f) (w :: t) x = (numS w).bind fun n => fillR f t { x with slot := n } := rfl
theorem fill_d (f : Bs) (w : Bs) (t : List Bs) (x : CallM) : fillR (100 :: f) (w :: t) x = (textS w).bind fun s => fillR f t { x with data := s } := rfl
theorem bind_num {w : Bs} {α : Type} {g : Int → Option α} {y : α} (h : (numS w).bind g = some y) : ∃ n, Lib.itoa n = w ∧ I64 n ∧ g n = some y := by
  cases hn : numS w with
  | none => rw [hn] at h; cases h
  | some n =>
    rw [hn] at h
    exact ⟨n, (numS_iff.1 hn).1, (numS_iff.1 hn).2, h⟩
theorem bind_text {w : Bs} {α : Type} {g : Bs → Option α} {y : α} (h : (textS w).bind g = some y) : ∃ s, wordL s = w ∧ g s = some y := by
  cases hn : textS w with
  | none => rw [hn] at h; cases h
  | some n =>
    rw [hn] at h
    exact ⟨n, textS_iff.1 hn, h⟩
theorem callR_iff {l : List Bs} {x : CallM} : callR l = some x ↔ CallW x l := by
  constructor
  · intro h
    cases l with
    | nil => cases h
    | cons w t =>
      unfold callR at h
      simp only at h
      obtain ⟨k, hk⟩ : ∃ k, kindOf callNames w = k := ⟨_, rfl⟩
      rw [hk] at h
      by_cases hne : k = 0 ∨ t.length ≠ (formR k).length
      · rw [if_pos hne] at h; cases h
      rw [if_neg hne] at h
      have hk0 : k ≠ 0 := fun e => hne (.inl e)
      have hl : t.length = (formR k).length := Decidable.byContradiction fun e => hne (.inr e)
      have hw := kindOf_name hk hk0
      have hle : k ≤ 9 := by rw [← hk]; exact kindOf_le callNames _
      have hall : k = 1 ∨ k = 2 ∨ k = 3 ∨ k = 4 ∨ k = 5 ∨ k = 6 ∨ k = 7 ∨ k = 8 ∨ k = 9 := by omega
      have t0 : t.length = 0 → t = [] := List.length_eq_zero_iff.1
      have t1 : t.length = 1 → ∃ a, t = [a] := List.length_eq_one_iff.1
      have t2 : t.length = 2 → ∃ a b, t = [a, b] := fun h => by
        match t, h with
        | [a, b], _ => exact ⟨a, b, rfl⟩
      have t3 : t.length = 3 → ∃ a b c, t = [a, b, c] := fun h => by
        match t, h with
        | [a, b, c], _ => exact ⟨a, b, c, rfl⟩
      clear hk hne hk0 hle
      subst hw
      rcases hall with rfl | rfl | rfl | rfl | rfl | rfl | rfl | rfl | rfl
      · obtain rfl := t0 hl
        cases h
        exact .alone 1 (by omega)
      · obtain ⟨a, b, rfl⟩ := t2 hl
        obtain ⟨p, rfl, hp, h⟩ := bind_num h
        obtain ⟨q, rfl, hq, h⟩ := bind_num h
        cases h
        exact .paged 2 p q (by omega) hp hq
      · obtain ⟨a, b, rfl⟩ := t2 hl
        obtain ⟨p, rfl, hp, h⟩ := bind_num h
        obtain ⟨q, e9, h9⟩ := bind_text (g := fun d => some (CallM.mk 3 p 0 d)) h
        subst e9
        cases h9
        exact .insert p q hp
      · obtain ⟨a, b, c, rfl⟩ := t3 hl
        obtain ⟨p, rfl, hp, h⟩ := bind_num h
        obtain ⟨q, rfl, hq, h⟩ := bind_num h
        obtain ⟨d, e9, h9⟩ := bind_text (g := fun d => some (CallM.mk 4 p q d)) h
        subst e9
        cases h9
        exact .update p q d hp hq
      · obtain ⟨a, b, rfl⟩ := t2 hl
        obtain ⟨p, rfl, hp, h⟩ := bind_num h
        obtain ⟨q, rfl, hq, h⟩ := bind_num h
        cases h
        exact .paged 5 p q (by omega) hp hq
      · obtain rfl := t0 hl
        cases h
        exact .alone 6 (by omega)
      · obtain ⟨a, rfl⟩ := t1 hl
        obtain ⟨p, rfl, hp, h⟩ := bind_num h
        cases h
        exact .back p hp
      · obtain rfl := t0 hl
        cases h
        exact .alone 8 (by omega)
      · obtain rfl := t0 hl
        cases h
        exact .alone 9 (by omega)
  · intro h
    have nn : ∀ {n : Int}, I64 n → numS (Lib.itoa n) = some n := fun h => numS_iff.2 ⟨rfl, h⟩
    have tt : ∀ {s : Bs}, textS (wordL s) = some s := textS_iff.2 rfl
    cases h with
    | alone k hk => rcases hk with rfl | rfl | rfl | rfl <;> rfl
    | paged k p s hk hp hs =>
      rcases hk with rfl | rfl
      all_goals
        show ((numS (Lib.itoa p)).bind fun n => (numS (Lib.itoa s)).bind fun m => _) = _
        rw [nn hp, nn hs]
        rfl
    | insert p d hp =>
      show ((numS (Lib.itoa p)).bind fun n => (textS (wordL d)).bind fun m => _) = _
      rw [nn hp, tt]
      rfl
    | update p s d hp hs =>
      show ((numS (Lib.itoa p)).bind fun n => (numS (Lib.itoa s)).bind fun m => (textS (wordL d)).bind fun z => _) = _
      rw [nn hp, nn hs, tt]
      rfl
    | back s hs =>
      show ((numS (Lib.itoa s)).bind fun m => _) = _
      rw [nn hs]
      rfl
theorem tailR_iff {k : Nat} {up : Bool} {l : List Bs} {s : StepM} : tailR k up l = some s ↔ ∃ ns : List Int, l = ns.map Lib.itoa ∧ (∀ n ∈ ns, I64 n) ∧ (¬ (ns.length < wantR k ∨ (wantR k < ns.length ∧ k ≠ 7))) ∧ s = ⟨k, if 0 < wantR k then ns.getD 0 0 else 0, up, if 1 < wantR k then ns.getD 1 0 else 0, if k = 7 then ns.drop 2 else [], CallM.zero⟩ := by
  unfold tailR
  constructor
  · intro h
    cases hn : numsS l with
    | none => rw [hn] at h; cases h
    | some ns =>
      rw [hn, Option.bind_some] at h
      by_cases hc : ns.length < wantR k ∨ (wantR k < ns.length ∧ k ≠ 7)
      · rw [if_pos hc] at h; cases h
      · rw [if_neg hc] at h
        cases h
        exact ⟨ns, (numsS_iff.1 hn).1, (numsS_iff.1 hn).2, hc, rfl⟩
  · rintro ⟨ns, h1, h2, h3, rfl⟩
    rw [numsS_iff.2 ⟨h1, h2⟩, Option.bind_some, if_neg h3]
theorem mem1 {c : Int} (h : I64 c) : ∀ n ∈ [c], I64 n := fun n hn => by
  rw [List.mem_singleton.1 hn]; exact h
theorem mem2 {c d : Int} (h : I64 c) (h2 : I64 d) : ∀ n ∈ [c, d], I64 n := fun n hn => by
  rcases List.mem_cons.1 hn with rfl | hn
  · exact h
  · exact mem1 h2 n hn
theorem parseR_iff {ws : List Bs} {s : StepM} : parseR ws = some s ↔ StepW s ws := by
  constructor
  · intro h
    cases ws with
    | nil => cases h
    | cons w l =>
      unfold parseR at h
      simp only at h
      obtain ⟨k, hk⟩ : ∃ k, kindOf stepNames w = k := ⟨_, rfl⟩
      rw [hk] at h
      by_cases hk0 : k = 0
      · rw [if_pos hk0] at h; cases h
      rw [if_neg hk0] at h
      have hw := kindOf_name hk hk0
      have hle : k ≤ 10 := by rw [← hk]; exact kindOf_le stepNames _
      clear hk
      subst hw
      by_cases k5 : 1 < k ∧ k < 5
      · rw [if_pos k5] at h
        cases l with
        | nil => cases h
        | cons u t =>
          simp only at h
          by_cases hu : u = upW ∨ u = downW
          · rw [if_pos hu] at h
            have hwy : u = wayW (decide (u = upW)) := by
              by_cases e : u = upW
              · simp [e]
              · simp [hu.resolve_left e]
            obtain ⟨ns, h1, h2, h3, rfl⟩ := tailR_iff.1 h
            have hk : k = 2 ∨ k = 3 ∨ k = 4 := by omega
            have hwk : wantR k = 2 := by rcases hk with rfl | rfl | rfl <;> rfl
            rw [hwk] at h3 ⊢
            have hl : ns.length = 2 := by omega
            match ns, hl with
            | [c, n], _ =>
              rw [h1]
              conv => rhs; rw [hwy]
              rw [if_pos (by omega), if_pos (by omega), if_neg (by omega)]
              exact .move k _ c n hk (h2 c (.head _)) (h2 n (.tail _ (.head _)))
          · rw [if_neg hu] at h; cases h
      rw [if_neg k5] at h
      by_cases k1 : k = 1
      · subst k1
        rw [if_pos rfl] at h
        cases l with
        | nil => cases h
        | cons c t =>
          simp only at h
          obtain ⟨n, rfl, hn, h⟩ := bind_num h
          cases hx : callR t with
          | none => rw [hx] at h; cases h
          | some x =>
            rw [hx] at h
            cases h
            exact .call n x t hn (callR_iff.1 hx)
      rw [if_neg k1] at h
      obtain ⟨ns, h1, h2, h3, rfl⟩ := tailR_iff.1 h
      have hall : k = 5 ∨ k = 6 ∨ k = 7 ∨ k = 8 ∨ k = 9 ∨ k = 10 := by omega
      subst h1
      rcases hall with rfl | rfl | rfl | rfl | rfl | rfl
      · have hl : ns.length = 1 := by
          have h9 : ¬ (ns.length < 1 ∨ (1 < ns.length ∧ (5 : Nat) ≠ 7)) := h3
          omega
        match ns, hl with
        | [c], _ => exact .tick 5 c (.inl rfl) (h2 c (.head _))
      · have hl : ns.length = 2 := by
          have h9 : ¬ (ns.length < 2 ∨ (2 < ns.length ∧ (6 : Nat) ≠ 7)) := h3
          omega
        match ns, hl with
        | [c, n], _ => exact .crash c n (h2 c (.head _)) (h2 n (.tail _ (.head _)))
      · have hl : 2 ≤ ns.length := by
          have h9 : ¬ (ns.length < 2 ∨ (2 < ns.length ∧ (7 : Nat) ≠ 7)) := h3
          omega
        match ns, hl with
        | c :: n :: fs, _ => exact .start c n fs (h2 c (.head _)) (h2 n (.tail _ (.head _))) (fun f hf => h2 f (.tail _ (.tail _ hf)))
      · have hl : ns.length = 1 := by
          have h9 : ¬ (ns.length < 1 ∨ (1 < ns.length ∧ (8 : Nat) ≠ 7)) := h3
          omega
        match ns, hl with
        | [c], _ => exact .tick 8 c (.inr rfl) (h2 c (.head _))
      · have hl : ns.length = 0 := by
          have h9 : ¬ (ns.length < 0 ∨ (0 < ns.length ∧ (9 : Nat) ≠ 7)) := h3
          omega
        match ns, hl with
        | [], _ => exact .bare 9 (.inl rfl)
      · have hl : ns.length = 0 := by
          have h9 : ¬ (ns.length < 0 ∨ (0 < ns.length ∧ (10 : Nat) ≠ 7)) := h3
          omega
        match ns, hl with
        | [], _ => exact .bare 10 (.inr rfl)
  · intro h
    cases h with
    | call c x ws hc hx =>
      show ((numS (Lib.itoa c)).bind fun n => (callR ws).map fun x => _) = _
      rw [numS_iff.2 ⟨rfl, hc⟩, callR_iff.2 hx]
      rfl
    | move k up c n hk hc hn =>
      have e : tailR k up [Lib.itoa c, Lib.itoa n] = some ⟨k, c, up, n, [], CallM.zero⟩ := tailR_iff.2 ⟨[c, n], rfl, mem2 hc hn, by rcases hk with rfl | rfl | rfl <;> simp [wantR], by rcases hk with rfl | rfl | rfl <;> rfl⟩
      rw [← e]
      rcases hk with rfl | rfl | rfl <;> cases up <;> rfl
    | tick k c hk hc =>
      have e : tailR k false [Lib.itoa c] = some ⟨k, c, false, 0, [], CallM.zero⟩ := tailR_iff.2 ⟨[c], rfl, mem1 hc, by rcases hk with rfl | rfl <;> simp [wantR], by rcases hk with rfl | rfl <;> rfl⟩
      rw [← e]
      rcases hk with rfl | rfl <;> rfl
    | crash c n hc hn =>
      exact (tailR_iff (k := 6)).2 ⟨[c, n], rfl, mem2 hc hn, by simp [wantR], rfl⟩
    | start c n fs hc hn hf =>
      refine (tailR_iff (k := 7)).2 ⟨c :: n :: fs, rfl, fun x hx => ?_, by simp [wantR], rfl⟩
      rcases List.mem_cons.1 hx with rfl | hx
      · exact hc
      rcases List.mem_cons.1 hx with rfl | hx
      · exact hn
      · exact hf x hx
    | bare k hk =>
      have e : tailR k false [] = some ⟨k, 0, false, 0, [], CallM.zero⟩ := tailR_iff.2 ⟨[], rfl, by simp, by rcases hk with rfl | rfl <;> decide, by rcases hk with rfl | rfl <;> rfl⟩
      rw [← e]
      rcases hk with rfl | rfl <;> rfl
end Go.Proofs.YtieaamlpadlfeaaGreatDoor
