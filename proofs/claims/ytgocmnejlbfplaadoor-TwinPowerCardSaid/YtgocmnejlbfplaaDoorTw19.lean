/- A fresh store, a store that is written: in plain data. Conditions: none. -/
import Derived.Test.YtgocmnejlbfplaaDoorTw18
namespace Go.Proofs.YtgocmnejlbfplaaDoor
open Go Go.MapKept Go.RowKit Go.Proofs

theorem readM_hold {M : PM} {n : Int} (hd : M.down = false) (h0 : 0 ≤ n) (hn : n < M.count) (hq : M.queue = []) : readM M n = match getL n M.secs with
    | none => (zeros256, 0)
    | some s => if s.size = 0 then (⟨#[]⟩, 20) else (s, 0) := by
  have hr : readyM M n = 0 := by
    unfold readyM
    rw [hd]
    have : ¬ (n < 0 ∨ M.count ≤ n) := by omega
    simp [this]
  unfold readM
  rw [hr, if_neg (by simp), hq]
  rfl
theorem readM_new {N n : Int} (h0 : 0 ≤ n) (hn : n < (newM N).count) : readM (newM N) n = (zeros256, 0) := readM_hold rfl h0 hn rfl
theorem pageM_zero (n : Nat) : pageM n zeros256 = none := by
  cases h : pageM n zeros256 with
  | none => rfl
  | some p =>
    obtain ⟨h1, h2⟩ := pageB_some h
    exact absurd h2 (secB_ne_zeros h1)
theorem zeroB_zero : zeroB zeros256 = true := by
  unfold zeroB zeros256
  rw [List.all_eq_true]
  intro x hx
  have e := List.eq_of_mem_replicate hx
  rw [e]
  rfl
theorem loadP_new {N : Int} {S : TS} {n : Nat} (h0 : 0 ≤ S.frm + S.twins + (n : Int)) (h1 : S.frm + S.twins + (n : Int) < (newM N).count) : loadP S (newM N) n = (0, true, S.push emptyP, newM N) := by
  unfold loadP
  rw [readM_new h0 h1, if_pos rfl]
  simp only [pageM_zero, zeroB_zero]
theorem loads_new {N frm twins life : Int} {k : Nat} (h0 : 0 ≤ frm + twins) (h1 : frm + twins + (k : Int) ≤ (newM N).count) : ∀ n, n ≤ k → loads ⟨frm, twins, [], life, false⟩ (newM N) n = (0, true, ⟨frm, twins, List.replicate n emptyP, life, false⟩, newM N) := by
  intro n
  induction n with
  | zero => intro _; rfl
  | succ n ih =>
    intro hn
    have e := ih (by omega)
    show (if _ then _ else _ : Int × Bool × TS × PM) = _
    rw [e, if_neg (by simp)]
    simp only
    rw [loadP_new (by simp only; omega) (by simp only; omega), Bool.and_self]
    simp only [TS.push, List.replicate_succ']
/-- A fresh plate's store. -/
def newT (frm twins : Int) (k : Nat) : TS := ⟨frm, twins, List.replicate k emptyP, 0, false⟩
theorem openP_new {N frm twins : Int} {k : Nat} (h0 : 0 ≤ frm) (h1 : 1 ≤ twins) (h2 : twins ≤ 64) (h3 : 1 ≤ k) (h4 : k ≤ 1024) (h5 : frm + twins + (k : Int) ≤ (newM N).count) : openP (newM N) frm twins (k : Int) = (some (newT frm twins k), 0, newM N) := by
  unfold openP
  rw [if_neg (by omega), if_neg (by simp [newM]), Int.toNat_natCast, show (newM N).life = 0 from rfl, loads_new (by omega) h5 k (by omega), if_neg (by simp), if_neg (by simp), if_pos rfl, if_pos rfl, if_neg (by simp)]
  rfl
/-- A plate that no fate is near. -/
def Calm (M : PM) : Prop := M.down = false ∧ M.armed = 0 ∧ M.queue = []
theorem readyM_up {M : PM} {n : Int} (hd : M.down = false) (h0 : 0 ≤ n) (hn : n < M.count) : readyM M n = 0 := by
  unfold readyM
  rw [hd]
  have : ¬ (n < 0 ∨ M.count ≤ n) := by omega
  simp [this]
theorem layQ_calm : ∀ (ws : List (Int × ByteArray)) (M : PM), M.down = false → M.armed = 0 → (∀ x ∈ ws, 0 ≤ x.1 ∧ x.1 < M.count ∧ x.2.size = 256) → layQ M ws = (0, ⟨M.count, putAll M.secs (M.queue ++ ws), [], false, M.acts + (ws.length : Int) + 1, 0, M.life⟩)
  | [], M, hd, ha, _ => by
    show syncM M = _
    unfold syncM actM
    rw [hd, ha]
    simp [hd]
  | x :: t, M, hd, ha, hx => by
    obtain ⟨x0, x1, x2⟩ := hx x (.head _)
    have e : writeM M x.1 x.2 = (0, { pushM M x.1 x.2 with acts := M.acts + 1 }) := by
      unfold writeM
      rw [readyM_up hd x0 x1, if_neg (by simp), if_neg (by omega)]
      unfold actM
      rw [if_neg (by simp [pushM, ha])]
      rfl
    show (if _ then _ else _ : Int × PM) = _
    rw [e, if_neg (by simp)]
    simp only
    have e2 := layQ_calm t { pushM M x.1 x.2 with acts := M.acts + 1 } hd ha (fun y hy => hx y (.tail _ hy))
    rw [e2]
    simp only [pushM, List.append_assoc, List.cons_append, List.nil_append, List.length_cons]
    have e3 : M.acts + 1 + (t.length : Int) + 1 = M.acts + ((t.length + 1 : Nat) : Int) + 1 := by omega
    rw [e3]
theorem rdyT_calm {S : TS} {M : PM} (hd : M.down = false) (h1 : S.dead = false) (h2 : S.life = M.life) : rdyT S M = 0 := by
  unfold rdyT
  simp [hd, h1, h2]
/-- Two writings, as the plate keeps them. -/
def wrM (S : TS) (M : PM) (L : List Lf) : PM := ⟨M.count, putAll (putAll M.secs (M.queue ++ wsOf (fun i => S.frm + (i : Int)) L)) (wsOf (plH S L) L), [], false, M.acts + 2 * (L.length : Int) + 2, 0, M.life⟩
theorem wsOf_mem {pl : Nat → Int} {L : List Lf} {x : Int × ByteArray} (h : x ∈ wsOf pl L) : ∃ (i : Nat) (p : Lf), L[i]? = some p ∧ x = (pl i, secM p.1.toNat p.2) := by
  unfold wsOf at h
  obtain ⟨y, hy, rfl⟩ := List.mem_map.1 h
  obtain ⟨i, hi⟩ := List.mem_iff_getElem?.1 hy
  rw [List.getElem?_zipIdx] at hi
  cases hq : L[i]? with
  | none => rw [hq] at hi; cases hi
  | some p => rw [hq] at hi; cases hi; exact ⟨i, p, hq, by simp⟩
theorem writeT_calm {S : TS} {M : PM} {L : List Lf} (hd : M.down = false) (ha : M.armed = 0) (h1 : S.dead = false) (h2 : S.life = M.life) (h3 : 0 ≤ S.frm) (h4 : 0 ≤ S.twins) (h5 : S.frm + S.twins + (S.pages.length : Int) ≤ M.count) :
    writeT S M L = if fitsT S L = false then (1, S, M) else if L.length = 0 then (0, S, M) else (0, putT S L, wrM S M L) := by
  unfold writeT
  rw [rdyT_calm hd h1 h2, if_neg (by simp)]
  by_cases hf : fitsT S L = false
  · rw [if_pos hf, if_pos hf]
  rw [if_neg hf, if_neg hf]
  by_cases hl : L.length = 0
  · rw [if_pos hl, if_pos hl]
  rw [if_neg hl, if_neg hl]
  have hft : fitsT S L = true := by simpa using hf
  unfold fitsT at hft
  rw [Bool.and_eq_true, decide_eq_true_eq] at hft
  have hin := fitPM_true hft.1
  have w1 : ∀ x ∈ wsOf (fun i => S.frm + (i : Int)) L, 0 ≤ x.1 ∧ x.1 < M.count ∧ x.2.size = 256 := fun x hx => by
    obtain ⟨i, p, hp, rfl⟩ := wsOf_mem hx
    have := hin p (List.mem_of_getElem? hp)
    have := (List.getElem?_eq_some_iff.1 hp).1
    exact ⟨by simp only; omega, by simp only; omega, secM_size (hin p (List.mem_of_getElem? hp)).2.2⟩
  have w2 : ∀ x ∈ wsOf (plH S L) L, 0 ≤ x.1 ∧ x.1 < M.count ∧ x.2.size = 256 := fun x hx => by
    obtain ⟨i, p, hp, rfl⟩ := wsOf_mem hx
    have h6 := hin p (List.mem_of_getElem? hp)
    have e : plH S L i = S.frm + S.twins + p.1 := by unfold plH; rw [hp]; rfl
    exact ⟨by simp only [e]; omega, by simp only [e]; omega, secM_size h6.2.2⟩
  rw [layQ_calm _ M hd ha w1, if_neg (by simp)]
  simp only
  have e2 := layQ_calm (wsOf (plH S L) L) ⟨M.count, putAll M.secs (M.queue ++ wsOf (fun i => S.frm + (i : Int)) L), [], false, M.acts + ((wsOf (fun i => S.frm + (i : Int)) L).length : Int) + 1, 0, M.life⟩ rfl rfl w2
  rw [e2, if_neg (by simp)]
  have e : S.die false = S := by cases S; simp only [TS.die]; simp only at h1; rw [h1]
  rw [e]
  unfold wrM
  simp only [List.nil_append, wsOf_len]
  have e3 : M.acts + (L.length : Int) + 1 + (L.length : Int) + 1 = M.acts + 2 * (L.length : Int) + 2 := by omega
  rw [e3]
/-- Each is told once. -/
theorem fitPM_nd {len : Nat} : ∀ {L : List Lf} {S : List Int}, fitPM len S L = true → (L.map (·.1)).Nodup ∧ ∀ p ∈ L, p.1 ∉ S
  | [], _, _ => ⟨List.nodup_nil, fun p hp => by cases hp⟩
  | q :: r, S, h => by
    unfold fitPM at h
    split at h
    · cases h
    · rename_i hc
      simp only [Bool.or_eq_true, decide_eq_true_eq, Bool.not_eq_true', not_or] at hc
      obtain ⟨h1, h2⟩ := fitPM_nd h
      refine ⟨?_, fun p hp => ?_⟩
      · rw [List.map_cons, List.nodup_cons]
        refine ⟨fun hm => ?_, h1⟩
        obtain ⟨p, hp, e⟩ := List.mem_map.1 hm
        exact h2 p hp (by rw [e]; exact .head _)
      · rcases List.mem_cons.1 hp with e | hp
        · subst e
          simpa using hc.1.2
        · exact fun hm => h2 p hp (.tail _ hm)
theorem putT_other : ∀ (L : List Lf) (S : TS) (k : Nat), (∀ p ∈ L, p.1.toNat ≠ k) → (putT S L).pages[k]? = S.pages[k]?
  | [], _, _, _ => rfl
  | p :: L, S, k, h => by
    rw [show putT S (p :: L) = putT (S.set p.1.toNat p.2) L from rfl, putT_other L _ k (fun q hq => h q (.tail _ hq))]
    simp only [TS.set]
    rw [List.getElem?_set_ne (h p (.head _))]
theorem putT_at : ∀ (L : List Lf) (S : TS) (i : Nat) (p : Lf), (L.map (·.1)).Nodup → (∀ p ∈ L, 0 ≤ p.1 ∧ p.1 < (S.pages.length : Int)) → L[i]? = some p → (putT S L).pages[p.1.toNat]? = some p.2
  | [], _, _, _, _, _, h => by cases h
  | q :: L, S, 0, p, hn, hb, h => by
    obtain rfl : q = p := Option.some.inj h
    rw [List.map_cons, List.nodup_cons] at hn
    rw [show putT S (q :: L) = putT (S.set q.1.toNat q.2) L from rfl, putT_other L _ _ (fun r hr e => hn.1 (List.mem_map.2 ⟨r, hr, by have := hb r (.tail _ hr); have := hb q (.head _); omega⟩))]
    simp only [TS.set]
    rw [List.getElem?_set_self (by have := hb q (.head _); omega)]
  | q :: L, S, i + 1, p, hn, hb, h => by
    rw [List.map_cons, List.nodup_cons] at hn
    exact putT_at L (S.set q.1.toNat q.2) i p hn.2 (fun r hr => by have := hb r (.tail _ hr); simpa [TS.set] using this) h
theorem fits_twice (S : TS) (o : Lf) : fitsT S [o, o] = false := by
  unfold fitsT
  rw [Bool.and_eq_false_iff]
  left
  show (if _ then false else fitPM _ _ [o]) = false
  split
  · rfl
  · show (if _ then false else _) = false
    rw [if_pos (by simp)]
theorem tread_nil (n : Int) (w : World) : Calls Tryd.prog 12 #[.pointer none, .int .i64 n] w (fun e w' => e = .returned (.tuple #[pgV 0 (.slice none 0 0), .int .i64 2]) ∧ Below w.heap.size w w') := by
  have HR := Lib.hid (fun W => trdy_nil W)
  have s2 := (sat_all w).new (.cells #[kI 0, .slice none 0 0] 25)
  obtain ⟨pb4, hpb⟩ : ∃ pb4, w.heap.size = pb4 := ⟨_, rfl⟩
  rw [hpb] at s2
  have HT : Hid (∀ W, Sat W (allOf w) → Below pb4 w W) := Lib.hid (fun W hW => by rw [← hpb]; exact hW.below)
  rw [hpb]
  have R9 := Lib.hid (two_at s2)
  have FIN := Lib.hid (HT.out _ s2.tail)
  clear s2 HT
  go_enter Tryd.func12, Tryd.ntmps12
  go_wp2_with (go_at_call 24; refine (HR.out _).mono ?_; rintro e w1 ⟨rfl, rfl⟩)
  exact bodyPost_ret (v := .tuple #[pgV 0 (.slice none 0 0), .int .i64 2]) (read_results _ _ pb4 0 2 _ rfl rfl R9.out.1 R9.out.2.1) rfl ⟨rfl, FIN.out⟩
end Go.Proofs.YtgocmnejlbfplaaDoor
