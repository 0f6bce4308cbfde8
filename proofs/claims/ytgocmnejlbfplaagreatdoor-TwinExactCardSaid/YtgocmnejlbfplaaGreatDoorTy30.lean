/- Texts put together: Tw19, Tw20. Conditions: none. -/
import Derived.Test.YtgocmnejlbfplaaGreatDoorTy28
namespace Go.Proofs.YtgocmnejlbfplaaGreatDoor
open Go Go.MapKept Go.RowKit Go.Proofs

theorem readM_hold {M : PM} {n : Int} (hd : M.down = false) (h0 : 0 ≤ n) (hn : n < M.count) (hq : M.queue = []) : readM M n = match getL n M.secs with
    | none => (zeros256, 0)
    | some s => if s.size = 0 then (⟨#[]⟩, 20) else (s, 0) := by
  have hr : readyM M n = 0 := by
    unfold readyM
    rw [hd]
    have : ¬ (n < 0 ∨ M.count ≤ n) := by omega
    simp [this]
  unfold readM
  rw [hr, if_neg (by simp), hq]
  rfl
theorem readM_new {N n : Int} (h0 : 0 ≤ n) (hn : n < (newM N).count) : readM (newM N) n = (zeros256, 0) := readM_hold rfl h0 hn rfl
theorem pageM_zero (n : Nat) : pageM n zeros256 = none := by
  cases h : pageM n zeros256 with
  | none => rfl
  | some p =>
    obtain ⟨h1, h2⟩ := pageB_some h
    exact absurd h2 (secB_ne_zeros h1)
theorem zeroB_zero : zeroB zeros256 = true := by
  unfold zeroB zeros256
  rw [List.all_eq_true]
  intro x hx
  have e := List.eq_of_mem_replicate hx
  rw [e]
  rfl
theorem loadP_new {N : Int} {S : TS} {n : Nat} (h0 : 0 ≤ S.frm + S.twins + (n : Int)) (h1 : S.frm + S.twins + (n : Int) < (newM N).count) : loadP S (newM N) n = (0, true, S.push emptyP, newM N) := by
  unfold loadP
  rw [readM_new h0 h1, if_pos rfl]
  simp only [pageM_zero, zeroB_zero]
theorem loads_new {N frm twins life : Int} {k : Nat} (h0 : 0 ≤ frm + twins) (h1 : frm + twins + (k : Int) ≤ (newM N).count) : ∀ n, n ≤ k → loads ⟨frm, twins, [], life, false⟩ (newM N) n = (0, true, ⟨frm, twins, List.replicate n emptyP, life, false⟩, newM N) := by
  intro n
  induction n with
  | zero => intro _; rfl
  | succ n ih =>
    intro hn
    have e := ih (by omega)
    show (if _ then _ else _ : Int × Bool × TS × PM) = _
    rw [e, if_neg (by simp)]
    simp only
    rw [loadP_new (by simp only; omega) (by simp only; omega), Bool.and_self]
    simp only [TS.push, List.replicate_succ']
/-- A fresh plate's store. -/
def newT (frm twins : Int) (k : Nat) : TS := ⟨frm, twins, List.replicate k emptyP, 0, false⟩
theorem openP_new {N frm twins : Int} {k : Nat} (h0 : 0 ≤ frm) (h1 : 1 ≤ twins) (h2 : twins ≤ 64) (h3 : 1 ≤ k) (h4 : k ≤ 1024) (h5 : frm + twins + (k : Int) ≤ (newM N).count) : openP (newM N) frm twins (k : Int) = (some (newT frm twins k), 0, newM N) := by
  unfold openP
  rw [if_neg (by omega), if_neg (by simp [newM]), Int.toNat_natCast, show (newM N).life = 0 from rfl, loads_new (by omega) h5 k (by omega), if_neg (by simp), if_neg (by simp), if_pos rfl, if_pos rfl, if_neg (by simp)]
  rfl
/-- A plate that no fate is near. -/
def Calm (M : PM) : Prop := M.down = false ∧ M.armed = 0 ∧ M.queue = []
theorem readyM_up {M : PM} {n : Int} (hd : M.down = false) (h0 : 0 ≤ n) (hn : n < M.count) : readyM M n = 0 := by
  unfold readyM
  rw [hd]
  have : ¬ (n < 0 ∨ M.count ≤ n) := by omega
  simp [this]
theorem layQ_calm : ∀ (ws : List (Int × ByteArray)) (M : PM), M.down = false → M.armed = 0 → (∀ x ∈ ws, 0 ≤ x.1 ∧ x.1 < M.count ∧ x.2.size = 256) → layQ M ws = (0, ⟨M.count, putAll M.secs (M.queue ++ ws), [], false, M.acts + (ws.length : Int) + 1, 0, M.life⟩)
  | [], M, hd, ha, _ => by
    show syncM M = _
    unfold syncM actM
    rw [hd, ha]
    simp
  | x :: t, M, hd, ha, hx => by
    obtain ⟨x0, x1, x2⟩ := hx x (.head _)
    have e : writeM M x.1 x.2 = (0, { pushM M x.1 x.2 with acts := M.acts + 1 }) := by
      unfold writeM
      rw [readyM_up hd x0 x1, if_neg (by simp), if_neg (by omega)]
      unfold actM
      rw [if_neg (by simp [pushM, ha])]
      rfl
    show (if _ then _ else _ : Int × PM) = _
    rw [e, if_neg (by simp)]
    simp only
    have e2 := layQ_calm t { pushM M x.1 x.2 with acts := M.acts + 1 } hd ha (fun y hy => hx y (.tail _ hy))
    rw [e2]
    simp only [pushM, List.append_assoc, List.cons_append, List.nil_append, List.length_cons]
    have e3 : M.acts + 1 + (t.length : Int) + 1 = M.acts + ((t.length + 1 : Nat) : Int) + 1 := by omega
    rw [e3]
theorem rdyT_calm {S : TS} {M : PM} (hd : M.down = false) (h1 : S.dead = false) (h2 : S.life = M.life) : rdyT S M = 0 := by
  unfold rdyT
  simp [hd, h1, h2]
/-- Two writings, as the plate keeps them. -/
def wrM (S : TS) (M : PM) (L : List Lf) : PM := ⟨M.count, putAll (putAll M.secs (M.queue ++ wsOf (fun i => S.frm + (i : Int)) L)) (wsOf (plH S L) L), [], false, M.acts + 2 * (L.length : Int) + 2, 0, M.life⟩
theorem wsOf_mem {pl : Nat → Int} {L : List Lf} {x : Int × ByteArray} (h : x ∈ wsOf pl L) : ∃ (i : Nat) (p : Lf), L[i]? = some p ∧ x = (pl i, secM p.1.toNat p.2) := by
  unfold wsOf at h
  obtain ⟨y, hy, rfl⟩ := List.mem_map.1 h
  obtain ⟨i, hi⟩ := List.mem_iff_getElem?.1 hy
  rw [List.getElem?_zipIdx] at hi
  cases hq : L[i]? with
  | none => rw [hq] at hi; cases hi
  | some p => rw [hq] at hi; cases hi; exact ⟨i, p, hq, by simp⟩
theorem writeT_calm {S : TS} {M : PM} {L : List Lf} (hd : M.down = false) (ha : M.armed = 0) (h1 : S.dead = false) (h2 : S.life = M.life) (h3 : 0 ≤ S.frm) (h4 : 0 ≤ S.twins) (h5 : S.frm + S.twins + (S.pages.length : Int) ≤ M.count) :
    writeT S M L = if fitsT S L = false then (1, S, M) else if L.length = 0 then (0, S, M) else (0, putT S L, wrM S M L) := by
  unfold writeT
  rw [rdyT_calm hd h1 h2, if_neg (by simp)]
  by_cases hf : fitsT S L = false
  · rw [if_pos hf, if_pos hf]
  rw [if_neg hf, if_neg hf]
  by_cases hl : L.length = 0
  · rw [if_pos hl, if_pos hl]
  rw [if_neg hl, if_neg hl]
  have hft : fitsT S L = true := by simpa using hf
  unfold fitsT at hft
  rw [Bool.and_eq_true, decide_eq_true_eq] at hft
  have hin := fitPM_true hft.1
  have w1 : ∀ x ∈ wsOf (fun i => S.frm + (i : Int)) L, 0 ≤ x.1 ∧ x.1 < M.count ∧ x.2.size = 256 := fun x hx => by
    obtain ⟨i, p, hp, rfl⟩ := wsOf_mem hx
    have := hin p (List.mem_of_getElem? hp)
    have := (List.getElem?_eq_some_iff.1 hp).1
    exact ⟨by simp only; omega, by simp only; omega, secM_size (hin p (List.mem_of_getElem? hp)).2.2⟩
  have w2 : ∀ x ∈ wsOf (plH S L) L, 0 ≤ x.1 ∧ x.1 < M.count ∧ x.2.size = 256 := fun x hx => by
    obtain ⟨i, p, hp, rfl⟩ := wsOf_mem hx
    have h6 := hin p (List.mem_of_getElem? hp)
    have e : plH S L i = S.frm + S.twins + p.1 := by unfold plH; rw [hp]; rfl
    exact ⟨by simp only [e]; omega, by simp only [e]; omega, secM_size h6.2.2⟩
  rw [layQ_calm _ M hd ha w1, if_neg (by simp)]
  simp only
  have e2 := layQ_calm (wsOf (plH S L) L) ⟨M.count, putAll M.secs (M.queue ++ wsOf (fun i => S.frm + (i : Int)) L), [], false, M.acts + ((wsOf (fun i => S.frm + (i : Int)) L).length : Int) + 1, 0, M.life⟩ rfl rfl w2
  rw [e2, if_neg (by simp)]
  have e : S.die false = S := by cases S; simp only [TS.die]; simp only at h1; rw [h1]
  rw [e]
  unfold wrM
  simp only [List.nil_append, wsOf_len]
  have e3 : M.acts + (L.length : Int) + 1 + (L.length : Int) + 1 = M.acts + 2 * (L.length : Int) + 2 := by omega
  rw [e3]
/-- Each is told once. -/
theorem fitPM_nd {len : Nat} : ∀ {L : List Lf} {S : List Int}, fitPM len S L = true → (L.map (·.1)).Nodup ∧ ∀ p ∈ L, p.1 ∉ S
  | [], _, _ => ⟨List.nodup_nil, fun p hp => by cases hp⟩
  | q :: r, S, h => by
    unfold fitPM at h
    split at h
    · cases h
    · rename_i hc
      simp only [Bool.or_eq_true, decide_eq_true_eq, Bool.not_eq_true', not_or] at hc
      obtain ⟨h1, h2⟩ := fitPM_nd h
      refine ⟨?_, fun p hp => ?_⟩
      · rw [List.map_cons, List.nodup_cons]
        refine ⟨fun hm => ?_, h1⟩
        obtain ⟨p, hp, e⟩ := List.mem_map.1 hm
        exact h2 p hp (by rw [e]; exact .head _)
      · rcases List.mem_cons.1 hp with e | hp
        · subst e
          simpa using hc.1.2
        · exact fun hm => h2 p hp (.tail _ hm)
theorem putT_other : ∀ (L : List Lf) (S : TS) (k : Nat), (∀ p ∈ L, p.1.toNat ≠ k) → (putT S L).pages[k]? = S.pages[k]?
  | [], _, _, _ => rfl
  | p :: L, S, k, h => by
    rw [show putT S (p :: L) = putT (S.set p.1.toNat p.2) L from rfl, putT_other L _ k (fun q hq => h q (.tail _ hq))]
    simp only [TS.set]
    rw [List.getElem?_set_ne (h p (.head _))]
theorem putT_at : ∀ (L : List Lf) (S : TS) (i : Nat) (p : Lf), (L.map (·.1)).Nodup → (∀ p ∈ L, 0 ≤ p.1 ∧ p.1 < (S.pages.length : Int)) → L[i]? = some p → (putT S L).pages[p.1.toNat]? = some p.2
  | [], _, _, _, _, _, h => by cases h
  | q :: L, S, 0, p, hn, hb, h => by
    obtain rfl : q = p := Option.some.inj h
    rw [List.map_cons, List.nodup_cons] at hn
    rw [show putT S (q :: L) = putT (S.set q.1.toNat q.2) L from rfl, putT_other L _ _ (fun r hr e => hn.1 (List.mem_map.2 ⟨r, hr, by have := hb r (.tail _ hr); have := hb q (.head _); omega⟩))]
    simp only [TS.set]
    rw [List.getElem?_set_self (by have := hb q (.head _); omega)]
  | q :: L, S, i + 1, p, hn, hb, h => by
    rw [List.map_cons, List.nodup_cons] at hn
    exact putT_at L (S.set q.1.toNat q.2) i p hn.2 (fun r hr => by have := hb r (.tail _ hr); simpa [TS.set] using this) h
theorem fits_twice (S : TS) (o : Lf) : fitsT S [o, o] = false := by
  unfold fitsT
  rw [Bool.and_eq_false_iff]
  left
  show (if _ then false else fitPM _ _ [o]) = false
  split
  · rfl
  · show (if _ then false else _) = false
    rw [if_pos (by simp)]
theorem tread_nil (n : Int) (w : World) : Calls Tryz.prog 23 #[.pointer none, .int .i64 n] w (fun e w' => e = .returned (.tuple #[pgV 0 (.slice none 0 0), .int .i64 2]) ∧ Below w.heap.size w w') := by
  have HR := Lib.hid (fun W => trdy_nil W)
  have s2 := (sat_all w).new (.cells #[kI 0, .slice none 0 0] 48)
  obtain ⟨pb4, hpb⟩ : ∃ pb4, w.heap.size = pb4 := ⟨_, rfl⟩
  rw [hpb] at s2
  have HT : Hid (∀ W, Sat W (allOf w) → Below pb4 w W) := Lib.hid (fun W hW => by rw [← hpb]; exact hW.below)
  rw [hpb]
  have R9 := Lib.hid (two_at s2)
  have FIN := Lib.hid (HT.out _ s2.tail)
  clear s2 HT
  go_enter Tryz.func23, Tryz.ntmps23
  go_wp2_with (go_at_call 40; refine (HR.out _).mono ?_; rintro e w1 ⟨rfl, rfl⟩)
  exact bodyPost_ret (v := .tuple #[pgV 0 (.slice none 0 0), .int .i64 2]) (read_results _ _ pb4 0 2 _ rfl rfl R9.out.1 R9.out.2.1) rfl ⟨rfl, FIN.out⟩
end Go.Proofs.YtgocmnejlbfplaaGreatDoor
namespace Go.Proofs.YtgocmnejlbfplaaGreatDoor
open Go Go.MapKept Go.RowKit Go.Proofs

attribute [local go_sem] Oper.semAt_some

theorem plOk_new {N : Int} (_h : 1 ≤ N) (b : Nat) (hb : b ≤ 100000) : PlOk b (newM N) := by
  refine ⟨fun x hx => (by cases hx), fun x hx => (by cases hx), ?_⟩
  simp only [newM, List.length_nil]
  omega
theorem fresh_open {N frm twins : Int} {k : Nat} (h0 : 0 ≤ frm) (h1 : 1 ≤ twins) (h2 : twins ≤ 64) (h3 : 1 ≤ k) (h4 : k ≤ 1024) (h5 : frm + twins + (k : Int) ≤ (newM N).count) (hN : 1 ≤ N) {pb : Nat} {F : Heaplet} {w : World} (h : PlateIs pb (newM N) F w) :
    Calls Tryz.prog 8 #[.pointer (some ⟨pb, 0, none⟩), .int .i64 frm, .int .i64 twins, .int .i64 (k : Int)] w (fun e w' => ∃ tb, e = .returned (.tuple #[.pointer (some ⟨tb, 0, none⟩), .int .i64 0]) ∧ StIs tb pb (newT frm twins k) (newM N) F w') := by
  have := open_any h (plOk_new hN 0 (by omega)) (by omega) (by simp only [newM]; omega) frm twins (k : Int)
  rw [openP_new h0 h1 h2 h3 h4 h5] at this
  exact this
theorem lvAt_one (y : Nat) (n : Int) (p : Pg) (sv : Value) (T : TypeId) (F : Heaplet) (h : SlAt F sv p.slots) : LvAt (.blk y (.cells #[kI n, kI p.lsn, sv] T) :: F) (.slice (some ⟨y, 0, none⟩) 1 1) [(n, p)] := by
  refine ⟨some ⟨y, 0, none⟩, 1, rfl, fun i q hq => ?_⟩
  match i, hq with
  | 0, hq =>
    cases hq
    refine ⟨y, 0, sv, rfl, h.mono (fun w hw => hw.tail), fun w hw => ⟨?_, ?_, ?_⟩⟩
    · show w.cell? ⟨y, 0, none⟩ = _
      rw [cell_of hw.h0]; rfl
    · show w.cell? ⟨y, 1, none⟩ = _
      rw [cell_of hw.h0]; rfl
    · show w.cell? ⟨y, 2, none⟩ = _
      rw [cell_of hw.h0]; rfl
theorem lvAt_two (y : Nat) (n m : Int) (p q : Pg) (sv tv : Value) (T : TypeId) (F : Heaplet) (h : SlAt F sv p.slots) (h2 : SlAt F tv q.slots) : LvAt (.blk y (.cells #[kI n, kI p.lsn, sv, kI m, kI q.lsn, tv] T) :: F) (.slice (some ⟨y, 0, none⟩) 2 2) [(n, p), (m, q)] := by
  refine ⟨some ⟨y, 0, none⟩, 2, rfl, fun i r hr => ?_⟩
  match i, hr with
  | 0, hr =>
    cases hr
    refine ⟨y, 0, sv, rfl, h.mono (fun w hw => hw.tail), fun w hw => ⟨?_, ?_, ?_⟩⟩
    · show w.cell? ⟨y, 0, none⟩ = _
      rw [cell_of hw.h0]; rfl
    · show w.cell? ⟨y, 1, none⟩ = _
      rw [cell_of hw.h0]; rfl
    · show w.cell? ⟨y, 2, none⟩ = _
      rw [cell_of hw.h0]; rfl
  | 1, hr =>
    cases hr
    refine ⟨y, 0, tv, rfl, h2.mono (fun w hw => hw.tail), fun w hw => ⟨?_, ?_, ?_⟩⟩
    · show w.cell? ⟨y, 3, none⟩ = _
      rw [cell_of hw.h0]; rfl
    · show w.cell? ⟨y, 4, none⟩ = _
      rw [cell_of hw.h0]; rfl
    · show w.cell? ⟨y, 5, none⟩ = _
      rw [cell_of hw.h0]; rfl
theorem StIs.put2 {tb pb g : Nat} {S : TS} {M : PM} {G : Heaplet} {w : World} {x0 x1 : Value} {T : TypeId} (h : StIs tb pb S M (.blk g (.cells #[x0, x1] T) :: G) w) (y0 y1 : Value) : StIs tb pb S M (.blk g (.cells #[y0, y1] T) :: G) ((w.setCell ⟨g, 0, none⟩ y0).setCell ⟨g, 1, none⟩ y1) :=
  (h.setF (i := 0) y0).setF (i := 1) y1
def xI : ByteArray := ⟨#[120]⟩
def awL : List Lf := [(3, imgP 7 xI)]
theorem awGood : goodP (imgP 7 xI) = true := by decide
theorem awFits : fitsT (newT 2 2 4) awL = true := by decide
def awM : PM := wrM (newT 2 2 4) (newM 20) awL
theorem awW : writeT (newT 2 2 4) (newM 20) awL = (0, putT (newT 2 2 4) awL, awM) := by
  rw [writeT_calm rfl rfl rfl rfl (by decide) (by decide) (by decide), awFits, if_neg (by simp), if_neg (by decide)]
  rfl
theorem awOk : PlOk 100 awM := by
  refine ⟨fun x hx => ?_, fun x hx => (by cases hx), by decide⟩
  have : awM.secs = [(2, secM 3 (imgP 7 xI)), (7, secM 3 (imgP 7 xI))] := rfl
  rw [this] at hx
  simp only [List.mem_cons, List.not_mem_nil, or_false] at hx
  rcases hx with rfl | rfl <;> exact .inr (secM_size awGood)
theorem awRead : readM awM 7 = (secM 3 (imgP 7 xI), 0) := by
  rw [readM_hold rfl (by decide) (by decide) rfl]
  have : getL 7 awM.secs = some (secM 3 (imgP 7 xI)) := rfl
  rw [this]
  simp only
  rw [if_neg (by rw [secM_size awGood]; decide)]
theorem awR3 : readT (putT (newT 2 2 4) awL) awM 3 = (imgP 7 xI, 0) := rfl
theorem awR0 : readT (putT (newT 2 2 4) awL) awM 0 = (emptyP, 0) := rfl
theorem awTag : (secM 3 (imgP 7 xI)).extract 240 248 = ⟨#[80, 65, 71, 69, 0, 0, 0, 3]⟩ := by
  apply ba_ext
  rw [ext_list]
  show (List.drop 240 (List.take 248 (encB _ ++ _))) = _
  rw [List.drop_take, List.drop_left' (encB_len awGood)]
  rfl
set_option maxRecDepth 100000 in
set_option maxHeartbeats 4000000 in
theorem awake8 (F : Heaplet) (w : World) (hs : Sat w F) : Calls Tryz.prog 4 #[] w (Ret (.bool true) (fun w' => Sat w' F)) := by
  have HNW := Lib.hid (plate_new F 20 w hs)
  have HOP : Hid (∀ pb W, PlateIs pb (newM 20) F W → _) := Lib.hid (fun pb W hW => fresh_open (N := 20) (frm := 2) (twins := 2) (k := 4) (by decide) (by decide) (by decide) (by decide) (by decide) (by decide) (by decide) hW)
  obtain ⟨S0, hS0⟩ : ∃ S0, newT 2 2 4 = S0 := ⟨_, rfl⟩
  obtain ⟨M0, hM0⟩ : ∃ M0, newM 20 = M0 := ⟨_, rfl⟩
  obtain ⟨S1, hS1⟩ : ∃ S1, putT (newT 2 2 4) awL = S1 := ⟨_, rfl⟩
  obtain ⟨M1, hM1⟩ : ∃ M1, awM = M1 := ⟨_, rfl⟩
  obtain ⟨sec, hsec⟩ : ∃ sec, secM 3 (imgP 7 xI) = sec := ⟨_, rfl⟩
  have HWR : Hid (∀ tb pb v G W, StIs tb pb S0 M0 G W → LvAt G v awL → Calls Tryz.prog 10 #[.pointer (some ⟨tb, 0, none⟩), v] W (fun e w' => e = .returned (.int .i64 0) ∧ StIs tb pb S1 M1 G w')) := Lib.hid (fun tb pb v G W hW hv => by
    have := twrite_any hW hv (bd := 0) (by rw [← hM0]; exact plOk_new (by decide) 0 (by decide)) (by decide) (by decide) (fun p hp => by
      obtain rfl : p = (3, imgP 7 xI) := by simpa [awL] using hp
      exact ⟨by decide, fun x hx => (by obtain rfl : x = (true, xI) := by simpa [imgP] using hx
                                        decide), by decide, by decide⟩) (by rw [← hS0]; decide) (by rw [← hS0]; decide) (by rw [← hS0]; decide)
    rw [← hS0, ← hM0, awW, hS1, hM1] at this
    exact this)
  have HRD : Hid (∀ tb pb n G W, StIs tb pb S1 M1 G W → Calls Tryz.prog 23 #[.pointer (some ⟨tb, 0, none⟩), .int .i64 n] W (TRet (readT S1 M1 n).1 (readT S1 M1 n).2 tb pb S1 M1 G)) := Lib.hid (fun tb pb n G W hW => tread_any hW n (by
    rw [← hS1]
    intro p hp
    have : (putT (newT 2 2 4) awL).pages = [emptyP, emptyP, emptyP, imgP 7 xI] := rfl
    rw [this] at hp
    simp only [List.mem_cons, List.not_mem_nil, or_false] at hp
    rcases hp with rfl | rfl | rfl | rfl <;> decide) (by rw [← hS1]; decide))
  have HRD3 : Hid (∀ tb pb G W, StIs tb pb S1 M1 G W → Calls Tryz.prog 23 #[.pointer (some ⟨tb, 0, none⟩), .int .i64 3] W (fun e w' => ∃ a c h, e = .returned (.tuple #[pgV 7 (.slice a 1 c), .int .i64 0]) ∧ StIs tb pb S1 M1 (h ++ G) w')) := Lib.hid (fun tb pb G W hW => by
    have := HRD.out tb pb 3 G W hW
    rw [show readT S1 M1 3 = (imgP 7 xI, 0) from by rw [← hS1, ← hM1]; exact awR3] at this
    refine this.mono ?_
    rintro e w' ⟨sv, h, rfl, h1, a, c, rfl, _⟩
    exact ⟨a, c, h, rfl, h1⟩)
  have HRD0 : Hid (∀ tb pb G W, StIs tb pb S1 M1 G W → Calls Tryz.prog 23 #[.pointer (some ⟨tb, 0, none⟩), .int .i64 0] W (fun e w' => ∃ a c h, e = .returned (.tuple #[pgV 0 (.slice a 0 c), .int .i64 0]) ∧ StIs tb pb S1 M1 (h ++ G) w')) := Lib.hid (fun tb pb G W hW => by
    have := HRD.out tb pb 0 G W hW
    rw [show readT S1 M1 0 = (emptyP, 0) from by rw [← hS1, ← hM1]; exact awR0] at this
    refine this.mono ?_
    rintro e w' ⟨sv, h, rfl, h1, a, c, rfl, _⟩
    exact ⟨a, c, h, rfl, h1⟩)
  have HPR : Hid (∀ tb pb G W, StIs tb pb S1 M1 G W → Calls Tryz.prog 27 #[.pointer (some ⟨pb, 0, none⟩), .int .i64 7] W (Ret (.tuple #[.string sec, .int .i64 0]) (StIs tb pb S1 M1 G))) := Lib.hid (fun tb pb G W hW => by
    have := hW.read (bd := 100) (by rw [← hM1]; exact awOk) 7
    rw [← hM1, awRead, hsec] at this
    rw [← hM1]
    exact this)
  have hact : M1.acts = 4 := by rw [← hM1]; rfl
  have hsz : sec.size = 256 := by rw [← hsec]; exact secM_size awGood
  have htag : sec.extract 240 248 = ⟨#[80, 65, 71, 69, 0, 0, 0, 3]⟩ := by rw [← hsec]; exact awTag
  clear hs hS1 hM1 hsec HRD
  rw [hM0] at HNW HOP
  rw [hS0] at HOP
  clear hS0 hM0
  go_enter Tryz.func4, Tryz.ntmps4
  go_upto_region 2 with (go_at_call 6; refine (HNW.out).mono ?_; rintro e w1 ⟨pb, rfl, hp1⟩; have HP1 := Lib.hid hp1; clear hp1)
  go_upto_region 3 with (go_at_call 8; refine (HOP.out _ _ HP1.out).mono ?_; rintro e w2 ⟨tb, rfl, hs2⟩; have HS2 := Lib.hid hs2; clear hs2)
  clear HNW HOP HP1
  go_upto_region 5 with (fail)
  obtain ⟨Z, _, _, hz, hmk, _⟩ := HS2.out.view
  have HMK := Lib.hid hmk
  have HZ := Lib.hid hz
  clear hz hmk HS2
  go_upto_region 6 with (first | (go_at_call 26; refine (image_any 7 ⟨#[120]⟩ Z _ HZ.out).mono ?_; rintro e w3 ⟨x, rfl, hs3⟩; have HS3 := Lib.hid (HMK.out w3 [.blk x (.cells #[.bool true, kS ⟨#[120]⟩] 59)] hs3); clear hs3) | (go_at_call 10; refine (HWR.out _ _ _ _ _ (HS3.out.new (.cells #[kI 3, kI 7, .slice (some ⟨x, 0, none⟩) 1 1] 55)) (lvAt_one _ 3 (imgP 7 xI) (.slice (some ⟨x, 0, none⟩) 1 1) _ _ (slAt_one x xI F))).mono ?_; rintro e w4 ⟨rfl, hs4⟩; have HS4 := Lib.hid hs4; clear hs4))
  clear HWR HMK HZ HS3
  go_upto_region 7 with (go_at_call 23; refine (HRD3.out _ _ _ _ HS4.out).mono ?_; rintro e w5 ⟨a3, c3, h3, rfl, hs5⟩; have HS5 := Lib.hid (hs5.new (.cells #[kI 7, .slice a3 1 c3] 48)); clear hs5)
  clear HRD3 HS4
  go_upto_region 8 with (go_at_call 27; refine (HPR.out _ _ _ _ HS5.out).mono ?_; rintro e w6 ⟨rfl, hs6⟩; have HS6 := Lib.hid hs6; clear hs6)
  clear HPR HS5
  go_upto_region 9 with (go_at_call 23; refine (HRD0.out _ _ _ _ HS6.out).mono ?_; rintro e w7 ⟨a0, c0, h0, rfl, hs7⟩; have HS7 := Lib.hid (hs7.new (.cells #[kI 0, .slice a0 0 c0] 48)); clear hs7)
  clear HRD0 HS6
  obtain ⟨b5, hb5⟩ : ∃ b5, w5.heap.size = b5 := ⟨_, rfl⟩
  obtain ⟨b7, hb7⟩ : ∃ b7, w7.heap.size = b7 := ⟨_, rfl⟩
  rw [hb5, hb7] at HS7
  generalize w7.alloc (.cells #[.int .i64 0, .slice a0 0 c0] 48) = W8 at *
  obtain ⟨q0, q1, _⟩ := two_at HS7.out.frame
  obtain ⟨p0, p1, _⟩ := two_at (Sat.right HS7.out.frame.tail)
  have HAC := Lib.hid (acts_any _ _ _ _ HS7.out.toPlate)
  rw [hact] at HAC
  have HF := Lib.hid (show Sat W8 F from ((Sat.right HS7.out.frame.tail).tail.right).tail.tail)
  clear HS7
  rw [hb5] at *
  rw [hb7] at *
  go_wp2_with (go_at_call 21; refine (HAC.out).mono ?_; rintro e w9 ⟨rfl, rfl⟩)
  go_ret
  exact ⟨rfl, HF.out⟩
end Go.Proofs.YtgocmnejlbfplaaGreatDoor
