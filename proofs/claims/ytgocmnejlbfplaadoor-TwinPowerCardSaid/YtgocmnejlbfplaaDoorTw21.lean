/- A store that is written and read, no fate near. Conditions: none. -/
import Derived.Test.YtgocmnejlbfplaaDoorTw20
namespace Go.Proofs.YtgocmnejlbfplaaDoor
open Go Go.MapKept Go.RowKit Go.Proofs

/-- A store of five pages that nothing troubles. -/
structure Lv5 (b : Nat) (S : TS) (M : PM) : Prop where
  up : M.down = false
  un : M.armed = 0
  qu : M.queue = []
  ct : M.count = 16
  lf : M.life = 0
  de : S.dead = false
  sl : S.life = 0
  fr : S.frm = 0
  tw : S.twins = 3
  pg : S.pages.length = 5
  sz : ∀ p ∈ S.pages, p.slots.length ≤ 1000
  ok : PlOk b M
theorem Lv5.rdy {b : Nat} {S : TS} {M : PM} (h : Lv5 b S M) : rdyT S M = 0 := rdyT_calm h.up h.de (h.sl.trans h.lf.symm)
theorem putT_mem : ∀ (L : List Lf) (S : TS) (p : Pg), p ∈ (putT S L).pages → p ∈ S.pages ∨ ∃ q ∈ L, p = q.2
  | [], _, _, h => .inl h
  | q :: L, S, p, h => by
    rcases putT_mem L (S.set q.1.toNat q.2) p h with h | ⟨r, hr, e⟩
    · rcases List.mem_or_eq_of_mem_set h with h | h
      · exact .inl h
      · exact .inr ⟨q, .head _, h⟩
    · exact .inr ⟨r, .tail _ hr, e⟩
theorem Lv5.write {b : Nat} {S : TS} {M : PM} (h : Lv5 b S M) (hb : b + 300 ≤ 100000) {L : List Lf} (hl : L.length ≤ 100) :
    (fitsT S L = false ∧ writeT S M L = (1, S, M)) ∨ (fitsT S L = true ∧ ∃ M', writeT S M L = (0, putT S L, M') ∧ Lv5 (b + 300) (putT S L) M' ∧ (L.length ≠ 0 → M' = wrM S M L)) := by
  have e := writeT_calm (L := L) h.up h.un h.de (h.sl.trans h.lf.symm) (by rw [h.fr]; decide) (by rw [h.tw]; decide) (by rw [h.fr, h.tw, h.pg, h.ct]; decide)
  cases hf : fitsT S L with
  | false => exact .inl ⟨rfl, by rw [e, if_pos hf]⟩
  | true =>
    refine .inr ⟨rfl, ?_⟩
    rw [if_neg (by rw [hf]; simp)] at e
    by_cases hl0 : L.length = 0
    · rw [if_pos hl0] at e
      obtain rfl : L = [] := by simpa using hl0
      exact ⟨M, e, { h with ok := h.ok.mono (by omega) hb }, fun h => absurd rfl h⟩
    · rw [if_neg hl0] at e
      refine ⟨wrM S M L, e, ?_, fun _ => rfl⟩
      unfold fitsT at hf
      rw [Bool.and_eq_true] at hf
      have hin := fitPM_true hf.1
      have hok : LfOk L := fun p hp => ⟨(hin p hp).2.2, (hin p hp).1, by have := (hin p hp).2.1; rw [h.pg] at this; omega⟩
      obtain ⟨k1, k2, k3, k4, k5⟩ := putT_keep L S
      refine ⟨rfl, rfl, rfl, h.ct, h.lf, k5.trans h.de, k4.trans h.sl, k1.trans h.fr, k2.trans h.tw, k3.trans h.pg, fun p hp => ?_, ?_⟩
      · rcases putT_mem L S p hp with h' | ⟨q, hq, rfl⟩
        · exact h.sz p h'
        · exact (good_bds (hok q hq).1).1
      · obtain ⟨o1, o2, o3⟩ := h.ok
        refine ⟨fun x hx => ?_, fun x hx => (by cases hx), ?_⟩
        · rcases putAll_mem (show x ∈ putAll _ _ from hx) with hx | hx
          · exact .inr (wsOf_size hok x hx)
          · rcases putAll_mem hx with hx | hx
            · rw [h.qu, List.nil_append] at hx
              exact .inr (wsOf_size hok x hx)
            · exact o1 x hx
        · simp only [wrM, List.length_nil]
          omega
theorem Lv5.new : Lv5 0 (newT 0 3 5) (newM 16) := ⟨rfl, rfl, rfl, rfl, rfl, rfl, rfl, rfl, rfl, rfl, fun p hp => by
  rw [List.eq_of_mem_replicate hp]; decide, plOk_new (by decide) 0 (by decide)⟩
/-- A page that is there is read. -/
theorem tread_at {tb pb : Nat} {S : TS} {M : PM} {G : Heaplet} {w : World} (h : StIs tb pb S M G w) {b : Nat} (hk : Lv5 b S M) {n : Int} {p : Pg} (h0 : 0 ≤ n) (hp : S.pages[n.toNat]? = some p) :
    Calls Tryd.prog 12 #[.pointer (some ⟨tb, 0, none⟩), .int .i64 n] w (fun e w' => ∃ a c h', e = .returned (.tuple #[pgV p.lsn (.slice a p.slots.length c), .int .i64 0]) ∧ SlAt h' (.slice a p.slots.length c) p.slots ∧ StIs tb pb S M (h' ++ G) w') := by
  have := tread_any h n hk.sz (by rw [hk.pg]; decide)
  have e : readT S M n = (p, 0) := by
    unfold readT
    rw [hk.rdy, if_neg (by simp), if_neg (by omega), hp]
  rw [e] at this
  refine this.mono ?_
  rintro e w' ⟨sv, h', rfl, h1, h2⟩
  obtain ⟨a, c, rfl, _⟩ := id h2
  exact ⟨a, c, h', rfl, h2, h1⟩
/-- Leaves of modest size are written or refused. -/
theorem twrite_at {tb pb : Nat} {S : TS} {M : PM} {G : Heaplet} {w : World} {v : Value} {L : List Lf} (h : StIs tb pb S M G w) (hv : LvAt G v L) {b : Nat} (hk : Lv5 b S M) (hb : b + 1000 ≤ 100000) (hl : L.length ≤ 100) (hf : FitP L) :
    Calls Tryd.prog 9 #[.pointer (some ⟨tb, 0, none⟩), v] w (WrRet (writeT S M L) tb pb G) :=
  twrite_any h hv hk.ok hb hl hf (by rw [hk.fr]; decide) (by rw [hk.tw]; decide) (by rw [hk.pg]; decide)
def aI : ByteArray := ⟨#[97]⟩
def oneL : List Lf := [(2, imgP 1 aI)]
theorem oneFits : fitsT (newT 0 3 5) oneL = true := by decide
def oneM : PM := wrM (newT 0 3 5) (newM 16) oneL
def oneT : TS := putT (newT 0 3 5) oneL
theorem one_write : writeT (newT 0 3 5) (newM 16) oneL = (0, oneT, oneM) ∧ Lv5 300 oneT oneM := by
  rcases Lv5.new.write (by decide) (L := oneL) (by decide) with ⟨h, _⟩ | ⟨_, M', e, h2, h3⟩
  · rw [oneFits] at h; cases h
  · obtain rfl := h3 (by decide)
    exact ⟨e, h2⟩
theorem oneFit : FitP oneL := fun p hp => by
  obtain rfl : p = (2, imgP 1 aI) := by simpa [oneL] using hp
  exact ⟨by decide, fun x hx => (by obtain rfl : x = (true, aI) := by simpa [imgP] using hx
                                    decide), by decide, by decide⟩
theorem one_acts : oneM.acts = 4 := rfl
theorem one_at (i : Nat) (h : i < 5) : oneT.pages[((i : Nat) : Int).toNat]? = some (if i = 2 then imgP 1 aI else emptyP) := by
  rw [Int.toNat_natCast]
  match i, h with
  | 0, _ => rfl
  | 1, _ => rfl
  | 2, _ => rfl
  | 3, _ => rfl
  | 4, _ => rfl
/-- What is asked of the calls. -/
def Modest (P : List Lf) : Prop := P.length ≤ 100 ∧ FitP P
theorem modest_of {P : List Lf} {fl : Nat} (h : bigA (P, fl) = false) (hr : ∀ p ∈ P, -9223372036854775808 ≤ p.2.lsn ∧ p.2.lsn ≤ 9223372036854775807) : Modest P := by
  unfold bigA at h
  simp only [Bool.or_eq_false_iff, decide_eq_false_iff_not, List.any_eq_false] at h
  refine ⟨by have := h.1.1; omega, fun p hp => ?_⟩
  have h2 := h.2 p hp
  unfold bigP at h2
  simp only [Bool.or_eq_true, decide_eq_true_eq, not_or, Bool.not_eq_true, List.any_eq_false] at h2
  refine ⟨by have := h2.1; omega, fun x hx => ?_, hr p hp⟩
  have h3 := h2.2 x hx
  unfold bigS at h3
  simp only [decide_eq_false_iff_not] at h3
  omega
theorem great_two {P Q : List Lf} {fl fm : Nat} (h : greatM [(P, fl), (Q, fm)] = false) : bigA (P, fl) = false ∧ bigA (Q, fm) = false := by
  have e : greatM [(P, fl), (Q, fm)] = (bigA (P, fl) || (bigA (Q, fm) || false)) := rfl
  rw [e] at h
  simp only [Bool.or_eq_false_iff] at h
  exact ⟨h.1, h.2.1⟩
end Go.Proofs.YtgocmnejlbfplaaDoor
