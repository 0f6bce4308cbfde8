/- Texts put together: Mp5, Mp6, Mp7, Mp8. Conditions: none. -/
import Derived.Test.YtficgjklagnbjaaGreatFo9
import Derived.Test.YtficgjklagnbjaaGreatFo13
import Derived.Test.YtficgjklagnbjaaGreatFo16
import Derived.Test.YtficgjklagnbjaaGreatFo23
import Derived.Test.YtficgjklagnbjaaGreatFo24
namespace Go.Proofs.YtficgjklagnbjaaGreat
open Go Go.MapKept Go.RowKit Go.Proofs

theorem updX_congr {f g : Nat → Sl} {x : En} (h : ∀ j, f j = g j) (j : Nat) : updX f x j = updX g x j := by
  unfold updX; split
  · rfl
  · exact h j
section
variable {l : List En} {P : List Lf} {x : En} {n : Nat} {p p' : Pg}
theorem LI.chg (h : LI l P) (ht : endM l x.t = false) (hk : x.kind = 1) (hp : P[n]? = some ((n : Int), p)) (hpg : x.page = (n : Int)) (hn : n < 4) (hsl : ∃ k : Nat, k < 5 ∧ x.slot = k) (hr : redoM p x = (p', true, 0)) (hnx : Nx (ofM l x.t) x) (hlen : x.lsn ≤ l.length + 1)
    (ho : ∀ t', t' ≠ x.t → endM l t' = false → ∀ y ∈ ofM l t', y.page ≠ (n : Int)) : LI (l ++ [x]) (P.set n ((n : Int), p')) := by
  have hrc := redo_cont (p := p) (y := x) (by rw [hr]) (by rw [hr])
  rw [hr] at hrc
  obtain ⟨g1, g2, g3, g4, g5, g6, g7, g8⟩ := hrc
  obtain ⟨a1, a2, _⟩ := h.mine ht hp g1 ho
  refine h.push ht (.inl hk) hp hpg hn hsl hr hnx hlen ho (fun z r h2 => by omega) ?_
  have hs : (stk (ofM l x.t ++ [x])).filter (onP n) = x :: (stk (ofM l x.t)).filter (onP n) := by
    rw [stk_snoc]
    unfold stepS
    rw [if_pos hk, List.filter_cons_of_pos (by simpa [onP] using hpg)]
  rw [hs]
  have hc : ∀ k, cont p' k = appF (x :: (stk (ofM l x.t)).filter (onP n)) (wantS (foldP l) n) k := fun k => (g8 k).trans (updX_congr a2 k)
  exact ⟨⟨by rw [← a2, g7], ⟨p', g4, hc⟩, a1⟩, hc⟩
/-- What is undone can be: the newest change's page had it so before. -/
theorem LI.und_redo (h : LI l P) (ht : endM l x.t = false) (hk : x.kind = 2) {z : En} {r : List En} (hz : stk (ofM l x.t) = z :: r) (hzp : z.page = x.page) (hzs : z.slot = x.slot) (hzw : x.was = z.is) (hzi : x.is = z.was) (hg : goodM x = true)
    (hp : P[n]? = some ((n : Int), p)) (hgp : goodP p = true) (hpg : x.page = (n : Int)) (hl : p.lsn < x.lsn) :
    ∃ p', redoM p x = (p', true, 0) ∧ Fst (wantS (foldP l) n) (r.filter (onP n)) ∧ ∀ k, cont p' k = appF (r.filter (onP n)) (wantS (foldP l) n) k := by
  obtain ⟨a1, a2, _⟩ := h.held x.t n p ht hp ⟨z, (stk_mem (by rw [hz]; exact .head _)).1, by rw [hzp, hpg]⟩
  have hf : (stk (ofM l x.t)).filter (onP n) = z :: r.filter (onP n) := by
    rw [hz, List.filter_cons_of_pos (by simp [onP, hzp, hpg])]
  rw [hf] at a1 a2
  obtain ⟨b1, _, b3⟩ := a1
  obtain ⟨q, hq, hqc⟩ := b3.page
  have hs : x.slot.toNat = z.slot.toNat := by rw [hzs]
  have hcz : ∀ j, cont p j = updX (appF (r.filter (onP n)) (wantS (foldP l) n)) z j := a2
  have hru := redo_can (p := p) (q := q) (y := x) hgp hg (chg_chgM (.inr hk)) hl (by
    rw [hcz, hs]; unfold updX; rw [if_pos rfl, hzw]) hq (fun j => by
    rw [hqc j]
    unfold updX
    rw [hs]
    split
    · rename_i e
      rw [e, b1, hzi]
    · rename_i e
      rw [hcz j]
      unfold updX
      rw [if_neg e])
  exact ⟨_, hru, b3, hqc⟩
theorem LI.und (h : LI l P) (ht : endM l x.t = false) (hk : x.kind = 2) {z : En} {r : List En} (hz : stk (ofM l x.t) = z :: r) (hzp : z.page = x.page) (hzs : z.slot = x.slot) (hzw : x.was = z.is) (hzi : x.is = z.was) (hg : goodM x = true)
    (hp : P[n]? = some ((n : Int), p)) (hgp : goodP p = true) (hpg : x.page = (n : Int)) (hn : n < 4) (hl : p.lsn < x.lsn) (hnx : Nx (ofM l x.t) x) (hlen : x.lsn ≤ l.length + 1) :
    ∃ p', redoM p x = (p', true, 0) ∧ LI (l ++ [x]) (P.set n ((n : Int), p')) := by
  obtain ⟨p', h1, h2, h3⟩ := h.und_redo ht hk hz hzp hzs hzw hzi hg hp hgp hpg hl
  have hzm := stk_mem (own := ofM l x.t) (x := z) (by rw [hz]; exact .head _)
  have hzl := (mem_ofM.1 hzm.1).1
  obtain ⟨_, n', k', _, hk5, _, e2⟩ := h.ok z hzl
  refine ⟨p', h1, h.push ht (.inr hk) hp hpg hn ⟨k', hk5, by rw [← hzs, e2]⟩ h1 hnx hlen ?_ (fun z' r' _ h5 => by rw [hz] at h5; cases h5; exact hzp) ?_⟩
  · intro t' hte ht' y hy he
    exact hte (h.one t' x.t y z ht' ht hy hzm.1 (by rw [he, hzp, hpg]))
  · have hs : stk (ofM l x.t ++ [x]) = r := by
      rw [stk_snoc]; unfold stepS; rw [if_neg (by omega), if_pos hk, hz]; rfl
    rw [hs]
    exact ⟨h2, h3⟩
/-- An entry that ends a transaction, after which the pages have what is committed. -/
theorem LI.close (h : LI l P) (hg : goodM x = true) (hk : x.kind = 3 ∨ x.kind = 4) (hpg : x.page = 0) (hsl : x.slot = 0) (hlen : x.lsn ≤ l.length + 1)
    (hf : ∀ (m : Nat) q, P[m]? = some ((m : Int), q) → (∃ y ∈ ofM l x.t, y.page = (m : Int)) → ∀ k, cont q k = wantS (foldP (l ++ [x])) m k)
    (hm : ∀ m : Nat, (∀ y ∈ ofM l x.t, y.page ≠ (m : Int)) → ∀ k, foldP (l ++ [x]) m k = foldP l m k) (ht : endM l x.t = false) : LI (l ++ [x]) P := by
  have hend : ∀ t', endM (l ++ [x]) t' = false → endM l t' = false ∧ t' ≠ x.t := by
    intro t' ht'
    rw [endM_snoc, Bool.or_eq_false_iff] at ht'
    refine ⟨ht'.1, fun e => ?_⟩
    have h2 := ht'.2
    rw [hg, e] at h2
    have : isEndM x = true := by unfold isEndM; rcases hk with h | h <;> rw [h] <;> rfl
    rw [this] at h2
    simp at h2
  have hof : ∀ t', t' ≠ x.t → ofM (l ++ [x]) t' = ofM l t' := fun t' ht' => by rw [ofM_snoc2 l t' hg, if_neg (fun e => ht' e.symm)]
  have hlen1 : (l ++ [x]).length = l.length + 1 := by simp
  refine ⟨?_, h.len, ?_, ?_, ?_, ?_, ?_, ?_⟩
  · intro y hy
    rcases List.mem_append.1 hy with hy | hy
    · exact h.ok y hy
    · rw [List.mem_singleton.1 hy]
      exact ⟨hg, 0, 0, by omega, by omega, hpg, hsl⟩
  · intro m hm
    obtain ⟨q, h1, h2, h3⟩ := h.pg m hm
    exact ⟨q, h1, h2, by rw [hlen1]; push_cast; omega⟩
  · intro y hy
    rw [hlen1]
    rcases List.mem_append.1 hy with hy | hy
    · have := h.lsn y hy; push_cast; omega
    · rw [List.mem_singleton.1 hy]; push_cast; omega
  · intro t' ht'
    obtain ⟨h1, h2⟩ := hend t' ht'
    rw [hof t' h2]
    exact h.st t' h1
  · intro t1 t2 y1 y2 h1 h2 m1 m2 he
    obtain ⟨a1, a2⟩ := hend t1 h1
    obtain ⟨b1, b2⟩ := hend t2 h2
    rw [hof t1 a2] at m1
    rw [hof t2 b2] at m2
    exact h.one t1 t2 y1 y2 a1 b1 m1 m2 he
  · intro m q hq hfr k
    by_cases hex : ∃ y ∈ ofM l x.t, y.page = (m : Int)
    · exact hf m q hq hex k
    · have hno : ∀ y ∈ ofM l x.t, y.page ≠ (m : Int) := fun y h1 h2 => hex ⟨y, h1, h2⟩
      rw [wantS_congr (fun j => hm m hno j) k]
      refine h.free m q hq (fun t' ht' y hy => ?_) k
      by_cases hte : t' = x.t
      · exact hno y (hte ▸ hy)
      · refine hfr t' ?_ y (by rw [hof t' hte]; exact hy)
        rw [endM_snoc, ht', decide_eq_false (fun e => hte (Eq.symm e))]
        simp
  · intro t' m q ht' hq hex
    obtain ⟨a1, a2⟩ := hend t' ht'
    rw [hof t' a2] at hex ⊢
    obtain ⟨y, hy, hym⟩ := hex
    have hno : ∀ z ∈ ofM l x.t, z.page ≠ (m : Int) := fun z h1 h2 => a2 (h.one t' x.t y z a1 ht hy h1 (by rw [hym, h2]))
    obtain ⟨b1, b2, b3⟩ := h.held t' m q a1 hq ⟨y, hy, hym⟩
    have hw : wantS (foldP (l ++ [x])) m = wantS (foldP l) m := funext (wantS_congr (fun j => hm m hno j))
    rw [hw]
    refine ⟨b1, b2, fun k => ?_⟩
    rw [b3 k, innerG_snoc, if_neg (fun e => a2 e.symm)]
    exact (wantS_congr (fun j => innerG_row t' m l _ _ (fun i => hm m hno i) j) k).symm
theorem LI.com (h : LI l P) (hg : goodM x = true) (hk : x.kind = 3) (hpg : x.page = 0) (hsl : x.slot = 0) (hlen : x.lsn ≤ l.length + 1) (ht : endM l x.t = false) : LI (l ++ [x]) P := by
  have hfold : foldP (l ++ [x]) = innerG x.t l (foldP l) := by rw [foldP_snoc, if_pos hk]
  refine h.close hg (.inl hk) hpg hsl hlen (fun m q hq hex k => ?_) (fun m hno k => ?_) ht
  · rw [hfold]
    exact (h.held x.t m q ht hq hex).2.2 k
  · rw [hfold]
    refine innerG_none x.t m l _ (fun y hy he e => ?_) k
    obtain ⟨hgy, n', k', _, _, e1, _⟩ := h.ok y hy
    exact hno y (mem_ofM.2 ⟨hy, he, hgy⟩) (by omega)
theorem LI.fin (h : LI l P) (hg : goodM x = true) (hk : x.kind = 4) (hpg : x.page = 0) (hsl : x.slot = 0) (hlen : x.lsn ≤ l.length + 1) (ht : endM l x.t = false) (hs : stk (ofM l x.t) = []) : LI (l ++ [x]) P := by
  have hfold : foldP (l ++ [x]) = foldP l := by rw [foldP_snoc, if_neg (by omega)]
  refine h.close hg (.inr hk) hpg hsl hlen (fun m q hq hex k => ?_) (fun m hno k => by rw [hfold]) ht
  rw [hfold]
  have := (h.held x.t m q ht hq hex).2.1 k
  rw [hs] at this
  exact this
end
end Go.Proofs.YtficgjklagnbjaaGreat
namespace Go.Proofs.YtficgjklagnbjaaGreat
open Go Go.MapKept Go.RowKit Go.Proofs

/-- Four good pages, by number. -/
def Pgs (P : List Lf) : Prop := P.length = 4 ∧ ∀ n : Nat, n < 4 → ∃ p, P[n]? = some ((n : Int), p) ∧ goodP p = true
theorem LI.pgs {l : List En} {P : List Lf} (h : LI l P) : Pgs P := ⟨h.len, fun n hn => by obtain ⟨p, h1, h2, _⟩ := h.pg n hn; exact ⟨p, h1, h2⟩⟩
theorem Pgs.form {P : List Lf} (h : Pgs P) : ∃ a b c d, P = [((0 : Int), a), (1, b), (2, c), (3, d)] ∧ goodP a = true ∧ goodP b = true ∧ goodP c = true ∧ goodP d = true := by
  obtain ⟨hl, hp⟩ := h
  obtain ⟨a, ha, ga⟩ := hp 0 (by omega)
  obtain ⟨b, hb, gb⟩ := hp 1 (by omega)
  obtain ⟨c, hc, gc⟩ := hp 2 (by omega)
  obtain ⟨d, hd, gd⟩ := hp 3 (by omega)
  refine ⟨a, b, c, d, ?_, ga, gb, gc, gd⟩
  refine List.ext_getElem? (fun i => ?_)
  have h4 : i = 0 ∨ i = 1 ∨ i = 2 ∨ i = 3 ∨ 4 ≤ i := by omega
  rcases h4 with rfl | rfl | rfl | rfl | h4
  · exact ha
  · exact hb
  · exact hc
  · exact hd
  · rw [List.getElem?_eq_none (by omega), List.getElem?_eq_none (by simpa using h4)]
theorem Pgs.are {P : List Lf} (h : Pgs P) : arePM [] P = true := by
  obtain ⟨a, b, c, d, rfl, ga, gb, gc, gd⟩ := h.form
  simp [arePM, ga, gb, gc, gd]
theorem Pgs.idx {P : List Lf} (h : Pgs P) {n : Nat} (hn : n < 4) : idxF (atN (n : Int)) P = n := by
  obtain ⟨p, hp, _⟩ := h.2 n hn
  refine idxF_found hp (by simp [atN]) (fun i y hi hy => ?_)
  obtain ⟨q, hq, _⟩ := h.2 i (by omega)
  rw [hq] at hy
  cases hy
  simp [atN]; omega
theorem Pgs.fit {l : List En} {P : List Lf} (h : Pgs P) (hl : ∀ x ∈ l, goodM x = true ∧ ∃ n k : Nat, n < 4 ∧ k < 5 ∧ x.page = n ∧ x.slot = k) : fitM l P = true := by
  unfold fitM
  rw [h.are, Bool.true_and, Bool.not_eq_true', List.any_eq_false]
  intro x hx
  obtain ⟨hg, n, k, hn, _, e, _⟩ := hl x hx
  unfold oddE
  rw [hg, e, h.idx hn]
  simp
theorem Pgs.set {P : List Lf} {n : Nat} {p : Pg} (h : Pgs P) (hn : n < 4) (hg : goodP p = true) : Pgs (P.set n ((n : Int), p)) := by
  refine ⟨by rw [List.length_set]; exact h.1, fun m hm => ?_⟩
  by_cases hmn : m = n
  · subst hmn
    exact ⟨p, List.getElem?_set_self (by rw [h.1]; exact hn), hg⟩
  · obtain ⟨q, h1, h2⟩ := h.2 m hm
    exact ⟨q, by rw [List.getElem?_set_ne (fun e => hmn e.symm)]; exact h1, h2⟩
def StepP (P : List Lf) (x : En) (P' : List Lf) : Prop := if chgM x = true then ∃ (n : Nat) (p p' : Pg), n < 4 ∧ x.page = n ∧ P[n]? = some ((n : Int), p) ∧ redoM p x = (p', true, 0) ∧ P' = P.set n ((n : Int), p') else P' = P
/-- The pages behind each entry of a log. -/
structure Hist (l : List En) (A : List (List Lf)) : Prop where
  len : A.length = l.length + 1
  pgs : ∀ P ∈ A, Pgs P
  good : ∀ x ∈ l, goodM x = true
  step : ∀ (i : Nat) x P P', l[i]? = some x → A[i]? = some P → A[i + 1]? = some P' → StepP P x P'
  lis : ∀ (i : Nat) P, A[i]? = some P → LI (l.take i) P
theorem Hist.snoc {l : List En} {A : List (List Lf)} {P P' : List Lf} {x : En} (h : Hist l A) (hl : A[l.length]? = some P) (hs : StepP P x P') (hg : goodM x = true) (hli : LI (l ++ [x]) P') : Hist (l ++ [x]) (A ++ [P']) := by
  have hp := hli.pgs
  refine ⟨by simp [h.len], ?_, ?_, ?_, ?_⟩
  · intro Q hQ
    rcases List.mem_append.1 hQ with hQ | hQ
    · exact h.pgs Q hQ
    · rw [List.mem_singleton.1 hQ]; exact hp
  · intro y hy
    rcases List.mem_append.1 hy with hy | hy
    · exact h.good y hy
    · rw [List.mem_singleton.1 hy]; exact hg
  · intro i y Q Q' hy h1 h2
    have hil : i < l.length + 1 := by have := (List.getElem?_eq_some_iff.1 hy).1; simpa using this
    rw [List.getElem?_append_left (by rw [h.len]; exact hil)] at h1
    by_cases hi : i < l.length
    · rw [List.getElem?_append_left hi] at hy
      rw [List.getElem?_append_left (by rw [h.len]; omega)] at h2
      exact h.step i y Q Q' hy h1 h2
    · have hi2 : i = l.length := by omega
      subst hi2
      rw [List.getElem?_append_right (Nat.le_refl _)] at hy
      rw [List.getElem?_append_right (by rw [h.len]; omega), h.len] at h2
      simp only [Nat.sub_self, List.getElem?_cons_zero, Option.some.injEq] at hy h2
      rw [hl] at h1
      cases h1
      rw [← hy, ← h2]; exact hs
  · intro i Q hQ
    by_cases hi : i < A.length
    · rw [List.getElem?_append_left hi] at hQ
      rw [List.take_append_of_le_length (by rw [h.len] at hi; omega)]
      exact h.lis i Q hQ
    · have hi2 : i = A.length := by
        have := (List.getElem?_eq_some_iff.1 hQ).1
        simp only [List.length_append, List.length_singleton] at this
        omega
      subst hi2
      rw [List.getElem?_append_right (Nat.le_refl _)] at hQ
      simp only [Nat.sub_self, List.getElem?_cons_zero, Option.some.injEq] at hQ
      rw [← hQ, List.take_of_length_le (by rw [h.len]; simp)]
      exact hli
/-- A page of a version. -/
def verP (A : List (List Lf)) (i n : Nat) : Pg := pgAt ((A[i]?).getD []) n
section
variable {l : List En} {A : List (List Lf)} {n : Nat}
theorem Hist.at (h : Hist l A) {i : Nat} (hi : i ≤ l.length) : ∃ P, A[i]? = some P ∧ Pgs P := by
  have hl : i < A.length := by rw [h.len]; omega
  exact ⟨A[i], List.getElem?_eq_getElem hl, h.pgs _ (List.getElem_mem hl)⟩
theorem Hist.ver (h : Hist l A) (hn : n < 4) {i : Nat} (hi : i ≤ l.length) {P : List Lf} (hP : A[i]? = some P) : P[n]? = some ((n : Int), verP A i n) ∧ goodP (verP A i n) = true := by
  obtain ⟨Q, hQ, hq⟩ := h.at hi
  rw [hP] at hQ
  cases hQ
  obtain ⟨p, h1, h2⟩ := hq.2 n hn
  have : verP A i n = p := by unfold verP pgAt; rw [hP, Option.getD_some, h1]
  rw [this]
  exact ⟨h1, h2⟩
/-- One step on one page. -/
theorem Hist.one (h : Hist l A) (hn : n < 4) {i : Nat} {x : En} (hx : l[i]? = some x) :
    (chgM x = true ∧ x.page = (n : Int) ∧ redoM (verP A i n) x = (verP A (i + 1) n, true, 0)) ∨ ((chgM x = false ∨ x.page ≠ (n : Int)) ∧ verP A (i + 1) n = verP A i n) := by
  have hi := (List.getElem?_eq_some_iff.1 hx).1
  obtain ⟨P, hP, hp⟩ := h.at (i := i) (by omega)
  obtain ⟨P', hP', hp'⟩ := h.at (i := i + 1) (by omega)
  have hs := h.step i x P P' hx hP hP'
  obtain ⟨a1, _⟩ := h.ver hn (by omega) hP
  obtain ⟨b1, _⟩ := h.ver hn (by omega) hP'
  unfold StepP at hs
  split at hs
  · rename_i hc
    obtain ⟨m, p, p', hm, he, h1, h2, h3⟩ := hs
    by_cases hmn : m = n
    · subst hmn
      rw [a1] at h1
      simp only [Option.some.injEq, Prod.mk.injEq, true_and] at h1
      rw [h3, List.getElem?_set_self (by rw [hp.1]; exact hm)] at b1
      simp only [Option.some.injEq, Prod.mk.injEq, true_and] at b1
      exact .inl ⟨hc, he, by rw [h1, ← b1]; exact h2⟩
    · refine .inr ⟨.inr (by rw [he]; omega), ?_⟩
      rw [h3, List.getElem?_set_ne hmn, a1] at b1
      simp only [Option.some.injEq, Prod.mk.injEq, true_and] at b1
      exact b1.symm
  · rename_i hc
    refine .inr ⟨.inl (by simpa using hc), ?_⟩
    rw [hs, a1] at b1
    simp only [Option.some.injEq, Prod.mk.injEq, true_and] at b1
    exact b1.symm
theorem Hist.mono (h : Hist l A) (hn : n < 4) {i : Nat} : ∀ (d : Nat), i + d ≤ l.length → (verP A i n).lsn ≤ (verP A (i + d) n).lsn
  | 0, _ => Int.le_refl _
  | d + 1, hd => by
    have h1 := h.mono hn (i := i) d (by omega)
    obtain ⟨x, hx⟩ : ∃ x, l[i + d]? = some x := ⟨_, List.getElem?_eq_getElem (by omega)⟩
    rcases h.one hn hx with ⟨_, _, hr⟩ | ⟨_, he⟩
    · have hrc := redo_cont (p := verP A (i + d) n) (y := x) (by rw [hr]) (by rw [hr])
      rw [hr] at hrc
      have h5 := hrc.2.2.2.2.1
      have h6 := hrc.2.2.2.2.2.1
      simp only at h6
      have : (verP A (i + (d + 1)) n) = verP A (i + d + 1) n := rfl
      rw [this]
      omega
    · have : (verP A (i + (d + 1)) n) = verP A (i + d + 1) n := rfl
      rw [this, he]; exact h1
theorem Hist.allM (h : Hist l A) (hn : n < 4) {v k : Nat} (hv : v ≤ k) (hk : k ≤ l.length) : ∀ (d i : Nat), i + d = k → allM (n : Int) ((l.take k).drop i) (verP A (max i v) n) = (verP A k n, 0)
  | 0, i, hi => by
    rw [List.drop_of_length_le (by rw [List.length_take]; omega)]
    have : max i v = k := by omega
    rw [this]; rfl
  | d + 1, i, hi => by
    obtain ⟨x, hx⟩ : ∃ x, l[i]? = some x := ⟨_, List.getElem?_eq_getElem (by omega)⟩
    have hx2 : (l.take k)[i]? = some x := by rw [List.getElem?_take_of_lt (by omega)]; exact hx
    have hlt : i < (l.take k).length := (List.getElem?_eq_some_iff.1 hx2).1
    have ih := h.allM hn hv hk d (i + 1) (by omega)
    rw [List.drop_eq_getElem_cons hlt, (List.getElem?_eq_some_iff.1 hx2).2]
    unfold Go.Proofs.YtficgjklagnbjaaGreat.allM
    rcases h.one hn hx with ⟨hc, he, hr⟩ | ⟨hc, he⟩
    · rw [if_neg (by simp [hc, he])]
      by_cases hvi : v ≤ i
      · have e1 : max i v = i := by omega
        have e2 : max (i + 1) v = i + 1 := by omega
        rw [e1, hr]
        rw [e2] at ih
        simp only [ne_eq, not_true_eq_false, if_false]
        exact ih
      · have e1 : max i v = v := by omega
        have e2 : max (i + 1) v = v := by omega
        rw [e1]
        rw [e2] at ih
        have hrc := redo_cont (p := verP A i n) (y := x) (by rw [hr]) (by rw [hr])
        rw [hr] at hrc
        obtain ⟨P, hP, _⟩ := h.at (i := v) (by omega)
        have hgv := (h.ver hn (by omega) hP).2
        have hmo := h.mono hn (i := i + 1) (v - (i + 1)) (by omega)
        rw [show i + 1 + (v - (i + 1)) = v from by omega] at hmo
        have h6 := hrc.2.2.2.2.2.1
        simp only at h6
        have hrv : redoM (verP A v n) x = (verP A v n, false, 0) := by
          unfold redoM
          rw [if_neg (by simp [hgv, hrc.2.1, hc]), if_pos (by omega)]
        rw [hrv]
        simp only [ne_eq, not_true_eq_false, if_false]
        exact ih
    · rw [if_pos (by rcases hc with hc | hc <;> simp [hc])]
      by_cases hvi : v ≤ i
      · have e1 : max i v = i := by omega
        have e2 : max (i + 1) v = i + 1 := by omega
        rw [e1, ← he]
        rw [e2] at ih
        exact ih
      · have e1 : max i v = v := by omega
        have e2 : max (i + 1) v = v := by omega
        rw [e1]
        rw [e2] at ih
        exact ih
end
theorem goL_all (l : List En) : ∀ (Q out : List Lf), (∀ p ∈ Q, (patchM p.2 p.1 l).2 = 0) → goL l out Q = (out ++ Q.map (fun p => (p.1, (patchM p.2 p.1 l).1)), 0)
  | [], out, _ => by simp [goL]
  | p :: r, out, h => by
    unfold goL
    rw [if_neg (by simp [h p (.head _)]), goL_all l r _ (fun q hq => h q (List.mem_cons_of_mem _ hq))]
    simp
/-- Redone from any versions that are not ahead. -/
theorem Hist.redo {l : List En} {A : List (List Lf)} (h : Hist l A) (hok : ∀ x ∈ l, goodM x = true ∧ ∃ n k : Nat, n < 4 ∧ k < 5 ∧ x.page = n ∧ x.slot = k) {k : Nat} (hk : k ≤ l.length) {P Q : List Lf} (hP : A[k]? = some P) (hQ : Q.length = 4) {v : Nat → Nat}
    (hv : ∀ n : Nat, n < 4 → v n ≤ k ∧ Q[n]? = some ((n : Int), verP A (v n) n)) : redoL (l.take k) Q = (P, 0) := by
  have hpq : Pgs Q := ⟨hQ, fun n hn => by
    obtain ⟨a1, a2⟩ := hv n hn
    obtain ⟨R, hR, _⟩ := h.at (i := v n) (by omega)
    exact ⟨_, a2, (h.ver hn (by omega) hR).2⟩⟩
  have hpa : ∀ n : Nat, n < 4 → patchM (verP A (v n) n) (n : Int) (l.take k) = (verP A k n, 0) := by
    intro n hn
    obtain ⟨a1, a2⟩ := hv n hn
    obtain ⟨R, hR, _⟩ := h.at (i := v n) (by omega)
    have := h.allM hn (v := v n) (k := k) a1 hk k 0 (by omega)
    rw [List.drop_zero, Nat.max_eq_right (Nat.zero_le _)] at this
    unfold patchM
    rw [if_pos (h.ver hn (by omega) hR).2]
    exact this
  have hget : ∀ (i : Nat) p, Q[i]? = some p → i < 4 ∧ p = ((i : Int), verP A (v i) i) := by
    intro i p hp
    have hi := (List.getElem?_eq_some_iff.1 hp).1
    obtain ⟨_, a2⟩ := hv i (by omega)
    rw [hp] at a2
    exact ⟨by omega, Option.some.inj a2⟩
  unfold redoL
  rw [if_pos (hpq.fit (fun x hx => hok x (List.mem_of_mem_take hx))), goL_all _ _ _ (fun p hp => by
    obtain ⟨i, hi⟩ := List.getElem?_of_mem hp
    obtain ⟨h4, rfl⟩ := hget i p hi
    rw [hpa i h4])]
  rw [List.nil_append]
  congr 1
  refine List.ext_getElem? (fun i => ?_)
  rw [List.getElem?_map]
  by_cases h4 : i < 4
  · obtain ⟨_, a2⟩ := hv i h4
    rw [a2, Option.map_some, hpa i h4, (h.ver h4 hk hP).1]
  · rw [List.getElem?_eq_none (by omega), Option.map_none, List.getElem?_eq_none]
    obtain ⟨R, hR, hr⟩ := h.at hk
    rw [hP] at hR
    cases hR
    rw [hr.1]; omega
end Go.Proofs.YtficgjklagnbjaaGreat
namespace Go.Proofs.YtficgjklagnbjaaGreat
open Go Go.MapKept Go.RowKit Go.Proofs

/-- The undoing of z behind a log. -/
def turnY (z : En) (p : Pg) (last : Int) : En := turnE z (max last p.lsn + 1) last
theorem goodM_parts {x : En} (h : goodM x = true) : knownM x.t = true ∧ 1 ≤ x.lsn ∧ x.lsn ≤ 1099511627776 ∧ 0 ≤ x.prev ∧ x.prev ≤ x.lsn - 1 := by
  unfold goodM at h
  rw [Bool.and_eq_true] at h
  have h2 := h.1
  unfold headM withinM at h2
  simp only [Bool.and_eq_true, decide_eq_true_eq] at h2
  exact ⟨h2.1.1, h2.1.2.1, h2.1.2.2, h2.2.1, h2.2.2⟩
theorem goodM_turn {z : En} {lsn prev : Int} (h : goodM z = true) (hk : z.kind = 1) (h1 : prev < lsn) (h2 : lsn ≤ 1099511627776) (h3 : z.prev ≤ prev) : goodM (turnE z lsn prev) = true := by
  obtain ⟨a1, a2, a3, a4, a5⟩ := goodM_parts h
  have hc : changeM z = true := by
    unfold goodM at h
    rw [Bool.and_eq_true] at h
    have := h.2
    rw [if_pos hk, Bool.and_eq_true] at this
    exact this.1
  have hc2 : changeM (turnE z lsn prev) = true := by
    unfold changeM at hc ⊢
    simp only [Bool.and_eq_true] at hc ⊢
    exact ⟨⟨hc.1.1, hc.2⟩, hc.1.2⟩
  unfold goodM
  rw [hc2]
  unfold headM withinM
  show (knownM z.t && (decide (1 ≤ lsn) && decide (lsn ≤ 1099511627776)) && (decide (0 ≤ prev) && decide (prev ≤ lsn - 1)) && if (2 : Int) = 1 then _ else if (2 : Int) = 2 then true && (decide (0 ≤ z.prev) && decide (z.prev ≤ prev)) else _) = true
  rw [a1, if_neg (by decide), if_pos rfl]
  simp only [Bool.true_and, Bool.and_eq_true, decide_eq_true_eq]
  omega
section
variable {l : List En} {P : List Lf} {t : Tx} {z : En} {r : List En}
theorem LI.turn (h : LI l P) (hb : (l.length : Int) + 1 ≤ 1099511627776) (ht : endM l t = false) (hz : stk (ofM l t) = z :: r) :
    ∃ (n : Nat) (p p' : Pg), n < 4 ∧ z.page = (n : Int) ∧ P[n]? = some ((n : Int), p) ∧ goodP p = true ∧ turnM z (max (lastN (ofM l t)) p.lsn + 1) (lastN (ofM l t)) = (turnY z p (lastN (ofM l t)), 0) ∧ goodM (turnY z p (lastN (ofM l t))) = true ∧ z.t = t ∧ goodM z = true ∧
      redoM p (turnY z p (lastN (ofM l t))) = (p', true, 0) ∧ LI (l ++ [turnY z p (lastN (ofM l t))]) (P.set n ((n : Int), p')) ∧ max (lastN (ofM l t)) p.lsn + 1 ≤ l.length + 1 ∧ stk (ofM l t ++ [turnY z p (lastN (ofM l t))]) = r ∧ goodP p' = true ∧ z ∈ l := by
  have hzm := stk_mem (own := ofM l t) (x := z) (by rw [hz]; exact .head _)
  obtain ⟨hzl, hzt, hzg⟩ := mem_ofM.1 hzm.1
  obtain ⟨_, n, k, hn, hk, e1, e2⟩ := h.ok z hzl
  obtain ⟨p, hp, hgp, hpl⟩ := h.pg n hn
  have hch := h.st t ht
  have hzz := goodM_parts hzg
  have hzla := (hch.sorted.2 z hzm.1)
  have hla : lastN (ofM l t) ≤ l.length := by
    unfold lastN
    cases hl : (ofM l t).getLast? with
    | none => simp
    | some y => exact h.lsn y (mem_ofM.1 (List.mem_of_getLast? hl)).1
  have hgy : goodM (turnY z p (lastN (ofM l t))) = true := goodM_turn hzg hzm.2 (by omega) (by omega) (by omega)
  have hnx : Nx (ofM l t) (turnY z p (lastN (ofM l t))) := ⟨by show lastN (ofM l t) < max (lastN (ofM l t)) p.lsn + 1; omega, rfl, .inr ⟨rfl, z, r, hz, rfl⟩⟩
  obtain ⟨p', h1, h2⟩ := h.und (x := turnY z p (lastN (ofM l t))) (n := n) (p := p) (z := z) (r := r) (by show endM l z.t = false; rw [hzt]; exact ht) rfl (by show stk (ofM l z.t) = _; rw [hzt]; exact hz) rfl rfl rfl rfl hgy hp hgp e1 hn (by show p.lsn < max (lastN (ofM l t)) p.lsn + 1; omega) (by show Nx (ofM l z.t) _; rw [hzt]; exact hnx) (by show max (lastN (ofM l t)) p.lsn + 1 ≤ _; omega)
  refine ⟨n, p, p', hn, e1, hp, hgp, ?_, hgy, hzt, hzg, h1, h2, by omega, ?_, ?_, hzl⟩
  · unfold turnM
    rw [show turnE z (max (lastN (ofM l t)) p.lsn + 1) (lastN (ofM l t)) = turnY z p (lastN (ofM l t)) from rfl, if_neg (by simp [hzg, hgy, hzm.2])]
  · rw [stk_snoc]; unfold stepS
    rw [if_neg (show ¬ (turnY z p (lastN (ofM l t))).kind = 1 from (show ¬ (2 : Int) = 1 by decide)), if_pos (show (turnY z p (lastN (ofM l t))).kind = 2 from rfl), hz]; rfl
  · have := redo_cont (p := p) (y := turnY z p (lastN (ofM l t))) (by rw [h1]) (by rw [h1])
    rw [h1] at this
    exact this.2.2.2.1
/-- A step of a recovery: a change undone, or a transaction ended. -/
structure UStep (l : List En) (P : List Lf) (y : En) (P' : List Lf) : Prop where
  li : LI l P
  st : StepP P y P'
  good : goodM y = true
  li2 : LI (l ++ [y]) P'
  kind : y.kind = 2 ∨ y.kind = 4
  opn : endM l y.t = false
  own : ofM l y.t ≠ []
  prev : y.prev = lastN (ofM l y.t)
  lsn : lastN (ofM l y.t) < y.lsn
theorem undo_ok (h : LI l P) (hb : (l.length : Int) + 1 ≤ 1099511627776) (ht : endM l t = false) (hz : stk (ofM l t) = z :: r) :
    ∃ y P', undoM l P z = (l ++ [y], P', 0) ∧ UStep l P y P' ∧ y.t = t ∧ y.kind = 2 ∧ stk (ofM l t ++ [y]) = r := by
  obtain ⟨n, p, p', hn, e1, hp, hgp, htm, hgy, hzt, hzg, hr, hli, hle, hst, hgp', hzl⟩ := h.turn hb ht hz
  have hla : lastL l z.t = lastN (ofM l t) := by rw [hzt]; rfl
  have hidx : (idxF (atN z.page) P).toNat = n := by rw [e1, h.pgs.idx hn]; rfl
  have hzm := stk_mem (own := ofM l t) (x := z) (by rw [hz]; exact .head _)
  refine ⟨turnY z p (lastN (ofM l t)), P.set n ((n : Int), p'), ?_, ⟨h, ?_, hgy, hli, .inl rfl, ?_, ?_, ?_, ?_⟩, hzt, rfl, hst⟩
  · unfold undoM
    rw [hidx, hp]
    simp only
    rw [hla, if_neg (by omega), htm]
    simp only [ne_eq, not_true_eq_false, if_false]
    rw [hr]
    simp
  · unfold StepP
    rw [if_pos (chg_chgM (.inr rfl))]
    exact ⟨n, p, p', hn, e1, hp, hr, rfl⟩
  · show endM l z.t = false
    rw [hzt]; exact ht
  · show ofM l z.t ≠ []
    rw [hzt]; exact List.ne_nil_of_mem hzm.1
  · show lastN (ofM l t) = lastN (ofM l z.t)
    rw [hzt]
  · show lastN (ofM l z.t) < max (lastN (ofM l t)) p.lsn + 1
    rw [hzt]; omega
theorem end_ok (h : LI l P) (hb : (l.length : Int) + 1 ≤ 1099511627776) (ht : endM l t = false) (ho : ofM l t ≠ []) (hz : stk (ofM l t) = []) : UStep l P (endE t (lastN (ofM l t))) P ∧ lastN (ofM l t) ≤ l.length := by
  have hla : lastN (ofM l t) ≤ l.length ∧ 0 < lastN (ofM l t) ∧ knownM t = true := by
    unfold lastN
    cases hl : (ofM l t).getLast? with
    | none => exact absurd (List.getLast?_eq_none_iff.1 hl) ho
    | some y =>
      have hm := mem_ofM.1 (List.mem_of_getLast? hl)
      have := goodM_parts hm.2.2
      exact ⟨h.lsn y hm.1, by simp only; omega, by rw [← hm.2.1]; exact this.1⟩
  have hg : goodM (endE t (lastN (ofM l t))) = true := by
    unfold goodM headM withinM
    show (knownM t && (decide (1 ≤ lastN (ofM l t) + 1) && decide (lastN (ofM l t) + 1 ≤ 1099511627776)) && (decide (0 ≤ lastN (ofM l t)) && decide (lastN (ofM l t) ≤ lastN (ofM l t) + 1 - 1)) && if (4 : Int) = 1 then _ else if (4 : Int) = 2 then _ else if (4 : Int) = 3 ∨ (4 : Int) = 4 then bareM (endE t (lastN (ofM l t))) else false) = true
    rw [hla.2.2, if_neg (by decide), if_neg (by decide), if_pos (by decide)]
    have hbare : bareM (endE t (lastN (ofM l t))) = true := by
      have h0 : (⟨#[]⟩ : ByteArray).toList = [] := by unfold ByteArray.toList; unfold ByteArray.toList.loop; rfl
      simp [bareM, endE, h0]
    rw [hbare]
    simp only [Bool.true_and, Bool.and_true, Bool.and_eq_true, decide_eq_true_eq]
    omega
  refine ⟨⟨h, ?_, hg, ?_, .inr rfl, ht, ho, rfl, ?_⟩, hla.1⟩
  · unfold StepP
    rw [if_neg (by simp [chgM, endE])]
  · exact h.fin hg rfl rfl rfl (by show lastN (ofM l t) + 1 ≤ _; omega) ht hz
  · show lastN (ofM l t) < lastN (ofM l t) + 1
    omega
end
inductive Rc : List En → List Lf → List En → List (List Lf) → Prop
  | nil (l P) : Rc l P [] []
  | cons {l P y P' add V} (h : UStep l P y P') (r : Rc (l ++ [y]) P' add V) : Rc l P (y :: add) (P' :: V)
end Go.Proofs.YtficgjklagnbjaaGreat
namespace Go.Proofs.YtficgjklagnbjaaGreat
open Go Go.MapKept Go.RowKit Go.Proofs

theorem idxF_mem {α : Type} {Q : α → Bool} {l : List α} {x : α} (hx : x ∈ l) (hq : Q x = true) : 0 ≤ idxF Q l := by
  unfold idxF
  cases h : l.findIdx? Q with
  | some i => simp
  | none =>
    rw [List.findIdx?_eq_none_iff] at h
    rw [h x hx] at hq
    cases hq
theorem sameE_self (z : En) : sameE z z = true := by simp [sameE]
theorem pickG_spec {l : List En} : ∀ (L : List (Tx × Int)) (b : En) (k : Int), -1 ≤ k → (∀ q ∈ L, nextM (ofM l q.1) = headN (stk (ofM l q.1))) → (∀ q ∈ L, ∀ z r, stk (ofM l q.1) = z :: r → z ∈ l) →
    (pickG l b k L).2.2 = 0 ∧ ((pickG l b k L).2.1 = true → ((pickG l b k L).1 = b ∧ 0 ≤ k) ∨ ∃ q ∈ L, ∃ z r, stk (ofM l q.1) = z :: r ∧ (pickG l b k L).1 = z) ∧ ((pickG l b k L).2.1 = false → k < 0 ∧ ∀ q ∈ L, stk (ofM l q.1) = [])
  | [], b, k, hk, _, _ => by
    refine ⟨rfl, fun h => .inl ⟨rfl, ?_⟩, fun h => ⟨?_, fun q hq => by cases hq⟩⟩
    · simpa [pickG] using h
    · have : decide (0 ≤ k) = false := h
      simpa using this
  | q :: r, b, k, hk, hn, hm => by
    have h1 := hn q (.head _)
    have hn' : ∀ q ∈ r, nextM (ofM l q.1) = headN (stk (ofM l q.1)) := fun q hq => hn q (List.mem_cons_of_mem _ hq)
    have hm' : ∀ q ∈ r, ∀ z s, stk (ofM l q.1) = z :: s → z ∈ l := fun q hq => hm q (List.mem_cons_of_mem _ hq)
    cases hs : stk (ofM l q.1) with
    | nil =>
      rw [hs] at h1
      have e : pickG l b k (q :: r) = pickG l b k r := by
        show (if (nextM (ofM l q.1)).2.2 ≠ 0 then _ else _) = _
        rw [h1]; simp [headN]
      rw [e]
      obtain ⟨a1, a2, a3⟩ := pickG_spec r b k hk hn' hm'
      refine ⟨a1, fun h => ?_, fun h => ⟨(a3 h).1, fun q' hq' => ?_⟩⟩
      · rcases a2 h with a2 | ⟨q', b1, b2⟩
        · exact .inl a2
        · exact .inr ⟨q', List.mem_cons_of_mem _ b1, b2⟩
      · rcases List.mem_cons.1 hq' with rfl | hq'
        · exact hs
        · exact (a3 h).2 q' hq'
    | cons z s =>
      rw [hs] at h1
      have hi : 0 ≤ idxF (sameE z) l := idxF_mem (hm q (.head _) z s hs) (sameE_self z)
      by_cases hlt : k < idxF (sameE z) l
      · have e : pickG l b k (q :: r) = pickG l z (idxF (sameE z) l) r := by
          show (if (nextM (ofM l q.1)).2.2 ≠ 0 then _ else _) = _
          rw [h1]; simp [headN, hlt]
        rw [e]
        obtain ⟨a1, a2, a3⟩ := pickG_spec r z (idxF (sameE z) l) (by omega) hn' hm'
        refine ⟨a1, fun h => .inr ?_, fun h => ?_⟩
        · rcases a2 h with a2 | ⟨q', b1, b2⟩
          · exact ⟨q, .head _, z, s, hs, a2.1⟩
          · exact ⟨q', List.mem_cons_of_mem _ b1, b2⟩
        · have := (a3 h).1; omega
      · have e : pickG l b k (q :: r) = pickG l b k r := by
          show (if (nextM (ofM l q.1)).2.2 ≠ 0 then _ else _) = _
          rw [h1]; simp [headN, hlt]
        rw [e]
        obtain ⟨a1, a2, a3⟩ := pickG_spec r b k hk hn' hm'
        refine ⟨a1, fun h => ?_, fun h => ?_⟩
        · rcases a2 h with a2 | ⟨q', b1, b2⟩
          · exact .inl a2
          · exact .inr ⟨q', List.mem_cons_of_mem _ b1, b2⟩
        · have := (a3 h).1; omega
def tot (l : List En) (L : List (Tx × Int)) : Nat := (L.map fun q => (stk (ofM l q.1)).length).sum
theorem sum_le {α : Type} {f g : α → Nat} : ∀ {L : List α}, (∀ q ∈ L, f q ≤ g q) → (L.map f).sum ≤ (L.map g).sum
  | [], _ => by simp
  | q :: r, h => by
    have h1 := h q (.head _)
    have h2 := sum_le (L := r) (fun q hq => h q (List.mem_cons_of_mem _ hq))
    simp only [List.map_cons, List.sum_cons]; omega
theorem sum_lt {α : Type} {f g : α → Nat} : ∀ {L : List α}, (∀ q ∈ L, f q ≤ g q) → (∃ q ∈ L, f q < g q) → (L.map f).sum < (L.map g).sum
  | [], _, h => by obtain ⟨q, h, _⟩ := h; cases h
  | q :: r, h, ⟨q', hm, hlt⟩ => by
    have h1 := h q (.head _)
    have h2 := sum_le (L := r) (fun q hq => h q (List.mem_cons_of_mem _ hq))
    simp only [List.map_cons, List.sum_cons]
    rcases List.mem_cons.1 hm with rfl | hm
    · omega
    · have h3 := sum_lt (L := r) (fun q hq => h q (List.mem_cons_of_mem _ hq)) ⟨q', hm, hlt⟩
      omega
def finP (P : List Lf) (V : List (List Lf)) : List Lf := (V.getLast?).getD P
theorem finP_cons (P P' : List Lf) (V : List (List Lf)) : finP P (P' :: V) = finP P' V := by
  unfold finP
  cases V with
  | nil => rfl
  | cons a b =>
    rw [List.getLast?_cons_cons]
    cases h : (a :: b).getLast? with
    | none => simp at h
    | some x => rfl
theorem UStep.other {l : List En} {P P' : List Lf} {y : En} (h : UStep l P y P') {t : Tx} (ht : y.t ≠ t) : ofM (l ++ [y]) t = ofM l t ∧ endM (l ++ [y]) t = endM l t := by
  refine ⟨by rw [ofM_snoc2 l t h.good, if_neg ht], ?_⟩
  rw [endM_snoc, decide_eq_false ht]; simp
theorem UStep.self {l : List En} {P P' : List Lf} {y : En} (h : UStep l P y P') : ofM (l ++ [y]) y.t = ofM l y.t ++ [y] := by
  rw [ofM_snoc2 l y.t h.good, if_pos rfl]
set_option maxRecDepth 100000 in
theorem ends_ok : ∀ (L : List (Tx × Int)) (l : List En) (P : List Lf), LI l P → (∀ q ∈ L, endM l q.1 = false ∧ ofM l q.1 ≠ [] ∧ stk (ofM l q.1) = []) → (L.map (·.1)).Nodup → (l.length : Int) + L.length ≤ 1099511627775 →
    ∃ add V, endsM l L = (l ++ add, 0) ∧ Rc l P add V ∧ finP P V = P ∧ (∀ y ∈ add, ∃ q ∈ L, y.t = q.1) ∧ (∀ q ∈ L, endM (l ++ add) q.1 = true) ∧ add.length = L.length := by
  intro L
  induction L with
  | nil => intro l P h _ _ _; exact ⟨[], [], by simp [endsM], .nil _ _, rfl, (fun y hy => by cases hy), (fun q hq => by cases hq), rfl⟩
  | cons q r ih =>
    intro l P h hq hn hb
    obtain ⟨q1, q2, q3⟩ := hq q (.head _)
    simp only [List.length_cons] at hb
    obtain ⟨hu, hla⟩ := end_ok h (by push_cast at hb; omega) q1 q2 q3
    rw [List.map_cons, List.nodup_cons] at hn
    have hne : ∀ q' ∈ r, (endE q.1 (lastN (ofM l q.1))).t ≠ q'.1 := fun q' hq' e => hn.1 (List.mem_map.2 ⟨q', hq', e.symm⟩)
    obtain ⟨add, V, a1, a2, a3, a4, a5, a6⟩ := ih (l ++ [endE q.1 (lastN (ofM l q.1))]) P hu.li2 (fun q' hq' => by
      obtain ⟨b1, b2, b3⟩ := hq q' (List.mem_cons_of_mem _ hq')
      obtain ⟨c1, c2⟩ := hu.other (hne q' hq')
      rw [c1, c2]; exact ⟨b1, b2, b3⟩) hn.2 (by rw [List.length_append]; push_cast at hb ⊢; simp; omega)
    refine ⟨endE q.1 (lastN (ofM l q.1)) :: add, P :: V, ?_, .cons hu a2, by rw [finP_cons]; exact a3, ?_, ?_, by simp [a6]⟩
    · show (if 1099511627776 ≤ lastL l q.1 then _ else _) = _
      rw [if_neg (by show ¬ 1099511627776 ≤ lastN (ofM l q.1); push_cast at hb; omega)]
      show endsM (l ++ [endE q.1 (lastN (ofM l q.1))]) r = _
      rw [a1]; simp
    · intro y hy
      rcases List.mem_cons.1 hy with rfl | hy
      · exact ⟨q, .head _, rfl⟩
      · obtain ⟨q', h1, h2⟩ := a4 y hy
        exact ⟨q', List.mem_cons_of_mem _ h1, h2⟩
    · intro q' hq'
      rcases List.mem_cons.1 hq' with rfl | hq'
      · unfold endM
        rw [List.any_eq_true]
        exact ⟨endE q'.1 (lastN (ofM l q'.1)), by simp, by rw [hu.good]; simp [isEndM, endE]⟩
      · have := a5 q' hq'
        rw [List.append_assoc] at this
        exact this
set_option maxRecDepth 100000 in
theorem all_ok (L : List (Tx × Int)) (hn : (L.map (·.1)).Nodup) : ∀ (f : Nat) (l : List En) (P : List Lf), LI l P → (∀ q ∈ L, endM l q.1 = false ∧ ofM l q.1 ≠ []) → tot l L < f → (l.length : Int) + f + L.length ≤ 1099511627775 →
    ∃ add V, allU L f l P = some (l ++ add, finP P V, 0) ∧ Rc l P add V ∧ (∀ y ∈ add, ∃ q ∈ L, y.t = q.1) ∧ (∀ q ∈ L, endM (l ++ add) q.1 = true) ∧ add.length ≤ tot l L + L.length := by
  intro f
  induction f with
  | zero => intro l P _ _ hf _; omega
  | succ f ih =>
    intro l P h hq hf hb
    obtain ⟨p1, p2, p3⟩ := pickG_spec (l := l) L zeroE (-1) (by omega) (fun q hm => nextM_stk (h.st q.1 (hq q hm).1)) (fun q hm z r hz => (mem_ofM.1 (stk_mem (own := ofM l q.1) (x := z) (by rw [hz]; exact .head _)).1).1)
    cases hp : (pickM l L).2.1 with
    | false =>
      obtain ⟨_, hs⟩ := p3 hp
      obtain ⟨add, V, a1, a2, a3, a4, a5, a6⟩ := ends_ok L l P h (fun q hm => ⟨(hq q hm).1, (hq q hm).2, hs q hm⟩) hn (by push_cast at hb; omega)
      refine ⟨add, V, ?_, a2, a4, a5, by omega⟩
      unfold allU
      rw [if_neg (by unfold pickM; rw [p1]; simp), if_pos hp, a1, a3]
    | true =>
      rcases p2 hp with ⟨_, hk⟩ | ⟨q, hm, z, r, hz, he⟩
      · omega
      obtain ⟨y, P', hu, hst, hyt, hyk, hstk⟩ := undo_ok h (by push_cast at hb; omega) (hq q hm).1 hz
      have hlt : tot (l ++ [y]) L < tot l L := by
        refine sum_lt (fun q' hq' => ?_) ⟨q, hm, ?_⟩
        · by_cases hte : y.t = q'.1
          · rw [← hte, hst.self, hyt, hstk, hz]; simp
          · rw [(hst.other hte).1]; exact Nat.le_refl _
        · show (stk (ofM (l ++ [y]) q.1)).length < _
          have e1 : ofM (l ++ [y]) q.1 = ofM l q.1 ++ [y] := by rw [← hyt]; exact hst.self
          rw [e1, hstk, hz]; simp
      obtain ⟨add, V, a1, a2, a4, a5, a6⟩ := ih (l ++ [y]) P' hst.li2 (fun q' hq' => by
        by_cases hte : y.t = q'.1
        · refine ⟨?_, ?_⟩
          · rw [endM_snoc, (hq q' hq').1, chg_end (.inr hyk)]; simp
          · rw [← hte, hst.self]; simp
        · obtain ⟨c1, c2⟩ := hst.other hte
          rw [c1, c2]; exact hq q' hq') (by omega) (by rw [List.length_append]; push_cast at hb ⊢; simp; omega)
      refine ⟨y :: add, P' :: V, ?_, .cons hst a2, ?_, ?_, by simp only [List.length_cons]; omega⟩
      · unfold allU
        have he2 : (pickM l L).1 = z := he
        rw [if_neg (by unfold pickM; rw [p1]; simp), if_neg (by rw [hp]; simp), he2, hu]
        simp only [ne_eq, not_true_eq_false, if_false]
        rw [a1, finP_cons]; simp
      · intro x hx
        rcases List.mem_cons.1 hx with rfl | hx
        · exact ⟨q, hm, hyt⟩
        · exact a4 x hx
      · intro q' hq'
        have := a5 q' hq'
        rw [List.append_assoc] at this
        exact this
end Go.Proofs.YtficgjklagnbjaaGreat
