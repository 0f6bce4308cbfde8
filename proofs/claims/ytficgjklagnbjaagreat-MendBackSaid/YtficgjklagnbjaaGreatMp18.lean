/- Undone down to an entry, in plain data. Conditions: none. -/
import Derived.Test.YtficgjklagnbjaaGreatMp17
namespace Go.Proofs.YtficgjklagnbjaaGreat
open Go Go.MapKept Go.RowKit Go.Proofs

theorem Fst_inj : ∀ {s : List En} {f g : Nat → Sl}, Fst f s → Fst g s → (∀ k, appF s f k = appF s g k) → ∀ k, f k = g k
  | [], _, _, _, _, h => h
  | x :: r, f, g, hf, hg, h => by
    refine Fst_inj hf.2.2 hg.2.2 (fun k => ?_)
    by_cases hk : k = x.slot.toNat
    · rw [hk, hf.1, hg.1]
    · have := h k
      simp only [appF, updX, hk, if_false] at this
      exact this
theorem Ch.below {own : List En} (h : Ch own) {z : En} (hz : z ∈ own) : z.prev < z.lsn := by
  obtain ⟨a, b, rfl⟩ := List.append_of_mem hz
  obtain ⟨h1, h2, _⟩ := h a z b rfl
  omega
/-- What is not undone of a beginning stays below, as long as nothing of it is undone. -/
theorem stk_keep {a : List En} : ∀ m : List En, Ch (a ++ m) → (∀ x ∈ m, x.kind = 2 → lastN a ≤ x.next) → ∃ s, stk (a ++ m) = s ++ stk a ∧ ∀ z ∈ s, lastN a < z.lsn := by
  refine rev_ind (fun _ _ => ⟨[], by rw [List.append_nil]; rfl, fun z hz => by cases hz⟩) (fun m x ih h hu => ?_)
  rw [← List.append_assoc] at h
  obtain ⟨s, hs, hb⟩ := ih h.pre (fun y hy => hu y (List.mem_append_left _ hy))
  obtain ⟨h1, h2, h3⟩ := h.last
  have hle : lastN a ≤ lastN (a ++ m) := by
    have hp := h.pre.sorted.2
    have h0 := h.pre.pre.sorted
    unfold lastN at hp ⊢
    cases ha : a.getLast? with
    | none =>
      simp only
      cases hm : (a ++ m).getLast? with
      | none => exact Int.le_refl _
      | some z => have := (hp z (List.mem_of_getLast? hm)).2; simp only; omega
    | some z =>
      have hz := hp z (List.mem_append_left _ (List.mem_of_getLast? ha))
      simp only
      exact hz.1
  rw [← List.append_assoc, stk_snoc, hs]
  rcases h3 with h3 | ⟨h3, z, r, hz, hn⟩
  · refine ⟨x :: s, ?_, fun z hz => ?_⟩
    · unfold stepS; rw [if_pos h3]; rfl
    · rcases List.mem_cons.1 hz with rfl | hz
      · omega
      · exact hb z hz
  · cases s with
    | nil =>
      exfalso
      rw [hs] at hz
      have hza : z ∈ a := (stk_mem (own := a) (x := z) (by rw [show stk a = z :: r from hz]; exact .head _)).1
      have h4 := h.pre.pre.below hza
      have h5 := (h.pre.pre.sorted.2 z hza).1
      have h6 := hu x (by simp) h3
      omega
    | cons y s =>
      refine ⟨s, ?_, fun z hz => hb z (List.mem_cons_of_mem _ hz)⟩
      unfold stepS
      rw [if_neg (by omega), if_pos h3]; rfl
section
variable {l : List En} {A : List (List Lf)}
/-- What others leave on a page that a transaction has changed stays as long as that goes on. -/
theorem Hist.still (h : Hist l A) {t : Tx} (ht : endM l t = false) {k n : Nat} (hn : n < 4) {x : En} (hx : x ∈ ofM (l.take k) t) (hxp : x.page = (n : Int)) : ∀ d, k + d ≤ l.length → ∀ j, wantS (foldP (l.take (k + d))) n j = wantS (foldP (l.take k)) n j
  | 0, _, j => rfl
  | d + 1, hd, j => by
    have ih := Hist.still h ht hn hx hxp d (by omega)
    obtain ⟨y, hy⟩ : ∃ y, l[k + d]? = some y := ⟨_, List.getElem?_eq_getElem (by omega)⟩
    have htk : l.take (k + (d + 1)) = l.take (k + d) ++ [y] := by rw [← Nat.add_assoc, List.take_add_one, hy]; rfl
    rw [← ih j]
    have hyg := h.good y (List.mem_of_getElem? hy)
    by_cases hk3 : y.kind = 3
    · obtain ⟨P, hP, _⟩ := h.at (i := k + d) (by omega)
      obtain ⟨P', hP', _⟩ := h.at (i := k + d + 1) (by omega)
      have hst := h.step (k + d) y P P' hy hP hP'
      unfold StepP at hst
      rw [if_neg (by unfold chgM; rw [hk3]; decide)] at hst
      subst hst
      have l1 := h.lis (k + d) P' hP
      have l2 := h.lis (k + d + 1) P' hP'
      have htk2 : l.take (k + d + 1) = l.take (k + d) ++ [y] := by rw [List.take_add_one, hy]; rfl
      have ho : ∀ m, endM (l.take m) t = false := fun m => by
        cases he : endM (l.take m) t with
        | false => rfl
        | true =>
          have := endM_mono (m := l.drop m) he
          rw [List.take_append_drop] at this
          rw [this] at ht; cases ht
      have hyt : y.t ≠ t := by
        intro e
        have := ho (k + d + 1)
        rw [htk2, endM_snoc, hyg, e] at this
        unfold isEndM at this
        rw [hk3] at this
        simp at this
      have ho2 : ofM (l.take (k + d + 1)) t = ofM (l.take (k + d)) t := by rw [htk2, ofM_snoc2 _ _ hyg, if_neg hyt]
      have hx1 : x ∈ ofM (l.take (k + d)) t := by
        obtain ⟨a1, a2, a3⟩ := mem_ofM.1 hx
        refine mem_ofM.2 ⟨?_, a2, a3⟩
        have : l.take (k + d) = l.take k ++ (l.drop k).take d := by rw [List.take_add]
        rw [this]; exact List.mem_append_left _ a1
      obtain ⟨p, hp, _⟩ := l1.pg n hn
      obtain ⟨f1, c1, _⟩ := l1.held t n p (ho _) hp ⟨x, hx1, hxp⟩
      obtain ⟨f2, c2, _⟩ := l2.held t n p (ho _) hp ⟨x, by rw [ho2]; exact hx1, hxp⟩
      rw [ho2] at f2 c2
      exact (Fst_inj f1 f2 (fun k => (c1 k).symm.trans (c2 k)) j).symm
    · rw [htk, foldP_snoc, if_neg hk3]
end
section
variable {i : Nat} {S : PS} {c : Nat}
/-- Undone down to an entry, a transaction's pages are as they were behind it. -/
theorem JS.down (h : JS i S) (hc : 1 ≤ c) (hc5 : c < 5) {k n : Nat} (hk : k ≤ S.list.length) (hn : n < 4) {P : List Lf} (hP : S.all[k]? = some P) (hs : stk (ofM S.list (S.t c)) = stk (ofM (S.list.take k) (S.t c))) {x : En} (hx : x ∈ ofM (S.list.take k) (S.t c)) (hxp : x.page = (n : Int)) (j : Nat) :
    atM (pgAt S.now n) j = atM (pgAt P n) j := by
  have hop := h.opn c hc hc5
  have l1 := h.hist.lis k P hP
  obtain ⟨p, hp, hg, _⟩ := l1.pg n hn
  obtain ⟨q, hq, hgq, _⟩ := h.li.pg n hn
  have e1 : pgAt P n = p := by unfold pgAt; rw [hp]
  have e2 : pgAt S.now n = q := by unfold pgAt; rw [hq]
  rw [e1, e2, atM_slot hg, atM_slot hgq]
  have ho : endM (S.list.take k) (S.t c) = false := by
    cases he : endM (S.list.take k) (S.t c) with
    | false => rfl
    | true =>
      have := endM_mono (m := S.list.drop k) he
      rw [List.take_append_drop] at this
      rw [this] at hop; cases hop
  have hx2 : x ∈ ofM S.list (S.t c) := by
    obtain ⟨a1, a2, a3⟩ := mem_ofM.1 hx
    exact mem_ofM.2 ⟨List.mem_of_mem_take a1, a2, a3⟩
  obtain ⟨_, c1, _⟩ := l1.held (S.t c) n p ho hp ⟨x, hx, hxp⟩
  obtain ⟨_, c2, _⟩ := h.li.held (S.t c) n q hop hq ⟨x, hx2, hxp⟩
  have hw : wantS (foldP S.list) n = wantS (foldP (S.list.take k)) n := by
    funext m
    have := h.hist.still hop hn hx hxp (S.list.length - k) (by omega) m
    rw [show k + (S.list.length - k) = S.list.length by omega, List.take_length] at this
    exact this
  rw [hs, hw] at c2
  exact (c2 j).trans (c1 j).symm
end
end Go.Proofs.YtficgjklagnbjaaGreat
