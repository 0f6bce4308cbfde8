/- Texts put together: Mp9, Mp10, Mp11, Mp12, Mp13. Conditions: none. -/
import Derived.Test.YtficgjklagnbjaaGreatFo22
import Derived.Test.YtficgjklagnbjaaGreatFo25
namespace Go.Proofs.YtficgjklagnbjaaGreat
open Go Go.MapKept Go.RowKit Go.Proofs

section
variable {l add : List En} {P : List Lf} {V : List (List Lf)}
theorem Rc.len (h : Rc l P add V) : V.length = add.length := by
  induction h with
  | nil => rfl
  | cons h r ih => simp [ih]
theorem Rc.li (h : Rc l P add V) : LI l P → LI (l ++ add) (finP P V) := by
  induction h with
  | nil l P => intro h; rw [List.append_nil]; exact h
  | cons h r ih =>
    intro _
    have := ih h.li2
    rw [finP_cons]
    rw [List.append_assoc] at this
    exact this
theorem Rc.fold (h : Rc l P add V) : foldP (l ++ add) = foldP l := by
  induction h with
  | nil l P => rw [List.append_nil]
  | @cons l P y P' add V h r ih =>
    rw [List.append_assoc] at ih
    have e : l ++ y :: add = l ++ ([y] ++ add) := rfl
    rw [e, ih, foldP_snoc, if_neg (by rcases h.kind with h | h <;> omega)]
theorem Rc.hist (h : Rc l P add V) : ∀ A, Hist l A → A[l.length]? = some P → Hist (l ++ add) (A ++ V) ∧ (A ++ V)[(l ++ add).length]? = some (finP P V) := by
  induction h with
  | nil l P => intro A h1 h2; rw [List.append_nil, List.append_nil]; exact ⟨h1, h2⟩
  | @cons l P y P' add V h r ih =>
    intro A h1 h2
    have h3 := h1.snoc h2 h.st h.good h.li2
    have h4 : (A ++ [P'])[(l ++ [y]).length]? = some P' := by
      rw [List.getElem?_append_right (by rw [h1.len]; simp), h1.len]; simp
    have := ih (A ++ [P']) h3 h4
    rw [finP_cons]
    rw [List.append_assoc, List.append_assoc] at this
    exact this
theorem Rc.take (h : Rc l P add V) : ∀ j, Rc l P (add.take j) (V.take j) := by
  induction h with
  | nil l P => intro j; rw [List.take_nil, List.take_nil]; exact .nil _ _
  | cons h r ih =>
    intro j
    cases j with
    | zero => exact .nil _ _
    | succ j => exact .cons h (ih j)
theorem Rc.at (h : Rc l P add V) : ∀ i y, add[i]? = some y → ∃ P1 P2, UStep (l ++ add.take i) P1 y P2 := by
  induction h with
  | nil l P => intro i y hy; simp at hy
  | @cons l P y P' add V h r ih =>
    intro i z hz
    cases i with
    | zero =>
      cases hz
      exact ⟨P, P', by rw [List.take_zero, List.append_nil]; exact h⟩
    | succ i =>
      obtain ⟨P1, P2, h1⟩ := ih i z hz
      refine ⟨P1, P2, ?_⟩
      rw [List.append_assoc] at h1
      exact h1
theorem Rc.other (h : Rc l P add V) {t : Tx} : (∀ y ∈ add, y.t ≠ t) → ofM (l ++ add) t = ofM l t ∧ endM (l ++ add) t = endM l t := by
  induction h with
  | nil l P => intro _; rw [List.append_nil]; exact ⟨rfl, rfl⟩
  | @cons l P y P' add V h r ih =>
    intro hy
    obtain ⟨a1, a2⟩ := ih (fun z hz => hy z (List.mem_cons_of_mem _ hz))
    obtain ⟨b1, b2⟩ := h.other (hy y (.head _))
    rw [List.append_assoc] at a1 a2
    exact ⟨a1.trans b1, a2.trans b2⟩
theorem endM_mono {m : List En} {t : Tx} (h : endM l t = true) : endM (l ++ m) t = true := by
  unfold endM at h ⊢
  rw [List.any_append, h]; rfl
theorem losers_len (l : List En) : (losersM l).length ≤ l.length := by
  rw [losersM_len]
  exact lastM_len l l
theorem losersM_nodup (l : List En) : ((losersM l).map (·.1)).Nodup := by
  have h := losers_strict l
  rw [List.nodup_iff_pairwise_ne, List.pairwise_map]
  refine h.imp (fun {a b} hab e => ?_)
  rw [e] at hab
  exact ltT_irr _ hab
theorem losersM_mem {t : Tx} : (∃ q ∈ losersM l, q.1 = t) ↔ endM l t = false ∧ ofM l t ≠ [] := by
  constructor
  · rintro ⟨⟨t', n⟩, hm, rfl⟩
    obtain ⟨h1, h2⟩ := (mem_losers l t' n).1 hm
    refine ⟨h1, fun e => ?_⟩
    unfold lastOf at h2
    rw [e] at h2
    cases h2
  · rintro ⟨h1, h2⟩
    obtain ⟨a, z, e⟩ : ∃ a z, ofM l t = a ++ [z] := by
      rcases List.eq_nil_or_concat (ofM l t) with h | ⟨a, z, h⟩
      · exact absurd h h2
      · exact ⟨a, z, by rw [h, List.concat_eq_append]⟩
    exact ⟨(t, z.lsn), (mem_losers l t z.lsn).2 ⟨h1, by unfold lastOf; rw [e]; simp⟩, rfl⟩
theorem stk_len : ∀ own : List En, (stk own).length ≤ own.length := by
  intro own
  induction own using rev_ind with
  | h0 => simp [stk]
  | h1 own x ih =>
    rw [stk_snoc]
    unfold stepS
    split
    · simp only [List.length_cons, List.length_append, List.length_nil]; omega
    · split
      · simp only [List.length_tail, List.length_append, List.length_cons, List.length_nil]; omega
      · simp only [List.length_append, List.length_cons, List.length_nil]; omega
theorem tot_le (l : List En) : ∀ L : List (Tx × Int), tot l L ≤ L.length * l.length
  | [] => by simp [tot]
  | q :: r => by
    have h1 := tot_le l r
    have h2 := stk_len (ofM l q.1)
    have h3 := ofM_len l q.1
    unfold tot at h1 ⊢
    rw [List.map_cons, List.sum_cons, List.length_cons, Nat.add_mul]
    omega
/-- A restart's steps: all that is not committed is undone and ended. -/
theorem LI.rest (h : LI l P) (hb : l.length ≤ 300) : ∃ add V, allU (losersM l) (tot l (losersM l) + 1) l P = some (l ++ add, finP P V, 0) ∧ Rc l P add V ∧ holdsP (finP P V) (foldP l) = true ∧ (∀ t, endM (l ++ add) t = true ∨ ofM (l ++ add) t = []) ∧
    (∀ y ∈ add, ∃ q ∈ losersM l, y.t = q.1) ∧ add.length ≤ tot l (losersM l) + (losersM l).length := by
  have h1 := losers_len l
  have h2 := tot_le l (losersM l)
  have h3 : (losersM l).length * l.length ≤ 300 * 300 := Nat.mul_le_mul (by omega) hb
  obtain ⟨add, V, a1, a2, a3, a4, a5⟩ := all_ok (losersM l) (losersM_nodup l) (tot l (losersM l) + 1) l P h (fun q hq => losersM_mem.1 ⟨q, hq, rfl⟩) (by omega) (by push_cast; omega)
  have hall : ∀ t, endM (l ++ add) t = true ∨ ofM (l ++ add) t = [] := by
    intro t
    by_cases hl : ∃ q ∈ losersM l, q.1 = t
    · obtain ⟨q, hq, rfl⟩ := hl
      exact .inl (a4 q hq)
    · obtain ⟨b1, b2⟩ := a2.other (t := t) (fun y hy e => by
        obtain ⟨q, hq, e2⟩ := a3 y hy
        exact hl ⟨q, hq, by rw [← e2, e]⟩)
      rw [b1, b2]
      cases he : endM l t with
      | true => exact .inl rfl
      | false =>
        right
        by_cases ho : ofM l t = []
        · exact ho
        · exact absurd (losersM_mem.2 ⟨he, ho⟩) hl
  refine ⟨add, V, a1, a2, ?_, hall, a3, a5⟩
  have hli := a2.li h
  have hf := a2.fold
  unfold holdsP
  rw [Bool.and_eq_true, decide_eq_true_eq, List.all_eq_true]
  refine ⟨hli.len, fun n hn => ?_⟩
  rw [List.all_eq_true]
  intro k hk
  rw [decide_eq_true_eq]
  obtain ⟨p, hp, hg, _⟩ := hli.pg n (List.mem_range.1 hn)
  have he : pgAt (finP P V) n = p := by unfold pgAt; rw [hp]
  rw [he, atM_slot hg, ← hf]
  refine hli.free n p hp (fun t ht x hx => ?_) k
  rcases hall t with h | h
  · rw [ht] at h; cases h
  · rw [h] at hx; cases hx
end
end Go.Proofs.YtficgjklagnbjaaGreat
namespace Go.Proofs.YtficgjklagnbjaaGreat
open Go Go.MapKept Go.RowKit Go.Proofs

/-- What is not undone of a client. -/
def PS.s (S : PS) (c : Nat) : List En := stk (ofM S.list (S.t c))
def PS.pot (S : PS) : Nat := (S.s 1).length + (S.s 2).length + (S.s 3).length + (S.s 4).length
/-- An entry more, and other owners. -/
def PS.pushO (S : PS) (y : En) (now' : List Lf) (ow' : Nat → Int) : PS := ⟨S.list ++ [y], now', S.all ++ [now'], ow', S.tx, upd S.la y.t.c.toNat y.lsn⟩
structure JS (i : Nat) (S : PS) : Prop where
  li : LI S.list S.now
  hist : Hist S.list S.all
  last : S.all[S.list.length]? = some S.now
  la1 : ∀ c, 1 ≤ c → c < 5 → S.la c = lastN (ofM S.list (S.t c))
  la0 : ∀ c, ¬ (1 ≤ c ∧ c < 5) → S.la c = 0
  tx : ∀ c, 0 ≤ S.tx c ∧ S.tx c ≤ i + 1
  own : ∀ x ∈ S.list, ∃ c : Nat, 1 ≤ c ∧ c < 5 ∧ x.t.c = (c : Int) ∧ x.t.n ≤ S.tx c ∧ (x.t = S.t c ∨ endM S.list x.t = true)
  opn : ∀ c, 1 ≤ c → c < 5 → endM S.list (S.t c) = false
  owb : ∀ n, 0 ≤ S.ow n ∧ S.ow n ≤ 4
  ow1 : ∀ c n : Nat, 1 ≤ c → c < 5 → n < 4 → (S.ow n = (c : Int) ↔ ∃ x ∈ ofM S.list (S.t c), x.page = (n : Int))
  pot : S.list.length + S.pot ≤ 2 * i
theorem t_ne {S : PS} {c d : Nat} (h : d ≠ c) : S.t d ≠ S.t c := by
  intro e
  have : (d : Int) = (c : Int) := congrArg Tx.c e
  omega
theorem lastN_bd {l : List En} {P : List Lf} (h : LI l P) (t : Tx) : 0 ≤ lastN (ofM l t) ∧ lastN (ofM l t) ≤ l.length := by
  unfold lastN
  cases hl : (ofM l t).getLast? with
  | none => exact ⟨Int.le_refl _, by simp⟩
  | some y =>
    have hm := mem_ofM.1 (List.mem_of_getLast? hl)
    have := goodM_parts hm.2.2
    exact ⟨by simp only; omega, h.lsn y hm.1⟩
section
variable {i : Nat} {S : PS} {c : Nat}
/-- Who has entries on a page that a client may change. -/
theorem JS.others (h : JS i S) (_hc : 1 ≤ c) (_hc5 : c < 5) {n : Nat} (hn : n < 4) (ho : S.ow n = 0 ∨ S.ow n = (c : Int)) : ∀ t', t' ≠ S.t c → endM S.list t' = false → ∀ y ∈ ofM S.list t', y.page ≠ (n : Int) := by
  intro t' hne ht' y hy hp
  obtain ⟨hyl, hyt, _⟩ := mem_ofM.1 hy
  obtain ⟨d, d1, d5, _, _, hd⟩ := h.own y hyl
  rcases hd with hd | hd
  · have he : t' = S.t d := hyt ▸ hd
    have := (h.ow1 d n d1 d5 hn).2 ⟨y, by rw [← he]; exact hy, hp⟩
    rcases ho with ho | ho
    · omega
    · have : d = c := by omega
      exact hne (by rw [he, this])
  · rw [hyt] at hd
    rw [hd] at ht'; cases ht'
theorem JS.push {i' : Nat} (h : JS i S) (hc : 1 ≤ c) (hc5 : c < 5) (hi : i ≤ i') {y : En} {n : Nat} {now' : List Lf} (hn : n < 4) (hk : y.kind = 1 ∨ y.kind = 2) (hyt : y.t = S.t c) (hyn : y.page = (n : Int)) (hg : goodM y = true) (hli : LI (S.list ++ [y]) now') (hst : StepP S.now y now')
    (ho : ∀ t', t' ≠ S.t c → endM S.list t' = false → ∀ y ∈ ofM S.list t', y.page ≠ (n : Int)) (hp : S.list.length + 1 + (S.pushO y now' (upd S.ow n c)).pot ≤ 2 * i') :
    JS i' (S.pushO y now' (upd S.ow n c)) := by
  have hend : ∀ t', endM (S.list ++ [y]) t' = endM S.list t' := fun t' => by rw [endM_snoc, chg_end hk]; simp
  have hof : ∀ t', ofM (S.list ++ [y]) t' = if y.t = t' then ofM S.list t' ++ [y] else ofM S.list t' := fun t' => ofM_snoc2 S.list t' hg
  have hyc : y.t.c.toNat = c := by rw [hyt]; rfl
  have hto : ∀ d, d ≠ c → y.t ≠ S.t d := fun d hd => by rw [hyt]; exact t_ne (fun e => hd e.symm)
  refine ⟨hli, h.hist.snoc h.last hst hg hli, ?_, ?_, ?_, ?_, ?_, ?_, ?_, ?_, ?_⟩
  · show (S.all ++ [now'])[(S.list ++ [y]).length]? = some now'
    rw [List.getElem?_append_right (by rw [h.hist.len]; simp), h.hist.len]; simp
  · intro d d1 d5
    show upd S.la y.t.c.toNat y.lsn d = lastN (ofM (S.list ++ [y]) (S.t d))
    rw [hyc, hof]
    by_cases hd : d = c
    · subst hd
      rw [upd_self, if_pos hyt, lastN_snoc]
    · rw [upd_ne _ _ hd, if_neg (hto d hd)]
      exact h.la1 d d1 d5
  · intro d hd
    show upd S.la y.t.c.toNat y.lsn d = 0
    rw [hyc, upd_ne _ _ (by omega)]
    exact h.la0 d hd
  · intro d
    have := h.tx d
    exact ⟨this.1, by show S.tx d ≤ _; omega⟩
  · intro x hx
    show ∃ c : Nat, 1 ≤ c ∧ c < 5 ∧ x.t.c = (c : Int) ∧ x.t.n ≤ S.tx c ∧ (x.t = S.t c ∨ endM (S.list ++ [y]) x.t = true)
    rcases List.mem_append.1 hx with hx | hx
    · obtain ⟨d, a1, a2, a3, a4, a5⟩ := h.own x hx
      exact ⟨d, a1, a2, a3, a4, by rw [hend]; exact a5⟩
    · rw [List.mem_singleton.1 hx, hyt]
      exact ⟨c, hc, hc5, rfl, Int.le_refl _, .inl rfl⟩
  · intro d d1 d5
    show endM (S.list ++ [y]) (S.t d) = false
    rw [hend]; exact h.opn d d1 d5
  · intro m
    show 0 ≤ upd S.ow n c m ∧ upd S.ow n c m ≤ 4
    by_cases hm : m = n
    · subst hm; rw [upd_self]; omega
    · rw [upd_ne _ _ hm]; exact h.owb m
  · intro d m d1 d5 hm
    show upd S.ow n c m = (d : Int) ↔ ∃ x ∈ ofM (S.list ++ [y]) (S.t d), x.page = (m : Int)
    rw [hof]
    by_cases hmn : m = n
    · subst hmn
      rw [upd_self]
      constructor
      · intro e
        have : c = d := by omega
        subst this
        rw [if_pos hyt]
        exact ⟨y, by simp, hyn⟩
      · rintro ⟨x, hx, hxm⟩
        by_cases hd : d = c
        · rw [hd]
        · rw [if_neg (hto d hd)] at hx
          exact absurd hxm (ho (S.t d) (t_ne hd) (h.opn d d1 d5) x hx)
    · rw [upd_ne _ _ hmn, h.ow1 d m d1 d5 hm]
      constructor
      · rintro ⟨x, hx, hxm⟩
        refine ⟨x, ?_, hxm⟩
        split
        · exact List.mem_append_left _ hx
        · exact hx
      · rintro ⟨x, hx, hxm⟩
        refine ⟨x, ?_, hxm⟩
        split at hx
        · rcases List.mem_append.1 hx with hx | hx
          · exact hx
          · rw [List.mem_singleton.1 hx, hyn] at hxm
            omega
        · exact hx
  · show (S.list ++ [y]).length + _ ≤ _
    rw [List.length_append]
    exact hp
/-- The stacks behind an entry of one client. -/
theorem pot_push (S : PS) (y : En) (now' : List Lf) (ow' : Nat → Int) (hg : goodM y = true) (hc : 1 ≤ c) (hc5 : c < 5) (hyt : y.t = S.t c) : (S.pushO y now' ow').pot + (S.s c).length = S.pot + (stk (ofM S.list (S.t c) ++ [y])).length := by
  have hs : ∀ d, (S.pushO y now' ow').s d = if d = c then stk (ofM S.list (S.t c) ++ [y]) else S.s d := by
    intro d
    show stk (ofM (S.list ++ [y]) (S.t d)) = _
    rw [ofM_snoc2 _ _ hg]
    by_cases hd : d = c
    · subst hd; rw [if_pos hyt, if_pos rfl]
    · rw [if_neg (by rw [hyt]; exact t_ne (fun e => hd e.symm)), if_neg hd]; rfl
  unfold PS.pot
  rw [hs 1, hs 2, hs 3, hs 4]
  have h4 : c = 1 ∨ c = 2 ∨ c = 3 ∨ c = 4 := by omega
  rcases h4 with rfl | rfl | rfl | rfl <;> simp <;> omega
/-- A client's newest change can be undone; what that leaves. -/
theorem JS.turn (h : JS i S) (hi : i ≤ 1000) (hc : 1 ≤ c) (hc5 : c < 5) {z : En} {r : List En} (hz : S.s c = z :: r) :
    ∃ (n : Nat) (y : En) (S' : PS), n < 4 ∧ z.page = (n : Int) ∧ turnM z (lsnM S c n) (S.la c) = (y, 0) ∧ addP S y = (true, S') ∧ JS i S' ∧ S'.s c = r ∧ S'.tx = S.tx ∧ S'.list = S.list ++ [y] ∧ y.t = S.t c ∧ y.kind = 2 ∧ y.page = z.page ∧ y.next = z.prev ∧ S'.ow = S.ow := by
  have hb := h.pot
  obtain ⟨n, p, p', hn, e1, hp, hgp, htm, hgy, hzt, hzg, hr, hli, hle, hstk, hgp', hzl⟩ := h.li.turn (t := S.t c) (by omega) (h.opn c hc hc5) hz
  have hla := h.la1 c hc hc5
  have hpg : pgAt S.now n = p := by unfold pgAt; rw [hp]
  generalize hy : turnY z p (lastN (ofM S.list (S.t c))) = y at *
  have hyt : y.t = S.t c := by rw [← hy]; exact hzt
  have hyk : y.kind = 2 := by rw [← hy]; rfl
  have hyp : y.page = (n : Int) := by rw [← hy]; exact e1
  have hzm := stk_mem (own := ofM S.list (S.t c)) (x := z) (by rw [show stk (ofM S.list (S.t c)) = z :: r from hz]; exact .head _)
  have hown := (h.ow1 c n hc hc5 hn).2 ⟨z, hzm.1, e1⟩
  have how : upd S.ow n c = S.ow := by
    funext m
    by_cases hm : m = n
    · subst hm; rw [upd_self]; exact hown.symm
    · rw [upd_ne _ _ hm]
  have hadd : addP S y = (true, S.push y (S.now.set n ((n : Int), p'))) := by
    have hn2 : y.page.toNat = n := by omega
    unfold addP
    rw [if_pos (by omega), hn2, hpg, hr]
    simp only [and_self, if_true]
    rw [hyp]
  have hjs := h.push (i' := i) (y := y) (n := n) (now' := S.now.set n ((n : Int), p')) hc hc5 (Nat.le_refl _) hn (.inr hyk) hyt hyp hgy hli (by
    unfold StepP
    rw [if_pos (chg_chgM (.inr hyk))]
    exact ⟨n, p, p', hn, hyp, hp, hr, rfl⟩) (h.others hc hc5 hn (.inr hown)) (by
    have := pot_push S y (S.now.set n ((n : Int), p')) (upd S.ow n c) hgy hc hc5 hyt
    rw [hstk, hz] at this
    simp only [List.length_cons] at this
    omega)
  rw [how] at hjs
  have hpo : S.pushO y (S.now.set n ((n : Int), p')) S.ow = S.push y (S.now.set n ((n : Int), p')) := rfl
  rw [hpo] at hjs
  refine ⟨n, y, S.push y (S.now.set n ((n : Int), p')), hn, e1, ?_, hadd, hjs, ?_, rfl, rfl, hyt, hyk, by rw [hyp, e1], by rw [← hy]; rfl, rfl⟩
  · unfold lsnM
    rw [hpg, hla]; exact htm
  · show stk (ofM (S.list ++ [y]) (S.t c)) = r
    rw [ofM_snoc2 _ _ hgy, if_pos hyt]; exact hstk
end
end Go.Proofs.YtficgjklagnbjaaGreat
namespace Go.Proofs.YtficgjklagnbjaaGreat
open Go Go.MapKept Go.RowKit Go.Proofs

theorem back_stk {l : List En} {t : Tx} (h : Ch (ofM l t)) (down : Int) : backM l t down = match stk (ofM l t) with | [] => (zeroE, false) | z :: _ => if z.lsn ≤ down then (zeroE, false) else (z, true) := by
  unfold backM
  rw [nextM_stk h]
  cases stk (ofM l t) with
  | nil => rfl
  | cons z r =>
    simp only [headN]
    by_cases hz : z.lsn ≤ down
    · simp [hz]
    · simp [hz]
section
variable {i : Nat} {S : PS} {c : Nat}
theorem JS.pos (_h : JS i S) (c : Nat) {z : En} (hz : z ∈ S.s c) : 0 < z.lsn := by
  have := goodM_parts (mem_ofM.1 (stk_mem hz).1).2.2
  omega
theorem JS.none (h : JS i S) (hc : ¬ (1 ≤ c ∧ c < 5)) : ofM S.list (S.t c) = [] := by
  rw [List.eq_nil_iff_forall_not_mem]
  intro x hx
  obtain ⟨h1, h2, _⟩ := mem_ofM.1 hx
  obtain ⟨d, d1, d5, e, _⟩ := h.own x h1
  have : x.t.c = (c : Int) := by rw [h2]; rfl
  omega
theorem JS.undo_no (h : JS i S) (hs : S.s c = []) : undoP S c = (false, S) := by
  have hb : backM S.list (S.t c) 0 = (zeroE, false) := by
    by_cases hc : 1 ≤ c ∧ c < 5
    · rw [back_stk (h.li.st _ (h.opn c hc.1 hc.2)), show stk (ofM S.list (S.t c)) = [] from hs]
    · rw [back_stk (by rw [h.none hc]; exact Ch.nil), show stk (ofM S.list (S.t c)) = [] from hs]
  unfold undoP
  rw [hb]; simp
theorem JS.undo_yes (h : JS i S) (hi : i ≤ 1000) (hc : 1 ≤ c) (hc5 : c < 5) {z : En} {r : List En} (hz : S.s c = z :: r) : ∃ S', undoP S c = (true, S') ∧ JS i S' ∧ S'.s c = r ∧ S'.tx = S.tx ∧ S'.ow = S.ow := by
  obtain ⟨n, y, S', hn, e1, e2, e3, e4, e5, e6, _, _, _, _, _, e7⟩ := h.turn hi hc hc5 hz
  have hb : backM S.list (S.t c) 0 = (z, true) := by
    rw [back_stk (h.li.st _ (h.opn c hc hc5)), show stk (ofM S.list (S.t c)) = z :: r from hz]
    have := h.pos c (z := z) (by rw [hz]; exact .head _)
    simp only
    rw [if_neg (by omega)]
  have hpn : z.page.toNat = n := by omega
  refine ⟨S', ?_, e4, e5, e6, e7⟩
  unfold undoP
  rw [hb]
  simp only [Bool.true_eq_false, if_false]
  rw [hpn, e2]
  simp only [if_true]
  exact e3
theorem JS.undo (h : JS i S) (hi : i ≤ 1000) (hc5 : c < 5) (hu : (undoP S c).1 = true) : JS i (undoP S c).2 := by
  cases hs : S.s c with
  | nil => rw [h.undo_no hs] at hu; cases hu
  | cons z r =>
    by_cases hc : 1 ≤ c
    · obtain ⟨S', e, hj, _⟩ := h.undo_yes hi hc hc5 hs
      rw [e]; exact hj
    · have := h.none (c := c) (by omega)
      unfold PS.s at hs
      rw [this] at hs
      cases hs
theorem JS.roll (hi : i ≤ 1000) (hc : 1 ≤ c) (hc5 : c < 5) : ∀ (f : Nat) (S : PS), JS i S → (S.s c).length < f → JS i (rollP c f S) ∧ (rollP c f S).s c = [] := by
  intro f
  induction f with
  | zero => intro S _ h; omega
  | succ f ih =>
    intro S h hf
    unfold rollP
    cases hs : S.s c with
    | nil =>
      rw [h.undo_no hs]
      simp only [Bool.false_eq_true, if_false]
      exact ⟨h, hs⟩
    | cons z r =>
      obtain ⟨S', e, hj, hr, _⟩ := h.undo_yes hi hc hc5 hs
      rw [e]
      simp only [if_true]
      refine ih S' hj ?_
      rw [hr]
      rw [hs] at hf
      simp only [List.length_cons] at hf
      omega
theorem JS.len (h : JS i S) : S.list.length ≤ 2 * i ∧ (S.s c).length ≤ S.list.length := by
  have h1 := h.pot
  have h2 := stk_len (ofM S.list (S.t c))
  have h3 := ofM_len S.list (S.t c)
  exact ⟨by omega, Nat.le_trans h2 h3⟩
theorem end_good {k : Int} {t : Tx} {n : Int} (hk : k = 3 ∨ k = 4) (ht : knownM t = true) (h0 : 0 ≤ n) (h1 : n + 1 ≤ 1099511627776) : goodM (endK k t n) = true := by
  have hbare : bareM (endK k t n) = true := by
    have h0 : (⟨#[]⟩ : ByteArray).toList = [] := by unfold ByteArray.toList; unfold ByteArray.toList.loop; rfl
    simp [bareM, endK, h0]
  unfold goodM headM withinM
  rw [hbare]
  show (knownM t && (decide (1 ≤ n + 1) && decide (n + 1 ≤ 1099511627776)) && (decide (0 ≤ n) && decide (n ≤ n + 1 - 1)) && if k = 1 then _ else if k = 2 then _ else if k = 3 ∨ k = 4 then true else false) = true
  rw [ht, if_neg (by omega), if_neg (by omega), if_pos hk]
  simp only [Bool.true_and, Bool.and_true, Bool.and_eq_true, decide_eq_true_eq]
  omega
theorem begun_own (h : JS i S) : begunM S c = true ↔ ofM S.list (S.t c) ≠ [] := by
  unfold begunM
  rw [List.any_eq_true]
  constructor
  · rintro ⟨x, hx, e⟩
    exact List.ne_nil_of_mem (mem_ofM.2 ⟨hx, of_decide_eq_true e, h.hist.good x hx⟩)
  · intro hne
    obtain ⟨x, hx⟩ := List.exists_mem_of_ne_nil _ hne
    obtain ⟨h1, h2, _⟩ := mem_ofM.1 hx
    exact ⟨x, h1, decide_eq_true h2⟩
/-- Behind an end: what is left, for the next transaction. -/
theorem JS.next (h : JS i S) (hc : 1 ≤ c) (hc5 : c < 5) {l' : List En} {A' : List (List Lf)} (hli : LI l' S.now) (hhi : Hist l' A') (hla : A'[l'.length]? = some S.now) (hlen : l'.length ≤ S.list.length + 1)
    (hof : ∀ t, t ≠ S.t c → ofM l' t = ofM S.list t ∧ endM l' t = endM S.list t) (hmem : ∀ x ∈ l', x ∈ S.list ∨ x.t = S.t c) (hend : (∃ x ∈ l', x.t = S.t c) → endM l' (S.t c) = true) (la : Nat → Int) (hlo : ∀ d, d ≠ c → la d = S.la d) :
    JS (i + 1) ⟨l', S.now, A', ownM S.ow c 4, upd S.tx c (S.tx c + 1), upd la c 0⟩ := by
  generalize hT : (⟨l', S.now, A', ownM S.ow c 4, upd S.tx c (S.tx c + 1), upd la c 0⟩ : PS) = T
  have hl : T.list = l' := by rw [← hT]
  have htd : ∀ d, d ≠ c → T.t d = S.t d := by
    intro d hd
    rw [← hT]
    show (⟨d, 1, upd S.tx c (S.tx c + 1) d⟩ : Tx) = ⟨d, 1, S.tx d⟩
    rw [upd_ne _ _ hd]
  have htc : T.t c = ⟨c, 1, S.tx c + 1⟩ := by
    rw [← hT]
    show (⟨c, 1, upd S.tx c (S.tx c + 1) c⟩ : Tx) = _
    rw [upd_self]
  have hold : ∀ x ∈ S.list, x.t ≠ T.t c := by
    intro x hx e
    obtain ⟨d, d1, d5, e1, e2, _⟩ := h.own x hx
    rw [e, htc] at e1 e2
    simp only at e1 e2
    have : d = c := by omega
    subst this
    omega
  have hnew : ∀ x ∈ l', x.t ≠ T.t c := by
    intro x hx e
    rcases hmem x hx with hx | hx
    · exact hold x hx e
    · rw [hx, htc] at e
      have : S.tx c = S.tx c + 1 := congrArg Tx.n e
      omega
  have hnone : ofM l' (T.t c) = [] := by
    rw [List.eq_nil_iff_forall_not_mem]
    intro x hx
    exact hnew x (mem_ofM.1 hx).1 (mem_ofM.1 hx).2.1
  have hopen : endM l' (T.t c) = false := by
    unfold endM
    rw [List.any_eq_false]
    intro x hx
    simp [hnew x hx]
  have hne : ∀ d, d ≠ c → S.t d ≠ S.t c := fun d hd => t_ne hd
  have how : ∀ n, n < 4 → T.ow n = if S.ow n = (c : Int) then 0 else S.ow n := by
    intro n hn
    rw [← hT]
    show ownM S.ow c 4 n = _
    unfold ownM
    by_cases e : S.ow n = (c : Int)
    · rw [if_pos ⟨hn, e⟩, if_pos e]
    · rw [if_neg (fun h => e h.2), if_neg e]
  refine ⟨?_, ?_, ?_, ?_, ?_, ?_, ?_, ?_, ?_, ?_, ?_⟩
  · rw [← hT]; exact hli
  · rw [← hT]; exact hhi
  · rw [← hT]; exact hla
  · intro d d1 d5
    rw [hl]
    have e1 : T.la d = upd la c 0 d := by rw [← hT]
    rw [e1]
    by_cases hd : d = c
    · subst hd; rw [upd_self, hnone]; rfl
    · rw [upd_ne _ _ hd, htd d hd, hlo d hd, (hof _ (hne d hd)).1]
      exact h.la1 d d1 d5
  · intro d hd
    have e1 : T.la d = upd la c 0 d := by rw [← hT]
    rw [e1, upd_ne _ _ (by omega), hlo d (by omega)]
    exact h.la0 d hd
  · intro d
    have e1 : T.tx d = upd S.tx c (S.tx c + 1) d := by rw [← hT]
    rw [e1]
    have := h.tx d
    by_cases hd : d = c
    · subst hd; rw [upd_self]; push_cast; omega
    · rw [upd_ne _ _ hd]; push_cast; omega
  · intro x hx
    rw [hl] at hx ⊢
    have etx : ∀ d, S.tx d ≤ T.tx d := by
      intro d
      have e1 : T.tx d = upd S.tx c (S.tx c + 1) d := by rw [← hT]
      rw [e1]
      by_cases hd : d = c
      · subst hd; rw [upd_self]; omega
      · rw [upd_ne _ _ hd]; exact Int.le_refl _
    by_cases hxc : x.t = S.t c
    · have := etx c
      exact ⟨c, hc, hc5, by rw [hxc]; rfl, by rw [hxc]; exact this, .inr (by rw [hxc]; exact hend ⟨x, hx, hxc⟩)⟩
    · rcases hmem x hx with hx | hx
      · obtain ⟨d, a1, a2, a3, a4, a5⟩ := h.own x hx
        have := etx d
        refine ⟨d, a1, a2, a3, by omega, ?_⟩
        rw [(hof _ hxc).2]
        rcases a5 with a5 | a5
        · left
          rw [a5, htd d (fun e => hxc (by rw [a5, e]))]
        · exact .inr a5
      · exact absurd hx hxc
  · intro d d1 d5
    rw [hl]
    by_cases hd : d = c
    · subst hd; exact hopen
    · rw [htd d hd, (hof _ (hne d hd)).2]
      exact h.opn d d1 d5
  · intro n
    have e1 : T.ow n = ownM S.ow c 4 n := by rw [← hT]
    rw [e1]
    unfold ownM
    have := h.owb n
    split <;> omega
  · intro d n d1 d5 hn
    rw [hl, how n hn]
    by_cases hd : d = c
    · subst hd
      rw [hnone]
      constructor
      · intro e
        split at e <;> omega
      · rintro ⟨x, hx, _⟩; cases hx
    · rw [htd d hd, (hof _ (hne d hd)).1, ← h.ow1 d n d1 d5 hn]
      split
      · omega
      · exact Iff.rfl
  · rw [hl]
    have hs : ∀ d, (T.s d).length ≤ (S.s d).length := by
      intro d
      unfold PS.s
      rw [hl]
      by_cases hd : d = c
      · subst hd; rw [hnone]; simp [stk]
      · rw [htd d hd, (hof _ (hne d hd)).1]; exact Nat.le_refl _
    have h1 := hs 1
    have h2 := hs 2
    have h3 := hs 3
    have h4 := hs 4
    have := h.pot
    unfold PS.pot at this ⊢
    omega
theorem JS.end (h : JS i S) (hi : i ≤ 1000) (hc : 1 ≤ c) (hc5 : c < 5) {k : Int} (hk : k = 3 ∨ (k = 4 ∧ S.s c = [])) : JS (i + 1) (endP S c k) := by
  have hk3 : k = 3 ∨ k = 4 := by rcases hk with h | h; exact .inl h; exact .inr h.1
  have hlb := lastN_bd h.li (S.t c)
  have hpot := h.pot
  have hla := h.la1 c hc hc5
  unfold endP endP1
  by_cases hb : begunM S c = true
  · have hne := (begun_own h).1 hb
    rw [if_pos hb]
    have hkn : knownM (S.t c) = true := by
      obtain ⟨x, hx⟩ := List.exists_mem_of_ne_nil _ hne
      obtain ⟨_, h2, h3⟩ := mem_ofM.1 hx
      rw [← h2]; exact (goodM_parts h3).1
    have hg : goodM (endK k (S.t c) (S.la c)) = true := end_good hk3 hkn (by omega) (by omega)
    have hadd : (addP S (endK k (S.t c) (S.la c))).2 = S.push (endK k (S.t c) (S.la c)) S.now := by
      unfold addP
      rw [if_neg (by show ¬ k ≤ 2; omega)]
    rw [hadd]
    have hto := h.opn c hc hc5
    have hli : LI (S.list ++ [endK k (S.t c) (S.la c)]) S.now := by
      rcases hk with rfl | ⟨rfl, hs⟩
      · exact h.li.com hg rfl rfl rfl (by show S.la c + 1 ≤ _; omega) hto
      · exact h.li.fin hg rfl rfl rfl (by show S.la c + 1 ≤ _; omega) hto hs
    have hie : isEndM (endK k (S.t c) (S.la c)) = true := by
      unfold isEndM
      show (k == 3 || k == 4) = true
      rcases hk3 with h | h <;> rw [h] <;> rfl
    refine h.next (l' := S.list ++ [endK k (S.t c) (S.la c)]) (A' := S.all ++ [S.now]) hc hc5 hli (h.hist.snoc h.last ?_ hg hli) ?_ (by simp) ?_ ?_ ?_ (upd S.la c (S.la c + 1)) (fun d hd => upd_ne _ _ hd)
    · unfold StepP
      rw [if_neg]
      unfold chgM
      show ¬ (k == 1 || k == 2) = true
      rcases hk3 with h | h <;> rw [h] <;> decide
    · rw [List.getElem?_append_right (by rw [h.hist.len]; simp), h.hist.len]; simp
    · intro t ht
      refine ⟨by rw [ofM_snoc2 _ _ hg, if_neg (fun e => ht e.symm)], ?_⟩
      rw [endM_snoc, show (endK k (S.t c) (S.la c)).t = S.t c from rfl, decide_eq_false (fun e => ht (Eq.symm e))]; simp
    · intro x hx
      rcases List.mem_append.1 hx with hx | hx
      · exact .inl hx
      · rw [List.mem_singleton.1 hx]; exact .inr rfl
    · intro _
      rw [endM_snoc, hg, hie, show (endK k (S.t c) (S.la c)).t = S.t c from rfl]
      simp
  · rw [if_neg hb]
    refine h.next (l' := S.list) (A' := S.all) hc hc5 h.li h.hist h.last (by omega) (fun t _ => ⟨rfl, rfl⟩) (fun x hx => .inl hx) ?_ S.la (fun d hd => rfl)
    rintro ⟨x, hx, e⟩
    exact absurd ((begun_own h).2 (List.ne_nil_of_mem (mem_ofM.2 ⟨hx, e, h.hist.good x hx⟩))) hb
end
end Go.Proofs.YtficgjklagnbjaaGreat
namespace Go.Proofs.YtficgjklagnbjaaGreat
open Go Go.MapKept Go.RowKit Go.Proofs

theorem li0 : LI [] now0 := by
  refine ⟨(fun x h => by cases h), rfl, (fun n hn => ⟨emptyP, now0_get hn, goodP_empty, by show (0 : Int) ≤ _; simp⟩), (fun x h => by cases h), (fun t _ => Ch.nil), (fun t t' x y _ _ h => by cases h), (fun n p hp _ k => ?_), (fun t n p _ _ h => by obtain ⟨x, h, _⟩ := h; cases h)⟩
  have hn : n < 4 := (List.getElem?_eq_some_iff.1 hp).1
  rw [now0_get hn] at hp
  simp only [Option.some.injEq, Prod.mk.injEq, true_and] at hp
  subst hp
  unfold wantS
  show slotOf [] k = _
  unfold slotOf
  simp only [List.getElem?_nil, Option.getD_none]
  split <;> rfl
theorem js0 : JS 0 PS0 := by
  refine ⟨li0, ⟨rfl, (fun P hP => by rw [List.mem_singleton.1 hP]; exact li0.pgs), (fun x h => by cases h), (fun i x P P' h => by cases h), (fun i P h => by
    have hi : i = 0 := by have := (List.getElem?_eq_some_iff.1 h).1; simp only [PS0, List.length_singleton] at this; omega
    subst hi
    cases h
    exact li0)⟩, rfl, (fun c _ _ => rfl), (fun c _ => rfl), (fun c => ?_), (fun x h => by cases h), (fun c _ _ => rfl), (fun n => ⟨Int.le_refl 0, (by decide : (0 : Int) ≤ 4)⟩), (fun c n hc hc5 hn => ?_), by decide⟩
  · show 0 ≤ tx0 c ∧ tx0 c ≤ _
    unfold tx0
    split <;> decide
  · constructor
    · intro e
      have : (0 : Int) = (c : Int) := e
      omega
    · rintro ⟨x, hx, _⟩; cases hx
section
variable {i : Nat} {S : PS}
theorem JS.more (h : JS i S) : JS (i + 1) S :=
  ⟨h.li, h.hist, h.last, h.la1, h.la0, fun c => by have := h.tx c; push_cast; omega, h.own, h.opn, h.owb, h.ow1, by have := h.pot; omega⟩
theorem JS.small (h : JS i S) (hi : i ≤ 1000) : Small S ∧ Ok4 S ∧ S.list.length + 1 ≤ 10000 ∧ S.all.length + 1 ≤ 10000 := by
  have hl := (h.len (c := 1)).1
  have ha := h.hist.len
  refine ⟨⟨fun c => ?_, fun c => ?_, fun n => ?_, fun x hx => ?_, fun p hp => ?_, h.li.len, by omega, by omega⟩, fun x hx => ?_, by omega, by omega⟩
  · by_cases hc : 1 ≤ c ∧ c < 5
    · rw [h.la1 c hc.1 hc.2]
      have := lastN_bd h.li (S.t c)
      omega
    · rw [h.la0 c hc]; omega
  · have := h.tx c; omega
  · have := h.owb n; omega
  · have := goodM_parts (h.hist.good x hx); omega
  · obtain ⟨n, hn⟩ := List.getElem?_of_mem hp
    have hn4 : n < 4 := by have := (List.getElem?_eq_some_iff.1 hn).1; rw [h.li.len] at this; exact this
    obtain ⟨q, h1, h2, h3⟩ := h.li.pg n hn4
    rw [hn] at h1
    cases h1
    exact ⟨h2, by simp only; omega⟩
  · obtain ⟨h1, n, k, hn, _, e, _⟩ := h.li.ok x hx
    exact ⟨h1, fun _ => ⟨n, hn, e⟩⟩
theorem JS.does (h : JS i S) (hi : i ≤ 1000) (a : Ac) : JS (i + 1) (doesP S a) := by
  obtain ⟨c1, c5, _, _⟩ := a.c_bd
  obtain ⟨n4, _⟩ := a.n_bd
  obtain ⟨k5, _⟩ := a.k_bd
  unfold doesP
  split
  · split
    · exact h.more
    · rename_i hk ho
      split
      · rename_i hga
        obtain ⟨hg, hadd⟩ := hga
        have hyt : (chgE S a).t = S.t a.c := rfl
        have hyk : (chgE S a).kind = 1 := rfl
        have hyp : (chgE S a).page = (a.n : Int) := rfl
        have hyn : (chgE S a).page.toNat = a.n := rfl
        have hys : (chgE S a).slot = (a.k : Int) := rfl
        have hyl : (chgE S a).lsn = lsnM S a.c a.n := rfl
        have hyv : (chgE S a).prev = S.la a.c := rfl
        generalize chgE S a = y at *
        obtain ⟨p, hp, hgp, hpl⟩ := h.li.pg a.n n4
        have hpg : pgAt S.now a.n = p := by unfold pgAt; rw [hp]
        have hla := h.la1 a.c c1 c5
        have hlb := lastN_bd h.li (S.t a.c)
        unfold lsnM at hyl
        rw [hpg] at hyl
        have hap : addP S y = (true, S.push y (S.now.set a.n ((a.n : Int), (redoM p y).1))) ∧ redoM p y = ((redoM p y).1, true, 0) := by
          unfold addP at hadd ⊢
          rw [if_pos (by omega), hyn, hpg] at hadd ⊢
          by_cases h2 : (redoM p y).2.2 = 0 ∧ (redoM p y).2.1 = true
          · rw [if_pos h2, hyp]
            refine ⟨rfl, ?_⟩
            rw [← h2.1, ← h2.2]
          · rw [if_neg h2] at hadd; cases hadd
        obtain ⟨hap, hr⟩ := hap
        rw [hap]
        have hown : S.ow a.n = 0 ∨ S.ow a.n = (a.c : Int) := by
          by_cases e : S.ow a.n = 0
          · exact .inl e
          · by_cases e2 : S.ow a.n = (a.c : Int)
            · exact .inr e2
            · exact absurd ⟨e, e2⟩ ho
        have hoth := h.others c1 c5 n4 hown
        have hnx : Nx (ofM S.list (S.t a.c)) y := ⟨by omega, by omega, .inl hyk⟩
        have hli := h.li.chg (x := y) (n := a.n) (p := p) (p' := (redoM p y).1) (by rw [hyt]; exact h.opn _ c1 c5) hyk hp hyp n4 ⟨a.k, k5, hys⟩ hr (by rw [hyt]; exact hnx) (by omega) (by rw [hyt]; exact hoth)
        show JS (i + 1) (S.pushO y (S.now.set a.n ((a.n : Int), (redoM p y).1)) (upd S.ow a.n a.c))
        refine h.push (i' := i + 1) (y := y) (n := a.n) c1 c5 (by omega) n4 (.inl hyk) hyt hyp hg hli ?_ hoth ?_
        · unfold StepP
          rw [if_pos (chg_chgM (.inl hyk))]
          exact ⟨a.n, p, _, n4, hyp, hp, hr, rfl⟩
        · have := pot_push S y (S.now.set a.n ((a.n : Int), (redoM p y).1)) (upd S.ow a.n a.c) hg c1 c5 hyt
          have h1 := h.pot
          have e1 : stk (ofM S.list (S.t a.c) ++ [y]) = y :: S.s a.c := by
            rw [stk_snoc]; unfold stepS; rw [if_pos hyk]; rfl
          rw [e1, List.length_cons] at this
          omega
      · exact h.more
  · split
    · cases hu : (undoP S a.c).1 with
      | true => exact (h.undo hi c5 hu).more
      | false => rw [undoP_no hu]; exact h.more
    · split
      · exact h.end hi c1 c5 (.inl rfl)
      · split
        · have hl := h.len (c := a.c)
          obtain ⟨h1, h2⟩ := JS.roll hi c1 c5 10000 S h (by omega)
          exact h1.end hi c1 c5 (.inr ⟨rfl, h2⟩)
        · exact h.more
end
theorem livedG_js : ∀ (l : List Ac) (i : Nat) (S : PS), JS i S → i + l.length ≤ 1000 → ∃ j, j ≤ i + l.length ∧ JS j (livedG l S).1
  | [], i, S, h, _ => ⟨i, by simp, h⟩
  | a :: r, i, S, h, hi => by
    unfold livedG
    split
    · exact ⟨i, by omega, h⟩
    · simp only [List.length_cons] at hi ⊢
      obtain ⟨j, h1, h2⟩ := livedG_js r (i + 1) (doesP S a) (h.does (by omega) a) (by omega)
      exact ⟨j, by omega, h2⟩
theorem lived_js (l : List Ac) : ∃ j, j ≤ 40 ∧ JS j (livedP l).1 := by
  have hl : (l.take 40).length ≤ 40 := by rw [List.length_take]; omega
  obtain ⟨j, h1, h2⟩ := livedG_js (l.take 40) 0 PS0 js0 (by omega)
  exact ⟨j, by omega, h2⟩
theorem lived_call {F : Heaplet} {w : World} {v : Value} {l : List Ac} (hv : AcIn F v l) (s : Sat w F) :
    Calls Tryz.prog 10 #[v] w fun e w' => ∃ pb, e = .returned (.tuple #[.pointer (some ⟨pb, 0, none⟩), .bool (livedP l).2]) ∧ PsIs pb (livedP l).1 F w' :=
  lived_any (J := fun i S => i ≤ 40 ∧ JS i S) ⟨by omega, js0⟩ (fun i S h _ => h.2.small (by omega)) (fun i S c hc h hu => ⟨h.1, h.2.undo (by omega) hc hu⟩) (fun i S a h hi _ => ⟨by omega, h.2.does (by omega) a⟩) hv s
end Go.Proofs.YtficgjklagnbjaaGreat
namespace Go.Proofs.YtficgjklagnbjaaGreat
open Go Go.MapKept Go.RowKit Go.Proofs

theorem Pgs.fitP {P : List Lf} (h : Pgs P) : FitP P := by
  intro p hp
  obtain ⟨n, hn⟩ := List.getElem?_of_mem hp
  have hn4 : n < 4 := by have := (List.getElem?_eq_some_iff.1 hn).1; rw [h.1] at this; exact this
  obtain ⟨q, h1, h2⟩ := h.2 n hn4
  rw [hn] at h1
  cases h1
  exact good_bd h2
theorem Pgs.good {P : List Lf} (h : Pgs P) : ∀ p ∈ P, goodP p.2 = true := by
  intro p hp
  obtain ⟨n, hn⟩ := List.getElem?_of_mem hp
  have hn4 : n < 4 := by have := (List.getElem?_eq_some_iff.1 hn).1; rw [h.1] at this; exact this
  obtain ⟨q, h1, h2⟩ := h.2 n hn4
  rw [hn] at h1
  cases h1
  exact h2
theorem goodM_fitL {l : List En} (h : ∀ x ∈ l, goodM x = true) : FitL l := fun x hx => by have := goodM_parts (h x hx); omega
theorem LI.fitL {l : List En} {P : List Lf} (h : LI l P) : FitL l := goodM_fitL (fun x hx => (h.ok x hx).1)
theorem LI.onG {l : List En} {P : List Lf} (h : LI l P) : OnG l := fun x hx => (h.ok x hx).2
section
variable {i : Nat} {S : PS}
theorem JS.cut (h : JS i S) {k : Nat} (hk : k ≤ S.list.length) : ∃ P, S.all[k]? = some P ∧ LI (S.list.take k) P := by
  obtain ⟨P, hP, _⟩ := h.hist.at hk
  exact ⟨P, hP, h.hist.lis k P hP⟩
theorem verI_le (V : Nat → Int) (k n : Nat) (hk : k ≤ 10000) : verI V k n ≤ k := by
  unfold verI
  have := umod_bd (V n) ((k : Int) + 1) (by omega) (by omega)
  omega
theorem JS.mix_get (h : JS i S) {k : Nat} (hk : k ≤ S.list.length) (hk2 : k ≤ 10000) (V : Nat → Int) {n : Nat} (hn : n < 4) : (mixedP S k V)[n]? = some ((n : Int), verP S.all (verI V k n) n) := by
  rw [mixed_get hn]
  have hv := verI_le V k n hk2
  obtain ⟨P, hP, _⟩ := h.hist.at (i := verI V k n) (by omega)
  have h1 := (h.hist.ver hn (by omega) hP).1
  unfold mixL
  rw [hP, Option.getD_some, h1, Option.getD_some]
theorem mixedP_len (S : PS) (k : Nat) (V : Nat → Int) : (mixedP S k V).length = 4 := by unfold mixedP; rw [List.length_map]; rfl
theorem JS.mix_pgs (h : JS i S) {k : Nat} (hk : k ≤ S.list.length) (hk2 : k ≤ 10000) (V : Nat → Int) : Pgs (mixedP S k V) := by
  refine ⟨mixedP_len S k V, fun n hn => ⟨_, h.mix_get hk hk2 V hn, ?_⟩⟩
  have hv := verI_le V k n hk2
  obtain ⟨P, hP, _⟩ := h.hist.at (i := verI V k n) (by omega)
  exact (h.hist.ver hn (by omega) hP).2
theorem JS.mix_redo (h : JS i S) {k : Nat} (hk : k ≤ S.list.length) (hk2 : k ≤ 10000) (V : Nat → Int) {P : List Lf} (hP : S.all[k]? = some P) : redoL (S.list.take k) (mixedP S k V) = (P, 0) :=
  h.hist.redo h.li.ok hk hP (mixedP_len S k V) (v := verI V k) (fun n hn => ⟨verI_le V k n hk2, h.mix_get hk hk2 V hn⟩)
theorem JS.all4 (h : JS i S) : ∀ P ∈ S.all, P.length = 4 := fun P hP => (h.hist.pgs P hP).1
end
theorem tot_bd {l : List En} (hl : l.length ≤ 250) : l.length + (tot l (losersM l) + 1) + (losersM l).length ≤ 99999 := by
  have h1 := losers_len l
  have h2 := tot_le l (losersM l)
  have h3 : (losersM l).length * l.length ≤ 250 * 250 := Nat.mul_le_mul (by omega) hl
  omega
/-- A beginning of a slice of entries. -/
theorem ens_take {F : Heaplet} {a : Option Addr} {n cap : Nat} {l : List En} (h : EnsIn F (.slice a n cap) l) (k : Nat) (hk : k ≤ l.length) : EnsIn F (.slice a k cap) (l.take k) := by
  obtain ⟨a', cap', e, hc⟩ := h
  simp only [Value.slice.injEq] at e
  obtain ⟨rfl, rfl, rfl⟩ := e
  refine ⟨a, cap, by rw [List.length_take, Nat.min_eq_left hk], fun w hw i q hq => ?_⟩
  have hi : i < k := by have := (List.getElem?_eq_some_iff.1 hq).1; rw [List.length_take] at this; omega
  rw [List.getElem?_take_of_lt hi] at hq
  exact hc w hw i q hq
end Go.Proofs.YtficgjklagnbjaaGreat
