/- Texts put together: Me20, Me21, Me22, Me23. Conditions: none. -/
import Derived.Laws.IdiomCopy
import Derived.Test.YtficgjklagnbjaaGreatFo12
namespace Go.Proofs.YtficgjklagnbjaaGreat
open Go Go.MapKept Go.RowKit Go.Proofs Go.Sort

theorem nextG_mem : ∀ (f : Nat) (own : List En) (x y : En) (e : Int), x ∈ own → nextG f own x = (y, true, e) → y ∈ own ∧ y.kind = 1 ∧ e = 0
  | 0, own, x, y, e, _, h => by simp [nextG] at h
  | f + 1, own, x, y, e, hx, h => by
    simp only [nextG] at h
    split at h
    · split at h
      · cases h
      · split at h
        · cases h
        · rename_i z hz
          split at h
          · cases h
          · exact nextG_mem f own z y e (List.mem_of_find?_eq_some hz) h
    · split at h
      · rename_i h1
        have e1 : x = y := congrArg Prod.fst h
        have e2 : 0 = e := congrArg (fun q => q.2.2) h
        subst e1
        exact ⟨hx, h1, e2.symm⟩
      · cases h
theorem nextM_mem {own : List En} {y : En} {e : Int} (h : nextM own = (y, true, e)) : y ∈ own ∧ y.kind = 1 ∧ e = 0 := by
  unfold nextM at h
  split at h
  · cases h
  · rename_i x hx
    exact nextG_mem _ own x y e (List.mem_of_getLast? hx) h
/-- What pick tells is a transaction's next one. -/
theorem pickG_mem (l : List En) : ∀ (L : List (Tx × Int)) (b : En) (k : Int) (x : En) (r : Bool) (e : Int), pickG l b k L = (x, r, e) → (x = b ∧ (r = true → 0 ≤ k)) ∨ ∃ q ∈ L, nextM (ofM l q.1) = (x, true, 0)
  | [], b, k, x, r, e, h => by
    simp only [pickG] at h
    have e1 : b = x := congrArg Prod.fst h
    have e2 : decide (0 ≤ k) = r := congrArg (fun q => q.2.1) h
    exact .inl ⟨e1.symm, fun hr => by rw [← e2] at hr; exact of_decide_eq_true hr⟩
  | q :: L, b, k, x, r, e, h => by
    simp only [pickG] at h
    split at h
    · have e1 : b = x := congrArg Prod.fst h
      have e2 : false = r := congrArg (fun q => q.2.1) h
      exact .inl ⟨e1.symm, fun hr => by rw [← e2] at hr; cases hr⟩
    · rename_i h0
      split at h
      · rcases pickG_mem l L b k x r e h with h | ⟨q', hq, h'⟩
        · exact .inl h
        · exact .inr ⟨q', .tail _ hq, h'⟩
      · rename_i h1
        split at h
        · rcases pickG_mem l L _ _ x r e h with h | ⟨q', hq, h'⟩
          · refine .inr ⟨q, .head _, ?_⟩
            rw [h.1]
            have h1' : (nextM (ofM l q.1)).2.1 = true := by simpa using h1
            have h0' : (nextM (ofM l q.1)).2.2 = 0 := Decidable.not_not.1 h0
            exact Prod.ext rfl (Prod.ext h1' h0')
          · exact .inr ⟨q', .tail _ hq, h'⟩
        · rcases pickG_mem l L b k x r e h with h | ⟨q', hq, h'⟩
          · exact .inl h
          · exact .inr ⟨q', .tail _ hq, h'⟩
theorem pickM_mem {l : List En} {L : List (Tx × Int)} {x : En} {e : Int} (h : pickM l L = (x, true, e)) : ∃ q ∈ L, nextM (ofM l q.1) = (x, true, 0) := by
  rcases pickG_mem l L _ _ x true e h with ⟨_, h1⟩ | h1
  · exact absurd (h1 rfl) (by decide)
  · exact h1
theorem ofM_in {l : List En} {t : Tx} {x : En} (h : x ∈ ofM l t) : x ∈ l ∧ x.t = t ∧ goodM x = true := by
  unfold ofM at h
  rw [List.mem_filter] at h
  simp only [Bool.and_eq_true, decide_eq_true_eq] at h
  exact ⟨h.1, h.2.1, h.2.2⟩
/-- A log and pages that go together, losers with entries. -/
def FitU (l : List En) (P : List Lf) (L : List (Tx × Int)) : Prop := (∀ x ∈ l, goodM x = true ∧ (x.kind ≤ 2 → 0 ≤ idxF (atN x.page) P)) ∧ (∀ p ∈ P, goodP p.2 = true) ∧ P.length ≤ 1000 ∧ ∀ q ∈ L, ofM l q.1 ≠ []
theorem FitU.fit {l : List En} {P : List Lf} {L : List (Tx × Int)} (h : FitU l P L) : FitL l := fun x hx => by
  have := goodM_lsn (h.1 x hx).1
  omega
/-- What pick tells can be undone. -/
theorem FitU.pick {l : List En} {P : List Lf} {L : List (Tx × Int)} {x : En} {e : Int} (h : FitU l P L) (hp : pickM l L = (x, true, e)) :
    x ∈ l ∧ x.kind = 1 ∧ goodM x = true ∧ x ∈ ofM l x.t ∧ ∃ (k : Nat) (n : Int) (p : Pg), idxF (atN x.page) P = k ∧ P[k]? = some (n, p) ∧ goodP p = true ∧ n = x.page := by
  obtain ⟨q, hq, hn⟩ := pickM_mem hp
  obtain ⟨h1, h2, _⟩ := nextM_mem hn
  obtain ⟨h3, h4, h5⟩ := ofM_in h1
  have h6 := (h.1 x h3).2 (by omega)
  obtain ⟨i, y, e1, e2, e3, _⟩ := idxF_some rfl h6
  refine ⟨h3, h2, h5, by rw [h4]; exact h1, i, y.1, y.2, e1, e2, h.2.1 y (List.mem_of_getElem? e2), ?_⟩
  unfold atN at e3
  exact eq_of_beq e3
theorem idxF_set {P : List Lf} {k : Nat} {n m : Int} {p q : Pg} (hk : P[k]? = some (n, p)) : idxF (atN m) (P.set k (n, q)) = idxF (atN m) P := by
  have hm : (P.set k (n, q)).map Prod.fst = P.map Prod.fst := by
    rw [List.map_set]
    apply List.ext_getElem?
    intro i
    by_cases e : i = k
    · subst e
      have := (List.getElem?_eq_some_iff.1 hk).1
      rw [List.getElem?_set_self (by simpa using this), List.getElem?_map, hk]; rfl
    · rw [List.getElem?_set_ne (fun h => e h.symm)]
  have hi : ∀ Q : List Lf, idxF (atN m) Q = idxF (fun a => a == m) (Q.map Prod.fst) := by
    intro Q
    unfold idxF
    rw [List.findIdx?_map]
    rfl
  rw [hi, hi, hm]
theorem undoM_at {l : List En} {P : List Lf} {x : En} {k : Nat} {n : Int} {p : Pg} (hk : idxF (atN x.page) P = k) (hp : P[k]? = some (n, p)) {l' : List En} {P' : List Lf} (h : undoM l P x = (l', P', 0)) :
    ∃ y q, y = turnE x (max (lastL l x.t) p.lsn + 1) (lastL l x.t) ∧ goodM y = true ∧ goodM x = true ∧ x.kind = 1 ∧ redoM p y = (q, (redoM p y).2.1, 0) ∧ max (lastL l x.t) p.lsn + 1 ≤ 1099511627776 ∧ l' = l ++ [y] ∧ P' = P.set k (n, q) := by
  unfold undoM at h
  rw [hk, Int.toNat_natCast, hp] at h
  simp only at h
  split at h
  · cases h
  · rename_i h0
    split at h
    · rename_i h1
      have := congrArg (fun y => y.2.2) h
      exact absurd this h1
    · rename_i h1
      split at h
      · rename_i h2
        have := congrArg (fun y => y.2.2) h
        exact absurd this h2
      · rename_i h2
        have e1 := congrArg Prod.fst h
        have e2 := congrArg (fun y => y.2.1) h
        simp only at e1 e2
        have h1' := Decidable.not_not.1 h1
        have h1'' : turnM x (max (lastL l x.t) p.lsn + 1) (lastL l x.t) = ((turnM x (max (lastL l x.t) p.lsn + 1) (lastL l x.t)).1, 0) := Prod.ext rfl h1'
        obtain ⟨y1, y2, y3, y4⟩ := turnM_ok h1''
        rw [y1] at y2 h2 e1 e2
        exact ⟨_, _, rfl, y2, y3, y4, Prod.ext rfl (Prod.ext rfl (Decidable.not_not.1 h2)), by omega, e1.symm, e2.symm⟩
theorem FitU.undo {l : List En} {P : List Lf} {L : List (Tx × Int)} {x : En} {k : Nat} {n : Int} {p : Pg} (h : FitU l P L) (hx : x ∈ l) (hk : idxF (atN x.page) P = k) (hp : P[k]? = some (n, p)) {l' : List En} {P' : List Lf} (hu : undoM l P x = (l', P', 0)) : FitU l' P' L ∧ l'.length = l.length + 1 ∧ P'.length = P.length := by
  obtain ⟨y, q, hy, hgy, hgx, hx1, hr, hm, rfl, rfl⟩ := undoM_at hk hp hu
  have hq := redoM_ok (p := p) (x := y) (by rw [hr])
  rw [hr] at hq
  refine ⟨⟨fun z hz => ?_, fun z hz => ?_, by simpa using h.2.2.1, fun q hq => ofM_more _ (h.2.2.2 q hq)⟩, by simp, by simp⟩
  · rcases List.mem_append.1 hz with h1 | h1
    · rw [idxF_set hp]; exact h.1 z h1
    · rw [List.mem_singleton.1 h1, idxF_set hp]
      refine ⟨hgy, fun _ => ?_⟩
      have : y.page = x.page := by rw [hy]; rfl
      rw [this]
      exact (h.1 x hx).2 (by omega)
  · rcases List.mem_or_eq_of_mem_set hz with h1 | h1
    · exact h.2.1 z h1
    · rw [h1]; exact hq.2.2.2.1
/-- All that is to be undone is; none: not in so many steps. -/
def allU (L : List (Tx × Int)) : Nat → List En → List Lf → Option (List En × List Lf × Int)
  | 0, _, _ => none
  | f + 1, l, P => if (pickM l L).2.2 ≠ 0 then some (l, P, (pickM l L).2.2)
    else if (pickM l L).2.1 = false then some ((endsM l L).1, P, (endsM l L).2)
    else if (undoM l P (pickM l L).1).2.2 ≠ 0 then some (undoM l P (pickM l L).1)
    else allU L f (undoM l P (pickM l L).1).1 (undoM l P (pickM l L).1).2.1
end Go.Proofs.YtficgjklagnbjaaGreat
namespace Go.Proofs.YtficgjklagnbjaaGreat
open Go Go.MapKept Go.RowKit Go.Proofs Go.Sort

def lenAt (b : Nat) (w : World) : Nat := match w.cell? ⟨b, 0, none⟩ with | some (.slice _ n _) => n | _ => 0
theorem lenAt_ud {b : Nat} {l : List En} {P : List Lf} {sv : Value} {G : Heaplet} {w : World} (h : UdSt b l P sv G w) : lenAt b w = l.length := by
  obtain ⟨lv, pv, h, hp, h1, h2, s⟩ := h
  obtain ⟨a0, c0, rfl⟩ := sl_form h1
  unfold lenAt
  rw [cell_of s.h0]; rfl
theorem UdSt.alloc {b : Nat} {l : List En} {P : List Lf} {sv : Value} {G : Heaplet} {w : World} (h : UdSt b l P sv G w) (o : Obj) : UdSt b l P sv G (w.alloc o) := by
  obtain ⟨lv, pv, h, hp, h1, h2, s⟩ := h
  exact ⟨lv, pv, h, hp, h1, h2, (s.new o).tail⟩
set_option maxRecDepth 100000 in
set_option maxHeartbeats 4000000 in
theorem allU_any {b : Nat} {l lr : List En} {P Pr : List Lf} {rc : Int} {L : List (Tx × Int)} {sv : Value} {G : Heaplet} {w : World} {f : Nat} (hA : allU L f l P = some (lr, Pr, rc)) (hU : UdSt b l P sv G w) (hL : LoIn G sv L) (hl : l.length + f + L.length ≤ 99999) (hf : FitU l P L) :
    Calls Tryz.prog 33 #[.pointer (some ⟨b, 0, none⟩)] w (Ret (kI rc) (UdSt b lr Pr sv G)) := by
  obtain ⟨la, lc, rfl, _⟩ := lo0 hL
  have HL := Lib.hid hL
  have HST : Hid (∃ f l P, allU L f l P = some (lr, Pr, rc) ∧ UdSt b l P (.slice la L.length lc) G w ∧ l.length + f + L.length ≤ 99999 ∧ FitU l P L) := Lib.hid ⟨f, l, P, hA, hU, hl, hf⟩
  clear hA hU hl hf hL
  go_enter Tryz.func33, Tryz.ntmps33
  go_wp2_with fail
  go_loopw [] (fun wr => ∃ f l P, allU L f l P = some (lr, Pr, rc) ∧ UdSt b l P (.slice la L.length lc) G wr ∧ l.length + f + L.length ≤ 99999 ∧ FitU l P L) (fun wr => 200000 - lenAt b wr)
  case atStart => exact HST.out
  case round =>
    clear HST
    obtain ⟨f, l, P, hA, hU, hl, hf⟩ := hrel
    obtain ⟨f', rfl⟩ : ∃ f', f = f' + 1 := by
      cases f with
      | zero => simp [allU] at hA
      | succ n => exact ⟨n, rfl⟩
    obtain ⟨x, is, e, hp⟩ : ∃ x is e, pickM l L = (x, is, e) := ⟨_, _, _, rfl⟩
    simp only [allU, hp] at hA
    have hln := lenAt_ud hU
    have HPK : Hid (Calls Tryz.prog 60 #[.pointer (some ⟨b, 0, none⟩)] wr (Ret (.tuple #[eV x, .bool is, kI e]) fun w' => UdSt b l P (.slice la L.length lc) G w')) := Lib.hid (by
      obtain ⟨lv, pv, h, hq, h1, h2, s⟩ := hU
      have hLo : LoIn (h ++ (hq ++ G)) (.slice la L.length lc) L := HL.out.mono (fun w hw => hw.right.right)
      have := pick_any (ens_in h1 _) hLo s (by omega) hf.fit (by omega)
      rw [hp] at this
      refine this.mono ?_
      rintro e w' ⟨rfl, hb⟩
      exact ⟨rfl, UdSt.mk h1 h2 (s.monoB hb)⟩)
    by_cases he : e = 0
    · subst he
      rw [if_neg (by decide)] at hA
      cases is with
      | false =>
        rw [if_pos rfl] at hA
        have hq : ((endsM l L).1, P, (endsM l L).2) = (lr, Pr, rc) := Option.some.inj hA
        have h1 : (endsM l L).1 = lr := congrArg Prod.fst hq
        have h2 : P = Pr := congrArg (fun y => y.2.1) hq
        have h3 : (endsM l L).2 = rc := congrArg (fun y => y.2.2) hq
        subst h2
        have HEN : Hid (∀ w1, UdSt b l P (.slice la L.length lc) G w1 → Calls Tryz.prog 61 #[.pointer (some ⟨b, 0, none⟩)] w1 (Ret (kI rc) (UdSt b lr P (.slice la L.length lc) G))) := Lib.hid (fun w1 h => by
          have := ends_any h HL.out (by omega) hf.fit hf.2.2.2
          rw [h1, h3] at this; exact this)
        clear hA hq h1 h3 hU hl hf hp hln
        go_wp2_with (first
          | (go_at_call 60; refine (HPK.out).mono ?_; rintro e w2 ⟨rfl, hb⟩; have HEN2 := Lib.hid (HEN.out _ (hb.alloc (eO x))))
          | (go_at_call 61; refine (HEN2.out).mono ?_; rintro e w3 ⟨rfl, hb3⟩; have FIN := Lib.hid hb3))
        go_ret
        exact ⟨rfl, FIN.out⟩
      | true =>
        rw [if_neg (by decide)] at hA
        obtain ⟨h1, h2, h3, h4, k, n, p, h5, h6, h7, h8⟩ := hf.pick hp
        obtain ⟨l', P', c, hu⟩ : ∃ l' P' c, undoM l P x = (l', P', c) := ⟨_, _, _, rfl⟩
        rw [hu] at hA
        obtain ⟨z, hz, _⟩ := ofM_last (List.ne_nil_of_mem h4)
        have hxb := goodM_lsn h3
        have HUN : Hid (∀ w1, UdSt b l P (.slice la L.length lc) G w1 → Calls Tryz.prog 62 #[.pointer (some ⟨b, 0, none⟩), eV x] w1 (Ret (kI c) (UdSt b l' P' (.slice la L.length lc) G))) := Lib.hid (fun w1 h => by
          have := undo_any x z k h (by omega) hf.fit hf.2.2.1 h5 h6 h7 hz (by omega)
          rw [hu] at this; exact this)
        by_cases hc : c = 0
        · subst hc
          rw [if_neg (fun h => h rfl)] at hA
          obtain ⟨g1, g2, g3⟩ := hf.undo h1 h5 h6 hu
          have F2 : Hid (allU L f' l' P' = some (lr, Pr, rc) ∧ l'.length + f' + L.length ≤ 99999 ∧ FitU l' P' L) := Lib.hid ⟨hA, by omega, g1⟩
          have F3 : Hid (∀ w1, UdSt b l' P' (.slice la L.length lc) G w1 → 200000 - lenAt b w1 < 200000 - lenAt b wr) := Lib.hid (fun w1 h => by rw [lenAt_ud h, hln]; omega)
          clear hA hU hl hf hp hln h1 h2 h3 h4 h5 h6 h7 h8 hu hz hxb g1 g2 g3
          go_wp2_with (first
            | (go_at_call 60; refine (HPK.out).mono ?_; rintro e w2 ⟨rfl, hb⟩; have HUN2 := Lib.hid (HUN.out _ (hb.alloc (eO x))); have EX := enAt_new w2 x; obtain ⟨x0, x1, x2, x3, x4, x5, x6, x7, x8, x9, x10, x11, x12⟩ := EX)
            | (go_at_call 62; refine (HUN2.out).mono ?_; rintro e w3 ⟨rfl, hb3⟩; have FIN := Lib.hid hb3; clear x0 x1 x2 x3 x4 x5 x6 x7 x8 x9 x10 x11 x12 hb3))
          exact ⟨⟨f', l', P', F2.out.1, FIN.out, F2.out.2.1, F2.out.2.2⟩, F3.out _ FIN.out⟩
        · rw [if_pos hc] at hA
          have hb1 : (c == 0) = false := beq_eq_false_iff_ne.2 hc
          have hb2 : (c != 0) = true := by rw [bne, hb1]; rfl
          have hq : (l', P', c) = (lr, Pr, rc) := Option.some.inj hA
          have e1 : l' = lr := congrArg Prod.fst hq
          have e2 : P' = Pr := congrArg (fun y => y.2.1) hq
          have e3 : c = rc := congrArg (fun y => y.2.2) hq
          subst e1; subst e2; subst e3
          clear hA hU hl hf hp hln h1 h2 h3 h4 h5 h6 h7 h8 hu hz hxb hc hq
          go_wp2_with (first
            | (go_at_call 60; refine (HPK.out).mono ?_; rintro e w2 ⟨rfl, hb⟩; have HUN2 := Lib.hid (HUN.out _ (hb.alloc (eO x))); have EX := enAt_new w2 x; obtain ⟨x0, x1, x2, x3, x4, x5, x6, x7, x8, x9, x10, x11, x12⟩ := EX)
            | (go_at_call 62; refine (HUN2.out).mono ?_; rintro e w3 ⟨rfl, hb3⟩; have FIN := Lib.hid hb3; clear x0 x1 x2 x3 x4 x5 x6 x7 x8 x9 x10 x11 x12 hb3))
          go_ret
          exact ⟨rfl, FIN.out⟩
    · rw [if_pos he] at hA
      have hb1 : (e == 0) = false := beq_eq_false_iff_ne.2 he
      have hb2 : (e != 0) = true := by rw [bne, hb1]; rfl
      have hq : (l, P, e) = (lr, Pr, rc) := Option.some.inj hA
      have e1 : l = lr := congrArg Prod.fst hq
      have e2 : P = Pr := congrArg (fun y => y.2.1) hq
      have e3 : e = rc := congrArg (fun y => y.2.2) hq
      subst e1; subst e2; subst e3
      clear hA hU hl hf hp hln he hq
      go_wp2_with ((go_at_call 60; refine (HPK.out).mono ?_; rintro e w2 ⟨rfl, hb⟩; have FIN := Lib.hid (hb.alloc (eO x)); clear hb))
      go_ret
      exact ⟨rfl, FIN.out⟩
end Go.Proofs.YtficgjklagnbjaaGreat
namespace Go.Proofs.YtficgjklagnbjaaGreat
open Go Go.MapKept Go.RowKit Go.Proofs Go.Sort

/-- Cells in a row are laid anew. -/
theorem sat_setCells {T : TypeId} {g : Nat} {G : Heaplet} : ∀ (us : List Value) (o : Nat) (w : World) (c0 : Array Value), Sat w (.blk g (.cells c0 T) :: G) → o + us.length ≤ c0.size →
    ∃ c1 : Array Value, c1.size = c0.size ∧ Sat (w.setCells g o us) (.blk g (.cells c1 T) :: G) ∧ ∀ j, j < o → c1[j]? = c0[j]?
  | [], o, w, c0, hs, _ => ⟨c0, rfl, hs, fun _ _ => rfl⟩
  | u :: us, o, w, c0, hs, hle => by
    rw [List.length_cons] at hle
    have hs' := hs.setCell (i := o) u
    obtain ⟨c1, h1, h2, h3⟩ := sat_setCells us (o + 1) _ _ hs' (by simp; omega)
    refine ⟨c1, by rw [h1]; simp, h2, fun j hj => ?_⟩
    rw [h3 j (by omega)]
    have : o ≠ j := by omega
    simp [this]
theorem run_clear_gen {P : Program} (w : World) (t e ty : TypeId) (z : Value) (ht : P.underlying t = some (.slice e)) (hv : ∀ w, (zeroValue e).run P w = .ok z w) (b o n c : Nat) (hn : 0 < n) (h1 : ∀ v ∈ (Builtin.zeroCells z.cells n).toList, v.oneCell' = true)
    (hc : ∀ j, j < (Builtin.zeroCells z.cells n).toList.length → (w.cell? ⟨b, o + j, none⟩).isSome = true) (hf : ∀ j, w.frozen? ⟨b, j, none⟩ = false) :
    (Builtin.clear_ #[t] ty #[.slice (some ⟨b, o, none⟩) n c]).run P w = .ok (.tuple #[]) (w.setCells b o (Builtin.zeroCells z.cells n).toList) := by
  have hst := run_storeCells_cells (P := P) b o (Builtin.zeroCells z.cells n).toList 0 w (by simpa using hc) (fun j _ => hf _) h1
  simp only [Nat.add_zero] at hst
  obtain ⟨m, rfl⟩ : ∃ m, n = m + 1 := ⟨n - 1, by omega⟩
  simp [Builtin.clear_, run_underlying ht, hv, hst]
theorem zeroLo (w : World) : (zeroValue 89).run Tryz.prog w = .ok (.agg #[.int .i64 0, .int .i64 0, .int .i64 0, .int .i64 0]) w := by kernel_rfl
theorem zeroLo_len (n : Nat) : (Builtin.zeroCells (Value.agg #[.int .i64 0, .int .i64 0, .int .i64 0, .int .i64 0]).cells n).toList.length = n * 4 := by
  simp [Builtin.zeroCells, Value.cells]
theorem zeroLo_one (n : Nat) : ∀ v ∈ (Builtin.zeroCells (Value.agg #[.int .i64 0, .int .i64 0, .int .i64 0, .int .i64 0]).cells n).toList, v.oneCell' = true := by
  intro v hv
  simp only [Builtin.zeroCells, Array.toList_map, List.mem_map] at hv
  obtain ⟨i, _, rfl⟩ := hv
  have h2 : i % 4 = 0 ∨ i % 4 = 1 ∨ i % 4 = 2 ∨ i % 4 = 3 := by omega
  show ((#[Value.int .i64 0, Value.int .i64 0, Value.int .i64 0, Value.int .i64 0] : Array Value)[i % 4]!).oneCell' = true
  rcases h2 with h | h | h | h <;> (rw [h]; rfl)
/-- Whether a loser is not asked for. -/
def delP (cl : Int) (q : Tx × Int) : Bool := decide (cl ≠ 0) && decide (q.1.c ≠ cl)
abbrev loV (q : Tx × Int) : Value := .agg #[kI q.1.c, kI q.1.e, kI q.1.n, kI q.2]
abbrev undV (cb : Nat) : Value := .func (.func 32) #[] #[.pointer (some ⟨cb, 0, none⟩)]
theorem del1_any (q : Tx × Int) (cl : Int) (cb : Nat) (w : World) (hc : w.cell? ⟨cb, 0, none⟩ = some (kI cl)) :
    Calls Tryz.prog 32 #[loV q, .pointer (some ⟨cb, 0, none⟩)] w (Pur (.bool (delP cl q)) w) := by
  unfold Pur delP
  have hs := (sat_all w).new (.cells #[kI q.1.c, kI q.1.e, kI q.1.n, kI q.2] 89)
  have c0 : (w.alloc (.cells #[kI q.1.c, kI q.1.e, kI q.1.n, kI q.2] 89)).cell? ⟨w.heap.size, 0, none⟩ = some (kI q.1.c) := by rw [cell_of hs.h0]; rfl
  have c1 : (w.alloc (.cells #[kI q.1.c, kI q.1.e, kI q.1.n, kI q.2] 89)).cell? ⟨cb, 0, none⟩ = some (kI cl) := (Grown.alloc w _).cell hc
  have HG := Lib.hid (Grown.alloc w (.cells #[kI q.1.c, kI q.1.e, kI q.1.n, kI q.2] 89))
  clear hs hc
  by_cases h0 : cl = 0
  · have h1 : (cl != 0) = false := by simp [h0]
    have hd : decide (cl ≠ 0) = false := by simp [h0]
    rw [hd]
    clear hd h0
    go_enter Tryz.func32, Tryz.ntmps32
    go_wp2_with fail
    go_ret
    exact ⟨rfl, HG.out⟩
  · have h1 : (cl != 0) = true := by simp [h0]
    have hd : decide (cl ≠ 0) = true := by simp [h0]
    rw [hd]
    clear hd h0
    by_cases h2 : q.1.c = cl
    · have h3 : (q.1.c != cl) = false := by simp [h2]
      have hd : decide (q.1.c ≠ cl) = false := by simp [h2]
      rw [hd]
      clear hd h2
      go_enter Tryz.func32, Tryz.ntmps32
      go_wp2_with fail
      go_ret
      exact ⟨rfl, HG.out⟩
    · have h3 : (q.1.c != cl) = true := by simp [h2]
      have hd : decide (q.1.c ≠ cl) = true := by simp [h2]
      rw [hd]
      clear hd h2
      go_enter Tryz.func32, Tryz.ntmps32
      go_wp2_with fail
      go_ret
      exact ⟨rfl, HG.out⟩
set_option maxRecDepth 100000 in
theorem idx_lo {v : Value} {L : List (Tx × Int)} {h F : Heaplet} {w : World} {cb : Nat} {n : Int} (hv : LSl v L h) (s : Sat w (h ++ (.blk cb (.cells #[kI n] 3) :: F))) (hl : L.length ≤ 100000) :
    Calls Tryz.prog 50 #[v, undV cb] w (Pur (.int .i64 (idxF (delP n) L)) w) := by
  obtain ⟨a, cap, rfl, hc⟩ := lo_in hv (.blk cb (.cells #[kI n] 3) :: F)
  unfold Pur
  have HC := Lib.hid hc
  have HS := Lib.hid s
  have hl9 : (L.length : Int) ≤ 100000 := by omega
  obtain ⟨res, hres⟩ : ∃ res, idxF (delP n) L = res := ⟨_, rfl⟩
  rw [hres]
  have HRES := Lib.hid hres
  clear hc s hres hv
  go_enter Tryz.func50, Tryz.ntmps50
  go_wp2_with fail
  go_loopw [8] (fun v8 wr => ∃ j : Nat, j ≤ L.length ∧ v8 = .int .i64 j ∧ (∀ i y, i < j → L[i]? = some y → delP n y = false) ∧ Grown w wr) (fun v8 _ => 200000 - (RowKit.intOf v8).toNat)
  case atStart => exact ⟨0, by omega, rfl, fun i r hi => absurd hi (by omega), Grown.refl w⟩
  case round =>
    obtain ⟨j, hj, rfl, hno, hg⟩ := hrel
    have j0 : (0 : Int) ≤ (j : Int) := by omega
    have j9 : (j : Int) ≤ 100000 := by omega
    by_cases hjl : j < L.length
    · have j1 : (j : Int) < (L.length : Int) := by omega
      obtain ⟨x, hx⟩ : ∃ x, L[j]? = some x := ⟨_, List.getElem?_eq_getElem hjl⟩
      obtain ⟨g, off, e, u0, u1, u2, u3⟩ := HC.out wr (HS.out.grown hg) j x hx
      subst e
      have hcb : wr.cell? ⟨cb, 0, none⟩ = some (kI n) := by rw [cell_of (HS.out.grown hg).right.h0]; rfl
      have HCALL := Lib.hid (del1_any x n cb wr hcb)
      have HX := Lib.hid (And.intro hx (And.intro hno hg))
      obtain ⟨o, ho⟩ : ∃ o, delP n x = o := ⟨_, rfl⟩
      rw [ho] at HCALL
      have HO := Lib.hid ho
      clear hx hno hg ho hcb
      go_wp2_with fail
      refine (HCALL.out).mono ?_
      rintro e w1 ⟨rfl, hg1⟩
      have G1 := Lib.hid (HX.out.2.2.trans hg1)
      clear hg1 u0 u1 u2 u3 HCALL
      cases o with
      | true =>
        have h1 := idxF_found HX.out.1 HO.out HX.out.2.1
        rw [HRES.out] at h1
        clear HO HX
        go_wp2_with fail
        go_ret
        exact ⟨by rw [h1]; rfl, G1.out⟩
      | false =>
        have HNO : Hid (∀ i y, i < j + 1 → L[i]? = some y → delP n y = false) := Lib.hid (fun i y hi hy => by
          by_cases e : i = j
          · subst e
            rw [HX.out.1] at hy
            rw [← Option.some.inj hy]; exact HO.out
          · exact HX.out.2.1 i y (by omega) hy)
        clear HO HX
        go_wp2_with fail
        exact ⟨⟨j + 1, by omega, by simp, HNO.out, G1.out⟩, by simp only [RowKit.intOf]; omega⟩
    · obtain rfl : j = L.length := by omega
      have h1 := idxF_none hno
      rw [HRES.out] at h1
      have G1 := Lib.hid hg
      clear hno hg hj hjl
      go_wp2_with fail
      go_ret
      exact ⟨by rw [h1]; rfl, G1.out⟩
/-- Who is kept. -/
abbrev keepL (n : Int) (q : Tx × Int) : Bool := !delP n q
theorem idxL_cases (n : Int) (L : List (Tx × Int)) : (idxF (delP n) L = -1 ∧ L.filter (keepL n) = L) ∨ ∃ i : Nat, idxF (delP n) L = i ∧ i < L.length ∧ (L.take (i + 1)).filter (keepL n) = L.take i := by
  by_cases h0 : 0 ≤ idxF (delP n) L
  · right
    obtain ⟨i, x, e, hx, hp, hno⟩ := idxF_some rfl h0
    have hi := (List.getElem?_eq_some_iff.1 hx).1
    refine ⟨i, e, hi, ?_⟩
    rw [List.take_add_one, hx, List.filter_append]
    have h1 : (L.take i).filter (keepL n) = L.take i := by
      rw [List.filter_eq_self]
      intro r hr
      obtain ⟨k, hk, e⟩ := List.mem_iff_getElem.1 hr
      rw [List.length_take] at hk
      rw [List.getElem_take] at e
      have := hno k r (by omega) (by rw [← e]; exact List.getElem?_eq_getElem _)
      unfold keepL
      rw [this]; rfl
    rw [h1]
    have h2 : keepL n x = false := by unfold keepL; rw [hp]; rfl
    simp [h2]
  · left
    have h1 := idxF_any (delP n) L
    rw [decide_eq_false h0] at h1
    have h3 := idxG_bd (P := delP n) (l := L)
    refine ⟨by omega, ?_⟩
    rw [List.filter_eq_self]
    intro r hr
    unfold keepL
    have := (List.any_eq_false.1 h1.symm) r hr
    simpa using this
/-- The row while it is gone over. -/
def DlAt (g cap : Nat) (n : Int) (L : List (Tx × Int)) (G : Heaplet) (i j : Nat) (w : World) : Prop := ∃ (Z : List (Tx × Int)) (h : Heaplet), Z.length = L.length ∧ Z.take i = (L.take j).filter (keepL n) ∧ Z.drop j = L.drop j ∧ i ≤ j ∧ j ≤ L.length ∧ LSl (.slice (some ⟨g, 0, none⟩) Z.length cap) Z h ∧ Sat w (h ++ G)
theorem LSl.nz {g cap m : Nat} {Z : List (Tx × Int)} {h F : Heaplet} {w : World} (hv : LSl (.slice (some ⟨g, 0, none⟩) m cap) Z h) (s : Sat w (h ++ F)) : (∀ i, w.frozen? ⟨g, i, none⟩ = false) ∧ ∀ i q, Z[i]? = some q → w.cell? ⟨g, i * 4, none⟩ = some (kI q.1.c) ∧ w.cell? ⟨g, i * 4 + 1, none⟩ = some (kI q.1.e) ∧ w.cell? ⟨g, i * 4 + 2, none⟩ = some (kI q.1.n) ∧ w.cell? ⟨g, i * 4 + 3, none⟩ = some (kI q.2) := by
  constructor
  · rcases hv.2 with ⟨e, _⟩ | ⟨g', cap', cur, e, _, _, _, _, rfl⟩
    · cases e
    · simp only [Value.slice.injEq, Option.some.injEq, Addr.mk.injEq] at e
      obtain ⟨⟨rfl, _, _⟩, _, rfl⟩ := e
      exact unfrozen_of (Sat.h0 s)
  · intro i q hq
    obtain ⟨a', cap', e, hc⟩ := sl_cells lC_len hv s
    cases e
    obtain ⟨g', ea, _, hu⟩ := hc i q hq
    cases ea
    exact ⟨hu 0 _ rfl, hu 1 _ rfl, hu 2 _ rfl, hu 3 _ rfl⟩
section
variable {g cap i j : Nat} {n : Int} {L : List (Tx × Int)} {G : Heaplet} {w : World}
theorem DlAt.grown {w' : World} (h : DlAt g cap n L G i j w) (hg : Grown w w') : DlAt g cap n L G i j w' := by
  obtain ⟨Z, h, h1, h2, h3, h4, h5, h6, s⟩ := h
  exact ⟨Z, h, h1, h2, h3, h4, h5, h6, s.grown hg⟩
theorem DlAt.frame (h : DlAt g cap n L G i j w) : Sat w G := by
  obtain ⟨Z, h, h1, h2, h3, h4, h5, h6, s⟩ := h
  exact s.right
theorem DlAt.cells {q : Tx × Int} (h : DlAt g cap n L G i j w) (hq : L[j]? = some q) : w.cell? ⟨g, j * 4, none⟩ = some (kI q.1.c) ∧ w.cell? ⟨g, j * 4 + 1, none⟩ = some (kI q.1.e) ∧ w.cell? ⟨g, j * 4 + 2, none⟩ = some (kI q.1.n) ∧ w.cell? ⟨g, j * 4 + 3, none⟩ = some (kI q.2) := by
  obtain ⟨Z, h, h1, h2, h3, h4, h5, h6, s⟩ := h
  refine (LSl.nz h6 s).2 j q ?_
  have : (Z.drop j)[0]? = (L.drop j)[0]? := by rw [h3]
  simpa [hq] using this
theorem DlAt.old (h : DlAt g cap n L G i j w) (hi : i < L.length) : (∀ k, w.frozen? ⟨g, k, none⟩ = false) ∧ ∃ x0 x1 x2 x3, w.cell? ⟨g, i * 4, none⟩ = some x0 ∧ w.cell? ⟨g, i * 4 + 1, none⟩ = some x1 ∧ w.cell? ⟨g, i * 4 + 2, none⟩ = some x2 ∧ w.cell? ⟨g, i * 4 + 3, none⟩ = some x3 := by
  obtain ⟨Z, h, h1, h2, h3, h4, h5, h6, s⟩ := h
  obtain ⟨a, b⟩ := LSl.nz h6 s
  obtain ⟨b0, b1, b2, b3⟩ := b i Z[i] (List.getElem?_eq_getElem (by omega))
  exact ⟨a, _, _, _, _, b0, b1, b2, b3⟩
theorem DlAt.skip {q : Tx × Int} (h : DlAt g cap n L G i j w) (hq : L[j]? = some q) (e : delP n q = true) : DlAt g cap n L G i (j + 1) w := by
  obtain ⟨Z, h, h1, h2, h3, h4, h5, h6, s⟩ := h
  have hjl := (List.getElem?_eq_some_iff.1 hq).1
  refine ⟨Z, h, h1, ?_, ?_, by omega, by omega, h6, s⟩
  · rw [h2, List.take_add_one, hq, List.filter_append]
    have : keepL n q = false := by unfold keepL; rw [e]; rfl
    simp [this]
  · have := congrArg (List.drop 1) h3
    simpa [List.drop_drop] using this
theorem DlAt.keep {q : Tx × Int} (h : DlAt g cap n L G i j w) (hq : L[j]? = some q) (e : delP n q = false) (hi : i < j) : DlAt g cap n L G (i + 1) (j + 1) ((((w.setCell ⟨g, i * 4, none⟩ (kI q.1.c)).setCell ⟨g, i * 4 + 1, none⟩ (kI q.1.e)).setCell ⟨g, i * 4 + 2, none⟩ (kI q.1.n)).setCell ⟨g, i * 4 + 3, none⟩ (kI q.2)) := by
  obtain ⟨Z, h, h1, h2, h3, h4, h5, h6, s⟩ := h
  have hjl := (List.getElem?_eq_some_iff.1 hq).1
  have hil : i < Z.length := by omega
  have hz : Z[i]? = some Z[i] := List.getElem?_eq_getElem hil
  obtain ⟨⟨⟨z1, z2, z3⟩, z4⟩, hzz⟩ : ∃ z, Z[i]? = some z := ⟨_, hz⟩
  have sg : ∀ (Z' : List (Tx × Int)), Z'.length = Z.length → ∀ k, LSl (.slice (some ⟨g, 0, none⟩) Z.length cap) Z' k → LSl (.slice (some ⟨g, 0, none⟩) Z'.length cap) Z' k := fun Z' e k hk => by rw [e]; exact hk
  obtain ⟨k1, a1, s1⟩ := sl_set (f := 0) (q' := ((⟨q.1.c, z2, z3⟩ : Tx), z4)) lC_len h6 s hzz (by decide) (u := kI q.1.c) rfl
  have g1 := sg _ List.length_set _ a1
  obtain ⟨k2, a2, s2⟩ := sl_set (f := 1) (q' := ((⟨q.1.c, q.1.e, z3⟩ : Tx), z4)) lC_len g1 s1 (List.getElem?_set_self hil) (by decide) (u := kI q.1.e) rfl
  rw [List.set_set] at a2
  have g2 := sg _ List.length_set _ (by rw [List.length_set] at a2; exact a2)
  obtain ⟨k3, a3, s3⟩ := sl_set (f := 2) (q' := ((⟨q.1.c, q.1.e, q.1.n⟩ : Tx), z4)) lC_len g2 s2 (List.getElem?_set_self hil) (by decide) (u := kI q.1.n) rfl
  rw [List.set_set] at a3
  have g3 := sg _ List.length_set _ (by rw [List.length_set] at a3; exact a3)
  obtain ⟨k4, a4, s4⟩ := sl_set (f := 3) (q' := q) lC_len g3 s3 (List.getElem?_set_self hil) (by decide) (u := kI q.2) rfl
  rw [List.set_set] at a4
  have g4 := sg _ List.length_set _ (by rw [List.length_set] at a4; exact a4)
  refine ⟨Z.set i q, k4, by simpa using h1, ?_, ?_, by omega, by omega, g4, s4⟩
  · have hk : (L.take (j + 1)).filter (keepL n) = (L.take j).filter (keepL n) ++ [q] := by
      rw [List.take_add_one, hq, List.filter_append]
      have : keepL n q = true := by unfold keepL; rw [e]; rfl
      simp [this]
    rw [hk, ← h2, List.take_add_one, List.getElem?_set_self hil]
    congr 1
    exact List.take_set_of_le (by omega)
  · have := congrArg (List.drop 1) h3
    rw [List.drop_drop, List.drop_drop] at this
    rw [List.drop_set_of_lt (by omega)]
    exact this
/-- Behind the last: the tail is cleared. -/
theorem DlAt.fin (h : DlAt g cap n L G i L.length w) (hi : i < L.length) :
    ∃ w' h', i ≤ cap ∧ L.length ≤ cap ∧ (Builtin.clear_ #[83] 0 #[.slice (some ⟨g, i * 4, none⟩) (L.length - i) (cap - i)]).run Tryz.prog w = .ok (.tuple #[]) w' ∧ LSl (.slice (some ⟨g, 0, none⟩) i cap) (L.filter (keepL n)) h' ∧ (L.filter (keepL n)).length = i ∧ Sat w' (h' ++ G) := by
  obtain ⟨Z, h, h1, h2, h3, h4, h5, h6, s⟩ := h
  rw [List.take_length] at h2
  have hfl : (L.filter (keepL n)).length = i := by rw [← h2, List.length_take]; omega
  rcases h6.2 with ⟨e2, _⟩ | ⟨g', cap', cur, e2, hnc, hcm, hcs, htake, rfl⟩
  · cases e2
  · simp only [Value.slice.injEq, Option.some.injEq, Addr.mk.injEq] at e2
    obtain ⟨⟨rfl, _, _⟩, _, rfl⟩ := e2
    rw [h1] at hnc
    have hr := run_clear_gen (P := Tryz.prog) w 83 89 0 _ Tryz.underlying83 zeroLo g (i * 4) (L.length - i) (cap - i) (by omega) (zeroLo_one _) (fun j hj => by
      rw [zeroLo_len] at hj
      rw [cell_of s.h0, Array.getElem?_eq_getElem (by omega)]; rfl) (unfrozen_of s.h0)
    obtain ⟨c1, e1, s1, e2⟩ := sat_setCells (Builtin.zeroCells (Value.agg #[.int .i64 0, .int .i64 0, .int .i64 0, .int .i64 0]).cells (L.length - i)).toList (i * 4) w cur s (by rw [zeroLo_len]; omega)
    refine ⟨_, [.blk g (.cells c1 89)], by omega, hnc, hr, ⟨fm_len lC_len _, .inr ⟨g, cap, c1, by rw [hfl], by rw [hfl]; omega, hcm, by omega, ?_, rfl⟩⟩, hfl, s1⟩
    rw [hfl, ← h2]
    apply List.ext_getElem?
    intro m
    rw [List.getElem?_take]
    by_cases hm : m < i * 4
    · rw [if_pos hm, Array.getElem?_toList, e2 m hm]
      have h8 : (cur.toList.take (Z.length * 4))[m]? = (Z.flatMap lC)[m]? := by rw [htake]
      rw [List.getElem?_take_of_lt (by omega), Array.getElem?_toList] at h8
      rw [h8]
      have h9 : Z.flatMap lC = (Z.take i).flatMap lC ++ (Z.drop i).flatMap lC := by rw [← List.flatMap_append, List.take_append_drop]
      rw [h9, List.getElem?_append_left (by rw [fm_len lC_len, List.length_take]; omega)]
    · rw [if_neg hm, List.getElem?_eq_none (by rw [fm_len lC_len, List.length_take]; omega)]
end
end Go.Proofs.YtficgjklagnbjaaGreat
namespace Go.Proofs.YtficgjklagnbjaaGreat
open Go Go.MapKept Go.RowKit Go.Proofs Go.Sort

set_option maxRecDepth 100000 in
set_option maxHeartbeats 8000000 in
theorem del_any {v : Value} {L : List (Tx × Int)} {lh G : Heaplet} {cb : Nat} {n : Int} {w : World} (hv : LSl v L lh) (s : Sat w (lh ++ (.blk cb (.cells #[kI n] 3) :: G))) (hn : L.length ≤ 100000) :
    Calls Tryz.prog 30 #[v, undV cb] w fun e w' => ∃ v' h', e = .returned v' ∧ LSl v' (L.filter (keepL n)) h' ∧ Sat w' (h' ++ (.blk cb (.cells #[kI n] 3) :: G)) := by
  have hidx := idx_lo hv s hn
  rcases idxL_cases n L with ⟨hi, hfl⟩ | ⟨i, hi, hil, hfl⟩
  · rw [hi] at hidx
    rw [hfl]
    have HIDX := Lib.hid hidx
    have HV := Lib.hid (And.intro hv s)
    obtain ⟨a, cap, rfl⟩ := sl_form hv
    clear hidx hv s hi hfl
    go_enter Tryz.func30, Tryz.ntmps30
    go_wp2_with fail
    refine (HIDX.out).mono ?_
    rintro e w1 ⟨rfl, hg⟩
    have FIN := Lib.hid (HV.out.2.grown hg)
    clear hg
    go_wp2_with fail
    go_ret
    exact ⟨_, lh, rfl, HV.out.1, FIN.out⟩
  · rw [hi] at hidx
    obtain ⟨g, cap, rfl⟩ := sl_some hv (by omega)
    have hd0 : DlAt g cap n L (.blk cb (.cells #[kI n] 3) :: G) i (i + 1) w := ⟨L, lh, rfl, hfl.symm, rfl, by omega, by omega, hv, s⟩
    have HD0 := Lib.hid hd0
    have HIDX := Lib.hid hidx
    have HN := Lib.hid hn
    have hin : ((i : Int) == -1) = false := by simp
    have hin2 : ((i : Int) = -1) = False := eq_false (by omega)
    clear hidx hv s hi hd0 hn hfl
    go_enter Tryz.func30, Tryz.ntmps30
    go_wp2_with fail
    refine (HIDX.out).mono ?_
    rintro e w1 ⟨rfl, hg⟩
    have H0 := Lib.hid (HD0.out.grown hg)
    have i9 : (i : Int) ≤ 100000 := by have := HN.out; omega
    clear hg HIDX HD0
    go_wp2_with fail
    go_loopw [5, 6] (fun v5 v6 wr => ∃ i j : Nat, i < j ∧ j ≤ L.length ∧ v5 = .int .i64 i ∧ v6 = .int .i64 j ∧ DlAt g cap n L (.blk cb (.cells #[kI n] 3) :: G) i j wr) (fun _ v6 _ => 200000 - (RowKit.intOf v6).toNat)
    case atStart => exact ⟨i, i + 1, by omega, by omega, rfl, by simp, H0.out⟩
    case round =>
      clear H0 hin hin2 i9 hil
      obtain ⟨i, j, hij, hj, rfl, rfl, hd⟩ := hrel
      have j0 : (0 : Int) ≤ (j : Int) := by omega
      have i0 : (0 : Int) ≤ (i : Int) := by omega
      have j9 : (j : Int) ≤ 100000 := by have := HN.out; omega
      have i9 : (i : Int) < (L.length : Int) := by omega
      have i8 : (i : Int) ≤ (L.length : Int) := by omega
      have q9 : (L.length : Int) ≤ 100000 := by have := HN.out; omega
      by_cases hjl : j < L.length
      · have j1 : (j : Int) < (L.length : Int) := by omega
        obtain ⟨q, hr⟩ : ∃ q, L[j]? = some q := ⟨_, List.getElem?_eq_getElem hjl⟩
        obtain ⟨u0, u1, u2, u3⟩ := hd.cells hr
        have HD := Lib.hid hd
        have HR := Lib.hid hr
        clear hd hr
        go_upto_region 8 with (fail)
        have hs1 := (sat_all wr).new (.cells #[kI q.1.c, kI q.1.e, kI q.1.n, kI q.2] 89)
        have HD1 := Lib.hid (HD.out.grown (Grown.alloc wr (.cells #[kI q.1.c, kI q.1.e, kI q.1.n, kI q.2] 89)))
        have HS1 := Lib.hid hs1
        have n0 : (wr.alloc (.cells #[kI q.1.c, kI q.1.e, kI q.1.n, kI q.2] 89)).cell? ⟨wr.heap.size, 0, none⟩ = some (kI q.1.c) := by rw [cell_of hs1.h0]; rfl
        have n1 : (wr.alloc (.cells #[kI q.1.c, kI q.1.e, kI q.1.n, kI q.2] 89)).cell? ⟨wr.heap.size, 1, none⟩ = some (kI q.1.e) := by rw [cell_of hs1.h0]; rfl
        have n2 : (wr.alloc (.cells #[kI q.1.c, kI q.1.e, kI q.1.n, kI q.2] 89)).cell? ⟨wr.heap.size, 2, none⟩ = some (kI q.1.n) := by rw [cell_of hs1.h0]; rfl
        have n3 : (wr.alloc (.cells #[kI q.1.c, kI q.1.e, kI q.1.n, kI q.2] 89)).cell? ⟨wr.heap.size, 3, none⟩ = some (kI q.2) := by rw [cell_of hs1.h0]; rfl
        have hcb : (wr.alloc (.cells #[kI q.1.c, kI q.1.e, kI q.1.n, kI q.2] 89)).cell? ⟨cb, 0, none⟩ = some (kI n) := by rw [cell_of HD1.out.frame.h0]; rfl
        obtain ⟨AW, hAW⟩ : ∃ AW, allOf wr = AW := ⟨_, rfl⟩
        rw [hAW] at HS1
        clear hs1 hAW u0 u1 u2 u3 HD
        generalize wr.alloc (.cells #[kI q.1.c, kI q.1.e, kI q.1.n, kI q.2] 89) = W1 at *
        generalize wr.heap.size = xb at *
        have HCALL := Lib.hid (del1_any q n cb W1 hcb)
        obtain ⟨o, ho⟩ : ∃ o, delP n q = o := ⟨_, rfl⟩
        rw [ho] at HCALL
        have HO := Lib.hid ho
        clear hcb ho
        go_wp2_with fail
        refine (HCALL.out).mono ?_
        rintro e w2 ⟨rfl, hg2⟩
        have HD2 := Lib.hid (HD1.out.grown hg2)
        have HS2 := Lib.hid (HS1.out.grown hg2)
        clear n0 n1 n2 n3 HD1 HCALL hg2 HS1
        cases o with
        | true =>
          have FIN := Lib.hid (HD2.out.skip HR.out HO.out)
          clear HD2 HS2
          go_wp2_with fail
          exact ⟨⟨i, j + 1, by omega, by omega, rfl, by simp, FIN.out⟩, by simp only [RowKit.intOf]; omega⟩
        | false =>
          have FIN := Lib.hid (HD2.out.keep HR.out HO.out hij)
          obtain ⟨ff, x0, x1, x2, x3, e0, e1, e2, e3⟩ := HD2.out.old (by omega)
          have n0 : w2.cell? ⟨xb, 0, none⟩ = some (kI q.1.c) := by rw [cell_of HS2.out.h0]; rfl
          have n1 : w2.cell? ⟨xb, 1, none⟩ = some (kI q.1.e) := by rw [cell_of HS2.out.h0]; rfl
          have n2 : w2.cell? ⟨xb, 2, none⟩ = some (kI q.1.n) := by rw [cell_of HS2.out.h0]; rfl
          have n3 : w2.cell? ⟨xb, 3, none⟩ = some (kI q.2) := by rw [cell_of HS2.out.h0]; rfl
          clear HD2 HS2
          go_wp2_with fail
          exact ⟨⟨i + 1, j + 1, by omega, by omega, by simp, by simp, FIN.out⟩, by simp only [RowKit.intOf]; omega⟩
      · obtain rfl : j = L.length := by omega
        obtain ⟨w', h', ic, lc, hcl, hq', hfl, hs'⟩ := hd.fin hij
        have FIN := Lib.hid (And.intro hq' hs')
        have hci : (cap = i) = False := eq_false (by omega)
        have ic9 : (i : Int) ≤ (cap : Int) := by omega
        have ic2 : i ≤ cap := by omega
        have iq2 : i ≤ L.length := by omega
        have HF := Lib.hid hfl
        clear hd hq' hs' hj hjl hfl
        go_wp2_with fail
        go_ret
        exact ⟨_, h', rfl, FIN.out.1, FIN.out.2⟩
end Go.Proofs.YtficgjklagnbjaaGreat
