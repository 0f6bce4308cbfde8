/- One client's losers undone, in plain data. Conditions: none. -/
import Derived.Test.YtficgjklagnbjaaGreatMp16
namespace Go.Proofs.YtficgjklagnbjaaGreat
open Go Go.MapKept Go.RowKit Go.Proofs

/-- An entry of a list, or one that closes, or one that undoes one of the list's. -/
def From (l : List En) (y : En) : Prop := y ∈ l ∨ y.kind = 4 ∨ (y.kind = 2 ∧ ∃ z ∈ l, z.t = y.t ∧ z.page = y.page)
theorem undoM_from {l m : List En} {P : List Lf} {x : En} (hm : ∀ y ∈ m, From l y) (hx : x ∈ m) (hk : x.kind = 1) : ∀ y ∈ (undoM m P x).1, From l y := by
  have hxl : x ∈ l := by
    rcases hm x hx with h | h | h
    · exact h
    · omega
    · omega
  unfold undoM
  split
  · exact hm
  · split
    · exact hm
    · split
      · exact hm
      · split
        · exact hm
        · rename_i h2 _
          intro y hy
          rcases List.mem_append.1 hy with hy | hy
          · exact hm y hy
          · rw [List.mem_singleton.1 hy]
            unfold turnM at h2 ⊢
            split at h2
            · exact absurd (show (1 : Int) ≠ 0 by decide) h2
            · rename_i h3
              rw [if_neg h3]
              exact .inr (.inr ⟨rfl, x, hxl, rfl, rfl⟩)
theorem endsM_from {l : List En} : ∀ (L : List (Tx × Int)) (m : List En), (∀ y ∈ m, From l y) → ∀ y ∈ (endsM m L).1, From l y
  | [], _, h => h
  | q :: r, m, h => by
    unfold endsM
    split
    · exact h
    · refine endsM_from r _ (fun y hy => ?_)
      rcases List.mem_append.1 hy with hy | hy
      · exact h y hy
      · rw [List.mem_singleton.1 hy]
        exact .inr (.inl rfl)
theorem allU_from {l : List En} {L : List (Tx × Int)} : ∀ (f : Nat) (m : List En) (P : List Lf) (lr : List En) (Pr : List Lf) (c : Int), (∀ y ∈ m, From l y) → allU L f m P = some (lr, Pr, c) → ∀ y ∈ lr, From l y
  | 0, m, P, lr, Pr, c, _, h => by simp [allU] at h
  | f + 1, m, P, lr, Pr, c, hm, h => by
    unfold allU at h
    split at h
    · cases h; exact hm
    · split at h
      · cases h; exact endsM_from L m hm
      · rename_i h1 h2
        have hpk : pickM m L = ((pickM m L).1, true, (pickM m L).2.2) := by
          cases hb : (pickM m L).2.1 with
          | false => exact absurd hb h2
          | true => rw [← hb]
        obtain ⟨q, _, hq⟩ := pickM_mem hpk
        obtain ⟨a1, a2, _⟩ := nextM_mem hq
        have hx : (pickM m L).1 ∈ m := (mem_ofM.1 a1).1
        have hu := undoM_from (P := P) hm hx a2
        split at h
        · rw [Option.some.inj h] at hu; exact hu
        · exact allU_from f _ _ lr Pr c hu h
theorem sum_sub {a b : List Nat} (h : List.Sublist a b) : a.sum ≤ b.sum := by
  induction h with
  | slnil => exact Nat.le_refl _
  | cons x _ ih => rw [List.sum_cons]; omega
  | cons_cons x _ ih => rw [List.sum_cons, List.sum_cons]; omega
theorem Rc.keep {l add : List En} {P : List Lf} {V : List (List Lf)} (h : Rc l P add V) {n : Nat} : (∀ y ∈ add, chgM y = true → y.page ≠ (n : Int)) → (finP P V)[n]? = P[n]? := by
  induction h with
  | nil l P => intro _; rfl
  | @cons l P y P' add V h r ih =>
    intro hy
    rw [finP_cons, ih (fun z hz => hy z (List.mem_cons_of_mem _ hz))]
    have hs := h.st
    unfold StepP at hs
    split at hs
    · rename_i hc
      obtain ⟨m, p, p', hm, e1, _, _, rfl⟩ := hs
      have := hy y (.head _) hc
      rw [List.getElem?_set_ne (by intro e; apply this; rw [e1, e])]
    · rw [hs]
section
variable {i : Nat} {S : PS} {c : Nat}
/-- What the undoing of one client's losers leaves. -/
theorem JS.client (h : JS i S) (hi : S.list.length ≤ 80) (hc : 1 ≤ c) (hc5 : c < 5) : ∃ add V, allU ((losersM S.list).filter (keepL c)) (tot S.list (losersM S.list) + 1) S.list S.now = some (S.list ++ add, finP S.now V, 0) ∧
    (∀ y ∈ add, y.t.c = (c : Int)) ∧ Pgs (finP S.now V) ∧ add.length ≤ 200 ∧
    ∀ n, n < 4 → (S.ow n ≠ (c : Int) → pgAt (finP S.now V) n = pgAt S.now n) ∧ (S.ow n = (c : Int) → ∀ k, k < 5 → atM (pgAt (finP S.now V) n) ((k : Nat) : Int) = foldP S.list n k) := by
  have hll := losers_len S.list
  have htl := tot_own S.list
  have hqL : ∀ q ∈ (losersM S.list).filter (keepL c), endM S.list q.1 = false ∧ ofM S.list q.1 ≠ [] := fun q hq => losersM_mem.1 ⟨q, (List.mem_filter.1 hq).1, rfl⟩
  have hqt : ∀ q ∈ (losersM S.list).filter (keepL c), q.1 = S.t c := by
    intro q hq
    obtain ⟨h1, h2⟩ := hqL q hq
    obtain ⟨x, hx⟩ := List.exists_mem_of_ne_nil _ h2
    obtain ⟨hxl, hxt, _⟩ := mem_ofM.1 hx
    obtain ⟨d, d1, d5, e1, _, e2⟩ := h.own x hxl
    have hk := (List.mem_filter.1 hq).2
    have hqc : q.1.c = (c : Int) := by
      unfold keepL delP at hk
      simp at hk
      rcases hk with hk | hk
      · omega
      · exact hk
    have hdc : d = c := by rw [hxt] at e1; omega
    rw [hdc] at e2
    rcases e2 with e2 | e2
    · rw [← hxt]; exact e2
    · rw [hxt, h1] at e2; cases e2
  have hsub : (((losersM S.list).filter (keepL c)).map (·.1)).Nodup := List.Nodup.sublist (List.Sublist.map _ List.filter_sublist) (losersM_nodup S.list)
  have htf : tot S.list ((losersM S.list).filter (keepL c)) ≤ tot S.list (losersM S.list) := by
    unfold tot
    exact sum_sub (List.Sublist.map _ List.filter_sublist)
  have hlf : ((losersM S.list).filter (keepL c)).length ≤ (losersM S.list).length := List.length_filter_le _ _
  obtain ⟨add, V, a1, a2, a3, a4, a5⟩ := all_ok _ hsub (tot S.list (losersM S.list) + 1) S.list S.now h.li hqL (by omega) (by push_cast; omega)
  have hli := a2.li h.li
  have hyt : ∀ y ∈ add, y.t = S.t c := fun y hy => by
    obtain ⟨q, hq, e⟩ := a3 y hy
    rw [e]; exact hqt q hq
  refine ⟨add, V, a1, fun y hy => by rw [hyt y hy]; rfl, hli.pgs, by omega, fun n hn => ⟨fun ho => ?_, fun ho k hk => ?_⟩⟩
  · have hkp : (finP S.now V)[n]? = S.now[n]? := a2.keep (fun y hy hc' hp => by
      have hf := allU_from _ _ _ _ _ _ (fun y hy => .inl hy) a1 y (List.mem_append_right _ hy)
      have hz : ∃ z ∈ S.list, z.t = y.t ∧ z.page = y.page := by
        rcases hf with hf | hf | ⟨_, hf⟩
        · exact ⟨y, hf, rfl, rfl⟩
        · unfold chgM at hc'
          rw [hf] at hc'; cases hc'
        · exact hf
      obtain ⟨z, hz1, hz2, hz3⟩ := hz
      exact ho ((h.ow1 c n hc hc5 hn).2 ⟨z, mem_ofM.2 ⟨hz1, hz2.trans (hyt y hy), (h.li.ok z hz1).1⟩, hz3.trans hp⟩))
    unfold pgAt; rw [hkp]
  · obtain ⟨x, hx, hxp⟩ := (h.ow1 c n hc hc5 hn).1 ho
    have hop := h.opn c hc hc5
    have hlos : ∃ q ∈ (losersM S.list).filter (keepL c), q.1 = S.t c := by
      obtain ⟨q, hq, e⟩ := losersM_mem.2 ⟨hop, List.ne_nil_of_mem hx⟩
      refine ⟨q, List.mem_filter.2 ⟨hq, ?_⟩, e⟩
      unfold keepL delP
      have : q.1.c = (c : Int) := by rw [e]; rfl
      simp [this]
    obtain ⟨q, hq, e⟩ := hlos
    have hend := a4 q hq
    rw [e] at hend
    obtain ⟨p, hp, hg, _⟩ := hli.pg n hn
    have he : pgAt (finP S.now V) n = p := by unfold pgAt; rw [hp]
    rw [he, atM_slot hg]
    have := hli.free n p hp (fun t ht y hy hyp => by
      have hne : t ≠ S.t c := fun e2 => by rw [e2, hend] at ht; cases ht
      obtain ⟨b1, b2⟩ := a2.other (t := t) (fun z hz e2 => hne (by rw [← e2, hyt z hz]))
      rw [b1] at hy
      rw [b2] at ht
      exact hne (h.li.one t (S.t c) y x ht hop hy hx (hyp.trans hxp.symm))) k
    have h2 : cont p k = wantS (foldP (S.list ++ add)) n k := this
    rw [a2.fold] at h2
    rw [show slotOf p.slots k = cont p k from rfl, h2]
    exact if_pos hk
end
end Go.Proofs.YtficgjklagnbjaaGreat
