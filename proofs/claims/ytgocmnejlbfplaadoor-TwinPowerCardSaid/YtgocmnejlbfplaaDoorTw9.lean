/- A page of a store is read off its plate: load walked. Conditions: none. -/
import Derived.Test.YtgocmnejlbfplaaDoorTw8
namespace Go.Proofs.YtgocmnejlbfplaaDoor
open Go Go.MapKept Go.RowKit Go.Proofs

attribute [local go_sem] Oper.semAt_some

theorem infoPg : (Tryd.prog.info? 25).map (fun i => (i.zero, i.size, i.bytes)) = some (some (.agg #[kI 0, .slice none 0 0]), 2, 32) := by kernel_rfl
def TS.push (S : TS) (p : Pg) : TS := { S with pages := S.pages ++ [p] }
def TS.die (S : TS) (d : Bool) : TS := { S with dead := d }
/-- A page more. -/
theorem StIs.push {tb pb : Nat} {S : TS} {M : PM} {G hb : Heaplet} {w : World} {x : Nat} {p : Pg} {a : Option Addr} {cap : Nat} (h : StIs tb pb S M (.blk x (.cells #[kI p.lsn, .slice a p.slots.length cap] 25) :: (hb ++ G)) w) (hsl : SlAt hb (.slice a p.slots.length cap) p.slots) (hl : S.pages.length + 1 ≤ 200000) :
    ∃ pv v' w', w.cell? ⟨tb, 3, none⟩ = some pv ∧ (∀ ty, (Builtin.append_ #[49, 49] ty #[pv, .slice (some ⟨x, 0, none⟩) 1 1]).run Tryd.prog w = .ok v' w') ∧ (w'.cell? ⟨tb, 3, none⟩ = some pv ∧ Sat w' G) ∧ (∀ i, w'.frozen? ⟨tb, i, none⟩ = false) ∧ StIs tb pb (S.push p) M G (w'.setCell ⟨tb, 3, none⟩ v') ∧ ∃ a' c', v' = .slice a' (S.pages.length + 1) c' := by
  obtain ⟨pv, R, h', K, h1, h2, m, es, clk, qv, qh, g1, g2, hs⟩ := h
  obtain ⟨i0, hin, hz, hsize, hby⟩ := info_parts infoPg
  have s2 : Sat w (.blk x (.cells (prC (p.lsn, .slice a p.slots.length cap)).toArray 25) :: ([] ++ (h' ++ (.blk tb (stO S pb pv) :: .blk pb (plateObj M m qv) :: .blk m (.map es clk) :: (qh ++ ((hb ++ K) ++ G)))))) := by
    have s' : Sat w (HItem.blk pb (plateObj M m qv) :: .blk m (.map es clk) :: (qh ++ (.blk tb (stO S pb pv) :: (h' ++ (K ++ (.blk x (.cells (prC (p.lsn, .slice a p.slots.length cap)).toArray 25) :: (hb ++ G))))))) := hs
    refine Sat.part s' ?_
    intro a
    simp only [cnt_cons, cnt_append, cnt_nil]
    omega
  obtain ⟨v', w', hn, hap, hv', hs'⟩ := sl_push (P := Tryd.prog) prC_len Tryd.underlying49 hin hz hsize hby rfl (by decide) h1 (p.lsn, .slice a p.slots.length cap) s2 (by intro u hu; simp only [prC, List.mem_cons, List.not_mem_nil, or_false] at hu; rcases hu with rfl | rfl <;> rfl) (by unfold maxLen; rw [h2.1]; omega) (by rw [h2.1]; omega)
  have hs3 : Sat w' (.blk tb (stO S pb pv) :: .blk pb (plateObj M m qv) :: .blk m (.map es clk) :: (qh ++ (hn ++ ((hb ++ K) ++ G)))) := by
    refine Sat.part hs' ?_
    intro a
    simp only [cnt_cons, cnt_append, cnt_nil]
    omega
  have hs4 := hs3.setCell (i := 3) v'
  refine ⟨pv, v', w', ?_, hap, ⟨by rw [cell_of hs3.h0]; rfl, hs3.tail.tail.tail.right.right.right⟩, unfrozen_of hs3.h0, ?_, ?_⟩
  · have : Sat w (.blk tb (stO S pb pv) :: (h' ++ (K ++ (.blk x (.cells #[kI p.lsn, .slice a p.slots.length cap] 25) :: (hb ++ G))))) := hs.tail.tail.right
    rw [cell_of this.h0]; rfl
  · refine ⟨v', R ++ [(p.lsn, .slice a p.slots.length cap)], hn, hb ++ K, hv', ⟨by simp [TS.push, h2.1], fun i r q hr hq => ?_⟩, m, es, clk, qv, qh, g1, g2, ?_⟩
    · by_cases hil : i < R.length
      · rw [List.getElem?_append_left hil] at hr
        have hq' : S.pages[i]? = some q := by
          have : (S.pages ++ [p])[i]? = some q := hq
          rwa [List.getElem?_append_left (by rw [← h2.1]; exact hil)] at this
        obtain ⟨e1, e2⟩ := h2.2 i r q hr hq'
        exact ⟨e1, e2.mono (fun W hW => hW.right)⟩
      · rw [List.getElem?_append_right (by omega)] at hr
        have hq' : (S.pages ++ [p])[i]? = some q := hq
        rw [List.getElem?_append_right (by rw [← h2.1]; omega)] at hq'
        have h0 : i - R.length = 0 := by
          have := (List.getElem?_eq_some_iff.1 hr).1
          simp only [List.length_cons, List.length_nil] at this
          omega
        rw [h0] at hr
        rw [← h2.1, h0] at hq'
        cases hr; cases hq'
        exact ⟨rfl, hsl.mono (fun W hW => Sat.lft hW)⟩
    · have e5 : (#[.pointer (some ⟨pb, 0, none⟩), kI S.frm, kI S.twins, pv, kI S.life, .bool S.dead] : Array Value).setIfInBounds 3 v' = #[.pointer (some ⟨pb, 0, none⟩), kI S.frm, kI S.twins, v', kI S.life, .bool S.dead] := rfl
      rw [e5] at hs4
      have hs5 : Sat (w'.setCell ⟨tb, 3, none⟩ v') (.blk tb (stO (S.push p) pb v') :: .blk pb (plateObj M m qv) :: .blk m (.map es clk) :: (qh ++ (hn ++ ((hb ++ K) ++ G)))) := hs4
      refine Sat.part hs5 ?_
      intro a
      simp only [cnt_cons, cnt_append, cnt_nil]
      omega
  · obtain ⟨a', c', e⟩ := sl_form hv'
    exact ⟨a', c', by rw [e, List.length_append, h2.1]; rfl⟩
/-- The store's word 'dead' is written. -/
theorem StIs.setDead {tb pb : Nat} {S : TS} {M : PM} {G : Heaplet} {w : World} (h : StIs tb pb S M G w) (d : Bool) : StIs tb pb (S.die d) M G (w.setCell ⟨tb, 5, none⟩ (.bool d)) := by
  obtain ⟨pv, R, h', K, h1, h2, hp⟩ := h
  exact ⟨pv, R, h', K, h1, h2, hp.setF (i := 5) (.bool d)⟩
/-- What load comes to: the error, whether it can be read, the store, the plate. -/
def loadP (S : TS) (M : PM) (n : Nat) : Int × Bool × TS × PM :=
  if (readM M (S.frm + S.twins + (n : Int))).2 = 0 then match pageM n (readM M (S.frm + S.twins + (n : Int))).1 with
    | some p => (0, true, S.push p, M)
    | none => (0, zeroB (readM M (S.frm + S.twins + (n : Int))).1, S.push emptyP, M)
  else match copiedN M S.frm n S.twins.toNat with
    | none => (0, false, S.push emptyP, M)
    | some p => if (writeM M (S.frm + S.twins + (n : Int)) (secM n p)).1 ≠ 0 then ((writeM M (S.frm + S.twins + (n : Int)) (secM n p)).1, false, S, (writeM M (S.frm + S.twins + (n : Int)) (secM n p)).2)
      else (0, true, (S.die true).push p, (writeM M (S.frm + S.twins + (n : Int)) (secM n p)).2)
theorem pageM_good {n : Nat} {s : ByteArray} {p : Pg} (h : pageM n s = some p) : goodP p = true := (pageB_some h).1
theorem copiedN_good {M : PM} {f : Int} {n : Nat} {p : Pg} : ∀ {k : Nat}, copiedN M f n k = some p → goodP p = true := by
  intro k
  induction k generalizing p with
  | zero => intro h; cases h
  | succ k ih =>
    intro h
    rw [copiedN_succ] at h
    unfold copyStep at h
    split at h
    · exact ih h
    · cases hp : pageM n (readM M (f + (k : Int))).1 with
      | none => rw [hp] at h; exact ih h
      | some q =>
        rw [hp] at h
        have h' : better (copiedN M f n k) q = some p := h
        cases hc : copiedN M f n k with
        | none =>
          rw [hc] at h'
          cases h'
          exact pageM_good hp
        | some r =>
          rw [hc] at h'
          have h2 : (if r.lsn < q.lsn then some q else some r) = some p := h'
          split at h2
          · cases h2; exact pageM_good hp
          · cases h2; exact ih hc
theorem StIs.write {tb pb : Nat} {S : TS} {M : PM} {G : Heaplet} {w : World} (h : StIs tb pb S M G w) {bd : Nat} (hk : PlOk bd M) (n : Int) (s : ByteArray) : Calls Tryd.prog 38 #[.pointer (some ⟨pb, 0, none⟩), .int .i64 n, .string s] w (Ret (.int .i64 (writeM M n s).1) (StIs tb pb S (writeM M n s).2 G)) := by
  obtain ⟨pv, R, h', K, h1, h2, hp⟩ := h
  obtain ⟨_, _, k1⟩ := hk
  refine (write_any pb M _ n s w hp (by omega) (by omega) (by omega) (by omega)).mono ?_
  rintro e w' ⟨rfl, hp'⟩
  exact ⟨rfl, pv, R, h', K, h1, h2, hp'⟩
end Go.Proofs.YtgocmnejlbfplaaDoor
