/- Who waits for whom, in plain data. Conditions: none. -/
import Derived.Test.YthgfbnopbfiifaaKeyS
import Derived.Test.YthgfbnopbfiifaaKey15
namespace Go.Proofs.Ythgfbnopbfiifaa
open Go Go.MapKept Go.RowKit Go.Proofs Go.Sort

def busyO (h : Hds) (c : Int) : Bool := ((getL c h).map (·.busy)).getD false
def edQ (l : LkM) (r : Rq) (i : Nat) : List (Int × Int) := (l.queue.take i).map fun q => (r.c, q.c)
def edW (l : LkM) (r : Rq) (cs : List Int) : List (Int × Int) := (cs.filter (busyO l.holds)).map fun c => (r.c, c)
/-- The edges of a page's request. -/
def edR (l : LkM) (i : Nat) : List (Int × Int) := match l.queue[i]? with
  | none => []
  | some r => edQ l r i ++ edW l r (wayM l.holds r)
/-- Those of the first ones. -/
def edL (l : LkM) (i : Nat) : List (Int × Int) := (List.range i).flatMap (edR l)
theorem edL_zero (l : LkM) : edL l 0 = [] := rfl
theorem edL_succ {l : LkM} {i : Nat} {r : Rq} (h : l.queue[i]? = some r) : edL l (i + 1) = edL l i ++ (edQ l r i ++ edW l r (wayM l.holds r)) := by
  unfold edL
  rw [List.range_succ, List.flatMap_append]
  simp [edR, h]
theorem edQ_succ {l : LkM} {r q : Rq} {j : Nat} (h : l.queue[j]? = some q) : edQ l r (j + 1) = edQ l r j ++ [(r.c, q.c)] := by
  unfold edQ
  rw [List.take_add_one, h, List.map_append]; rfl
theorem edW_succ {l : LkM} {r : Rq} {cs : List Int} {j : Nat} {c : Int} (h : cs[j]? = some c) : edW l r (cs.take (j + 1)) = edW l r (cs.take j) ++ (if busyO l.holds c = true then [(r.c, c)] else []) := by
  unfold edW
  rw [List.take_add_one, h, List.filter_append, List.map_append]
  congr 1
  cases e : busyO l.holds c <;> simp [e]
/-- An edge of the table. -/
def EdIn (T : TabM) (x : Int × Int) : Prop := ∃ p l, getL p T = some l ∧ x ∈ edL l l.queue.length
theorem edL_mem {l : LkM} {n : Nat} {x : Int × Int} (h : x ∈ edL l n) : ∃ i r, i < n ∧ l.queue[i]? = some r ∧ x.1 = r.c ∧ ((∃ q ∈ l.queue, x.2 = q.c) ∨ ∃ d, getL x.2 l.holds = some d) := by
  unfold edL at h
  obtain ⟨i, hi, hx⟩ := List.mem_flatMap.1 h
  rw [List.mem_range] at hi
  unfold edR at hx
  cases e : l.queue[i]? with
  | none => rw [e] at hx; cases hx
  | some r =>
    rw [e] at hx
    refine ⟨i, r, hi, e, ?_⟩
    rcases List.mem_append.1 hx with hx | hx
    · unfold edQ at hx
      obtain ⟨q, hq, rfl⟩ := List.mem_map.1 hx
      exact ⟨rfl, .inl ⟨q, List.mem_of_mem_take hq, rfl⟩⟩
    · unfold edW at hx
      obtain ⟨c, hc, rfl⟩ := List.mem_map.1 hx
      obtain ⟨d, hd, _⟩ := way_mem (List.mem_filter.1 hc).1
      exact ⟨rfl, .inr ⟨d, hd⟩⟩
theorem edL_bd {l : LkM} (hf : Fit8 l) {n : Nat} {x : Int × Int} (h : x ∈ edL l n) : (0 ≤ x.1 ∧ x.1 < 16) ∧ 0 ≤ x.2 ∧ x.2 < 16 := by
  obtain ⟨i, r, _, hr, h1, h2⟩ := edL_mem h
  have hrc := hf.2.2.1 r (List.mem_of_getElem? hr)
  rw [h1]
  refine ⟨by omega, ?_⟩
  rcases h2 with ⟨q, hq, e⟩ | ⟨d, hd⟩
  · have := hf.2.2.1 q hq
    rw [e]; omega
  · have := hf.1 _ (getL_mem hd)
    simp only at this
    omega
theorem way_len {l : LkM} (hf : Fit8 l) (r : Rq) : (wayM l.holds r).length ≤ 8 := by
  unfold wayM
  have h1 := List.length_filter_le (fun c => !decide (c = r.c) && (r.x || hasX l.holds c)) (sortK (l.holds.map (·.1)))
  rw [(sortK_perm _).length_eq, List.length_map] at h1
  have := hf.lens.1
  omega
theorem edW_len (l : LkM) (r : Rq) (cs : List Int) : (edW l r cs).length ≤ cs.length := by
  unfold edW
  rw [List.length_map]
  exact List.length_filter_le _ _
theorem edQ_len (l : LkM) (r : Rq) (i : Nat) : (edQ l r i).length ≤ i := by
  unfold edQ
  rw [List.length_map, List.length_take]; omega
theorem edL_len {l : LkM} (hf : Fit8 l) : ∀ {n : Nat}, n ≤ 8 → (edL l n).length ≤ 16 * n
  | 0, _ => by simp [edL]
  | n + 1, h => by
    have ih := edL_len hf (n := n) (by omega)
    unfold edL at ih ⊢
    rw [List.range_succ, List.flatMap_append, List.length_append]
    have : ([n].flatMap (edR l)).length ≤ 16 := by
      simp only [List.flatMap_cons, List.flatMap_nil, List.append_nil]
      unfold edR
      cases e : l.queue[n]? with
      | none => simp
      | some r =>
        simp only [List.length_append]
        have h1 := edQ_len l r n
        have h2 := edW_len l r (wayM l.holds r)
        have h3 := way_len hf r
        omega
    omega
section
variable {b m : Nat} {es : Array MapEntry} {clk : Nat} {D : List (Int × Nat)} {K : KtM} {F : Heaplet} {w : World}
/-- A page's lock is looked at. -/
theorem KtAt.look (h : KtAt b m es clk D K F w) {p : Int} {g : Nat} (hg : (p, g) ∈ D) : ∃ l hh R, getL p K.tab = some l ∧ LkP g l hh ∧ Sat w (hh ++ (R ++ F)) ∧ ∀ w' F', Sat w' (hh ++ (R ++ F')) → KtAt b m es clk D K F' w' := by
  obtain ⟨T, wv, wh, hD, hT, hM, hP, hw, s⟩ := h
  have hg2 := hg
  rw [← hD] at hg
  obtain ⟨q, hq, e⟩ := List.mem_map.1 hg
  obtain ⟨p', g', l, hh⟩ := q
  simp only [Prod.mk.injEq] at e
  obtain ⟨rfl, rfl⟩ := e
  have hgT : getL p' T = some (g', l, hh) := getL_of_mem hM.nodup hq
  have pm : ∀ F : Heaplet, (HItem.blk b (tbO m wv) :: .blk m (.map es clk) :: (wh ++ (heapL lkF T ++ F))).Perm (hh ++ ((.blk b (tbO m wv) :: .blk m (.map es clk) :: (wh ++ heapL lkF (delL p' T))) ++ F)) := by
    intro F
    have h1 := ((heapL_get lkF hgT).append_right F).append_left (HItem.blk b (tbO m wv) :: .blk m (.map es clk) :: wh)
    have h2 := List.perm_append_comm_assoc (HItem.blk b (tbO m wv) :: .blk m (.map es clk) :: wh) hh (heapL lkF (delL p' T) ++ F)
    have h3 := h1.trans (by simpa [lkF] using h2)
    simpa [lkF] using h3
  refine ⟨l, hh, .blk b (tbO m wv) :: .blk m (.map es clk) :: (wh ++ heapL lkF (delL p' T)), by rw [← hT, getL_seen, hgT]; rfl, hP _ (getL_mem hgT), s.perm (pm F), fun w' F' s' => ?_⟩
  exact ⟨T, wv, wh, hD, hT, hM, hP, hw, s'.perm (pm F').symm⟩
end
end Go.Proofs.Ythgfbnopbfiifaa
