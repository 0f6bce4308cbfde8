/- How the server's locks lie in memory. Conditions: none. -/
import Derived.Test.YthgfbnopbfiifaaHeapL
import Derived.Test.YthgfbnopbfiifaaGrow
import Derived.Test.YthgfbnopbfiifaaKeyM
import Derived.Test.YthgfbnopbfiifaaQs
import Derived.Test.YthgfbnopbfiifaaProg
import Derived.ProofKit
import Derived.Lib.Hide
namespace Go.Proofs.Ythgfbnopbfiifaa
open Go Go.MapKept Go.RowKit Go.Proofs

abbrev HL := List (Int × (Nat × Hd))
def hdO (d : Hd) : Obj := .cells #[.bool d.x, .bool d.busy, kI d.called] 64
def ptrV {V : Type} (v : Nat × V) : Value := .pointer (some ⟨v.1, 0, none⟩)
def hdF (v : Nat × Hd) : Heaplet := [.blk v.1 (hdO v.2)]
def rqC (r : Rq) : List Value := [kI r.c, .bool r.x]
def wdC (r : Wd) : List Value := [.bool r.call, kI r.c, kI r.p, .bool r.x]
theorem rqC_len : ∀ q, (rqC q).length = 2 := fun _ => rfl
theorem wdC_len : ∀ q, (wdC q).length = 4 := fun _ => rfl
theorem one_rq (q : Rq) : ∀ u ∈ rqC q, u.oneCell' = true := by unfold rqC; simp [Value.oneCell']
theorem one_wd (q : Wd) : ∀ u ∈ wdC q, u.oneCell' = true := by unfold wdC; simp [Value.oneCell']
theorem infoRq : (Try.prog.info? 59).map (fun i => (i.zero, i.size, i.bytes)) = some (some (.agg #[.int .i64 0, .bool false]), 2, 16) := by kernel_rfl
theorem infoWd : (Try.prog.info? 37).map (fun i => (i.zero, i.size, i.bytes)) = some (some (.agg #[.bool false, .int .i64 0, .int .i64 0, .bool false]), 4, 32) := by kernel_rfl
abbrev QSl (v : Value) (q : List Rq) (h : Heaplet) : Prop := QIs 59 2 v q.length (q.flatMap rqC) h
abbrev WSl (v : Value) (q : List Wd) (h : Heaplet) : Prop := SliceIs 37 4 v q.length (q.flatMap wdC) h
abbrev ISl (v : Value) (q : List Int) (h : Heaplet) : Prop := SliceIs 3 1 v q.length (q.map kI) h
def lkO (m : Nat) (qv : Value) : Obj := .cells #[.map (some m), qv] 56
def tbO (m : Nat) (wv : Value) : Obj := .cells #[.map (some m), wv] 51
/-- A page's lock at block g: these are its blocks. -/
def LkP (g : Nat) (l : LkM) (h : Heaplet) : Prop := ∃ m es clk L qv qh, seenL (·.2) L = l.holds ∧ MapOk (.int .i64) kI ptrV es clk L ∧ QSl qv l.queue qh ∧ h = .blk g (lkO m qv) :: .blk m (.map es clk) :: (heapL hdF L ++ qh)
abbrev TL := List (Int × (Nat × (LkM × Heaplet)))
def lkF (v : Nat × (LkM × Heaplet)) : Heaplet := v.2.2
def lkS (v : Nat × (LkM × Heaplet)) : LkM := v.2.1
/-- The table at block b. -/
def KtIs (b : Nat) (K : KtM) (F : Heaplet) (w : World) : Prop := ∃ m es clk T wv wh, seenL lkS T = K.tab ∧ MapOk (.int .i64) kI ptrV es clk T ∧ (∀ p ∈ T, LkP p.2.1 (lkS p.2) (lkF p.2)) ∧ WSl wv K.ws wh ∧
  Sat w (.blk b (tbO m wv) :: .blk m (.map es clk) :: (wh ++ (heapL lkF T ++ F)))
/-- The table's map is among O; the page's lock lies at g. -/
def OLk (m : Nat) (p : Int) (g : Nat) (O : Heaplet) : Prop := ∃ es clk, ∃ T : TL, MapOk (.int .i64) kI ptrV es clk T ∧ (∃ u, getL p T = some (g, u)) ∧ ∀ w, Sat w O → w.heap[m]? = some (.map es clk)
/-- One page's lock is at hand, all others are among O. -/
def PgIs (b m g : Nat) (l : LkM) (ws : List Wd) (O : Heaplet) (w : World) : Prop := ∃ wv wh h, WSl wv ws wh ∧ LkP g l h ∧ Sat w (.blk b (tbO m wv) :: (wh ++ (h ++ O)))
theorem zeroLk (w : World) : (zeroValue 52).run Try.prog w = .ok (.pointer none) w := by kernel_rfl
theorem zeroHd (w : World) : (zeroValue 62).run Try.prog w = .ok (.pointer none) w := by kernel_rfl
def foundP {V : Type} : Option (Nat × V) → Value
  | some v => ptrV v
  | none => .pointer none
theorem sat_ap {w : World} {h1 h2 h3 : Heaplet} (s : Sat w (h1 ++ (h2 ++ h3))) : Sat w (h2 ++ (h1 ++ h3)) := s.perm (List.perm_append_comm_assoc h1 h2 h3)
section
variable {b m g : Nat} {l : LkM} {ws : List Wd} {O F : Heaplet} {w : World}
theorem PgIs.frame (h : PgIs b m g l ws O w) : Sat w O := by
  obtain ⟨wv, wh, h', _, _, s⟩ := h
  exact s.tail.right.right
theorem PgIs.table (h : PgIs b m g l ws O w) : w.cell? ⟨b, 0, none⟩ = some (.map (some m)) := by
  obtain ⟨wv, wh, h', _, _, s⟩ := h
  rw [cell_of s.h0]; rfl
theorem PgIs.grown {w' : World} (h : PgIs b m g l ws O w) (hg : Grown w w') : PgIs b m g l ws O w' := by
  obtain ⟨wv, wh, h', h1, h2, s⟩ := h
  exact ⟨wv, wh, h', h1, h2, s.grown hg⟩
theorem PgIs.mono {w' : World} (h : PgIs b m g l ws O w) (hb : Below w.heap.size w w') : PgIs b m g l ws O w' := by
  obtain ⟨wv, wh, h', h1, h2, s⟩ := h
  exact ⟨wv, wh, h', h1, h2, s.monoB hb⟩
/-- Something new is added to the others, or taken from them. -/
theorem PgIs.swap {O' : Heaplet} (h : PgIs b m g l ws O w) : ∃ A, Sat w (A ++ O) ∧ ∀ {O' w'}, Sat w' (A ++ O') → PgIs b m g l ws O' w' := by
  obtain ⟨wv, wh, h', h1, h2, s⟩ := h
  refine ⟨.blk b (tbO m wv) :: (wh ++ h'), by simpa using s, fun {O' w'} s' => ⟨wv, wh, h', h1, h2, by simpa using s'⟩⟩
theorem PgIs.new (h : PgIs b m g l ws O w) (o : Obj) : PgIs b m g l ws (.blk w.heap.size o :: O) (w.alloc o) := by
  obtain ⟨A, s, back⟩ := h.swap (O' := O)
  exact back ((s.new o).perm List.perm_middle.symm)
theorem PgIs.weaken {D : Heaplet} (h : PgIs b m g l ws (D ++ O) w) : PgIs b m g l ws O w := by
  obtain ⟨A, s, back⟩ := h.swap (O' := O)
  exact back (sat_ap s).right
theorem PgIs.drop {x : HItem} (h : PgIs b m g l ws (x :: O) w) : PgIs b m g l ws O w := PgIs.weaken (D := [x]) h
/-- The page is found. -/
theorem OLk.look {p : Int} (h : OLk m p g O) (hs : Sat w O) : (Instr.lookup 49 (.map (some m)) (kI p) false).run Try.prog w = .ok (.pointer (some ⟨g, 0, none⟩)) w := by
  obtain ⟨es, clk, T, hm, ⟨u, hu⟩, hw⟩ := h
  have := run_lookup_ok (P := Try.prog) (t := 49) (kt := 3) (et := 52) (z := .pointer none) Try.underlying49 Try.underlying3 (zeroLk w) (hw w hs) hm p
  rw [this, hu]; rfl
theorem OLk.cons {p : Int} {x : HItem} (h : OLk m p g O) : OLk m p g (x :: O) := by
  obtain ⟨es, clk, T, hm, hu, hw⟩ := h
  exact ⟨es, clk, T, hm, hu, fun w hs => hw w hs.tail⟩
theorem OLk.app {p : Int} {D : Heaplet} (h : OLk m p g O) : OLk m p g (D ++ O) := by
  obtain ⟨es, clk, T, hm, hu, hw⟩ := h
  exact ⟨es, clk, T, hm, hu, fun w hs => hw w hs.right⟩
/-- What a client has of the page. -/
theorem lkp_open {h : Heaplet} (hl : LkP g l h) (s : Sat w (h ++ O)) : ∃ hm a cap, w.cell? ⟨g, 0, none⟩ = some (.map (some hm)) ∧ w.cell? ⟨g, 1, none⟩ = some (.slice a l.queue.length cap) ∧ (∀ i, w.frozen? ⟨g, i, none⟩ = false) ∧
    (∀ c, match getL c l.holds with
      | none => (Instr.lookup 53 (.map (some hm)) (kI c) false).run Try.prog w = .ok (.pointer none) w
      | some d => ∃ hg, (Instr.lookup 53 (.map (some hm)) (kI c) false).run Try.prog w = .ok (.pointer (some ⟨hg, 0, none⟩)) w ∧ w.cell? ⟨hg, 0, none⟩ = some (.bool d.x) ∧ w.cell? ⟨hg, 1, none⟩ = some (.bool d.busy) ∧ w.cell? ⟨hg, 2, none⟩ = some (kI d.called)) ∧
    (∀ i r, l.queue[i]? = some r → ∃ qg off, a = some ⟨qg, off, none⟩ ∧ (∀ j, w.frozen? ⟨qg, j, none⟩ = false) ∧ w.cell? ⟨qg, off + i * 2, none⟩ = some (kI r.c) ∧ w.cell? ⟨qg, off + i * 2 + 1, none⟩ = some (.bool r.x)) := by
  obtain ⟨m', es, clk, L, qv, qh, hL, hM, hq, rfl⟩ := hl
  have s1 : Sat w (qh ++ (.blk g (lkO m' qv) :: .blk m' (.map es clk) :: (heapL hdF L ++ O))) := by
    refine s.perm ?_
    simpa using List.perm_append_comm_assoc (HItem.blk g (lkO m' qv) :: .blk m' (.map es clk) :: heapL hdF L) qh O
  obtain ⟨a, cap, rfl, hc⟩ := q_cells rqC_len hq s1
  refine ⟨m', a, cap, by rw [cell_of s.h0]; rfl, by rw [cell_of s.h0]; rfl, fun i => unfrozen_of s.h0 i, fun c => ?_, fun i r hr => ?_⟩
  · have hlk := run_lookup_ok (P := Try.prog) (t := 53) (kt := 3) (et := 62) (z := .pointer none) Try.underlying53 Try.underlying3 (zeroHd w) s.h1 hM c
    rw [← hL, getL_seen]
    cases hg : getL c L with
    | none => rw [hg] at hlk; exact hlk
    | some v =>
      rw [hg] at hlk
      have hb : w.heap[v.1]? = some (hdO v.2) := by
        refine s.get (.tail _ (.tail _ ?_))
        exact List.mem_append_left _ (List.mem_append_left _ ((heapL_get hdF hg).mem_iff.2 (.head _)))
      refine ⟨v.1, hlk, ?_, ?_, ?_⟩ <;> (rw [cell_of hb]; rfl)
  · obtain ⟨qg, off, e, hf, hu⟩ := hc i r hr
    exact ⟨qg, off, e, hf, hu 0 _ rfl, hu 1 _ rfl⟩
/-- A hold is turned. -/
theorem lkp_hold {h : Heaplet} (hl : LkP g l h) (s : Sat w (h ++ O)) {c : Int} {d : Hd} (hd : getL c l.holds = some d) : ∃ hm hg, w.cell? ⟨g, 0, none⟩ = some (.map (some hm)) ∧
    (Instr.lookup 53 (.map (some hm)) (kI c) false).run Try.prog w = .ok (.pointer (some ⟨hg, 0, none⟩)) w ∧ (w.cell? ⟨hg, 0, none⟩ = some (.bool d.x) ∧ w.cell? ⟨hg, 1, none⟩ = some (.bool d.busy) ∧ w.cell? ⟨hg, 2, none⟩ = some (kI d.called)) ∧
    (∀ i, w.frozen? ⟨hg, i, none⟩ = false) ∧ ∀ i v d', (#[.bool d.x, .bool d.busy, kI d.called] : Array Value).setIfInBounds i v = #[.bool d'.x, .bool d'.busy, kI d'.called] → ∃ h', LkP g ⟨putL c d' l.holds, l.queue⟩ h' ∧ Sat (w.setCell ⟨hg, i, none⟩ v) (h' ++ O) := by
  obtain ⟨m', es, clk, L, qv, qh, hL, hM, hq, rfl⟩ := hl
  have hlk := run_lookup_ok (P := Try.prog) (t := 53) (kt := 3) (et := 62) (z := .pointer none) Try.underlying53 Try.underlying3 (zeroHd w) s.h1 hM c
  rw [← hL, getL_seen] at hd
  cases hg : getL c L with
  | none => rw [hg] at hd; cases hd
  | some v =>
    rw [hg] at hd hlk
    obtain ⟨hgb, d0⟩ := v
    obtain rfl : d0 = d := by simpa using hd
    have p1 : ((HItem.blk g (lkO m' qv) :: .blk m' (.map es clk) :: (heapL hdF L ++ qh)) ++ O).Perm (HItem.blk hgb (hdO d0) :: (HItem.blk g (lkO m' qv) :: .blk m' (.map es clk) :: (heapL hdF (delL c L) ++ qh) ++ O)) := by
      have h1 := (((heapL_get hdF hg).append_right (qh ++ O)).cons (HItem.blk m' (.map es clk))).cons (HItem.blk g (lkO m' qv))
      simp only [List.cons_append, List.append_assoc, hdF, List.nil_append] at h1 ⊢
      refine h1.trans ?_
      exact List.perm_middle (l₁ := [HItem.blk g (lkO m' qv), .blk m' (.map es clk)])
    have s1 := s.perm p1
    have hb := s1.h0
    refine ⟨m', hgb, by rw [cell_of s.h0]; rfl, hlk, ⟨by rw [cell_of hb]; rfl, by rw [cell_of hb]; rfl, by rw [cell_of hb]; rfl⟩, fun i => unfrozen_of hb i, fun i v d' e => ?_⟩
    refine ⟨_, ⟨m', es, clk, putL c (hgb, d') L, qv, qh, by rw [seen_put, hL], mapOk_put hM hg rfl, hq, rfl⟩, ?_⟩
    have s2 := s1.setCell (i := i) v
    rw [e] at s2
    refine s2.perm (List.Perm.symm ?_)
    have h1 := (((heapL_put hdF (u := (hgb, d')) hg).append_right (qh ++ O)).cons (HItem.blk m' (.map es clk))).cons (HItem.blk g (lkO m' qv))
    simp only [List.cons_append, List.append_assoc, hdF, List.nil_append] at h1 ⊢
    refine h1.trans ?_
    exact List.perm_middle (l₁ := [HItem.blk g (lkO m' qv), .blk m' (.map es clk)])
/-- The queue is another. -/
theorem lkp_queue {h : Heaplet} (hl : LkP g l h) (s : Sat w (h ++ O)) : ∃ qv qh R, QSl qv l.queue qh ∧ Sat w (qh ++ (R ++ O)) ∧ w.cell? ⟨g, 1, none⟩ = some qv ∧ (∀ i, w.frozen? ⟨g, i, none⟩ = false) ∧
    ∀ qv' q' qh' w' O', QSl qv' q' qh' → Sat w' (qh' ++ (R ++ O')) → w'.cell? ⟨g, 1, none⟩ = some qv ∧ w'.frozen? ⟨g, 1, none⟩ = false ∧ ∃ h', LkP g ⟨l.holds, q'⟩ h' ∧ Sat (w'.setCell ⟨g, 1, none⟩ qv') (h' ++ O') := by
  obtain ⟨m', es, clk, L, qv, qh, hL, hM, hq, rfl⟩ := hl
  have pq : ∀ (o : Obj) (qh O : Heaplet), ((HItem.blk g o :: .blk m' (.map es clk) :: (heapL hdF L ++ qh)) ++ O).Perm (qh ++ ((HItem.blk g o :: .blk m' (.map es clk) :: heapL hdF L) ++ O)) := by
    intro o qh O
    simpa using List.perm_append_comm_assoc (HItem.blk g o :: .blk m' (.map es clk) :: heapL hdF L) qh O
  refine ⟨qv, qh, HItem.blk g (lkO m' qv) :: .blk m' (.map es clk) :: heapL hdF L, hq, s.perm (pq _ _ _), by rw [cell_of s.h0]; rfl, fun i => unfrozen_of s.h0 i, fun qv' q' qh' w' O' hq' s' => ?_⟩
  have s2 := s'.perm (pq (lkO m' qv) qh' O').symm
  refine ⟨by rw [cell_of s2.h0]; rfl, unfrozen_of s2.h0 1, _, ⟨m', es, clk, L, qv', qh', hL, hM, hq', rfl⟩, ?_⟩
  exact s2.setCell (i := 1) qv'
/-- The map of holds is another. -/
theorem lkp_map {h : Heaplet} (hl : LkP g l h) (s : Sat w (h ++ O)) : ∃ hm es clk L R, w.cell? ⟨g, 0, none⟩ = some (.map (some hm)) ∧ seenL (·.2) L = l.holds ∧ MapOk (.int .i64) kI ptrV es clk L ∧ Sat w (.blk hm (.map es clk) :: (heapL hdF L ++ (R ++ O))) ∧ (∀ w' D, Sat w' (D ++ (R ++ O)) → w'.cell? ⟨g, 0, none⟩ = some (.map (some hm))) ∧
    ∀ es' clk' L' w' O', MapOk (.int .i64) kI ptrV es' clk' L' → Sat w' (.blk hm (.map es' clk') :: (heapL hdF L' ++ (R ++ O'))) → ∃ h', LkP g ⟨seenL (·.2) L', l.queue⟩ h' ∧ Sat w' (h' ++ O') := by
  obtain ⟨m', es, clk, L, qv, qh, hL, hM, hq, rfl⟩ := hl
  have pq : ∀ (es : Array MapEntry) (clk : Nat) (X O : Heaplet), ((HItem.blk g (lkO m' qv) :: .blk m' (.map es clk) :: (X ++ qh)) ++ O).Perm (HItem.blk m' (.map es clk) :: (X ++ ((.blk g (lkO m' qv) :: qh) ++ O))) := by
    intro es clk X O
    have h1 : (HItem.blk m' (.map es clk) :: (X ++ ((.blk g (lkO m' qv) :: qh) ++ O))).Perm (HItem.blk m' (.map es clk) :: .blk g (lkO m' qv) :: (X ++ (qh ++ O))) := by
      simp
    refine List.Perm.trans ?_ h1.symm
    simp only [List.cons_append, List.append_assoc]
    exact List.Perm.swap _ _ _
  refine ⟨m', es, clk, L, .blk g (lkO m' qv) :: qh, by rw [cell_of s.h0]; rfl, hL, hM, s.perm (pq _ _ _ _), fun w' D s' => ?_, fun es' clk' L' w' O' hM' s' => ?_⟩
  · have s2 := s'.right
    simp only [List.cons_append] at s2
    rw [cell_of s2.h0]; rfl
  · exact ⟨_, ⟨m', es', clk', L', qv, qh, rfl, hM', hq, rfl⟩, s'.perm (pq _ _ _ _).symm⟩
/-- The page's lock is taken out of the table. -/
theorem KtIs.page {K : KtM} (h : KtIs b K F w) {p : Int} {l : LkM} (hl : getL p K.tab = some l) : ∃ m g O, PgIs b m g l K.ws O w ∧ OLk m p g O ∧ (∀ w', Sat w' O → Sat w' F) ∧ ∀ l' ws' w', PgIs b m g l' ws' O w' → KtIs b ⟨putL p l' K.tab, ws'⟩ F w' := by
  obtain ⟨m, es, clk, T, wv, wh, hT, hM, hP, hw, s⟩ := h
  rw [← hT, getL_seen] at hl
  cases hg : getL p T with
  | none => rw [hg] at hl; cases hl
  | some v =>
    rw [hg] at hl
    obtain ⟨g, l0, hh⟩ := v
    obtain rfl : l0 = l := by simpa [lkS] using hl
    have pm : ∀ (o : Obj) (wh h : Heaplet), (HItem.blk b o :: .blk m (.map es clk) :: (wh ++ (h ++ (heapL lkF (delL p T) ++ F)))).Perm (HItem.blk b o :: (wh ++ (h ++ (.blk m (.map es clk) :: (heapL lkF (delL p T) ++ F))))) := by
      intro o wh h
      refine List.Perm.cons _ ?_
      have h1 := (List.perm_middle (l₁ := wh ++ h) (a := HItem.blk m (.map es clk)) (l₂ := heapL lkF (delL p T) ++ F)).symm
      simpa using h1
    refine ⟨m, g, .blk m (.map es clk) :: (heapL lkF (delL p T) ++ F), ⟨wv, wh, hh, hw, hP _ (getL_mem hg), ?_⟩, ⟨es, clk, T, hM, ⟨_, hg⟩, fun w' s' => s'.h0⟩, fun w' s' => s'.tail.right, fun l' ws' w' hp => ?_⟩
    · refine (s.perm ?_).perm (pm _ _ _)
      refine List.Perm.cons _ (List.Perm.cons _ (List.Perm.append_left _ ?_))
      have := (heapL_get lkF hg).append_right F
      simpa [lkF] using this
    · obtain ⟨wv', wh', h', hw', hl', s'⟩ := hp
      refine ⟨m, es, clk, putL p (g, l', h') T, wv', wh', by rw [seen_put, hT]; rfl, mapOk_put hM hg rfl, ?_, hw', ?_⟩
      · intro q hq
        have hnd : ((putL p (g, l', h') T).map (·.1)).Nodup := nodup_putL _ _ hM.nodup
        have h1 := getL_of_mem hnd hq
        rw [getL_putL] at h1
        by_cases e : q.1 = p
        · rw [if_pos e] at h1
          have e2 := Option.some.inj h1
          rw [← e2]
          exact hl'
        · rw [if_neg e] at h1
          exact hP _ (getL_mem h1)
      · refine (s'.perm (pm _ _ _).symm).perm ?_
        refine List.Perm.cons _ (List.Perm.cons _ (List.Perm.append_left _ ?_))
        have := (heapL_put lkF (u := (g, l', h')) hg).append_right F
        simpa [lkF] using this.symm
theorem KtIs.frame {K : KtM} (h : KtIs b K F w) : Sat w F := by
  obtain ⟨m, es, clk, T, wv, wh, hT, hM, hP, hw, s⟩ := h
  exact s.tail.tail.right.right
theorem KtIs.nodup {K : KtM} (h : KtIs b K F w) : (K.tab.map (·.1)).Nodup := by
  obtain ⟨m, es, clk, T, wv, wh, hT, hM, hP, hw, s⟩ := h
  rw [← hT, seen_keys]
  exact hM.nodup
theorem KtIs.grown {K : KtM} {w' : World} (h : KtIs b K F w) (hg : Grown w w') : KtIs b K F w' := by
  obtain ⟨m, es, clk, T, wv, wh, hT, hM, hP, hw, s⟩ := h
  exact ⟨m, es, clk, T, wv, wh, hT, hM, hP, hw, s.grown hg⟩
theorem KtIs.split {K : KtM} (h : KtIs b K F w) : ∃ A, Sat w (A ++ F) ∧ ∀ {F' w'}, Sat w' (A ++ F') → KtIs b K F' w' := by
  obtain ⟨m, es, clk, T, wv, wh, hT, hM, hP, hw, s⟩ := h
  exact ⟨.blk b (tbO m wv) :: .blk m (.map es clk) :: (wh ++ heapL lkF T), by simpa using s, fun {F' w'} s' => ⟨m, es, clk, T, wv, wh, hT, hM, hP, hw, by simpa using s'⟩⟩
end
end Go.Proofs.Ythgfbnopbfiifaa
