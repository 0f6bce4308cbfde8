/- What the document's Read holds between two entries. Conditions: none. -/
import Derived.Test.YtceegnfjdgjomaaPaR2
namespace Go.Proofs.Ytceegnfjdgjomaa
open Go Go.MapKept Go.RowKit Go.Proofs Go.Sort Go.Shelf

abbrev vw0 : Obj := vwO (.slice none 0 0) (.slice none 0 0) (.slice none 0 0)
def RRIs (vb rb : Nat) (V : VM) (G : Heaplet) (w : World) : Prop :=
  ∃ lv dv pv h, ViewIs (.agg #[lv, dv, pv]) V h ∧ Sat w (.blk vb (vwO lv dv pv) :: (h ++ (.blk rb vw0 :: G)))
theorem RRIs.frame {vb rb : Nat} {V : VM} {G : Heaplet} {w : World} (h : RRIs vb rb V G w) : Sat w G := by
  obtain ⟨lv, dv, pv, h, _, s⟩ := h
  exact s.tail.right.tail
theorem RRIs.grown {vb rb : Nat} {V : VM} {G : Heaplet} {w w' : World} (h : RRIs vb rb V G w) (k : Grown w w') : RRIs vb rb V G w' := by
  obtain ⟨lv, dv, pv, h, hv, s⟩ := h
  exact ⟨lv, dv, pv, h, hv, s.grown k⟩
theorem RRIs.new {vb rb : Nat} {V : VM} {G : Heaplet} {w : World} (h : RRIs vb rb V G w) (o : Obj) : RRIs vb rb V (.blk w.heap.size o :: G) (w.alloc o) := by
  obtain ⟨lv, dv, pv, h, hv, s⟩ := h
  refine ⟨lv, dv, pv, h, hv, (s.new o).perm ?_⟩
  have e := (List.perm_middle (a := HItem.blk w.heap.size o) (l₁ := (.blk vb (vwO lv dv pv) :: h) ++ [.blk rb vw0]) (l₂ := G)).symm
  simpa using e
theorem RRIs.drop {vb rb : Nat} {V : VM} {b : HItem} {G : Heaplet} {w : World} (h : RRIs vb rb V (b :: G) w) : RRIs vb rb V G w := by
  obtain ⟨lv, dv, pv, h, hv, s⟩ := h
  refine ⟨lv, dv, pv, h, hv, s.sub ?_⟩
  refine List.Sublist.cons_cons _ (List.Sublist.append_left ?_ h)
  exact List.Sublist.cons_cons _ (.cons _ (List.Sublist.refl _))
/-- The view, opened: what it holds wherever H holds, and the ways back. -/
def RROp (vb rb : Nat) (V : VM) (G H : Heaplet) (a0 : Option Addr) (c0 : Nat) (a1 : Option Addr) (c1 : Nat) (a2 : Option Addr) (c2 : Nat) : Prop :=
  VwAt H vb V a0 c0 a1 c1 a2 c2 ∧ (∀ W, Sat W H → RRIs vb rb V G W) ∧
  (∀ W nh v A, LSl v A nh → Sat W (nh ++ H) → W.frozen? ⟨vb, 0, none⟩ = false ∧ RRIs vb rb ⟨A, V.done, V.pages⟩ G (W.setCell ⟨vb, 0, none⟩ v)) ∧
  (∀ W nh v A, FSl v A nh → Sat W (nh ++ H) → W.frozen? ⟨vb, 2, none⟩ = false ∧ RRIs vb rb ⟨V.losers, V.done, A⟩ G (W.setCell ⟨vb, 2, none⟩ v))
theorem rr_open {vb rb : Nat} {V : VM} {G : Heaplet} {w : World} (h : RRIs vb rb V G w) : ∃ H a0 c0 a1 c1 a2 c2, Sat w H ∧ RROp vb rb V G H a0 c0 a1 c1 a2 c2 := by
  obtain ⟨lv, dv, pv, h, hv, s⟩ := h
  have hv0 := hv
  obtain ⟨a0, c0, a1, c1, a2, c2, e, hat⟩ := vw_open hv
  have e1 : lv = .slice a0 V.losers.length c0 ∧ dv = .slice a1 V.done.length c1 ∧ pv = .slice a2 V.pages.length c2 := by
    have := Value.agg.inj e
    simp at this
    exact this
  obtain ⟨rfl, rfl, rfl⟩ := e1
  refine ⟨_, a0, c0, a1, c1, a2, c2, s, hat vb _, fun W hW => ⟨_, _, _, h, hv, hW⟩, ?_, ?_⟩
  · intro W nh v A hA hW
    obtain ⟨lv', dv', pv', lh, dh, ph, e, hlv, hdv, hpv, rfl⟩ := hv0
    cases e
    have h1 := hW.perm List.perm_middle
    refine ⟨unfrozen_of h1.h0 0, v, _, _, nh ++ (dh ++ ph), ⟨_, _, _, nh, dh, ph, rfl, hA, hdv, hpv, rfl⟩, ?_⟩
    refine (h1.setCell (i := 0) v).sub ?_
    refine List.Sublist.cons_cons _ ?_
    simp only [List.append_assoc]
    exact List.Sublist.append_left (List.sublist_append_right lh _) nh
  · intro W nh v A hA hW
    obtain ⟨lv', dv', pv', lh, dh, ph, e, hlv, hdv, hpv, rfl⟩ := hv0
    cases e
    have h1 := hW.perm List.perm_middle
    refine ⟨unfrozen_of h1.h0 2, _, _, v, lh ++ (dh ++ nh), ⟨_, _, _, lh, dh, nh, rfl, hlv, hdv, hA, rfl⟩, ?_⟩
    have h2 := h1.setCell (i := 2) v
    have p : (nh ++ ((lh ++ (dh ++ ph)) ++ (.blk rb vw0 :: G))).Perm (lh ++ (dh ++ (nh ++ (ph ++ (.blk rb vw0 :: G))))) := by
      rw [List.append_assoc, List.append_assoc]
      exact (List.perm_append_comm_assoc nh lh _).trans (List.Perm.append_left lh (List.perm_append_comm_assoc nh dh _))
    refine (h2.perm (p.cons _)).sub ?_
    refine List.Sublist.cons_cons _ ?_
    simp only [List.append_assoc]
    refine List.Sublist.append_left ?_ lh
    refine List.Sublist.append_left ?_ dh
    exact List.Sublist.append_left (List.sublist_append_right ph _) nh
    --.append_left (List.Sublist.append_left (List.sublist_append_right ph _) nh) dh) lh
theorem RRIs.push {vb rb : Nat} {V : VM} {G : Heaplet} {w : World} (h : RRIs vb rb V G w) (t : Tx) (hl : V.done.length + 1 ≤ 200000) :
    ∃ a1 c1 a n c w', w.cell? ⟨vb, 1, none⟩ = some (.slice a1 V.done.length c1) ∧ (∀ ty, (Builtin.append_ #[30, 30] ty #[.slice a1 V.done.length c1, .slice (some ⟨w.heap.size, 0, none⟩) 1 1]).run Try.prog (w.alloc (.cells #[kI t.c, kI t.e, kI t.n] 23)) = .ok (.slice a n c) w') ∧
      w'.cell? ⟨vb, 1, none⟩ = some (.slice a1 V.done.length c1) ∧ w'.frozen? ⟨vb, 1, none⟩ = false ∧ RRIs vb rb ⟨V.losers, V.done ++ [t], V.pages⟩ G (w'.setCell ⟨vb, 1, none⟩ (.slice a n c)) := by
  obtain ⟨lv, dv, pv, h, hv, s⟩ := h
  obtain ⟨lv', dv', pv', lh, dh, ph, e, hlv, hdv, hpv, rfl⟩ := hv
  cases e
  obtain ⟨a1, c1, rfl⟩ := sl_form hdv
  have s1 : Sat w ((.blk vb (vwO lv (.slice a1 V.done.length c1) pv) :: lh) ++ (dh ++ (ph ++ (.blk rb vw0 :: G)))) := by simpa using s
  obtain ⟨v', w', h', hr, hv', hs'⟩ := tx_push (A := .blk vb (vwO lv (.slice a1 V.done.length c1) pv) :: lh) t hdv (s1.new (.cells #[kI t.c, kI t.e, kI t.n] 23)) hl
  have hs2 : Sat w' (.blk vb (vwO lv (.slice a1 V.done.length c1) pv) :: (lh ++ (h' ++ (ph ++ (.blk rb vw0 :: G))))) := hs'
  obtain ⟨a, c, rfl⟩ := sl_form hv'
  refine ⟨a1, c1, a, _, c, w', by rw [cell_of s.h0]; rfl, hr, by rw [cell_of hs2.h0]; rfl, unfrozen_of hs2.h0 1, lv, _, pv, lh ++ (h' ++ ph), ⟨_, _, _, lh, h', ph, rfl, hlv, hv', hpv, rfl⟩, ?_⟩
  have := hs2.setCell (i := 1) (.slice a (V.done ++ [t]).length c)
  simpa using this
theorem good_end {x : En} (hg : goodM x = true) : isEndM x = decide (2 < x.kind) := by
  unfold goodM at hg
  rw [Bool.and_eq_true] at hg
  have h2 := hg.2
  unfold isEndM
  by_cases k1 : x.kind = 1
  · simp [k1]
  · rw [if_neg k1] at h2
    by_cases k2 : x.kind = 2
    · simp [k2]
    · rw [if_neg k2] at h2
      by_cases k3 : x.kind = 3 ∨ x.kind = 4
      · rcases k3 with k | k <;> simp [k]
      · rw [if_neg k3] at h2; cases h2
/-- The place of one more. -/
def losN (l : List En) (x : En) (L : List (Tx × Int)) : List (Tx × Int) := if endM l x.t = true then L else insL lessM x.t x.lsn L
def pagN (n : Int) (x : En) (P : List (Int × Int)) : List (Int × Int) := if x.kind < 3 then keepL ltI x.page n P else P
theorem losN_step {l m : List En} {L : List (Tx × Int)} {x : En} (h : LosR l m L) (hg : goodM x = true) : LosR l (m ++ [x]) (losN l x L) := by
  unfold losN
  cases he : endM l x.t with
  | true => exact losR_skip h (by rw [he]; simp)
  | false => exact losR_step h (by rw [he, hg]; rfl)
theorem pagN_step {first : Int} {m : List En} {P : List (Int × Int)} {x : En} (h : PagR first m P) (hg : goodM x = true) : PagR first (m ++ [x]) (pagN (first + m.length) x P) := by
  unfold pagN
  have e := good_end hg
  by_cases hk : x.kind < 3
  · rw [if_pos hk]
    exact pagR_step h (by rw [hg, e]; simp; omega)
  · rw [if_neg hk]
    exact pagR_skip h (by rw [hg, e]; simp; omega)
theorem losN_len (l : List En) (x : En) (L : List (Tx × Int)) : (losN l x L).length ≤ L.length + 1 := by
  unfold losN
  split
  · omega
  · exact insL_len _ _ _
theorem pagN_len (n : Int) (x : En) (P : List (Int × Int)) : (pagN n x P).length ≤ P.length + 1 := by
  unfold pagN
  split
  · exact keepL_len _ _ _
  · omega
theorem bad_step {l m : List En} {first : Int} {L : List (Tx × Int)} {P : List (Int × Int)} {x : En} (h : LosR l m L) (h2 : PagR first m P) (hg : goodM x = false) : LosR l (m ++ [x]) L ∧ doneM (m ++ [x]) = doneM m ∧ PagR first (m ++ [x]) P :=
  ⟨losR_skip h (by rw [hg]; rfl), by rw [doneM_snoc]; unfold stepD; rw [hg]; rfl, pagR_skip h2 (by rw [hg]; rfl)⟩
end Go.Proofs.Ytceegnfjdgjomaa
