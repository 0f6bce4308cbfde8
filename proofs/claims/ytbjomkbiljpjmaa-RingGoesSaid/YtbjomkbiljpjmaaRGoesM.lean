/- RingGoes: the ring's own blocks known; Del; what is left behind a going over. Conditions: none. -/
import Derived.Test.YtbjomkbiljpjmaaRingI5
import Derived.Test.YtbjomkbiljpjmaaPRows
namespace Go.Proofs.Ytbjomkbiljpjmaa
open Go Go.MapKept Go.RowKit Go.Proofs Go.Shelf

theorem Sat.sub {w : World} {H H' : Heaplet} (s : Sat w H) (h : H'.Sublist H) : Sat w H' :=
  ⟨fun x hx => s.1 x (h.subset hx), s.2.sublist (h.filterMap _)⟩
/-- All other blocks of a world. -/
theorem Sat.rest {W : World} {H : Heaplet} (s : Sat W H) : ∃ R : Heaplet, Sat W (H ++ R) ∧ ∀ k o, W.heap[k]? = some o → (∀ o', HItem.blk k o' ∉ H) → HItem.blk k o ∈ R := by
  refine ⟨((List.range W.heap.size).filter fun k => !(H.filterMap HItem.no).contains k).map fun k => .blk k (W.heap[k]?.getD default), ⟨fun x hx => ?_, ?_⟩, fun k o hk hn => ?_⟩
  · rcases List.mem_append.1 hx with hx | hx
    · exact s.1 x hx
    · obtain ⟨k, hk, rfl⟩ := List.mem_map.1 hx
      have hlt := List.mem_range.1 (List.mem_filter.1 hk).1
      show W.heap[k]? = some _
      rw [Array.getElem?_eq_getElem hlt]
      rfl
  · rw [List.filterMap_append, List.filterMap_map]
    have e : (List.filterMap (HItem.no ∘ fun k => HItem.blk k (W.heap[k]?.getD default)) ((List.range W.heap.size).filter fun k => !(H.filterMap HItem.no).contains k)) = (List.range W.heap.size).filter fun k => !(H.filterMap HItem.no).contains k := by
      have : (HItem.no ∘ fun k => HItem.blk k (W.heap[k]?.getD default)) = some := by funext k; rfl
      rw [this, List.filterMap_some]
    rw [e]
    refine List.nodup_append.2 ⟨s.2, List.nodup_range.sublist List.filter_sublist, ?_⟩
    intro a ha b hb e
    subst e
    have := (List.mem_filter.1 hb).2
    simp only [Bool.not_eq_true', List.contains_eq_mem, decide_eq_false_iff_not] at this
    exact this ha
  · have hlt := (Array.getElem?_eq_some_iff.1 hk).1
    refine List.mem_map.2 ⟨k, List.mem_filter.2 ⟨List.mem_range.2 hlt, ?_⟩, by rw [hk]; rfl⟩
    simp only [Bool.not_eq_true', List.contains_eq_mem, decide_eq_false_iff_not]
    intro hm
    obtain ⟨x, hx, e⟩ := List.mem_filterMap.1 hm
    cases x with
    | blk b o' =>
      simp only [HItem.no, Option.some.injEq] at e
      subst e
      exact hn o' hx
    | env w0 => cases e
end Go.Proofs.Ytbjomkbiljpjmaa
namespace Go.Proofs.Ytbjomkbiljpjmaa.RI
open Go Go.MapKept Go.RowKit Go.Proofs Go.Proofs.Ytbjomkbiljpjmaa Go.Shelf

/-- The ring's own blocks. -/
def ringH (rb fb m : Nat) (es : Array MapEntry) (clk : Nat) (L : Lst X) (hand : Nat) : Heaplet :=
  .blk rb (.cells #[.slice (some ⟨fb, 0, none⟩) L.length L.length, .map (some m), kI hand] 88) :: .blk fb (.cells (ptrs L) 89) :: .blk m (.map es clk) :: frH kI 92 L
/-- A ring whose blocks are known. -/
def RingF (rb fb m : Nat) (es : Array MapEntry) (clk : Nat) (L : Lst X) (hand : Nat) (F : Heaplet) (w : World) : Prop :=
  (0 < L.length ∧ L.length ≤ 64 ∧ hand < L.length) ∧ ∃ D, MapOk (.int .i64) kI kI es clk D ∧ PlaceOk D (keysOf (bare L)) ∧ Sat w (ringH rb fb m es clk L hand ++ F)
section
variable {rb fb m hand : Nat} {es : Array MapEntry} {clk : Nat} {L : Lst X} {F : Heaplet} {w : World}
theorem RingF.ringP (h : RingF rb fb m es clk L hand F w) : RingP rb (ptrs L) L hand F w := by
  obtain ⟨h0, D, hm, hpl, hs⟩ := h
  exact ⟨⟨by simp [ptrs], h0⟩, fb, m, es, clk, D, hm, hpl, hs⟩
theorem RingP.ringF (h : RingP rb (ptrs L) L hand F w) : ∃ fb m es clk, RingF rb fb m es clk L hand F w := by
  obtain ⟨h0, fb, m, es, clk, D, hm, hpl, hs⟩ := h
  exact ⟨fb, m, es, clk, h0.2, D, hm, hpl, hs⟩
theorem RingF.sat (h : RingF rb fb m es clk L hand F w) : Sat w (ringH rb fb m es clk L hand ++ F) := h.2.choose_spec.2.2
theorem RingF.reF {F' : Heaplet} {w' : World} (h : RingF rb fb m es clk L hand F w) (hs : Sat w' (ringH rb fb m es clk L hand ++ F')) : RingF rb fb m es clk L hand F' w' := by
  obtain ⟨h0, D, hm, hpl, _⟩ := h
  exact ⟨h0, D, hm, hpl, hs⟩
theorem frH_sub (i : Nat) {b : Nat} {o : Obj} (h : HItem.blk b o ∈ frH kI 92 (L.set i none)) : HItem.blk b o ∈ frH kI 92 L := by
  by_cases hi : i < L.length
  · cases ho : L[i] with
    | none =>
      have e : L.set i none = L := by rw [← ho]; exact List.set_getElem_self hi
      rw [e] at h; exact h
    | some bf =>
      obtain ⟨b', f⟩ := bf
      have hg : L[i]? = some (some (b', f)) := by rw [List.getElem?_eq_getElem hi, ho]
      exact (frH_take hg).mem_iff.2 (.tail _ h)
  · rw [List.set_eq_of_length_le (by omega)] at h
    exact h
end
set_option maxHeartbeats 400000 in
set_option maxRecDepth 100000 in
theorem del_F (rb fb m : Nat) (es : Array MapEntry) (clk : Nat) (L : Lst X) (hand : Nat) (F : Heaplet) (w : World) (hF : RingF rb fb m es clk L hand F w) (k : Int) (i : Nat) (f : Fr X) (hk : findF (bare L) k = some (i, f)) :
    Calls Try.prog 42 #[.pointer (some ⟨rb, 0, none⟩), .int .i64 k] w (Ret (.tuple #[kI f.val, .bool true]) (fun w' => ∃ es', RingF rb fb m es' clk (L.set i none) hand F w')) := by
  obtain ⟨h1, h2, h3⟩ := findF_some hk
  obtain ⟨b, hb⟩ := bare_inv h2
  have hf := find_some rb _ L hand F w hF.ringP k i _ h1 (ptrs_get hb)
  have hlt : i < L.length := (List.getElem?_eq_some_iff.1 hb).1
  have h64 := hF.1.2.1
  obtain ⟨h0, D, hm, hpl, hs0⟩ := hF
  have hs : Sat w (.blk rb (.cells #[.slice (some ⟨fb, 0, none⟩) L.length L.length, .map (some m), kI hand] 88) :: .blk fb (.cells (ptrs L) 89) :: .blk m (.map es clk) :: (frH kI 92 L ++ F)) := hs0
  clear hs0
  have sd := hs.drew
  have c0 : w.drew.cell? ⟨rb, 0, none⟩ = some (.slice (some ⟨fb, 0, none⟩) L.length L.length) := by rw [cell_of sd.h0]; rfl
  have c1 : w.drew.cell? ⟨rb, 1, none⟩ = some (.map (some m)) := by rw [cell_of sd.h0]; rfl
  have ci : w.drew.cell? ⟨fb, i, none⟩ = some (ptr (some (b, f))) := by rw [cell_of sd.h1, ptrs_get hb]
  have ui := unfrozen_of sd.h1 i
  have hl := run_lookup_ok (P := Try.prog) (t := 83) (kt := 3) (et := 3) (z := .int .i64 0) Try.underlying83 Try.underlying3 (zero3 _) sd.h2 hm k
  rw [hpl.look, h1] at hl
  simp only [Option.map_some, Option.getD_some] at hl
  have s1 := (sd.swap.setCell (i := i) (.pointer none)).swap
  have d1 : (w.drew.setCell ⟨fb, i, none⟩ (.pointer none)).cell? ⟨rb, 1, none⟩ = some (.map (some m)) := by rw [cell_of s1.h0]; rfl
  obtain ⟨w2, es2, hd, hm2, s2⟩ := sat_delete (P := Try.prog) (ty := 0) (t := 83) (kt := 3) (et := 3) Try.underlying83 Try.underlying3 hm s1.rot3 k
  have s3 := s2.unrot3
  have hps : (ptrs L).setIfInBounds i (.pointer none) = ptrs (L.set i none) := ptrs_set L i none
  rw [hps] at s3
  have e1 : w2.cell? ⟨b, 1, none⟩ = some (kI f.val) := by
    have := s3.get (b := b) (o := frObj kI 92 f) (.tail _ (.tail _ (.tail _ (List.mem_append_left _ ((frH_take hb).mem_iff.2 (.head _))))))
    rw [cell_of this]; rfl
  have fin : ∃ es', RingF rb fb m es' clk (L.set i none) hand F w2 := by
    have hll : (L.set i none).length = L.length := List.length_set
    have hkk : keysOf (bare (L.set i none)) = (keysOf (bare L)).set i none := by rw [bare_set, keysOf_set]; rfl
    refine ⟨es2, by rw [hll]; exact h0, delL k D, hm2, ?_, ?_⟩
    · rw [hkk]
      exact hpl.vacate (by rw [keysOf_get (bare_get hb), ← h3]; rfl)
    · have p1 := (frH_take (vv := kI) (T := 92) hb).append_right F
      have s4 := s3.perm ((p1.cons _).cons _ |>.cons _)
      have s5 := (s4.perm (List.perm_middle (l₁ := HItem.blk rb _ :: .blk fb _ :: [.blk m _]))).tail
      unfold ringH
      rw [hll]
      exact s5
  have Fin := Lib.hid fin
  have Hf := Lib.hid hf
  clear hf hk h1 h2 h3 hb fin hs sd s1 s2 s3 hm hm2 hpl hps h0
  go_enter Try.func42, Try.ntmps42
  go_wp2_with (go_at_call 49; refine (Hf.out).mono ?_; rintro e w' ⟨rfl, rfl⟩; simp only [ptr])
  go_still_tail 11, (by kernel_rfl)
  change wpList _ _ _ _ _ (World.drew _)
  generalize World.drew w = wd at *
  go_wp2_with fail
  go_ret2
  exact ⟨rfl, Fin.out⟩
/-- The ring's blocks lie below B. -/
def RingU (B rb fb m : Nat) (L : Lst X) (hand : Nat) (F : Heaplet) (w : World) : Prop := ∃ es clk, RingF rb fb m es clk L hand F w ∧ Under B (ringH rb fb m es clk L hand ++ F)
theorem RingU.grown {B rb fb m hand : Nat} {L : Lst X} {F : Heaplet} {w w' : World} {row : Option Nat} (h : RingU B rb fb m L hand F w) (hg : w.grownBy w' row) (hr : ∀ r, row = some r → B ≤ r ∧ ∃ o : Obj, w.heap[r]? = some o ∧ o.isCells = false) : RingU B rb fb m L hand F w' := by
  obtain ⟨es, clk, h1, h2⟩ := h
  exact ⟨es, clk, h1.reF (h1.sat.ownGrown h2 hg hr), h2⟩
theorem RingU.ringP {B rb fb m hand : Nat} {L : Lst X} {F : Heaplet} {w : World} (h : RingU B rb fb m L hand F w) : RingP rb (ptrs L) L hand F w := by
  obtain ⟨es, clk, h1, _⟩ := h
  exact h1.ringP
theorem RingU.reF {B rb fb m hand : Nat} {L : Lst X} {F F' : Heaplet} {w w' : World} (h : RingU B rb fb m L hand F w) (hs : ∀ G, Sat w (G ++ F) → Sat w' (G ++ F')) (hu : ∀ b o, HItem.blk b o ∈ F' → b < B) : RingU B rb fb m L hand F' w' := by
  obtain ⟨es, clk, h1, h2⟩ := h
  refine ⟨es, clk, h1.reF (hs _ h1.sat), fun b o hb => ?_⟩
  rcases List.mem_append.1 hb with hb | hb
  · exact h2 b o (List.mem_append_left _ hb)
  · exact hu b o hb
/-- Del in a going over: the ring's blocks alone turn. -/
theorem del_U {B rb fb m hand : Nat} {L : Lst X} {F : Heaplet} {w : World} (h : RingU B rb fb m L hand F w) (hB : B ≤ w.heap.size) {c : Nat} {o : Obj} (hc : HItem.blk c o ∈ F) (hcB : c + 1 = B) (k : Int) :
    Calls Try.prog 42 #[.pointer (some ⟨rb, 0, none⟩), .int .i64 k] w (fun e w' => ∃ v b L', e = .returned (.tuple #[v, .bool b]) ∧ RingU B rb fb m L' hand F w' ∧ KeepsFrom B w w' ∧ KeepsAbove B w w' ∧ (∀ i f, findF (bare L) k = some (i, f) → L' = L.set i none)) := by
  cases hk : findF (bare L) k with
  | none =>
    have hd := del_none rb (bare L) hand F w ⟨L, rfl, h.ringP⟩ k hk
    refine hd.mono ?_
    rintro e w' ⟨rfl, rfl⟩
    exact ⟨_, _, L, rfl, h, KeepsFrom.refl _ _, KeepsAbove.refl _ _, fun i f e => by cases e⟩
  | some x =>
    obtain ⟨i, f⟩ := x
    obtain ⟨es, clk, h1, h2⟩ := h
    obtain ⟨R, hs, hR⟩ := h1.sat.rest
    rw [List.append_assoc] at hs
    have hd := del_F rb fb m es clk L hand (F ++ R) w (h1.reF hs) k i f hk
    refine hd.mono ?_
    rintro e w' ⟨rfl, es', h3⟩
    have hkeep : ∀ k o, B ≤ k → w.heap[k]? = some o → w'.heap[k]? = some o := by
      intro k o hkB ho
      have := hR k o ho (fun o' hm => by have := h2 k o' hm; omega)
      exact h3.sat.get (List.mem_append_right _ (List.mem_append_right _ this))
    have hsz : w.heap.size ≤ w'.heap.size := by
      by_cases e : w.heap.size = B
      · have := h3.sat.lt (List.mem_append_right _ (List.mem_append_left _ hc))
        omega
      · obtain ⟨z, hz⟩ : ∃ z, w.heap[w.heap.size - 1]? = some z := ⟨_, Array.getElem?_eq_getElem (by omega)⟩
        have := (Array.getElem?_eq_some_iff.1 (hkeep _ _ (by omega) hz)).1
        omega
    refine ⟨_, _, L.set i none, rfl, ⟨es', clk, h3.reF ?_, ?_⟩, ⟨hsz, fun k o hkB ho _ => hkeep k o hkB ho⟩, ⟨hsz, fun k o hkB ho _ => hkeep k o hkB ho⟩, fun i' f' e => by cases e; rfl⟩
    · have := h3.sat
      rw [← List.append_assoc] at this
      exact this.sub (List.sublist_append_left _ _)
    · intro b o hb
      rcases List.mem_append.1 hb with hb | hb
      · unfold ringH at hb
        simp only [List.mem_cons, HItem.blk.injEq] at hb
        rcases hb with ⟨rfl, _⟩ | ⟨rfl, _⟩ | ⟨rfl, _⟩ | hb
        · exact h2 _ _ (List.mem_append_left _ (.head _))
        · exact h2 _ _ (List.mem_append_left _ (.tail _ (.head _)))
        · exact h2 _ _ (List.mem_append_left _ (.tail _ (.tail _ (.head _))))
        · exact h2 b o (List.mem_append_left _ (.tail _ (.tail _ (.tail _ (frH_sub i hb)))))
      · exact h2 b o (List.mem_append_right _ hb)
/-- The first that is there. -/
theorem rowsR_head : ∀ {fr : Frs X} {x : Int × X} {r : List (Int × X)}, rowsR fr = x :: r → ∃ i f, fr[i]? = some (some f) ∧ f.key = x.1 ∧ rowsR (fr.set i none) = r
  | [], x, r, h => by simp [rowsR, nowR] at h
  | none :: t, x, r, h => by
    have h' : rowsR t = x :: r := h
    obtain ⟨i, f, h1, h2, h3⟩ := rowsR_head h'
    exact ⟨i + 1, f, h1, h2, h3⟩
  | some f :: t, x, r, h => by
    have h' : (f.key, f.val) :: rowsR t = x :: r := h
    simp only [List.cons.injEq] at h'
    exact ⟨0, f, rfl, by rw [← h'.1], h'.2⟩
theorem rowsR_full (fr : Frs X) : fullK (keysOf fr) = (rowsR fr).length := by
  induction fr with
  | nil => rfl
  | cons o t ih =>
    cases o with
    | none => exact ih
    | some f =>
      have h1 : fullK (keysOf (some f :: t)) = fullK (keysOf t) + 1 := rfl
      have h2 : rowsR (some f :: t) = (f.key, f.val) :: rowsR t := rfl
      rw [h1, h2, ih]; rfl
end Go.Proofs.Ytbjomkbiljpjmaa.RI
