/- Edges of who waits for whom: one more, sorted. Conditions: none. -/
import Derived.Test.YthgfbnopbfiifaaKey3
import Derived.Test.YthgfbnopbfiifaaSortG
import Derived.Test.YthgfbnopbfiifaaLayF
import Derived.Deep.RegionHeld3
namespace Go.Proofs.Ythgfbnopbfiifaa
open Go Go.MapKept Go.RowKit Go.Proofs Go.Sort Go.Shelf

/-- An edge between small numbers. -/
structure Ed where
  f : Int
  t : Int
  ok : (0 ≤ f ∧ f < 16) ∧ 0 ≤ t ∧ t < 16
instance : Inhabited Ed := ⟨⟨0, 0, by omega⟩⟩
theorem ed_ext {a b : Ed} (h1 : a.f = b.f) (h2 : a.t = b.t) : a = b := by
  obtain ⟨a1, a2, _⟩ := a
  obtain ⟨b1, b2, _⟩ := b
  simp only at h1 h2
  subst h1; subst h2; rfl
def edC (e : Ed) : List Value := [kI e.f, kI e.t]
theorem edC_len : ∀ e, (edC e).length = 2 := fun _ => rfl
theorem one_ed : ∀ x, ∀ v ∈ edC x, v.oneCell' = true := by intro x; simp [edC, Value.oneCell']
def flE (p : Int × Int) : List Value := [kI p.1, kI p.2]
theorem flE_len : ∀ q, (flE q).length = 2 := fun _ => rfl
abbrev ESl (v : Value) (L : List (Int × Int)) (h : Heaplet) : Prop := SliceIs 47 2 v L.length (L.flatMap flE) h
theorem infoEd : (Try.prog.info? 47).map (fun i => (i.zero, i.size, i.bytes)) = some (some (.agg #[.int .i64 0, .int .i64 0]), 2, 16) := by kernel_rfl
theorem ed_push {w : World} {v : Value} {l : List (Int × Int)} {h A B : Heaplet} {x : Nat} (q : Int × Int) (hv : ESl v l h) (s : Sat w (.blk x (.cells #[kI q.1, kI q.2] 47) :: (A ++ (h ++ B)))) (hl : l.length + 1 ≤ 1000000) :
    ∃ a' c' w' h', (∀ ty, (Builtin.append_ #[41, 41] ty #[v, .slice (some ⟨x, 0, none⟩) 1 1]).run Try.prog w = .ok (.slice a' (l.length + 1) c') w') ∧ ESl (.slice a' (l.length + 1) c') (l ++ [q]) h' ∧ Sat w' (A ++ (h' ++ B)) := by
  obtain ⟨i0, hi, hz, hsize, hby⟩ := info_parts infoEd
  obtain ⟨v', w', h', h1, h2, h3⟩ := sl_push (P := Try.prog) flE_len Try.underlying41 hi hz hsize hby rfl (by decide) hv q s (by simp [Value.oneCell', flE]) (by unfold maxLen; omega) (by omega)
  obtain ⟨a', c', rfl⟩ := sl_form h2
  have e : (l ++ [q]).length = l.length + 1 := by simp
  rw [e] at h1 h2
  exact ⟨a', c', w', h', h1, by unfold ESl; rw [e]; exact h2, h3⟩
def cmpE (a b : Ed) : Int := if a.f - b.f ≠ 0 then a.f - b.f else a.t - b.t
def LtE (a b : Int × Int) : Prop := a.1 < b.1 ∨ a.1 = b.1 ∧ a.2 < b.2
def edP (e : Ed) : Int × Int := (e.f, e.t)
theorem cmpE_neg (a b : Ed) : cmpE a b < 0 ↔ LtE (edP a) (edP b) := by
  unfold cmpE LtE edP
  simp only
  split <;> omega
theorem ltE_irr (a : Int × Int) : ¬ LtE a a := by unfold LtE; omega
theorem ltE_trans {a b c : Int × Int} (h : LtE a b) (k : LtE b c) : LtE a c := by unfold LtE at *; omega
theorem ltE_ntrans {a b c : Int × Int} (h : ¬ LtE a b) (k : ¬ LtE b c) : ¬ LtE a c := by unfold LtE at *; omega
theorem ltE_tri {a b : Int × Int} (h : ¬ LtE a b) (k : ¬ LtE b a) : a = b := by
  unfold LtE at *
  exact Prod.ext (by omega) (by omega)
theorem ltE_asymm {a b : Int × Int} (h : LtE a b) : ¬ LtE b a := fun k => ltE_irr a (ltE_trans h k)
theorem ltOfE_dec (a b : Ed) : ltOf cmpE a b = true ↔ LtE (edP a) (edP b) := by unfold ltOf; rw [decide_eq_true_iff]; exact cmpE_neg a b
theorem ltOfE_no (a b : Ed) : ltOf cmpE a b = false ↔ ¬ LtE (edP a) (edP b) := by rw [← ltOfE_dec]; simp
theorem swoE : SWO (ltOf cmpE) where
  irrefl x := (ltOfE_no x x).2 (ltE_irr _)
  trans x y z h k := (ltOfE_dec x z).2 (ltE_trans ((ltOfE_dec x y).1 h) ((ltOfE_dec y z).1 k))
  ntrans x y z h k := (ltOfE_no x z).2 (ltE_ntrans ((ltOfE_no x y).1 h) ((ltOfE_no y z).1 k))
theorem edP_inj {a b : Ed} (h : edP a = edP b) : a = b := ed_ext (congrArg Prod.fst h) (congrArg Prod.snd h)
/-- Small edges as such. -/
theorem ed_of : ∀ {l : List (Int × Int)}, (∀ x ∈ l, (0 ≤ x.1 ∧ x.1 < 16) ∧ 0 ≤ x.2 ∧ x.2 < 16) → ∃ R : List Ed, R.map edP = l
  | [], _ => ⟨[], rfl⟩
  | p :: l, h => by
    obtain ⟨R, hR⟩ := ed_of (l := l) fun x hx => h x (.tail _ hx)
    exact ⟨⟨p.1, p.2, h p (.head _)⟩ :: R, by simp [edP, hR]⟩
theorem ed_flat (R : List Ed) : (R.map edP).flatMap flE = R.flatMap edC := by
  rw [List.flatMap_map]; rfl
def sortE (R : List Ed) : List Ed := R.mergeSort fun x y => !(ltOf cmpE) y x
theorem sortE_perm (l : List Ed) : (sortE l).Perm l := List.mergeSort_perm _ _
theorem sortE_sorted (l : List Ed) : (sortE l).Pairwise (fun x y => ¬ LtE (edP y) (edP x)) := by
  have := List.pairwise_mergeSort (le := fun x y : Ed => !(ltOf cmpE) y x) (fun a b c h1 h2 => by
    simp only [Bool.not_eq_true'] at *
    exact (ltOfE_no _ _).2 (ltE_ntrans ((ltOfE_no _ _).1 h2) ((ltOfE_no _ _).1 h1))) (fun a b => by
    simp only [Bool.or_eq_true, Bool.not_eq_true']
    by_cases h : LtE (edP b) (edP a)
    · exact .inr ((ltOfE_no _ _).2 (ltE_asymm h))
    · exact .inl ((ltOfE_no _ _).2 h)) l
  exact this.imp (fun h => by simp only [Bool.not_eq_true'] at h; exact (ltOfE_no _ _).1 h)
/-- The first that isn't zero. -/
def or2 (a b : Int) : Int := if a ≠ 0 then a else b
set_option maxRecDepth 100000 in
theorem or2_any (g : Nat) (a b : Int) (L cap : Nat) (hL : L = 2) (w : World) (h0 : w.cell? ⟨g, 0, none⟩ = some (kI a)) (h1 : w.cell? ⟨g, 1, none⟩ = some (kI b)) :
    Calls Try.prog 27 #[.slice (some ⟨g, 0, none⟩) L cap] w (Ret (.int .i64 (or2 a b)) (Same w)) := by
  have HL := Lib.hid hL
  clear hL
  go_enter Try.func27, Try.ntmps27
  go_wp2_with fail
  go_loopw [8] (fun v wr => ∃ r : Nat, r ≤ 2 ∧ v = .int .i64 r ∧ wr = w ∧ (0 < r → a = 0) ∧ (1 < r → b = 0)) (fun v _ => 10 - (RowKit.intOf v).toNat)
  case atStart => exact ⟨0, by omega, rfl, rfl, by omega, by omega⟩
  case round =>
    obtain ⟨r, hr, rfl, rfl, ha, hb⟩ := hrel
    have hL := HL.out
    by_cases r3 : r = 2
    · subst r3
      have hlt : ¬ ((2 : Int) < (L : Int)) := by omega
      have hlt2 : (L : Int) = 2 := by omega
      clear hL
      obtain rfl := ha (by omega)
      obtain rfl := hb (by omega)
      clear ha hb
      go_wp2_with fail
      go_ret
      exact ⟨by simp [or2], rfl⟩
    · have hlt : r = 0 ∨ r = 1 := by omega
      have k0 : (0 : Int) < (L : Int) := by omega
      have k1 : (1 : Int) < (L : Int) := by omega
      have m0 : 0 < L := by omega
      have m1 : 1 < L := by omega
      clear hL r3
      rcases hlt with rfl | rfl
      · by_cases hz : a = 0
        · have hzb : (a != 0) = false := by simpa using hz
          clear ha hb
          go_wp2_with fail
          go_roundw
          case rel => exact ⟨1, by omega, rfl, (by first | rfl | trivial), fun _ => hz, by omega⟩
          case measure => simp [RowKit.intOf]
        · have hzb : (a != 0) = true := by simpa using hz
          clear ha hb
          go_wp2_with fail
          go_ret
          exact ⟨by simp [or2, hz], rfl⟩
      · have ha0 := ha (by omega)
        by_cases hz : b = 0
        · have hzb : (b != 0) = false := by simpa using hz
          clear ha hb
          go_wp2_with fail
          go_roundw
          case rel => exact ⟨2, by omega, rfl, (by first | rfl | trivial), fun _ => ha0, fun _ => hz⟩
          case measure => simp [RowKit.intOf]
        · have hzb : (b != 0) = true := by simpa using hz
          clear ha hb
          go_wp2_with fail
          go_ret
          exact ⟨by simp [or2, ha0], rfl⟩
theorem or2_new (a b : Int) (W : World) (g : Nat) (hg : g = W.heap.size) :
    Calls Try.prog 27 #[.slice (some ⟨g, 0, none⟩) 2 2] (W.alloc (.cells #[kI a, kI b] 3)) (Ret (.int .i64 (or2 a b)) (Same (W.alloc (.cells #[kI a, kI b] 3)))) := by
  subst hg
  have hs := (sat_all W).new (.cells #[kI a, kI b] 3)
  exact or2_any _ a b 2 2 rfl _ (by rw [cell_of hs.h0]; rfl) (by rw [cell_of hs.h0]; rfl)
set_option maxRecDepth 100000 in
set_option maxHeartbeats 1600000 in
theorem compare_ed (a b : Ed) (w : World) : Calls Try.prog 26 #[.agg #[kI a.f, kI a.t], .agg #[kI b.f, kI b.t]] w fun e w' => e = .returned (.int .i64 (cmpE a b)) ∧ ∃ q os, w' = grow (w.drewN q) os := by
  have e0 : cmpE a b = or2 (a.f - b.f) (a.t - b.t) := rfl
  have e1 : IntKind.i64.wrap (a.f - b.f) = a.f - b.f := IntWalk.i64_in _ (by have := a.ok; have := b.ok; omega)
  have e2 : IntKind.i64.wrap (a.t - b.t) = a.t - b.t := IntWalk.i64_in _ (by have := a.ok; have := b.ok; omega)
  have e3 : wrap64 (a.f - b.f) = a.f - b.f := IntWalk.wrap64_in _ (by have := a.ok; have := b.ok; omega)
  have e4 : wrap64 (a.t - b.t) = a.t - b.t := IntWalk.wrap64_in _ (by have := a.ok; have := b.ok; omega)
  rw [e0]
  clear e0
  have hs := ((sat_all w).new (.cells #[kI a.f, kI a.t] 47)).new (.cells #[kI b.f, kI b.t] 47)
  rw [World.size_alloc] at hs
  have HB : Hid (Grown w ((w.alloc (.cells #[kI a.f, kI a.t] 47)).alloc (.cells #[kI b.f, kI b.t] 47))) := Lib.hid ((Grown.alloc w _).trans (Grown.alloc _ _))
  have a0 : ((w.alloc (.cells #[kI a.f, kI a.t] 47)).alloc (.cells #[kI b.f, kI b.t] 47)).cell? ⟨w.heap.size, 0, none⟩ = some (kI a.f) := by rw [cell_of hs.h1]; rfl
  have a1 : ((w.alloc (.cells #[kI a.f, kI a.t] 47)).alloc (.cells #[kI b.f, kI b.t] 47)).cell? ⟨w.heap.size, 1, none⟩ = some (kI a.t) := by rw [cell_of hs.h1]; rfl
  have b0 : ((w.alloc (.cells #[kI a.f, kI a.t] 47)).alloc (.cells #[kI b.f, kI b.t] 47)).cell? ⟨w.heap.size + 1, 0, none⟩ = some (kI b.f) := by rw [cell_of hs.h0]; rfl
  have b1 : ((w.alloc (.cells #[kI a.f, kI a.t] 47)).alloc (.cells #[kI b.f, kI b.t] 47)).cell? ⟨w.heap.size + 1, 1, none⟩ = some (kI b.t) := by rw [cell_of hs.h0]; rfl
  clear hs
  go_enter Try.func26, Try.ntmps26
  go_upto_region 1 with (fail)
  generalize (w.alloc (.cells #[kI a.f, kI a.t] 47)).alloc (.cells #[kI b.f, kI b.t] 47) = W2 at *
  generalize w.heap.size = g at *
  go_wp2_with fail
  refine (or2_new _ _ _ _ rfl).mono ?_
  rintro e w' ⟨rfl, rfl⟩
  go_wp2_with fail
  go_ret
  exact ⟨rfl, HB.out.trans (Grown.alloc _ _)⟩
theorem sort_edges {v : Value} {A : List (Int × Int)} {oh G : Heaplet} {w : World} (hv : ESl v A oh) (s : Sat w (oh ++ G)) (hb : ∀ x ∈ A, (0 ≤ x.1 ∧ x.1 < 16) ∧ 0 ≤ x.2 ∧ x.2 < 16) (hn : A.length ≤ 1000000) :
    Calls Try.prog 25 #[v, .func (.func 26) #[] #[]] w (Ret (.tuple #[]) fun w' => ∃ A' oh', ESl v A' oh' ∧ A'.length = A.length ∧ A'.Perm A ∧ A'.Pairwise (fun x y => ¬ LtE y x) ∧ Sat w' (oh' ++ G)) := by
  by_cases h0 : A = []
  · subst h0
    obtain ⟨a, cap, rfl⟩ := sl_form hv
    refine (AnyF.slices_SortFunc_none Try.sortF a cap _ w).mono ?_
    rintro e w' ⟨rfl, rfl⟩
    exact ⟨rfl, [], oh, hv, rfl, List.Perm.refl _, List.Pairwise.nil, s⟩
  · obtain ⟨g, cap, rfl⟩ := sl_some hv (List.length_pos_iff.2 h0)
    obtain ⟨R, hR⟩ := ed_of hb
    have hl : R.length = A.length := by rw [← hR, List.length_map]
    have hv2 : SliceIs 47 2 (.slice (some ⟨g, 0, none⟩) R.length cap) R.length (R.flatMap edC) oh := by
      have := hv
      unfold ESl at this
      rw [← hR, ed_flat, List.length_map] at this
      exact this
    have hH := holds_G edC_len hv2 s
    have hgl : g < w.heap.size := by
      rcases hv.2 with ⟨e, _⟩ | ⟨g', cap', cur, e, _, _, _, _, rfl⟩
      · cases e
      · cases e
        exact s.lt (.head _)
    have hcon := AnyQ.slices_SortFunc_total (P := Try.prog) Try.sortF 2 Try.isAgg47 Try.sizeOf47 edC edC_len one_ed cmpE swoE 26 #[] g 0 cap R.toArray w (enters_of Try.func26 (by kernel_rfl) rfl) (fun _ _ _ _ x y => compare_ed x y _) hH hgl (by simp only [List.size_toArray]; omega) (fun x y h1 h2 => edP_inj (ltE_tri ((ltOfE_no _ _).1 h1) ((ltOfE_no _ _).1 h2)))
    change Calls Try.prog 25 #[.slice (some ⟨g, 0, none⟩) R.length cap, _] _ _ at hcon
    rw [← hl]
    refine hcon.mono ?_
    rintro e w4 ⟨rfl, n, os, rfl⟩
    obtain ⟨h', h1, h2⟩ := satG_sorted (n := n) (os := os) edC_len hv2 s (sortE_perm R).length_eq
    refine ⟨rfl, (sortE R).map edP, h', ?_, ?_, ?_, ?_, h2⟩
    · unfold ESl
      rw [ed_flat, List.length_map]
      exact h1
    · rw [List.length_map, (sortE_perm R).length_eq]
    · rw [← hR]
      exact (sortE_perm R).map edP
    · rw [List.pairwise_map]
      exact sortE_sorted R
end Go.Proofs.Ythgfbnopbfiifaa
