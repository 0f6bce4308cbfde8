/- Pages of a store are written: its places, a page turned. Conditions: none. -/
import Derived.Test.YtgocmnejlbfplaaDoorTw14
namespace Go.Proofs.YtgocmnejlbfplaaDoor
open Go Go.MapKept Go.RowKit Go.Proofs

attribute [local go_sem] Oper.semAt_some

def TS.set (S : TS) (k : Nat) (q : Pg) : TS := { S with pages := S.pages.set k q }
theorem pr_set2 {R : List Pr} {h F : Heaplet} {w : World} {g len cap k : Nat} {r : Pr} (r' : Pr) (ho : r'.2.oneCell' = true) (hv : PrSl (.slice (some ⟨g, 0, none⟩) len cap) R h) (s : Sat w (h ++ F)) (hk : R[k]? = some r) :
    ∃ h', PrSl (.slice (some ⟨g, 0, none⟩) len cap) (R.set k r') h' ∧ Sat ((w.setCell ⟨g, k * 2, none⟩ (kI r'.1)).setCell ⟨g, k * 2 + 1, none⟩ r'.2) (h' ++ F) := by
  have hkl := (List.getElem?_eq_some_iff.1 hk).1
  obtain ⟨_, _, el⟩ := sl_form hv
  cases el
  have sg : ∀ (Z' : List Pr), Z'.length = R.length → ∀ k, PrSl (.slice (some ⟨g, 0, none⟩) R.length cap) Z' k → PrSl (.slice (some ⟨g, 0, none⟩) Z'.length cap) Z' k := fun Z' e k hk => by rw [e]; exact hk
  obtain ⟨k1, a1, s1⟩ := sl_set (f := 0) (q' := ((r'.1, r.2) : Pr)) prC_len hv s hk (by decide) (u := kI r'.1) rfl
  have g1 := sg _ List.length_set _ a1
  obtain ⟨k2, a2, s2⟩ := sl_set (f := 1) (q' := r') prC_len g1 s1 (List.getElem?_set_self hkl) (by decide) (u := r'.2) rfl
  rw [List.set_set] at a2
  exact ⟨k2, by rw [List.length_set] at a2; exact a2, s2⟩
/-- A page is turned. -/
theorem StIs.setPage {tb pb k : Nat} {S : TS} {M : PM} {G hb : Heaplet} {w : World} {p q : Pg} {a : Option Addr} {cap : Nat} (h : StIs tb pb S M (hb ++ G) w) (hk : S.pages[k]? = some p) (hsl : SlAt hb (.slice a q.slots.length cap) q.slots) :
    ∃ g c, w.cell? ⟨tb, 3, none⟩ = some (.slice (some ⟨g, 0, none⟩) S.pages.length c) ∧ (∀ i, w.frozen? ⟨g, i, none⟩ = false) ∧ (∃ u, w.cell? ⟨g, k * 2, none⟩ = some u) ∧ (∃ u, w.cell? ⟨g, k * 2 + 1, none⟩ = some u) ∧ ((w.setCell ⟨g, k * 2, none⟩ (kI q.lsn)).setCell ⟨g, k * 2 + 1, none⟩ (.slice a q.slots.length cap)).cell? ⟨tb, 3, none⟩ = some (.slice (some ⟨g, 0, none⟩) S.pages.length c) ∧ StIs tb pb (S.set k q) M G ((w.setCell ⟨g, k * 2, none⟩ (kI q.lsn)).setCell ⟨g, k * 2 + 1, none⟩ (.slice a q.slots.length cap)) := by
  obtain ⟨pv, R, h', K, h1, h2, m, es, clk, qv, qh, g1, g2, hs⟩ := h
  have hkl := (List.getElem?_eq_some_iff.1 hk).1
  obtain ⟨r, hr⟩ : ∃ r, R[k]? = some r := ⟨_, List.getElem?_eq_getElem (by rw [h2.1]; exact hkl)⟩
  obtain ⟨g, cap', e⟩ := sl_some h1 (by rw [h2.1]; omega)
  subst e
  have s2 : Sat w (h' ++ (.blk tb (stO S pb (.slice (some ⟨g, 0, none⟩) R.length cap')) :: .blk pb (plateObj M m qv) :: .blk m (.map es clk) :: (qh ++ ((hb ++ K) ++ G)))) := by
    refine Sat.part hs ?_
    intro a
    simp only [cnt_cons, cnt_append]
    omega
  obtain ⟨hn, hv', hs'⟩ := pr_set2 ((q.lsn, .slice a q.slots.length cap) : Pr) rfl h1 s2 hr
  obtain ⟨a', cp, e, hc⟩ := sl_cells prC_len h1 s2
  cases e
  obtain ⟨g', ea, _, hu⟩ := hc k r hr
  cases ea
  have hfz : ∀ i, w.frozen? ⟨g, i, none⟩ = false := by
    rcases h1.2 with ⟨e, _⟩ | ⟨g', cap'', cur, e, _, _, _, _, rfl⟩
    · cases e
    · simp only [Value.slice.injEq, Option.some.injEq, Addr.mk.injEq] at e
      obtain ⟨⟨rfl, _, _⟩, _, rfl⟩ := e
      exact unfrozen_of (Sat.h0 s2)
  have ht : Sat w (.blk tb (stO S pb (.slice (some ⟨g, 0, none⟩) R.length cap')) :: (h' ++ (K ++ (hb ++ G)))) := hs.tail.tail.right
  refine ⟨g, cap', by rw [← h2.1, cell_of ht.h0]; rfl, hfz, ⟨_, hu 0 _ rfl⟩, ⟨_, hu 1 _ rfl⟩, by rw [← h2.1, cell_of (Sat.right (h' := hn) hs').h0]; rfl, .slice (some ⟨g, 0, none⟩) R.length cap', R.set k (q.lsn, .slice a q.slots.length cap), hn, hb ++ K, hv', ⟨by simp [TS.set, h2.1], fun i r2 p2 hr2 hp2 => ?_⟩, m, es, clk, qv, qh, g1, g2, ?_⟩
  · have hp3 : (S.pages.set k q)[i]? = some p2 := hp2
    by_cases hik : k = i
    · subst hik
      rw [List.getElem?_set_self (by rw [h2.1]; exact hkl)] at hr2
      rw [List.getElem?_set_self hkl] at hp3
      cases hr2; cases hp3
      exact ⟨rfl, hsl.mono (fun W hW => Sat.lft hW)⟩
    · rw [List.getElem?_set_ne hik] at hr2 hp3
      obtain ⟨e1, e2⟩ := h2.2 i r2 p2 hr2 hp3
      exact ⟨e1, e2.mono (fun W hW => hW.right)⟩
  · have hs5 : Sat ((w.setCell ⟨g, k * 2, none⟩ (kI q.lsn)).setCell ⟨g, k * 2 + 1, none⟩ (.slice a q.slots.length cap)) (hn ++ (.blk tb (stO (S.set k q) pb (.slice (some ⟨g, 0, none⟩) R.length cap')) :: .blk pb (plateObj M m qv) :: .blk m (.map es clk) :: (qh ++ ((hb ++ K) ++ G)))) := hs'
    refine Sat.part hs5 ?_
    intro a
    simp only [cnt_cons, cnt_append]
    omega
set_option maxRecDepth 100000 in
theorem plc1_any {tb pb cb : Nat} {S : TS} {M : PM} {G : Heaplet} {w : World} (h : StIs tb pb S M G w) (hcb : w.cell? ⟨cb, 0, none⟩ = some (.pointer (some ⟨tb, 0, none⟩))) (i : Nat) (hi : i ≤ 1000) (hf : 0 ≤ S.frm ∧ S.frm ≤ 1000000) :
    Calls Tryd.prog 27 #[.int .i64 (i : Int), .pointer (some ⟨cb, 0, none⟩)] w (Qt (.int .i64 (S.frm + (i : Int))) w) := by
  obtain ⟨_, _, _, _, c0, c1, _⟩ := h.cells
  obtain ⟨f0, f1⟩ := hf
  obtain ⟨frm, hfr⟩ : ∃ frm, S.frm = frm := ⟨_, rfl⟩
  rw [hfr] at f0 f1 c1 ⊢
  have i0 : (0 : Int) ≤ (i : Int) := by omega
  have i1 : (i : Int) ≤ 1000 := by omega
  clear h hfr c0 hi
  go_enter Tryd.func27, Tryd.ntmps27
  go_wp2_with fail
  go_ret
  exact ⟨rfl, 0, rfl⟩
set_option maxRecDepth 100000 in
theorem plc2_any {tb pb cb cl : Nat} {S : TS} {M : PM} {G : Heaplet} {w : World} {a : Option Addr} {cap : Nat} {L : List Lf} {p : Lf} (h : StIs tb pb S M G w) (hcb : w.cell? ⟨cb, 0, none⟩ = some (.pointer (some ⟨tb, 0, none⟩))) (hcl : w.cell? ⟨cl, 0, none⟩ = some (.slice a L.length cap)) (hv : LvAt G (.slice a L.length cap) L) (i : Nat) (hp : L[i]? = some p) (hn : 0 ≤ p.1 ∧ p.1 < 1024) (hl : L.length ≤ 1000) (hf : 0 ≤ S.frm ∧ S.frm ≤ 1000000) (ht : 0 ≤ S.twins ∧ S.twins ≤ 64) :
    Calls Tryd.prog 28 #[.int .i64 (i : Int), .pointer (some ⟨cb, 0, none⟩), .pointer (some ⟨cl, 0, none⟩)] w (Qt (.int .i64 (S.frm + S.twins + p.1)) w) := by
  obtain ⟨a', cap', e, hc⟩ := hv
  simp only [Value.slice.injEq] at e
  obtain ⟨rfl, _, rfl⟩ := e
  obtain ⟨g, off, sv, rfl, _, hu⟩ := hc i p hp
  obtain ⟨u0, _, _⟩ := hu w h.frame
  have hil := (List.getElem?_eq_some_iff.1 hp).1
  have HHM : Hid (∀ k, Calls Tryd.prog 29 #[.pointer (some ⟨tb, 0, none⟩), .int .i64 p.1] (w.drewN k) (fun e w' => e = .returned (.int .i64 (S.frm + S.twins + p.1)) ∧ ∃ m, w' = w.drewN m)) := Lib.hid (fun k => by
    refine (home_any (h.below (Grown.drewN w k).below) p.1 (by omega)).mono ?_
    rintro e w' ⟨rfl, m, rfl⟩
    exact ⟨rfl, k + m, by rw [World.drewN_drewN]⟩)
  have i0 : (0 : Int) ≤ (i : Int) := by omega
  have i1 : (i : Int) < (L.length : Int) := by omega
  generalize S.frm + S.twins + p.1 = hm at *
  obtain ⟨n, q⟩ := p
  simp only at *
  clear h hc hu hp hn hl hf ht hil
  go_enter Tryd.func28, Tryd.ntmps28
  go_upto_region 1 with (fail)
  go_quiet ((go_at_call 29; with_reducible exact HHM.out _))
  go_wp2_with fail
  go_ret
  exact ⟨rfl, _, rfl⟩
end Go.Proofs.YtgocmnejlbfplaaDoor
