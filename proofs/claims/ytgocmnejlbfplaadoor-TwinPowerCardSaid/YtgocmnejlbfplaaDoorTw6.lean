/- A page of a store: Read walked. Conditions: none. -/
import Derived.Test.YtgocmnejlbfplaaDoorTw5
namespace Go.Proofs.YtgocmnejlbfplaaDoor
open Go Go.MapKept Go.RowKit Go.Proofs

attribute [local go_sem] Oper.semAt_some

theorem Sat.mid {w : World} {A B C : Heaplet} (s : Sat w (A ++ (B ++ C))) : Sat w (B ++ (A ++ C)) := s.perm (List.perm_append_comm_assoc A B C)
/-- The store as blocks Z, and the way back. -/
theorem StIs.view {tb pb : Nat} {S : TS} {M : PM} {G : Heaplet} {w : World} (h : StIs tb pb S M G w) : ∃ (Z : Heaplet) (a : Option Addr) (cap : Nat), Sat w Z ∧ (∀ W (X : Heaplet), Sat W (X ++ Z) → StIs tb pb S M (X ++ G) W) ∧
    (∀ W, Sat W Z → W.cell? ⟨tb, 0, none⟩ = some (.pointer (some ⟨pb, 0, none⟩)) ∧ W.cell? ⟨tb, 1, none⟩ = some (kI S.frm) ∧ W.cell? ⟨tb, 2, none⟩ = some (kI S.twins) ∧ W.cell? ⟨tb, 3, none⟩ = some (.slice a S.pages.length cap) ∧ W.cell? ⟨tb, 4, none⟩ = some (kI S.life) ∧ W.cell? ⟨tb, 5, none⟩ = some (.bool S.dead)) ∧
    (∀ (i : Nat) p, S.pages[i]? = some p → ∃ g sa sc, a = some ⟨g, 0, none⟩ ∧ SlAt Z (.slice sa p.slots.length sc) p.slots ∧ ∀ W, Sat W Z → W.cell? ⟨g, i * 2, none⟩ = some (kI p.lsn) ∧ W.cell? ⟨g, i * 2 + 1, none⟩ = some (.slice sa p.slots.length sc)) := by
  obtain ⟨pv, R, h, K, h1, h2, m, es, clk, qv, qh, g1, g2, hs⟩ := h
  obtain ⟨a, cap, rfl⟩ := sl_form h1
  rw [h2.1] at hs
  have hrow : ∀ W, Sat W (HItem.blk pb (plateObj M m qv) :: .blk m (.map es clk) :: (qh ++ (.blk tb (stO S pb (.slice a S.pages.length cap)) :: (h ++ (K ++ G))))) → Sat W (.blk tb (stO S pb (.slice a S.pages.length cap)) :: (h ++ (K ++ G))) := fun W hW => hW.tail.tail.right
  refine ⟨_, a, cap, hs, fun W X hW => ?_, fun W hW => ?_, fun i p hp => ?_⟩
  · refine ⟨.slice a S.pages.length cap, R, h, K, by rw [← h2.1]; exact h1, h2, m, es, clk, qv, qh, g1, g2, ?_⟩
    refine hW.perm ?_
    rw [← List.append_assoc]
    have p1 : (X ++ (HItem.blk pb (plateObj M m qv) :: .blk m (.map es clk) :: (qh ++ (.blk tb (stO S pb (.slice a S.pages.length cap)) :: (h ++ (K ++ G)))))).Perm (HItem.blk pb (plateObj M m qv) :: .blk m (.map es clk) :: (qh ++ (.blk tb (stO S pb (.slice a S.pages.length cap)) :: (h ++ (K ++ (X ++ G)))))) := by
      have e1 : X ++ (HItem.blk pb (plateObj M m qv) :: .blk m (.map es clk) :: (qh ++ (.blk tb (stO S pb (.slice a S.pages.length cap)) :: (h ++ (K ++ G))))) = X ++ ((HItem.blk pb (plateObj M m qv) :: .blk m (.map es clk) :: (qh ++ (.blk tb (stO S pb (.slice a S.pages.length cap)) :: (h ++ K)))) ++ G) := by simp
      have e2 : (HItem.blk pb (plateObj M m qv) :: .blk m (.map es clk) :: (qh ++ (.blk tb (stO S pb (.slice a S.pages.length cap)) :: (h ++ (K ++ (X ++ G)))))) = (HItem.blk pb (plateObj M m qv) :: .blk m (.map es clk) :: (qh ++ (.blk tb (stO S pb (.slice a S.pages.length cap)) :: (h ++ K)))) ++ (X ++ G) := by simp
      rw [e1, e2]
      exact List.perm_append_comm_assoc _ _ _
    rw [List.append_assoc]
    exact p1
  · have hb := (hrow W hW).h0
    refine ⟨?_, ?_, ?_, ?_, ?_, ?_⟩ <;> (rw [cell_of hb]; rfl)
  · have hil : i < R.length := by rw [h2.1]; exact (List.getElem?_eq_some_iff.1 hp).1
    obtain ⟨r, hr⟩ : ∃ r, R[i]? = some r := ⟨_, List.getElem?_eq_getElem hil⟩
    obtain ⟨e1, e2⟩ := h2.2 i r p hr hp
    obtain ⟨sa, sc, e3, _⟩ := id e2
    have hcell : ∀ W, Sat W (HItem.blk pb (plateObj M m qv) :: .blk m (.map es clk) :: (qh ++ (.blk tb (stO S pb (.slice a S.pages.length cap)) :: (h ++ (K ++ G))))) → ∃ g, a = some ⟨g, 0, none⟩ ∧ W.cell? ⟨g, i * 2, none⟩ = some (kI p.lsn) ∧ W.cell? ⟨g, i * 2 + 1, none⟩ = some (.slice sa p.slots.length sc) := fun W hW => by
      obtain ⟨a', cap', e, hc⟩ := sl_cells prC_len h1 (hrow W hW).tail
      cases e
      obtain ⟨g, ea, _, hu⟩ := hc i r hr
      refine ⟨g, ea, ?_, ?_⟩
      · rw [← e1]; exact hu 0 _ rfl
      · rw [← e3]; exact hu 1 _ rfl
    obtain ⟨g, rfl, _⟩ := hcell w hs
    refine ⟨g, sa, sc, rfl, by rw [← e3]; exact e2.mono (fun W hW => Sat.lft (F := G) (hrow W hW).tail.right), fun W hW => ?_⟩
    obtain ⟨g', e, hh⟩ := hcell W hW
    cases e
    exact hh
/-- What Read tells: the image, the error. -/
def readT (S : TS) (M : PM) (n : Int) : Pg × Int := if rdyT S M ≠ 0 then (emptyP, rdyT S M) else match (if n < 0 then none else S.pages[n.toNat]?) with
  | some p => (p, 0)
  | none => (emptyP, 1)
def TRet (q : Pg) (c : Int) (tb pb : Nat) (S : TS) (M : PM) (G : Heaplet) (e : Ending) (w' : World) : Prop := ∃ sv h, e = .returned (.tuple #[pgV q.lsn sv, .int .i64 c]) ∧ StIs tb pb S M (h ++ G) w' ∧ SlAt h sv q.slots
theorem read_results (tm : Array Value) (W9 : World) (g : Nat) (n c : Int) (sv : Value) (h1 : (tm[4]?).getD undef = .pointer (some ⟨g, 0, none⟩)) (h2 : (tm[5]?).getD undef = .int .i64 c) (r0 : W9.cell? ⟨g, 0, none⟩ = some (kI n)) (r1 : W9.cell? ⟨g, 1, none⟩ = some sv) :
    (results Tryd.f12 tm).run Tryd.prog W9 = .ok (.tuple #[pgV n sv, .int .i64 c]) W9 := by
  simp [results, Tryd.results12, go_sem, h1, h2, r0, r1]
set_option maxRecDepth 100000 in
theorem tread_any {tb pb : Nat} {S : TS} {M : PM} {G : Heaplet} {w : World} (h : StIs tb pb S M G w) (n : Int) (hg : ∀ p ∈ S.pages, p.slots.length ≤ 1000) (hl : S.pages.length ≤ 100000) :
    Calls Tryd.prog 12 #[.pointer (some ⟨tb, 0, none⟩), .int .i64 n] w (TRet (readT S M n).1 (readT S M n).2 tb pb S M G) := by
  obtain ⟨Z, a, cap, hz, hmk, hcl, hrw⟩ := h.view
  have h1 := hz.new (.cells #[kI 0, .slice none 0 0] 25)
  have HRD := Lib.hid (trdy_any (hmk _ [.blk w.heap.size (.cells #[kI 0, .slice none 0 0] 25)] h1))
  have HS1 := Lib.hid h1
  have HMK := Lib.hid hmk
  have HCL := Lib.hid hcl
  have HRW := Lib.hid hrw
  have HGL := Lib.hid hg
  have hli : (S.pages.length : Int) ≤ 100000 := by omega
  obtain ⟨rd, hrd⟩ : ∃ rd, rdyT S M = rd := ⟨_, rfl⟩
  rw [hrd] at HRD
  obtain ⟨rp, hrp⟩ : ∃ rp, readT S M n = rp := ⟨_, rfl⟩
  rw [hrp]
  have HRP : Hid ((if rd ≠ 0 then (emptyP, rd) else match (if n < 0 then none else S.pages[n.toNat]?) with
    | some p => (p, 0)
    | none => (emptyP, 1)) = rp) := Lib.hid (by rw [← hrp, ← hrd]; rfl)
  clear h hz h1 hmk hcl hrw hg hl hrd hrp
  obtain ⟨pb4, hpb⟩ : ∃ pb4, w.heap.size = pb4 := ⟨_, rfl⟩
  rw [hpb] at HS1
  go_enter Tryd.func12, Tryd.ntmps12
  go_upto_if 11 with (go_at_call 24; refine (HRD.out).mono ?_; rintro e w2 ⟨rfl, nd, hw2⟩; have HS2 := Lib.hid (HS1.out.grown (Grown.drewN _ nd)); rw [← hw2] at HS2; clear hw2)
  by_cases hz : rd = 0
  · subst hz
    by_cases hn : n < 0
    · obtain rfl : rp = (emptyP, 1) := by rw [← HRP.out, if_neg (by simp), if_pos hn]
      clear HRD HRP
      obtain ⟨c0, c1, ff⟩ := two_at HS2.out
      have h9 := two_set HS2.out (kI 0) (.slice none 0 0)
      have R9 := Lib.hid (two_at h9)
      have FIN := Lib.hid (HMK.out _ [] h9.tail)
      clear h9 HS2 HS1
      go_wp2_with fail
      exact bodyPost_ret (v := .tuple #[pgV 0 (.slice none 0 0), .int .i64 1]) (read_results _ _ pb4 0 1 _ rfl rfl R9.out.1 R9.out.2.1) rfl ⟨.slice none 0 0, [], rfl, FIN.out, SlAt.nil _ _ _⟩
    · obtain ⟨k, rfl⟩ : ∃ k : Nat, n = (k : Int) := ⟨n.toNat, by omega⟩
      have k0 : (0 : Int) ≤ (k : Int) := by omega
      have k9 : ((k : Int) < 0) = False := eq_false (by omega)
      by_cases hk : k < S.pages.length
      · have k1 : (k : Int) < (S.pages.length : Int) := by omega
        obtain ⟨p, hp⟩ : ∃ p, S.pages[k]? = some p := ⟨_, List.getElem?_eq_getElem hk⟩
        obtain rfl : rp = (p, 0) := by rw [← HRP.out, if_neg (by simp), if_neg hn, Int.toNat_natCast, hp]
        obtain ⟨g, sa, sc, rfl, hsl, hu⟩ := HRW.out k p hp
        have hpl := HGL.out p (List.mem_of_getElem? hp)
        obtain ⟨u0, u1⟩ := hu w2 HS2.out.tail
        obtain ⟨_, _, _, t3, _, _⟩ := HCL.out w2 HS2.out.tail
        have HS3 := Lib.hid (HS2.out.new (.cells #[kI p.lsn, .slice sa p.slots.length sc] 25))
        have HCLN := Lib.hid (clone_sl (hsl.mono (F' := .blk w2.heap.size (.cells #[kI p.lsn, .slice sa p.slots.length sc] 25) :: .blk pb4 (.cells #[kI 0, .slice none 0 0] 25) :: Z) (fun W hW => hW.tail.tail)) HS3.out hpl)
        obtain ⟨g0, g1, _⟩ := two_at HS3.out
        obtain ⟨gb, hgb⟩ : ∃ gb, w2.heap.size = gb := ⟨_, rfl⟩
        clear HRD HRP HRW HGL hsl hu hpl hp hk hn
        go_upto_region 8 with (go_at_call 30; refine (HCLN.out).mono ?_; rintro e w3 ⟨v', h', rfl, hv', hs3⟩; obtain ⟨va, vc, rfl⟩ := sl_form hv'; have HV := Lib.hid hv'; have hs4 := hs3.perm (List.perm_middle (l₁ := h')); rw [hgb] at hs4; obtain ⟨q0, q1, qf⟩ := two_at hs4; have HS5 := Lib.hid (hs4.setCell (i := 1) (.slice va p.slots.length vc)); clear hs3 hs4 hv' g0 g1 u0 u1 t3)
        have e5 : (#[kI p.lsn, .slice sa p.slots.length sc] : Array Value).setIfInBounds 1 (.slice va p.slots.length vc) = #[kI p.lsn, .slice va p.slots.length vc] := rfl
        rw [e5] at HS5
        have hs6 : Sat (w3.setCell ⟨gb, 1, none⟩ (.slice va p.slots.length vc)) (.blk pb4 (.cells #[kI 0, .slice none 0 0] 25) :: .blk gb (.cells #[kI p.lsn, .slice va p.slots.length vc] 25) :: (h' ++ Z)) := HS5.out.perm (List.perm_middle (l₁ := HItem.blk gb (.cells #[kI p.lsn, .slice va p.slots.length vc] 25) :: h'))
        clear q0 q1 qf
        generalize w3.setCell ⟨gb, 1, none⟩ (.slice va p.slots.length vc) = W5 at *
        obtain ⟨e0, e1, _⟩ := two_at HS5.out
        obtain ⟨c0, c1, ff⟩ := two_at hs6
        have h9 := two_set hs6 (kI p.lsn) (.slice va p.slots.length vc)
        have R9 := Lib.hid (two_at h9)
        have FIN := Lib.hid (HMK.out _ h' h9.tail.tail)
        have HSL : Hid (SlAt h' (.slice va p.slots.length vc) p.slots) := Lib.hid (by
          have := slAt_own HV.out []
          rw [List.append_nil] at this
          exact this)
        clear h9 hs6 HS5 HS2 HS1 HS3 HCLN
        go_wp2_with fail
        exact bodyPost_ret (v := .tuple #[pgV p.lsn (.slice va p.slots.length vc), .int .i64 0]) (read_results _ _ pb4 p.lsn 0 _ rfl rfl R9.out.1 R9.out.2.1) rfl ⟨_, h', rfl, FIN.out, HSL.out⟩
      · have k1 : ((k : Int) < (S.pages.length : Int)) = False := eq_false (by omega)
        have k2 : (S.pages.length : Int) ≤ (k : Int) := by omega
        have k3 : (S.pages.length ≤ k) = True := eq_true (by omega)
        obtain rfl : rp = (emptyP, 1) := by rw [← HRP.out, if_neg (by simp), if_neg hn, Int.toNat_natCast, List.getElem?_eq_none (by omega)]
        obtain ⟨_, _, _, t3, _, _⟩ := HCL.out w2 HS2.out.tail
        clear HRD HRP
        obtain ⟨c0, c1, ff⟩ := two_at HS2.out
        have h9 := two_set HS2.out (kI 0) (.slice none 0 0)
        have R9 := Lib.hid (two_at h9)
        have FIN := Lib.hid (HMK.out _ [] h9.tail)
        clear h9 HS2 HS1
        go_wp2_with fail
        exact bodyPost_ret (v := .tuple #[pgV 0 (.slice none 0 0), .int .i64 1]) (read_results _ _ pb4 0 1 _ rfl rfl R9.out.1 R9.out.2.1) rfl ⟨.slice none 0 0, [], rfl, FIN.out, SlAt.nil _ _ _⟩
  · have hb : (rd == 0) = false := by rw [beq_eq_false_iff_ne]; exact hz
    have hb2 : (rd != 0) = true := by rw [bne, hb]; rfl
    obtain rfl : rp = (emptyP, rd) := by rw [← HRP.out, if_pos hz]
    clear HRD HRP
    obtain ⟨c0, c1, ff⟩ := two_at HS2.out
    have h9 := two_set HS2.out (kI 0) (.slice none 0 0)
    have R9 := Lib.hid (two_at h9)
    have FIN := Lib.hid (HMK.out _ [] h9.tail)
    clear h9 HS2 HS1
    go_wp2_with fail
    exact bodyPost_ret (v := .tuple #[pgV 0 (.slice none 0 0), .int .i64 rd]) (read_results _ _ pb4 0 rd _ rfl rfl R9.out.1 R9.out.2.1) rfl ⟨.slice none 0 0, [], rfl, FIN.out, SlAt.nil _ _ _⟩
end Go.Proofs.YtgocmnejlbfplaaDoor
