/- Texts put together: Tx6, Tw6. Conditions: none. -/
import Derived.Test.YtgocmnejlbfplaaGreatDoorTy15
import Derived.Test.YtgocmnejlbfplaaGreatDoorTy16
namespace Go.Proofs.YtgocmnejlbfplaaGreatDoor
open Go Go.MapKept Go.RowKit Go.Proofs

attribute [local go_sem] Oper.semAt_some

theorem lastM_take {n : Int} {q : List (Int × ByteArray)} {k : Nat} {x : Int × ByteArray} (h : q[k]? = some x) : lastM n (q.take (k + 1)) = if x.1 = n then some x.2 else lastM n (q.take k) := by
  rw [take_snoc' h]
  unfold lastM
  rw [List.reverse_append]
  simp only [List.reverse_cons, List.reverse_nil, List.nil_append, List.singleton_append, List.find?_cons]
  by_cases e : x.1 = n
  · simp [e]
  · have e2 : (x.1 == n) = false := by simpa using e
    rw [e2, if_neg e]
theorem getL_drop {n : Int} {D : List (Int × ByteArray)} {k : Nat} {x : Int × ByteArray} (h : D[k]? = some x) : getL n (D.drop k) = if x.1 = n then some x.2 else getL n (D.drop (k + 1)) := by
  obtain ⟨hk, e⟩ := List.getElem?_eq_some_iff.1 h
  rw [List.drop_eq_getElem_cons hk, e]
  rfl
/-- Bytes that are made are nought. -/
def Z256 : Obj := .cells (Array.replicate 256 (Value.int .u8 0)) 5
theorem Z256_eq : Z256 = .cells (Array.replicate 256 (Value.int .u8 0)) 5 := rfl
set_option maxRecDepth 100000 in
theorem run_makeZ (w : World) : (Instr.makeSlice 78 (.int .i64 256) (.int .i64 256)).run Tryz.prog w = .ok (.slice (some ⟨w.heap.size, 0, none⟩) 256 256) (w.alloc Z256) := by
  unfold Z256
  kernel_rfl
theorem run_strZ {w : World} {g : Nat} {F : Heaplet} (hs : Sat w (.blk g Z256 :: F)) : (convert 78 9 (.slice (some ⟨g, 0, none⟩) 256 256)).run Tryz.prog w = .ok (.string zeros256) w := by
  have hcv := run_convert_bytes_back (P := Tryz.prog) w 78 9 5 ⟨g, 0, none⟩ 256 (List.replicate 256 0) Tryz.underlying78 Tryz.underlying5 Tryz.underlying9 (fun j hj => by
    rw [addr_add', cell_of hs.h0]
    have hj' : j < 256 := by rw [List.length_replicate] at hj; exact hj
    rw [Array.getElem?_replicate, if_pos hj', List.getElem_replicate]
    rfl)
  rw [List.length_replicate] at hcv
  exact hcv
set_option maxRecDepth 100000 in
set_option maxHeartbeats 4000000 in
theorem rp_read {b : Nat} {M : PM} {F : Heaplet} {w : World} (h : RPl b M F w) (hl : M.secs.length + M.queue.length ≤ 900000) (n : Int) :
    Calls Tryz.prog 35 #[.pointer (some ⟨b, 0, none⟩), .int .i64 n] w (Ret (.tuple #[.string (readM M n).1, .int .i64 (readM M n).2]) (RPl b M F)) := by
  have hr := rp_ready h
  obtain ⟨la, lc, qa, qc, c0, c1, c2, c3, c4, c5, c6, u⟩ := h.cells
  obtain ⟨RM, hRM⟩ : ∃ RM, readM M n = RM := ⟨_, rfl⟩
  rw [hRM]
  have H := Lib.hid h
  have HL := Lib.hid hl
  cases hd : M.down with
  | true =>
    rw [hd] at hr
    simp only [if_true] at hr
    have HR := Lib.hid hr
    have hz : readyM M n = 10 := by unfold readyM; rw [hd]; rfl
    obtain rfl : RM = (⟨#[]⟩, 10) := by rw [← hRM]; unfold readM; rw [hz, if_pos (by decide)]
    clear h hr hl hRM hd c0 c1 c2 c3 c4 c5 c6 u hz
    go_enter Tryz.func35, Tryz.ntmps35
    go_wp2_with (go_at_call 54; refine (HR.out).mono ?_; rintro e w1 ⟨rfl, rfl⟩)
    go_ret2
    exact ⟨rfl, H.out⟩
  | false =>
    rw [hd] at hr
    simp only [Bool.false_eq_true, if_false] at hr
    have HR := Lib.hid hr
    by_cases hb : n < 0 ∨ M.count ≤ n
    · have hz : readyM M n = 1 := by unfold readyM; rw [hd]; simp [hb]
      obtain rfl : RM = (⟨#[]⟩, 1) := by rw [← hRM]; unfold readM; rw [hz, if_pos (by decide)]
      clear h hr hl hRM hd c1 c2 c3 c4 c5 c6 u hz
      generalize M.count = cn at *
      by_cases h0 : n < 0
      · clear hb
        go_enter Tryz.func35, Tryz.ntmps35
        go_wp2_with (go_at_call 54; refine (HR.out).mono ?_; rintro e w1 ⟨rfl, rfl⟩)
        go_ret2
        exact ⟨rfl, H.out⟩
      · have h1 : cn ≤ n := by omega
        have h2 : (n < 0) = False := eq_false h0
        clear hb h0
        go_enter Tryz.func35, Tryz.ntmps35
        go_wp2_with (go_at_call 54; refine (HR.out).mono ?_; rintro e w1 ⟨rfl, rfl⟩)
        go_ret2
        exact ⟨rfl, H.out⟩
    · have hz : readyM M n = 0 := by unfold readyM; rw [hd]; simp [hb]
      have hrm : RM = match lastM n M.queue with
        | some s => (s, 0)
        | none => match getL n M.secs with
          | none => (zeros256, 0)
          | some s => if s.size = 0 then (⟨#[]⟩, 20) else (s, 0) := by
        rw [← hRM]
        unfold readM
        rw [hz, if_neg (by decide)]
        cases lastM n M.queue with
        | some s => rfl
        | none => cases getL n M.secs <;> rfl
      have HRM := Lib.hid hrm
      have h0 : ¬ n < 0 := fun e => hb (.inl e)
      have h1 : ¬ M.count ≤ n := fun e => hb (.inr e)
      have hl9 : (M.queue.length : Int) ≤ 900000 := by omega
      have hl8 : (M.secs.length : Int) ≤ 900000 := by omega
      have hw1 : wrap64 ((M.queue.length : Int) - 1) = (M.queue.length : Int) - 1 := IntWalk.wrap64_in _ (by omega)
      have hw2 : IntKind.i64.wrap ((M.queue.length : Int) - 1) = (M.queue.length : Int) - 1 := IntWalk.i64_in _ (by omega)
      have hTOP : lastM n M.queue = lastM n (M.queue.take M.queue.length) := by rw [List.take_length]
      have HTOP := Lib.hid hTOP
      clear h hr hl hRM hd c1 c3 c4 c5 c6 u hz hb hrm hTOP
      go_enter Tryz.func35, Tryz.ntmps35
      go_upto_block 0 with (go_at_call 54; refine (HR.out).mono ?_; rintro e w1 ⟨rfl, rfl⟩)
      clear h0 h1 c0 c2
      go_cut [] (fun wx => wx = w ∧ lastM n M.queue = none)
      case first =>
        go_wp2_with fail
        go_loopw [7] (fun v7 wr => ∃ j : Nat, j ≤ M.queue.length ∧ v7 = .int .i64 ((j : Int) - 1) ∧ lastM n M.queue = lastM n (M.queue.take j) ∧ wr = w) (fun v7 _ => (RowKit.intOf v7 + 1).toNat)
        case atStart => exact ⟨M.queue.length, by omega, by first | rfl | rw [hw1] | rw [hw2], HTOP.out, rfl⟩
        case round =>
          clear hw1 hw2
          obtain ⟨j, hj, rfl, hlm, rfl⟩ := hrel
          cases j with
          | zero =>
            have e1 : (((0 : Nat) : Int) - 1) = -1 := rfl
            rw [e1]
            have HE : Hid (lastM n M.queue = none) := Lib.hid (by rw [hlm]; rfl)
            clear hlm
            go_wp2_with fail
            go_meet
            exact ⟨rfl, HE.out⟩
          | succ k =>
            obtain ⟨⟨m, s0⟩, hx⟩ : ∃ x, M.queue[k]? = some x := ⟨_, List.getElem?_eq_getElem (by omega)⟩
            obtain ⟨g, qc, c2, e0, e1⟩ := H.out.qrow (i := k) (x := (m, s0)) hx
            simp only at e0 e1
            rw [lastM_take hx] at hlm
            have k0 : (0 : Int) ≤ (k : Int) := by omega
            have k1 : (k : Int) < (M.queue.length : Int) := by omega
            have k2 : (((k + 1 : Nat) : Int) - 1) = (k : Int) := by omega
            have hw1 : wrap64 ((k : Int) - 1) = (k : Int) - 1 := IntWalk.wrap64_in _ (by omega)
            have hw2 : IntKind.i64.wrap ((k : Int) - 1) = (k : Int) - 1 := IntWalk.i64_in _ (by omega)
            rw [k2]
            have HJ := Lib.hid hj
            by_cases hm : m = n
            · subst hm
              rw [if_pos rfl] at hlm
              have HE : Hid (RM = (s0, 0)) := Lib.hid (by rw [HRM.out, hlm])
              clear hlm hx hj k2
              go_wp2_with fail
              go_ret2
              exact ⟨by rw [HE.out]; rfl, H.out⟩
            · rw [if_neg hm] at hlm
              have hmb : (m == n) = false := by rw [beq_eq_false_iff_ne]; exact hm
              have HE := Lib.hid hlm
              clear hlm hx hj k2 hm
              go_wp2_with fail
              exact ⟨⟨k, by have := HJ.out; omega, rfl, HE.out, by first | rfl | trivial⟩, by simp only [RowKit.intOf]; omega⟩
      case rest =>
        obtain ⟨hww, hno⟩ := hcut
        cases hww
        have hrm : RM = match getL n (M.secs.drop 0) with
          | none => (zeros256, 0)
          | some s => if s.size = 0 then (⟨#[]⟩, 20) else (s, 0) := by
          rw [HRM.out, hno, List.drop_zero]
        have HRM := Lib.hid hrm
        clear hno hrm hw1 hw2
        go_wp2_with fail
        go_loopw [8] (fun v8 wr => ∃ i : Nat, i ≤ M.secs.length ∧ v8 = .int .i64 (i : Int) ∧ getL n (M.secs.drop 0) = getL n (M.secs.drop i) ∧ wr = w) (fun v8 _ => 1000000 - (RowKit.intOf v8).toNat)
        case atStart => exact ⟨0, by omega, rfl, rfl, rfl⟩
        case round =>
          obtain ⟨i, hi, rfl, hgl, rfl⟩ := hrel
          have i0 : (0 : Int) ≤ (i : Int) := by omega
          by_cases hil : i < M.secs.length
          · have i1 : (i : Int) < (M.secs.length : Int) := by omega
            obtain ⟨⟨m, s0⟩, hx⟩ : ∃ x, M.secs[i]? = some x := ⟨_, List.getElem?_eq_getElem hil⟩
            obtain ⟨g, lc, c1, e0, e1, e2⟩ := H.out.lrow (i := i) (x := (m, s0)) hx
            simp only at e0 e1 e2
            rw [getL_drop hx] at hgl
            have HIL := Lib.hid hil
            by_cases hm : m = n
            · subst hm
              rw [if_pos rfl] at hgl
              by_cases hz : s0.size = 0
              · have HE : Hid (RM = (⟨#[]⟩, 20)) := Lib.hid (by rw [HRM.out, hgl]; simp only; rw [if_pos hz])
                rw [decide_eq_true hz] at e2
                clear hgl hx hi hil
                go_wp2_with fail
                go_ret2
                exact ⟨by rw [HE.out]; rfl, H.out⟩
              · have HE : Hid (RM = (s0, 0)) := Lib.hid (by rw [HRM.out, hgl]; simp only; rw [if_neg hz])
                rw [decide_eq_false hz] at e2
                clear hgl hx hi hil hz
                go_wp2_with fail
                go_ret2
                exact ⟨by rw [HE.out]; rfl, H.out⟩
            · rw [if_neg hm] at hgl
              have hmb : (m == n) = false := by rw [beq_eq_false_iff_ne]; exact hm
              have HE := Lib.hid hgl
              clear hgl hx hi hil hm
              go_wp2_with fail
              exact ⟨⟨i + 1, HIL.out, by simp, HE.out, by first | rfl | trivial⟩, by simp only [RowKit.intOf]; omega⟩
          · obtain rfl : i = M.secs.length := by omega
            have i1 : ((M.secs.length : Int) < (M.secs.length : Int)) = False := eq_false (by omega)
            have HE : Hid (RM = (zeros256, 0)) := Lib.hid (by rw [HRM.out, hgl, List.drop_length]; rfl)
            obtain ⟨la, lc, qa, qc, c0, c1, c2, c3, c4, c5, c6, u⟩ := H.out.cells
            have h9 := H.out.new Z256
            have hsz := h9.frame
            have hcv := run_strZ (w := wr.alloc Z256) (g := wr.heap.size) hsz
            have hmk := run_makeZ wr
            have FIN := Lib.hid h9.unF
            clear hgl hi hil h9 hsz c0 c2 c3 c4 c5 c6 u
            go_wp2_with fail
            go_ret2
            exact ⟨by rw [HE.out]; rfl, FIN.out⟩
end Go.Proofs.YtgocmnejlbfplaaGreatDoor
namespace Go.Proofs.YtgocmnejlbfplaaGreatDoor
open Go Go.MapKept Go.RowKit Go.Proofs

attribute [local go_sem] Oper.semAt_some

theorem Sat.mid {w : World} {A B C : Heaplet} (s : Sat w (A ++ (B ++ C))) : Sat w (B ++ (A ++ C)) := s.perm (List.perm_append_comm_assoc A B C)
/-- The store as blocks Z, and the way back. -/
theorem StIs.view {tb pb : Nat} {S : TS} {M : PM} {G : Heaplet} {w : World} (h : StIs tb pb S M G w) : ∃ (Z : Heaplet) (a : Option Addr) (cap : Nat), Sat w Z ∧ (∀ W (X : Heaplet), Sat W (X ++ Z) → StIs tb pb S M (X ++ G) W) ∧
    (∀ W, Sat W Z → W.cell? ⟨tb, 0, none⟩ = some (.pointer (some ⟨pb, 0, none⟩)) ∧ W.cell? ⟨tb, 1, none⟩ = some (kI S.frm) ∧ W.cell? ⟨tb, 2, none⟩ = some (kI S.twins) ∧ W.cell? ⟨tb, 3, none⟩ = some (.slice a S.pages.length cap) ∧ W.cell? ⟨tb, 4, none⟩ = some (kI S.life) ∧ W.cell? ⟨tb, 5, none⟩ = some (.bool S.dead)) ∧
    (∀ (i : Nat) p, S.pages[i]? = some p → ∃ g sa sc, a = some ⟨g, 0, none⟩ ∧ SlAt Z (.slice sa p.slots.length sc) p.slots ∧ ∀ W, Sat W Z → W.cell? ⟨g, i * 2, none⟩ = some (kI p.lsn) ∧ W.cell? ⟨g, i * 2 + 1, none⟩ = some (.slice sa p.slots.length sc)) := by
  obtain ⟨pv, R, h, K, h1, h2, m, es, clk, qv, qh, g1, g2, hs⟩ := h
  obtain ⟨a, cap, rfl⟩ := sl_form h1
  rw [h2.1] at hs
  have hrow : ∀ W, Sat W (HItem.blk pb (plateObj M m qv) :: .blk m (.map es clk) :: (qh ++ (.blk tb (stO S pb (.slice a S.pages.length cap)) :: (h ++ (K ++ G))))) → Sat W (.blk tb (stO S pb (.slice a S.pages.length cap)) :: (h ++ (K ++ G))) := fun W hW => hW.tail.tail.right
  refine ⟨_, a, cap, hs, fun W X hW => ?_, fun W hW => ?_, fun i p hp => ?_⟩
  · refine ⟨.slice a S.pages.length cap, R, h, K, by rw [← h2.1]; exact h1, h2, m, es, clk, qv, qh, g1, g2, ?_⟩
    refine hW.perm ?_
    rw [← List.append_assoc]
    have p1 : (X ++ (HItem.blk pb (plateObj M m qv) :: .blk m (.map es clk) :: (qh ++ (.blk tb (stO S pb (.slice a S.pages.length cap)) :: (h ++ (K ++ G)))))).Perm (HItem.blk pb (plateObj M m qv) :: .blk m (.map es clk) :: (qh ++ (.blk tb (stO S pb (.slice a S.pages.length cap)) :: (h ++ (K ++ (X ++ G)))))) := by
      have e1 : X ++ (HItem.blk pb (plateObj M m qv) :: .blk m (.map es clk) :: (qh ++ (.blk tb (stO S pb (.slice a S.pages.length cap)) :: (h ++ (K ++ G))))) = X ++ ((HItem.blk pb (plateObj M m qv) :: .blk m (.map es clk) :: (qh ++ (.blk tb (stO S pb (.slice a S.pages.length cap)) :: (h ++ K)))) ++ G) := by simp
      have e2 : (HItem.blk pb (plateObj M m qv) :: .blk m (.map es clk) :: (qh ++ (.blk tb (stO S pb (.slice a S.pages.length cap)) :: (h ++ (K ++ (X ++ G)))))) = (HItem.blk pb (plateObj M m qv) :: .blk m (.map es clk) :: (qh ++ (.blk tb (stO S pb (.slice a S.pages.length cap)) :: (h ++ K)))) ++ (X ++ G) := by simp
      rw [e1, e2]
      exact List.perm_append_comm_assoc _ _ _
    rw [List.append_assoc]
    exact p1
  · have hb := (hrow W hW).h0
    refine ⟨?_, ?_, ?_, ?_, ?_, ?_⟩ <;> (rw [cell_of hb]; rfl)
  · have hil : i < R.length := by rw [h2.1]; exact (List.getElem?_eq_some_iff.1 hp).1
    obtain ⟨r, hr⟩ : ∃ r, R[i]? = some r := ⟨_, List.getElem?_eq_getElem hil⟩
    obtain ⟨e1, e2⟩ := h2.2 i r p hr hp
    obtain ⟨sa, sc, e3, _⟩ := id e2
    have hcell : ∀ W, Sat W (HItem.blk pb (plateObj M m qv) :: .blk m (.map es clk) :: (qh ++ (.blk tb (stO S pb (.slice a S.pages.length cap)) :: (h ++ (K ++ G))))) → ∃ g, a = some ⟨g, 0, none⟩ ∧ W.cell? ⟨g, i * 2, none⟩ = some (kI p.lsn) ∧ W.cell? ⟨g, i * 2 + 1, none⟩ = some (.slice sa p.slots.length sc) := fun W hW => by
      obtain ⟨a', cap', e, hc⟩ := sl_cells prC_len h1 (hrow W hW).tail
      cases e
      obtain ⟨g, ea, _, hu⟩ := hc i r hr
      refine ⟨g, ea, ?_, ?_⟩
      · rw [← e1]; exact hu 0 _ rfl
      · rw [← e3]; exact hu 1 _ rfl
    obtain ⟨g, rfl, _⟩ := hcell w hs
    refine ⟨g, sa, sc, rfl, by rw [← e3]; exact e2.mono (fun W hW => Sat.lft (F := G) (hrow W hW).tail.right), fun W hW => ?_⟩
    obtain ⟨g', e, hh⟩ := hcell W hW
    cases e
    exact hh
/-- What Read tells: the image, the error. -/
def readT (S : TS) (M : PM) (n : Int) : Pg × Int := if rdyT S M ≠ 0 then (emptyP, rdyT S M) else match (if n < 0 then none else S.pages[n.toNat]?) with
  | some p => (p, 0)
  | none => (emptyP, 1)
def TRet (q : Pg) (c : Int) (tb pb : Nat) (S : TS) (M : PM) (G : Heaplet) (e : Ending) (w' : World) : Prop := ∃ sv h, e = .returned (.tuple #[pgV q.lsn sv, .int .i64 c]) ∧ StIs tb pb S M (h ++ G) w' ∧ SlAt h sv q.slots
theorem read_results (tm : Array Value) (W9 : World) (g : Nat) (n c : Int) (sv : Value) (h1 : (tm[4]?).getD undef = .pointer (some ⟨g, 0, none⟩)) (h2 : (tm[5]?).getD undef = .int .i64 c) (r0 : W9.cell? ⟨g, 0, none⟩ = some (kI n)) (r1 : W9.cell? ⟨g, 1, none⟩ = some sv) :
    (results Tryz.f23 tm).run Tryz.prog W9 = .ok (.tuple #[pgV n sv, .int .i64 c]) W9 := by
  simp [results, Tryz.results23, go_sem, h1, h2, r0, r1]
set_option maxRecDepth 100000 in
theorem tread_any {tb pb : Nat} {S : TS} {M : PM} {G : Heaplet} {w : World} (h : StIs tb pb S M G w) (n : Int) (hg : ∀ p ∈ S.pages, p.slots.length ≤ 1000) (hl : S.pages.length ≤ 100000) :
    Calls Tryz.prog 23 #[.pointer (some ⟨tb, 0, none⟩), .int .i64 n] w (TRet (readT S M n).1 (readT S M n).2 tb pb S M G) := by
  obtain ⟨Z, a, cap, hz, hmk, hcl, hrw⟩ := h.view
  have h1 := hz.new (.cells #[kI 0, .slice none 0 0] 48)
  have HRD := Lib.hid (trdy_any (hmk _ [.blk w.heap.size (.cells #[kI 0, .slice none 0 0] 48)] h1))
  have HS1 := Lib.hid h1
  have HMK := Lib.hid hmk
  have HCL := Lib.hid hcl
  have HRW := Lib.hid hrw
  have HGL := Lib.hid hg
  have hli : (S.pages.length : Int) ≤ 100000 := by omega
  obtain ⟨rd, hrd⟩ : ∃ rd, rdyT S M = rd := ⟨_, rfl⟩
  rw [hrd] at HRD
  obtain ⟨rp, hrp⟩ : ∃ rp, readT S M n = rp := ⟨_, rfl⟩
  rw [hrp]
  have HRP : Hid ((if rd ≠ 0 then (emptyP, rd) else match (if n < 0 then none else S.pages[n.toNat]?) with
    | some p => (p, 0)
    | none => (emptyP, 1)) = rp) := Lib.hid (by rw [← hrp, ← hrd]; rfl)
  clear h hz h1 hmk hcl hrw hg hl hrd hrp
  obtain ⟨pb4, hpb⟩ : ∃ pb4, w.heap.size = pb4 := ⟨_, rfl⟩
  rw [hpb] at HS1
  go_enter Tryz.func23, Tryz.ntmps23
  go_upto_if 11 with (go_at_call 40; refine (HRD.out).mono ?_; rintro e w2 ⟨rfl, nd, hw2⟩; have HS2 := Lib.hid (HS1.out.grown (Grown.drewN _ nd)); rw [← hw2] at HS2; clear hw2)
  by_cases hz : rd = 0
  · subst hz
    by_cases hn : n < 0
    · obtain rfl : rp = (emptyP, 1) := by rw [← HRP.out, if_neg (by simp), if_pos hn]
      clear HRD HRP
      obtain ⟨c0, c1, ff⟩ := two_at HS2.out
      have h9 := two_set HS2.out (kI 0) (.slice none 0 0)
      have R9 := Lib.hid (two_at h9)
      have FIN := Lib.hid (HMK.out _ [] h9.tail)
      clear h9 HS2 HS1
      go_wp2_with fail
      exact bodyPost_ret (v := .tuple #[pgV 0 (.slice none 0 0), .int .i64 1]) (read_results _ _ pb4 0 1 _ rfl rfl R9.out.1 R9.out.2.1) rfl ⟨.slice none 0 0, [], rfl, FIN.out, SlAt.nil _ _ _⟩
    · obtain ⟨k, rfl⟩ : ∃ k : Nat, n = (k : Int) := ⟨n.toNat, by omega⟩
      have k0 : (0 : Int) ≤ (k : Int) := by omega
      have k9 : ((k : Int) < 0) = False := eq_false (by omega)
      by_cases hk : k < S.pages.length
      · have k1 : (k : Int) < (S.pages.length : Int) := by omega
        obtain ⟨p, hp⟩ : ∃ p, S.pages[k]? = some p := ⟨_, List.getElem?_eq_getElem hk⟩
        obtain rfl : rp = (p, 0) := by rw [← HRP.out, if_neg (by simp), if_neg hn, Int.toNat_natCast, hp]
        obtain ⟨g, sa, sc, rfl, hsl, hu⟩ := HRW.out k p hp
        have hpl := HGL.out p (List.mem_of_getElem? hp)
        obtain ⟨u0, u1⟩ := hu w2 HS2.out.tail
        obtain ⟨_, _, _, t3, _, _⟩ := HCL.out w2 HS2.out.tail
        have HS3 := Lib.hid (HS2.out.new (.cells #[kI p.lsn, .slice sa p.slots.length sc] 48))
        have HCLN := Lib.hid (clone_sl (hsl.mono (F' := .blk w2.heap.size (.cells #[kI p.lsn, .slice sa p.slots.length sc] 48) :: .blk pb4 (.cells #[kI 0, .slice none 0 0] 48) :: Z) (fun W hW => hW.tail.tail)) HS3.out hpl)
        obtain ⟨g0, g1, _⟩ := two_at HS3.out
        obtain ⟨gb, hgb⟩ : ∃ gb, w2.heap.size = gb := ⟨_, rfl⟩
        clear HRD HRP HRW HGL hsl hu hpl hp hk hn
        go_upto_region 8 with (go_at_call 46; refine (HCLN.out).mono ?_; rintro e w3 ⟨v', h', rfl, hv', hs3⟩; obtain ⟨va, vc, rfl⟩ := sl_form hv'; have HV := Lib.hid hv'; have hs4 := hs3.perm (List.perm_middle (l₁ := h')); rw [hgb] at hs4; obtain ⟨q0, q1, qf⟩ := two_at hs4; have HS5 := Lib.hid (hs4.setCell (i := 1) (.slice va p.slots.length vc)); clear hs3 hs4 hv' g0 g1 u0 u1 t3)
        have e5 : (#[kI p.lsn, .slice sa p.slots.length sc] : Array Value).setIfInBounds 1 (.slice va p.slots.length vc) = #[kI p.lsn, .slice va p.slots.length vc] := rfl
        rw [e5] at HS5
        have hs6 : Sat (w3.setCell ⟨gb, 1, none⟩ (.slice va p.slots.length vc)) (.blk pb4 (.cells #[kI 0, .slice none 0 0] 48) :: .blk gb (.cells #[kI p.lsn, .slice va p.slots.length vc] 48) :: (h' ++ Z)) := HS5.out.perm (List.perm_middle (l₁ := HItem.blk gb (.cells #[kI p.lsn, .slice va p.slots.length vc] 48) :: h'))
        clear q0 q1 qf
        generalize w3.setCell ⟨gb, 1, none⟩ (.slice va p.slots.length vc) = W5 at *
        obtain ⟨e0, e1, _⟩ := two_at HS5.out
        obtain ⟨c0, c1, ff⟩ := two_at hs6
        have h9 := two_set hs6 (kI p.lsn) (.slice va p.slots.length vc)
        have R9 := Lib.hid (two_at h9)
        have FIN := Lib.hid (HMK.out _ h' h9.tail.tail)
        have HSL : Hid (SlAt h' (.slice va p.slots.length vc) p.slots) := Lib.hid (by
          have := slAt_own HV.out []
          rw [List.append_nil] at this
          exact this)
        clear h9 hs6 HS5 HS2 HS1 HS3 HCLN
        go_wp2_with fail
        exact bodyPost_ret (v := .tuple #[pgV p.lsn (.slice va p.slots.length vc), .int .i64 0]) (read_results _ _ pb4 p.lsn 0 _ rfl rfl R9.out.1 R9.out.2.1) rfl ⟨_, h', rfl, FIN.out, HSL.out⟩
      · have k1 : ((k : Int) < (S.pages.length : Int)) = False := eq_false (by omega)
        have k2 : (S.pages.length : Int) ≤ (k : Int) := by omega
        have k3 : (S.pages.length ≤ k) = True := eq_true (by omega)
        obtain rfl : rp = (emptyP, 1) := by rw [← HRP.out, if_neg (by simp), if_neg hn, Int.toNat_natCast, List.getElem?_eq_none (by omega)]
        obtain ⟨_, _, _, t3, _, _⟩ := HCL.out w2 HS2.out.tail
        clear HRD HRP
        obtain ⟨c0, c1, ff⟩ := two_at HS2.out
        have h9 := two_set HS2.out (kI 0) (.slice none 0 0)
        have R9 := Lib.hid (two_at h9)
        have FIN := Lib.hid (HMK.out _ [] h9.tail)
        clear h9 HS2 HS1
        go_wp2_with fail
        exact bodyPost_ret (v := .tuple #[pgV 0 (.slice none 0 0), .int .i64 1]) (read_results _ _ pb4 0 1 _ rfl rfl R9.out.1 R9.out.2.1) rfl ⟨.slice none 0 0, [], rfl, FIN.out, SlAt.nil _ _ _⟩
  · have hb : (rd == 0) = false := by rw [beq_eq_false_iff_ne]; exact hz
    have hb2 : (rd != 0) = true := by rw [bne, hb]; rfl
    obtain rfl : rp = (emptyP, rd) := by rw [← HRP.out, if_pos hz]
    clear HRD HRP
    obtain ⟨c0, c1, ff⟩ := two_at HS2.out
    have h9 := two_set HS2.out (kI 0) (.slice none 0 0)
    have R9 := Lib.hid (two_at h9)
    have FIN := Lib.hid (HMK.out _ [] h9.tail)
    clear h9 HS2 HS1
    go_wp2_with fail
    exact bodyPost_ret (v := .tuple #[pgV 0 (.slice none 0 0), .int .i64 rd]) (read_results _ _ pb4 0 rd _ rfl rfl R9.out.1 R9.out.2.1) rfl ⟨.slice none 0 0, [], rfl, FIN.out, SlAt.nil _ _ _⟩
end Go.Proofs.YtgocmnejlbfplaaGreatDoor
