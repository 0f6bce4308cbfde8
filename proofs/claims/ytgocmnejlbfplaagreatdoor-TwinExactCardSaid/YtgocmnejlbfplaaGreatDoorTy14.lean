/- Texts put together: Tx3, Tx4, LayP. Conditions: none. -/
import Derived.Shelf.Strings.Repeat
import Derived.Ground.NamesProg
import Derived.Shelf.Strings.Trim
import Derived.Test.YtgocmnejlbfplaaGreatDoorProg
import Derived.Test.YtgocmnejlbfplaaGreatDoorTy13
namespace Go.Proofs.YtgocmnejlbfplaaGreatDoor
open Go Go.MapKept Go.RowKit Go.Proofs

attribute [local go_sem] Oper.semAt_some

theorem actM_code (M : PM) : (actM M).1 = if decide ((actM M).1 ≠ 0) = true then 10 else 0 := by
  unfold actM
  split
  · split <;> simp
  · simp
/-- A write more. -/
theorem RPl.addQ {b x : Nat} {M : PM} {F : Heaplet} {w : World} {n : Int} {s : ByteArray} (h : RPl b M (.blk x (.cells #[kI n, kS s] 92) :: F) w) (h6 : s.size = 256) (hl : M.queue.length + 1 ≤ 1000000) :
    ∃ qv v' w', w.cell? ⟨b, 2, none⟩ = some qv ∧ (∀ ty, (Builtin.append_ #[65, 65] ty #[qv, .slice (some ⟨x, 0, none⟩) 1 1]).run Tryz.prog w = .ok v' w') ∧
      (∃ u, w'.cell? ⟨b, 2, none⟩ = some u) ∧ w'.frozen? ⟨b, 2, none⟩ = false ∧ RPl b (pushM M n s) F (w'.setCell ⟨b, 2, none⟩ v') ∧ ∃ a c, v' = .slice a (M.queue.length + 1) c := by
  obtain ⟨H, ⟨h0, hq, lv, qv, lh, qh, h1, h2, rfl⟩, hs⟩ := h
  obtain ⟨i0, hin, hz, hsize, hby⟩ := info_parts infoRw
  obtain ⟨v', w', qh', hap, hv', s'⟩ := sl_push (P := Tryz.prog) (fl := rwC) (sz := 2) (A := []) (B := .blk b (rpO M lv qv) :: (lh ++ F)) (x := x) (Tn := 92) (w := w) (fun _ => rfl) Tryz.underlying65 hin hz hsize hby rfl (by decide) h2 ((n, s) : Int × ByteArray) (by
    rw [show (rwC ((n, s) : Int × ByteArray)).toArray = #[kI n, kS s] from rfl]
    refine Sat.part hs ?_
    intro a
    simp only [cnt_cons, cnt_append, List.cons_append, List.nil_append]
    omega) (by
    intro u hu
    simp only [rwC, List.mem_cons, List.not_mem_nil, or_false] at hu
    rcases hu with rfl | rfl <;> rfl) (by unfold maxLen; omega) (by omega)
  have s2 : Sat w' (.blk b (rpO M lv qv) :: (lh ++ (qh' ++ F))) := by
    refine Sat.part s' ?_
    intro a
    simp only [cnt_cons, cnt_append, List.nil_append]
    omega
  refine ⟨qv, v', w', ?_, hap, ⟨qv, ?_⟩, unfrozen_of s2.h0 2, ⟨_, ⟨h0, ?_, lv, v', lh, qh', h1, hv', rfl⟩, ?_⟩, ?_⟩
  · rw [cell_of hs.h0]; rfl
  · rw [cell_of s2.h0]; rfl
  · intro y hy
    rcases List.mem_append.1 hy with hy | hy
    · exact hq y hy
    · rw [List.mem_singleton.1 hy]
      exact h6
  · have s3 := s2.setCell (i := 2) v'
    have s4 : Sat (w'.setCell ⟨b, 2, none⟩ v') (.blk b (rpO (pushM M n s) lv v') :: (lh ++ (qh' ++ F))) := s3
    refine Sat.part s4 ?_
    intro a
    simp only [cnt_cons, cnt_append, List.cons_append]
    omega
  · obtain ⟨a, c, e⟩ := sl_form hv'
    exact ⟨a, c, by rw [e, List.length_append]; rfl⟩
set_option maxRecDepth 100000 in
set_option maxHeartbeats 4000000 in
theorem rp_write {b : Nat} {M : PM} {F : Heaplet} {w : World} (h : RPl b M F w) (n : Int) (s : ByteArray) (hq : M.queue.length + 1 ≤ 1000000) (h0 : 0 ≤ M.life ∧ M.life < 9223372036854775807) (h1 : 0 ≤ M.acts ∧ M.acts < 9223372036854775807) (h2 : M.armed ≤ 9223372036854775807) (_hsz : s.size ≤ 1000000) :
    Calls Tryz.prog 20 #[.pointer (some ⟨b, 0, none⟩), .int .i64 n, .string s] w (Ret (.int .i64 (writeM M n s).1) (RPl b (writeM M n s).2 F)) := by
  have hr := rp_ready h
  obtain ⟨la, lc, qa, qc, c0, c1, c2, c3, c4, c5, c6, u⟩ := h.cells
  have H := Lib.hid h
  unfold writeM readyM
  by_cases hd : M.down = true
  · rw [if_pos hd] at hr
    rw [if_pos hd, if_pos (by decide)]
    have HR := Lib.hid hr
    clear h hd hr u c0 c1 c2 c3 c4 c5 c6 hq h0 h1 h2
    go_enter Tryz.func20, Tryz.ntmps20
    go_wp2_with (go_at_call 54; refine (HR.out).mono ?_; rintro e w1 ⟨rfl, rfl⟩)
    go_ret
    exact ⟨rfl, H.out⟩
  rw [if_neg hd] at hr
  rw [if_neg hd]
  have HR := Lib.hid hr
  by_cases hn : n < 0 ∨ M.count ≤ n
  · rw [if_pos hn, if_pos (by decide)]
    rcases hn with hn | hn
    · clear h hd hr u c1 c2 c3 c4 c5 c6 hq h0 h1 h2
      go_enter Tryz.func20, Tryz.ntmps20
      go_wp2_with (go_at_call 54; refine (HR.out).mono ?_; rintro e w1 ⟨rfl, rfl⟩)
      go_ret
      exact ⟨rfl, H.out⟩
    · clear h hd hr u c1 c2 c3 c4 c5 c6 hq h0 h1 h2
      by_cases hn0 : n < 0
      · go_enter Tryz.func20, Tryz.ntmps20
        go_wp2_with (go_at_call 54; refine (HR.out).mono ?_; rintro e w1 ⟨rfl, rfl⟩)
        go_ret
        exact ⟨rfl, H.out⟩
      · have m0 : (n < 0) = False := eq_false hn0
        go_enter Tryz.func20, Tryz.ntmps20
        go_wp2_with (go_at_call 54; refine (HR.out).mono ?_; rintro e w1 ⟨rfl, rfl⟩)
        go_ret
        exact ⟨rfl, H.out⟩
  rw [if_neg hn, if_neg (by decide)]
  have m0 : (n < 0) = False := eq_false (fun h => hn (.inl h))
  have m1 : (M.count ≤ n) = False := eq_false (fun h => hn (.inr h))
  by_cases h6 : s.size = 256
  · rw [if_neg (by omega)]
    have hb : ((s.size : Int) == 256) = true := by rw [beq_iff_eq]; omega
    have hb2 : ((s.size : Int) != 256) = false := by rw [bne, hb]; rfl
    have hnew := h.new (.cells #[kI n, kS s] 92)
    obtain ⟨qv, v', w', d2, hap, ⟨u1, hu1⟩, hfz, hfin, va, vc, rfl⟩ := hnew.addQ h6 hq
    have c2' := (World.cell?_alloc_old w (.cells #[kI n, kS s] 92) ⟨b, 2, none⟩ (Nat.ne_of_lt h.lt)).trans c2
    rw [c2'] at d2
    cases d2
    have HAP : Hid (∀ ty, (Builtin.append_ #[65, 65] ty #[.slice qa M.queue.length qc, .slice (some ⟨w.heap.size, 0, none⟩) 1 1]).run Tryz.prog (w.alloc (.cells #[kI n, kS s] 92)) = .ok (.slice va (M.queue.length + 1) vc) w') := Lib.hid hap
    have hact := rp_act hfin h0 h1 h2
    have hcode := actM_code (pushM M n s)
    obtain ⟨q, hq9⟩ : ∃ q, decide ((actM (pushM M n s)).1 ≠ 0) = q := ⟨_, rfl⟩
    rw [hq9] at hact hcode
    rw [hcode]
    have HACT := Lib.hid hact
    clear hap hfin hnew h hd hr u c1 c3 c4 c5 c6 hq h0 h1 h2 hn h6 hq9 hcode hact H _hsz
    go_enter Tryz.func20, Tryz.ntmps20
    cases q with
    | false =>
      go_wp2_with (first
        | (go_at_call 55; refine (HACT.out).mono ?_; rintro e w2 ⟨rfl, h2⟩; have FIN := Lib.hid h2; clear h2)
        | (go_at_call 54; refine (HR.out).mono ?_; rintro e w1 ⟨rfl, rfl⟩)
        | (at_builtin; refine wpList_append_run rfl _ _ _ _ rfl _ _ _ _ rfl rfl HAP.out ?_))
      go_ret
      exact ⟨rfl, FIN.out⟩
    | true =>
      go_wp2_with (first
        | (go_at_call 55; refine (HACT.out).mono ?_; rintro e w2 ⟨rfl, h2⟩; have FIN := Lib.hid h2; clear h2)
        | (go_at_call 54; refine (HR.out).mono ?_; rintro e w1 ⟨rfl, rfl⟩)
        | (at_builtin; refine wpList_append_run rfl _ _ _ _ rfl _ _ _ _ rfl rfl HAP.out ?_))
      go_ret
      exact ⟨rfl, FIN.out⟩
  · rw [if_pos h6]
    have hb : ((s.size : Int) == 256) = false := by rw [beq_eq_false_iff_ne]; omega
    have hb2 : ((s.size : Int) != 256) = true := by rw [bne, hb]; rfl
    clear h hd hr u c1 c2 c3 c4 c5 c6 hq h0 h1 h2 h6 hn
    go_enter Tryz.func20, Tryz.ntmps20
    go_wp2_with (go_at_call 54; refine (HR.out).mono ?_; rintro e w1 ⟨rfl, rfl⟩)
    go_ret
    exact ⟨rfl, H.out⟩
end Go.Proofs.YtgocmnejlbfplaaGreatDoor
namespace Go.Proofs.YtgocmnejlbfplaaGreatDoor
open Go Go.MapKept Go.RowKit Go.Proofs

attribute [local go_sem] Oper.semAt_some

theorem RPl.qrow {b : Nat} {M : PM} {F : Heaplet} {w : World} (h : RPl b M F w) {i : Nat} {x : Int × ByteArray} (hx : M.queue[i]? = some x) : ∃ g c, w.cell? ⟨b, 2, none⟩ = some (.slice (some ⟨g, 0, none⟩) M.queue.length c) ∧ w.cell? ⟨g, i * 2, none⟩ = some (kI x.1) ∧ w.cell? ⟨g, i * 2 + 1, none⟩ = some (kS x.2) := by
  obtain ⟨H, ⟨h0, hq, lv, qv, lh, qh, h1, h2, rfl⟩, hs⟩ := h
  have hs1 : Sat w (qh ++ (.blk b (rpO M lv qv) :: (lh ++ F))) := by
    refine Sat.part hs ?_
    intro a
    simp only [cnt_cons, cnt_append, List.cons_append]
    omega
  obtain ⟨a', cp, e, hc⟩ := sl_cells (fl := rwC) (sz := 2) (fun _ => rfl) h2 hs1
  obtain ⟨g, ea, _, hu⟩ := hc i _ hx
  subst ea
  subst e
  exact ⟨g, cp, by rw [cell_of hs.h0]; rfl, hu 0 _ rfl, hu 1 _ rfl⟩
theorem RPl.lrow {b : Nat} {M : PM} {F : Heaplet} {w : World} (h : RPl b M F w) {i : Nat} {x : Int × ByteArray} (hx : M.secs[i]? = some x) : ∃ g c, w.cell? ⟨b, 1, none⟩ = some (.slice (some ⟨g, 0, none⟩) M.secs.length c) ∧ w.cell? ⟨g, i * 3, none⟩ = some (kI x.1) ∧ w.cell? ⟨g, i * 3 + 1, none⟩ = some (kS x.2) ∧ w.cell? ⟨g, i * 3 + 2, none⟩ = some (.bool (decide (x.2.size = 0))) := by
  obtain ⟨H, ⟨h0, hq, lv, qv, lh, qh, h1, h2, rfl⟩, hs⟩ := h
  have hs1 : Sat w (lh ++ (.blk b (rpO M lv qv) :: (qh ++ F))) := by
    refine Sat.part hs ?_
    intro a
    simp only [cnt_cons, cnt_append, List.cons_append]
    omega
  obtain ⟨a', cp, e, hc⟩ := sl_cells (fl := rsC) (sz := 3) (fun _ => rfl) h1 hs1
  obtain ⟨g, ea, _, hu⟩ := hc i _ hx
  subst ea
  subst e
  exact ⟨g, cp, by rw [cell_of hs.h0]; rfl, hu 0 _ rfl, hu 1 _ rfl, hu 2 _ rfl⟩
theorem putL_len (n : Int) (s : ByteArray) : ∀ D : List (Int × ByteArray), (putL n s D).length ≤ D.length + 1
  | [] => by simp [putL]
  | y :: t => by
    have := putL_len n s t
    unfold putL
    split <;> simp only [List.length_cons] <;> omega
theorem putAll_len (D : List (Int × ByteArray)) : ∀ q : List (Int × ByteArray), (putAll D q).length ≤ D.length + q.length := by
  intro q
  induction q generalizing D with
  | nil => simp [putAll]
  | cons x t ih =>
    have h1 := ih (putL x.1 x.2 D)
    have h2 := putL_len x.1 x.2 D
    show (putAll (putL x.1 x.2 D) t).length ≤ _
    simp only [List.length_cons]
    omega
/-- The queue is empty. -/
theorem RPl.clearQ {b : Nat} {M : PM} {F : Heaplet} {w : World} (h : RPl b M F w) : RPl b { M with queue := [] } F (w.setCell ⟨b, 2, none⟩ (.slice none 0 0)) := by
  obtain ⟨H, ⟨h0, hq, lv, qv, lh, qh, h1, h2, rfl⟩, hs⟩ := h
  have s2 := Sat.setCell (show Sat w (.blk b (rpO M lv qv) :: ((lh ++ qh) ++ F)) from hs) (i := 2) (.slice none 0 0)
  have s3 : Sat (w.setCell ⟨b, 2, none⟩ (.slice none 0 0)) (.blk b (rpO { M with queue := [] } lv (.slice none 0 0)) :: ((lh ++ qh) ++ F)) := s2
  refine ⟨_, ⟨h0, (fun x hx => by cases hx), lv, .slice none 0 0, lh, [], h1, SliceIs.nil _ _, rfl⟩, ?_⟩
  refine Sat.part s3 ?_
  intro a
  simp only [cnt_cons, cnt_append, cnt_nil, List.cons_append]
  omega
set_option maxRecDepth 100000 in
set_option maxHeartbeats 4000000 in
theorem rp_sync {b : Nat} {M : PM} {F : Heaplet} {w : World} (h : RPl b M F w) (hl : M.secs.length + M.queue.length ≤ 900000) (h0 : 0 ≤ M.life ∧ M.life < 9223372036854775807) (h1 : 0 ≤ M.acts ∧ M.acts < 9223372036854775807) (h2 : M.armed ≤ 9223372036854775807) :
    Calls Tryz.prog 39 #[.pointer (some ⟨b, 0, none⟩)] w (Ret (.int .i64 (syncM M).1) (RPl b (syncM M).2 F)) := by
  have hr := rp_ready h
  have H := Lib.hid h
  unfold syncM
  cases hd : M.down with
  | true =>
    rw [hd] at hr
    simp only [if_true] at hr ⊢
    have HR := Lib.hid hr
    clear h hd hr hl h0 h1 h2
    go_enter Tryz.func39, Tryz.ntmps39
    go_wp2_with (go_at_call 54; refine (HR.out).mono ?_; rintro e w1 ⟨rfl, rfl⟩)
    go_ret
    exact ⟨rfl, H.out⟩
  | false =>
    rw [hd] at hr
    simp only [Bool.false_eq_true, if_false] at hr ⊢
    have HR := Lib.hid hr
    have hact := rp_act h h0 h1 h2
    have hcode := actM_code M
    obtain ⟨q, hq9⟩ : ∃ q, decide ((actM M).1 ≠ 0) = q := ⟨_, rfl⟩
    rw [hq9] at hact hcode
    cases q with
    | true =>
      have hz := of_decide_eq_true hq9
      rw [if_pos hz]
      rw [if_pos rfl] at hcode
      have e : actM M = (10, (actM M).2) := by rw [← hcode]
      rw [hcode]
      have HACT := Lib.hid hact
      clear h hd hr hl h0 h1 h2 hact hcode hq9 hz e H
      go_enter Tryz.func39, Tryz.ntmps39
      go_wp2_with (first
        | (go_at_call 55; refine (HACT.out).mono ?_; rintro e w2 ⟨rfl, h2⟩; have FIN := Lib.hid h2; clear h2)
        | (go_at_call 54; refine (HR.out).mono ?_; rintro e w1 ⟨rfl, rfl⟩))
      go_ret
      exact ⟨rfl, FIN.out⟩
    | false =>
      have hz := of_decide_eq_false hq9
      rw [if_neg hz]
      obtain ⟨aq, asx, ac⟩ := act_queue M
      have HACT := Lib.hid hact
      generalize (actM M).2 = M1 at *
      have AQ := Lib.hid (And.intro aq asx)
      have HL := Lib.hid hl
      have hl9 : (M.queue.length : Int) ≤ 900000 := by omega
      clear h hd hr hl h0 h1 h2 hact hcode hq9 hz H aq asx ac
      go_enter Tryz.func39, Tryz.ntmps39
      go_upto_block 0 with (first
        | (go_at_call 55; refine (HACT.out).mono ?_; rintro e w2 ⟨rfl, h2⟩; have S2 := Lib.hid h2; clear h2)
        | (go_at_call 54; refine (HR.out).mono ?_; rintro e w1 ⟨rfl, rfl⟩))
      go_wp2_with fail
      go_loopw [4] (fun v4 wr => ∃ i : Nat, i ≤ M.queue.length ∧ v4 = .int .i64 (i : Int) ∧ RPl b { M1 with secs := putAll M.secs (M.queue.take i) } F wr) (fun v4 _ => 1000000 - (RowKit.intOf v4).toNat)
      case atStart =>
        refine ⟨0, by omega, rfl, ?_⟩
        have e : ({ M1 with secs := putAll M.secs (M.queue.take 0) } : PM) = M1 := by
          show ({ M1 with secs := M.secs } : PM) = M1
          rw [← AQ.out.2]
        rw [e]
        exact S2.out
      case round =>
        clear S2 HACT HR
        obtain ⟨i, hi, rfl, hs⟩ := hrel
        have HS := Lib.hid hs
        have i0 : (0 : Int) ≤ (i : Int) := by omega
        by_cases hil : i < M.queue.length
        · have i1 : (i : Int) < (M.queue.length : Int) := by omega
          have i9 : i < 1000000 := by have := HL.out; omega
          obtain ⟨⟨m, s0⟩, hx⟩ : ∃ x, M.queue[i]? = some x := ⟨_, List.getElem?_eq_getElem hil⟩
          obtain ⟨g, qc, c2, e0, e1⟩ := hs.qrow (i := i) (x := (m, s0)) (by show M1.queue[i]? = _; rw [AQ.out.1]; exact hx)
          have c2' : wr.cell? ⟨b, 2, none⟩ = some (.slice (some ⟨g, 0, none⟩) M.queue.length qc) := by rw [← AQ.out.1]; exact c2
          have h6 : s0.size = 256 := hs.big (m, s0) (by show _ ∈ M1.queue; rw [AQ.out.1]; exact List.mem_of_getElem? hx)
          have hset := rp_set hs.drew m s0 (by
            have h5 := putAll_len M.secs (M.queue.take i)
            have h7 := HL.out
            rw [List.length_take] at h5
            show (putAll M.secs (M.queue.take i)).length + 1 ≤ _
            omega)
          rw [decide_eq_false (by omega)] at hset
          have e : putS { M1 with secs := putAll M.secs (M.queue.take i) } m s0 = { M1 with secs := putAll M.secs (M.queue.take (i + 1)) } := by
            rw [take_snoc' hx, putAll_snoc]
            rfl
          rw [e] at hset
          have HSET := Lib.hid hset
          have HIL := Lib.hid hil
          clear hi hx hs hil hset e c2 h6 HS
          go_upto_region 9 with (fail)
          go_still_tail 18, (by kernel_rfl)
          change wpList _ _ _ _ _ wr.drew
          generalize wr.drew = W9 at *
          go_wp2_with (go_at_call 51; refine (HSET.out).mono ?_; rintro e w5 ⟨rfl, h5⟩; have S5 := Lib.hid h5; clear h5)
          exact ⟨⟨i + 1, HIL.out, by simp, S5.out⟩, by simp only [RowKit.intOf]; omega⟩
        · obtain rfl : i = M.queue.length := by omega
          have i1 : ((M.queue.length : Int) < (M.queue.length : Int)) = False := eq_false (by omega)
          obtain ⟨la, lc, qa, qc, c0, c1, c2, c3, c4, c5, c6, u⟩ := hs.cells
          have c2' : wr.cell? ⟨b, 2, none⟩ = some (.slice qa M.queue.length qc) := by rw [← AQ.out.1]; exact c2
          have z2 := u 2
          have hfin := hs.clearQ
          rw [List.take_length] at hfin
          have FIN := Lib.hid hfin
          clear hi hil hs hfin u c0 c1 c2 c3 c4 c5 c6 HS
          go_wp2_with fail
          go_ret
          exact ⟨rfl, FIN.out⟩
end Go.Proofs.YtgocmnejlbfplaaGreatDoor
namespace Go.Proofs
open Go.Shelf
def Tryz.lays105_ren : Go.Shelf.Ren := ⟨fun | 105 => 57 | 212 => 67 | 99 => 68 | 165 => 69 | 166 => 70 | 170 => 71 | 169 => 72 | 263 => 86 | 264 => 87 | 206 => 88 | 240 => 89 | 241 => 90 | 276 => 97 | 277 => 98 | n => n, fun | 9 => 9 | 3 => 3 | 4 => 4 | 20 => 20 | 0 => 0 | 46 => 96 | 109 => 108 | 5 => 5 | 72 => 113 | 76 => 116 | 51 => 131 | 146 => 132 | 53 => 127 | 148 => 134 | 70 => 111 | 37 => 78 | 75 => 115 | 127 => 136 | 164 => 143 | 80 => 118 | n => n, fun | n => n⟩
theorem Tryz.lays105 : Go.Proofs.Lays.n105 Tryz.prog Tryz.lays105_ren := {
  mixed := by kernel_rfl
  f99 := Tryz.func68.trans (congrArg some (by kernel_rfl))
  f105 := Tryz.func57.trans (congrArg some (by kernel_rfl))
  f165 := Tryz.func69.trans (congrArg some (by kernel_rfl))
  f166 := Tryz.func70.trans (congrArg some (by kernel_rfl))
  f169 := Tryz.func72.trans (congrArg some (by kernel_rfl))
  f170 := Tryz.func71.trans (congrArg some (by kernel_rfl))
  f206 := Tryz.func88.trans (congrArg some (by kernel_rfl))
  f212 := Tryz.func67.trans (congrArg some (by kernel_rfl))
  f240 := Tryz.func89.trans (congrArg some (by kernel_rfl))
  f241 := Tryz.func90.trans (congrArg some (by kernel_rfl))
  f263 := Tryz.func86.trans (congrArg some (by kernel_rfl))
  f264 := Tryz.func87.trans (congrArg some (by kernel_rfl))
  f276 := Tryz.func97.trans (congrArg some (by kernel_rfl))
  f277 := Tryz.func98.trans (congrArg some (by kernel_rfl))
  t0 := Tryz.underlying0
  a0 := Tryz.isAgg0
  z0 := Tryz.sizeOf0
  v0 := Tryz.zeroValue0
  t3 := Tryz.underlying3
  a3 := Tryz.isAgg3
  z3 := Tryz.sizeOf3
  v3 := Tryz.zeroValue3
  t4 := Tryz.underlying4
  a4 := Tryz.isAgg4
  z4 := Tryz.sizeOf4
  v4 := Tryz.zeroValue4
  t5 := Tryz.underlying5
  a5 := Tryz.isAgg5
  z5 := Tryz.sizeOf5
  v5 := Tryz.zeroValue5
  t9 := Tryz.underlying9
  a9 := Tryz.isAgg9
  z9 := Tryz.sizeOf9
  v9 := Tryz.zeroValue9
  t20 := Tryz.underlying20
  a20 := Tryz.isAgg20
  z20 := Tryz.sizeOf20
  v20 := Tryz.zeroValue20
  t37 := Tryz.underlying78
  a37 := Tryz.isAgg78
  z37 := Tryz.sizeOf78
  v37 := Tryz.zeroValue78
  t46 := Tryz.underlying96
  a46 := Tryz.isAgg96
  z46 := Tryz.sizeOf96
  v46 := Tryz.zeroValue96
  t51 := Tryz.underlying131
  a51 := Tryz.isAgg131
  z51 := Tryz.sizeOf131
  v51 := Tryz.zeroValue131
  t53 := Tryz.underlying127
  a53 := Tryz.isAgg127
  z53 := Tryz.sizeOf127
  v53 := Tryz.zeroValue127
  t70 := Tryz.underlying111
  a70 := Tryz.isAgg111
  z70 := Tryz.sizeOf111
  v70 := Tryz.zeroValue111
  t72 := Tryz.underlying113
  a72 := Tryz.isAgg113
  z72 := Tryz.sizeOf113
  v72 := Tryz.zeroValue113
  t75 := Tryz.underlying115
  a75 := Tryz.isAgg115
  z75 := Tryz.sizeOf115
  v75 := Tryz.zeroValue115
  t76 := Tryz.underlying116
  a76 := Tryz.isAgg116
  z76 := Tryz.sizeOf116
  v76 := Tryz.zeroValue116
  t109 := Tryz.underlying108
  a109 := Tryz.isAgg108
  z109 := Tryz.sizeOf108
  v109 := Tryz.zeroValue108
  t127 := Tryz.underlying136
  a127 := Tryz.isAgg136
  z127 := Tryz.sizeOf136
  v127 := Tryz.zeroValue136
  t146 := Tryz.underlying132
  a146 := Tryz.isAgg132
  z146 := Tryz.sizeOf132
  v146 := Tryz.zeroValue132
  t148 := Tryz.underlying134
  a148 := Tryz.isAgg134
  z148 := Tryz.sizeOf134
  v148 := Tryz.zeroValue134
  t164 := Tryz.underlying143
  a164 := Tryz.isAgg143
  z164 := Tryz.sizeOf143
  v164 := Tryz.zeroValue143 }
theorem Tryz.Builder_Extra_105 : Builder.Extra Tryz.prog Tryz.lays105_ren := {
  sizeBuilder := by kernel_rfl
  liesBuilder := by kernel_rfl
  t5 := Tryz.underlying5
  a5 := Tryz.isAgg5
  z5 := Tryz.sizeOf5
  v5 := Tryz.zeroValue5
  infoByte := by kernel_rfl
  cellsByte := by kernel_rfl
  sizeByte := by kernel_rfl
  neB5 := by decide }
def Tryz.lays160_ren : Go.Shelf.Ren := ⟨fun | 160 => 59 | 232 => 75 | 231 => 74 | 227 => 76 | 234 => 78 | 233 => 77 | 236 => 80 | 235 => 79 | 228 => 92 | 271 => 95 | 151 => 94 | 197 => 93 | 120 => 101 | 152 => 100 | 260 => 99 | 137 => 102 | 119 => 103 | 224 => 104 | 225 => 105 | 217 => 106 | 266 => 107 | n => n, fun | 9 => 9 | 4 => 4 | 3 => 3 | 5 => 5 | 117 => 122 | 116 => 121 | 0 => 0 | 124 => 125 | 21 => 21 | 105 => 139 | 46 => 96 | 119 => 147 | 139 => 150 | 138 => 149 | n => n, fun | 3 => 1 | 4 => 2 | n => n⟩
theorem Tryz.lays160 : Go.Proofs.Lays.n160 Tryz.prog Tryz.lays160_ren := {
  mixed := by kernel_rfl
  f119 := Tryz.func103.trans (congrArg some (by kernel_rfl))
  f120 := Tryz.func101.trans (congrArg some (by kernel_rfl))
  f137 := Tryz.func102.trans (congrArg some (by kernel_rfl))
  f151 := Tryz.func94.trans (congrArg some (by kernel_rfl))
  f152 := Tryz.func100.trans (congrArg some (by kernel_rfl))
  f160 := Tryz.func59.trans (congrArg some (by kernel_rfl))
  f197 := Tryz.func93.trans (congrArg some (by kernel_rfl))
  f217 := Tryz.func106.trans (congrArg some (by kernel_rfl))
  f224 := Tryz.func104.trans (congrArg some (by kernel_rfl))
  f225 := Tryz.func105.trans (congrArg some (by kernel_rfl))
  f227 := Tryz.func76.trans (congrArg some (by kernel_rfl))
  f228 := Tryz.func92.trans (congrArg some (by kernel_rfl))
  f231 := Tryz.func74.trans (congrArg some (by kernel_rfl))
  f232 := Tryz.func75.trans (congrArg some (by kernel_rfl))
  f233 := Tryz.func77.trans (congrArg some (by kernel_rfl))
  f234 := Tryz.func78.trans (congrArg some (by kernel_rfl))
  f235 := Tryz.func79.trans (congrArg some (by kernel_rfl))
  f236 := Tryz.func80.trans (congrArg some (by kernel_rfl))
  f260 := Tryz.func99.trans (congrArg some (by kernel_rfl))
  f266 := Tryz.func107.trans (congrArg some (by kernel_rfl))
  f271 := Tryz.func95.trans (congrArg some (by kernel_rfl))
  t0 := Tryz.underlying0
  a0 := Tryz.isAgg0
  z0 := Tryz.sizeOf0
  v0 := Tryz.zeroValue0
  t3 := Tryz.underlying3
  a3 := Tryz.isAgg3
  z3 := Tryz.sizeOf3
  v3 := Tryz.zeroValue3
  t4 := Tryz.underlying4
  a4 := Tryz.isAgg4
  z4 := Tryz.sizeOf4
  v4 := Tryz.zeroValue4
  t5 := Tryz.underlying5
  a5 := Tryz.isAgg5
  z5 := Tryz.sizeOf5
  v5 := Tryz.zeroValue5
  t9 := Tryz.underlying9
  a9 := Tryz.isAgg9
  z9 := Tryz.sizeOf9
  v9 := Tryz.zeroValue9
  t21 := Tryz.underlying21
  a21 := Tryz.isAgg21
  z21 := Tryz.sizeOf21
  v21 := Tryz.zeroValue21
  t46 := Tryz.underlying96
  a46 := Tryz.isAgg96
  z46 := Tryz.sizeOf96
  v46 := Tryz.zeroValue96
  t105 := Tryz.underlying139
  a105 := Tryz.isAgg139
  z105 := Tryz.sizeOf139
  v105 := Tryz.zeroValue139
  t116 := Tryz.underlying121
  a116 := Tryz.isAgg121
  z116 := Tryz.sizeOf121
  t117 := Tryz.underlying122
  a117 := Tryz.isAgg122
  z117 := Tryz.sizeOf122
  v117 := Tryz.zeroValue122
  t119 := Tryz.underlying147
  a119 := Tryz.isAgg147
  z119 := Tryz.sizeOf147
  t124 := Tryz.underlying125
  a124 := Tryz.isAgg125
  z124 := Tryz.sizeOf125
  v124 := Tryz.zeroValue125
  t138 := Tryz.underlying149
  a138 := Tryz.isAgg149
  z138 := Tryz.sizeOf149
  v138 := Tryz.zeroValue149
  t139 := Tryz.underlying150
  a139 := Tryz.isAgg150
  z139 := Tryz.sizeOf150
  v139 := Tryz.zeroValue150
  g3 := by kernel_rfl
  g4 := by kernel_rfl }
end Go.Proofs
