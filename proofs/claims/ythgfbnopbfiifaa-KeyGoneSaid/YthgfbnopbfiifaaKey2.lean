/- The locks' small functions walked: lock, hold, Holds, Busy, Take, New. Conditions: none. -/
import Derived.Test.YthgfbnopbfiifaaKey1
namespace Go.Proofs.Ythgfbnopbfiifaa
open Go Go.MapKept Go.RowKit Go.Proofs Go.Sort

abbrev lookT (m : Nat) (p : Int) (v : Value) (w : World) : Prop := (Instr.lookup 49 (.map (some m)) (kI p) false).run Try.prog w = .ok v w
abbrev lookH (m : Nat) (p : Int) (v : Value) (w : World) : Prop := (Instr.lookup 53 (.map (some m)) (kI p) false).run Try.prog w = .ok v w
abbrev pt (g : Nat) : Value := .pointer (some ⟨g, 0, none⟩)
/-- What a table's look tells. -/
inductive Found (b : Nat) (K : KtM) (c p : Int) (w : World) : Prop
  | noLock (m : Nat) (h0 : w.cell? ⟨b, 0, none⟩ = some (.map (some m))) (h1 : lookT m p (.pointer none) w) (e : getL p K.tab = none) (eh : holdOf K.tab c p = none)
  | noHold (m g hm : Nat) (l : LkM) (h0 : w.cell? ⟨b, 0, none⟩ = some (.map (some m))) (h1 : lookT m p (pt g) w) (e : getL p K.tab = some l) (h2 : w.cell? ⟨g, 0, none⟩ = some (.map (some hm))) (h3 : lookH hm c (.pointer none) w) (eh : holdOf K.tab c p = none) (el : getL c l.holds = none)
  | hold (m g hm hg : Nat) (l : LkM) (d : Hd) (h0 : w.cell? ⟨b, 0, none⟩ = some (.map (some m))) (h1 : lookT m p (pt g) w) (e : getL p K.tab = some l) (h2 : w.cell? ⟨g, 0, none⟩ = some (.map (some hm))) (h3 : lookH hm c (pt hg) w) (eh : holdOf K.tab c p = some d) (el : getL c l.holds = some d)
      (d0 : w.cell? ⟨hg, 0, none⟩ = some (.bool d.x)) (d1 : w.cell? ⟨hg, 1, none⟩ = some (.bool d.busy)) (d2 : w.cell? ⟨hg, 2, none⟩ = some (kI d.called))
theorem KtIs.found {b : Nat} {K : KtM} {F : Heaplet} {w : World} (h : KtIs b K F w) (c p : Int) : Found b K c p w := by
  cases e : getL p K.tab with
  | none =>
    obtain ⟨m, es, clk, T, wv, wh, hT, hM, hP, hw, s⟩ := h
    have hlk := run_lookup_ok (P := Try.prog) (t := 49) (kt := 3) (et := 52) (z := .pointer none) Try.underlying49 Try.underlying3 (zeroLk w) s.h1 hM p
    have e' := e
    rw [← hT, getL_seen] at e'
    cases hg : getL p T with
    | some v => rw [hg] at e'; cases e'
    | none =>
      rw [hg] at hlk
      exact .noLock m (by rw [cell_of s.h0]; rfl) hlk e (by unfold holdOf; rw [e]; rfl)
  | some l =>
    obtain ⟨m, g, O, hp, ho, _, _⟩ := h.page e
    have hlk := ho.look hp.frame
    have h0 := hp.table
    obtain ⟨wv, wh, hh, hw, hl, s⟩ := hp
    obtain ⟨hm, a, cap, c0, _, _, hld, _⟩ := lkp_open hl s.tail.right
    have hc := hld c
    cases el : getL c l.holds with
    | none =>
      rw [el] at hc
      exact .noHold m g hm l h0 hlk e c0 hc (by unfold holdOf; rw [e]; exact el) el
    | some d =>
      rw [el] at hc
      obtain ⟨hg, hk, d0, d1, d2⟩ := hc
      exact .hold m g hm hg l d h0 hlk e c0 hk (by unfold holdOf; rw [e]; exact el) el d0 d1 d2
theorem lock_nil (p : Int) (w : World) : Calls Try.prog 33 #[.pointer none, .int .i64 p] w (Ret (.pointer none) (Same w)) := by
  go_enter Try.func33, Try.ntmps33
  go_wp2
  go_ret
  exact ⟨rfl, rfl⟩
theorem lock_at {b m : Nat} {p : Int} {v : Value} {w : World} (h0 : w.cell? ⟨b, 0, none⟩ = some (.map (some m))) (h1 : lookT m p v w) : Calls Try.prog 33 #[.pointer (some ⟨b, 0, none⟩), .int .i64 p] w (Ret v (Same w)) := by
  unfold lookT at h1
  go_enter Try.func33, Try.ntmps33
  go_wp2
  go_ret
  exact ⟨rfl, rfl⟩
theorem hold_nil (c p : Int) (w : World) : Calls Try.prog 22 #[.pointer none, .int .i64 c, .int .i64 p] w (Ret (.pointer none) (Same w)) := by
  have Hf := Lib.hid (lock_nil p w)
  go_enter Try.func22, Try.ntmps22
  go_wp2_with fail
  refine (Hf.out).mono ?_
  rintro e w1 ⟨rfl, rfl⟩
  go_wp2_with fail
  go_ret
  exact ⟨rfl, rfl⟩
theorem hold_no {b m : Nat} {c p : Int} {w : World} (h0 : w.cell? ⟨b, 0, none⟩ = some (.map (some m))) (h1 : lookT m p (.pointer none) w) : Calls Try.prog 22 #[.pointer (some ⟨b, 0, none⟩), .int .i64 c, .int .i64 p] w (Ret (.pointer none) (Same w)) := by
  have Hf := Lib.hid (lock_at h0 h1)
  clear h0 h1
  go_enter Try.func22, Try.ntmps22
  go_wp2_with fail
  refine (Hf.out).mono ?_
  rintro e w1 ⟨rfl, rfl⟩
  go_wp2_with fail
  go_ret
  exact ⟨rfl, rfl⟩
theorem hold_at {b m g hm : Nat} {c p : Int} {v : Value} {w : World} (h0 : w.cell? ⟨b, 0, none⟩ = some (.map (some m))) (h1 : lookT m p (pt g) w) (h2 : w.cell? ⟨g, 0, none⟩ = some (.map (some hm))) (h3 : lookH hm c v w) : Calls Try.prog 22 #[.pointer (some ⟨b, 0, none⟩), .int .i64 c, .int .i64 p] w (Ret v (Same w)) := by
  have Hf := Lib.hid (lock_at h0 h1)
  clear h0 h1
  unfold lookH at h3
  go_enter Try.func22, Try.ntmps22
  go_wp2_with fail
  refine (Hf.out).mono ?_
  rintro e w1 ⟨rfl, rfl⟩
  go_wp2_with fail
  go_ret
  exact ⟨rfl, rfl⟩
theorem holds_nil (c p : Int) (w : World) : Calls Try.prog 15 #[.pointer none, .int .i64 c, .int .i64 p] w (Ret (.int .i64 0) (Same w)) := by
  have Hf := Lib.hid (hold_nil c p w)
  go_enter Try.func15, Try.ntmps15
  go_wp2_with fail
  refine (Hf.out).mono ?_
  rintro e w1 ⟨rfl, rfl⟩
  go_wp2_with fail
  go_ret
  exact ⟨rfl, rfl⟩
theorem holds_any {b : Nat} {K : KtM} {F : Heaplet} {w : World} (h : KtIs b K F w) (c p : Int) : Calls Try.prog 15 #[.pointer (some ⟨b, 0, none⟩), .int .i64 c, .int .i64 p] w (Ret (.int .i64 (holdsM K.tab c p)) (Same w)) := by
  unfold holdsM
  rcases h.found c p with ⟨m, h0, h1, e, eh⟩ | ⟨m, g, hm, l, h0, h1, e, h2, h3, eh, el⟩ | ⟨m, g, hm, hg, l, d, h0, h1, e, h2, h3, eh, el, d0, d1, d2⟩
  · rw [eh]
    have Hf := Lib.hid (hold_no (c := c) h0 h1)
    clear h0 h1 e eh h
    show Calls _ _ _ _ (Ret (.int .i64 0) (Same w))
    go_enter Try.func15, Try.ntmps15
    go_wp2_with fail
    refine (Hf.out).mono ?_
    rintro e w1 ⟨rfl, rfl⟩
    go_wp2_with fail
    go_ret
    exact ⟨rfl, rfl⟩
  · rw [eh]
    have Hf := Lib.hid (hold_at h0 h1 h2 h3)
    clear h0 h1 e eh h h2 h3 el
    show Calls _ _ _ _ (Ret (.int .i64 0) (Same w))
    go_enter Try.func15, Try.ntmps15
    go_wp2_with fail
    refine (Hf.out).mono ?_
    rintro e w1 ⟨rfl, rfl⟩
    go_wp2_with fail
    go_ret
    exact ⟨rfl, rfl⟩
  · rw [eh]
    have Hf := Lib.hid (hold_at h0 h1 h2 h3)
    clear h0 h1 e eh h h2 h3 el d1 d2
    obtain ⟨dx, db, dc⟩ := d
    simp only at d0
    show Calls _ _ _ _ (Ret (.int .i64 (if dx = true then 2 else 1)) (Same w))
    cases dx
    all_goals
      go_enter Try.func15, Try.ntmps15
      go_wp2_with fail
      refine (Hf.out).mono ?_
      rintro e w1 ⟨rfl, rfl⟩
      go_wp2_with fail
      go_ret
      exact ⟨rfl, rfl⟩
theorem busy_nil (c p : Int) (w : World) : Calls Try.prog 11 #[.pointer none, .int .i64 c, .int .i64 p] w (Ret (.int .i64 2) (Same w)) := by
  go_enter Try.func11, Try.ntmps11
  go_wp2
  go_ret
  exact ⟨rfl, rfl⟩
theorem busy_any {b : Nat} {K : KtM} {F : Heaplet} {w : World} (h : KtIs b K F w) (c p : Int) : Calls Try.prog 11 #[.pointer (some ⟨b, 0, none⟩), .int .i64 c, .int .i64 p] w (Ret (.int .i64 (busyM K c p).1) (KtIs b (busyM K c p).2 F)) := by
  cases e : getL p K.tab with
  | none =>
    have eb : busyM K c p = (12, K) := by unfold busyM; rw [e]
    rw [eb]
    rcases h.found c p with ⟨m, h0, h1, e, eh⟩ | ⟨m, g, hm, l, h0, h1, e', h2, h3, eh, el⟩ | ⟨m, g, hm, hg, l, d, h0, h1, e', h2, h3, eh, el, d0, d1, d2⟩
    · have Hf := Lib.hid (hold_no (c := c) h0 h1)
      have H := Lib.hid h
      clear h0 h1 e eh h eb
      go_enter Try.func11, Try.ntmps11
      go_wp2_with fail
      refine (Hf.out).mono ?_
      rintro e w1 ⟨rfl, rfl⟩
      go_wp2_with fail
      go_ret
      exact ⟨rfl, H.out⟩
    · rw [e] at e'; cases e'
    · rw [e] at e'; cases e'
  | some l =>
    obtain ⟨m, g, O, hp, ho, _, hb⟩ := h.page e
    have h1 : lookT m p (pt g) w := ho.look hp.frame
    have h0 := hp.table
    obtain ⟨wv, wh, hh, hw, hl, s⟩ := hp
    cases el : getL c l.holds with
    | none =>
      have eb : busyM K c p = (12, K) := by unfold busyM; rw [e]; simp only [el]
      rw [eb]
      obtain ⟨hm, a, cap, c0, _, _, hld, _⟩ := lkp_open hl s.tail.right
      have hc := hld c
      rw [el] at hc
      have Hf := Lib.hid (hold_at h0 h1 c0 hc)
      have H := Lib.hid h
      clear h0 h1 e h eb ho hb hw hl s el hld hc
      go_enter Try.func11, Try.ntmps11
      go_wp2_with fail
      refine (Hf.out).mono ?_
      rintro e w1 ⟨rfl, rfl⟩
      go_wp2_with fail
      go_ret
      exact ⟨rfl, H.out⟩
    | some d =>
      have eb : busyM K c p = (0, ⟨putL p ⟨putL c { d with busy := true } l.holds, l.queue⟩ K.tab, K.ws⟩) := by unfold busyM; rw [e]; simp only [el]
      rw [eb]
      have s2 : Sat w (hh ++ (.blk b (tbO m wv) :: (wh ++ O))) := s.perm (by
        have p1 := List.perm_append_comm_assoc (HItem.blk b (tbO m wv) :: wh) hh O
        simpa using p1)
      obtain ⟨hm, hg, c0, c1, ⟨d0, d1, d2⟩, u, back⟩ := lkp_hold hl s2 el
      obtain ⟨h', hl', s'⟩ := back 1 (.bool true) { d with busy := true } rfl
      have hfin : KtIs b ⟨putL p ⟨putL c { d with busy := true } l.holds, l.queue⟩ K.tab, K.ws⟩ F (w.setCell ⟨hg, 1, none⟩ (.bool true)) := by
        refine hb _ _ _ ⟨wv, wh, h', hw, hl', s'.perm ?_⟩
        have p1 := List.perm_append_comm_assoc h' (HItem.blk b (tbO m wv) :: wh) O
        simpa using p1
      have u1 := u 1
      have Hf := Lib.hid (hold_at h0 h1 c0 c1)
      have FIN := Lib.hid hfin
      clear h0 h1 e h eb ho hb hw hl s el s2 back s' hl' hfin u c1 d0 d2
      go_enter Try.func11, Try.ntmps11
      go_wp2_with fail
      refine (Hf.out).mono ?_
      rintro e w1 ⟨rfl, rfl⟩
      go_wp2_with fail
      go_ret
      exact ⟨rfl, FIN.out⟩
theorem take_nil (w : World) : Calls Try.prog 14 #[.pointer none] w (Ret (.slice none 0 0) (Same w)) := by
  go_enter Try.func14, Try.ntmps14
  go_wp2
  go_ret
  exact ⟨rfl, rfl⟩
theorem take_any {b : Nat} {K : KtM} {F : Heaplet} {w : World} (h : KtIs b K F w) : Calls Try.prog 14 #[.pointer (some ⟨b, 0, none⟩)] w fun e w' => ∃ v hh, e = .returned v ∧ WSl v K.ws hh ∧ KtIs b ⟨K.tab, []⟩ (hh ++ F) w' := by
  obtain ⟨m, es, clk, T, wv, wh, hT, hM, hP, hw, s⟩ := h
  have c1 : w.cell? ⟨b, 1, none⟩ = some wv := by rw [cell_of s.h0]; rfl
  have f1 : w.frozen? ⟨b, 1, none⟩ = false := unfrozen_of s.h0 1
  have s2 := s.setCell (i := 1) (.slice none 0 0)
  have hfin : KtIs b ⟨K.tab, []⟩ (wh ++ F) (w.setCell ⟨b, 1, none⟩ (.slice none 0 0)) := by
    refine ⟨m, es, clk, T, .slice none 0 0, [], hT, hM, hP, SliceIs.nil _ _, s2.perm ?_⟩
    refine List.Perm.cons _ (List.Perm.cons _ ?_)
    exact List.perm_append_comm_assoc wh (heapL lkF T) F
  have FIN := Lib.hid (And.intro hw hfin)
  obtain ⟨a0, c0, rfl⟩ := sl_form hw
  clear hw hfin s2 s hP hM hT
  go_enter Try.func14, Try.ntmps14
  go_wp2_with fail
  go_ret
  exact ⟨_, wh, rfl, FIN.out.1, FIN.out.2⟩
theorem key_new (F : Heaplet) (w : World) (hs : Sat w F) : Calls Try.prog 8 #[] w fun e w' => ∃ b, e = .returned (.pointer (some ⟨b, 0, none⟩)) ∧ KtIs b ⟨[], []⟩ F w' := by
  have hmm := @run_makeMap Try.prog
  have s1 := (hs.new (.map #[] 0)).new (.cells #[.map (some w.heap.size), .slice none 0 0] 51)
  rw [World.size_alloc] at s1
  have hfin : KtIs (w.heap.size + 1) ⟨[], []⟩ F ((w.alloc (.map #[] 0)).alloc (.cells #[.map (some w.heap.size), .slice none 0 0] 51)) :=
    ⟨w.heap.size, #[], 0, [], .slice none 0 0, [], rfl, mapOk_new kI_key kI_inj, (fun p hp => absurd hp (by simp)), SliceIs.nil _ _, s1⟩
  have Fin := Lib.hid hfin
  clear s1 hfin hs
  go_enter Try.func8, Try.ntmps8
  go_wp2
  go_ret
  exact ⟨_, rfl, Fin.out⟩
end Go.Proofs.Ythgfbnopbfiifaa
