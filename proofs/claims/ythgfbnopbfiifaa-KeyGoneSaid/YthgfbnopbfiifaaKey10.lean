/- A client lets go: walked. Conditions: none. -/
import Derived.Test.YthgfbnopbfiifaaKey9
namespace Go.Proofs.Ythgfbnopbfiifaa
open Go Go.MapKept Go.RowKit Go.Proofs Go.Sort

theorem free_nil (c p : Int) (x : Bool) (w : World) : Calls Try.prog 10 #[.pointer none, .int .i64 c, .int .i64 p, .bool x] w (Ret (.int .i64 2) (Same w)) := by
  go_enter Try.func10, Try.ntmps10
  go_wp2
  go_ret
  exact ⟨rfl, rfl⟩
theorem mem_delL {V : Type} {k : Int} {p : Int × V} {D : List (Int × V)} (h : p ∈ delL k D) : p ∈ D := (sub_delL k D).subset h
theorem Fit8.put {l : LkM} (h : Fit8 l) {c : Int} (d : Hd) (h1 : 1 ≤ c) (h2 : c ≤ 8) : Fit8 ⟨putL c d l.holds, l.queue⟩ := by
  obtain ⟨f1, f2, f3, f4⟩ := h
  refine ⟨fun q hq => ?_, nodup_putL _ _ f2, f3, f4⟩
  rcases mem_putL hq with hq | hq
  · exact f1 q hq
  · rw [hq]; exact ⟨h1, h2⟩
theorem Fit8.del {l : LkM} (h : Fit8 l) (c : Int) : Fit8 ⟨delL c l.holds, l.queue⟩ := by
  obtain ⟨f1, f2, f3, f4⟩ := h
  exact ⟨fun q hq => f1 q (mem_delL hq), nodup_delL _ f2, f3, f4⟩
set_option maxRecDepth 100000 in
set_option maxHeartbeats 4000000 in
theorem free_any {b : Nat} {K : KtM} {F : Heaplet} {w : World} (h : KtIs b K F w) (c p : Int) (keep : Bool) (hf : ∀ l, getL p K.tab = some l → Fit8 l) (hw : K.ws.length ≤ 600000) :
    Calls Try.prog 10 #[.pointer (some ⟨b, 0, none⟩), .int .i64 c, .int .i64 p, .bool keep] w (Ret (.int .i64 (freeM K c p keep).1) (KtIs b (freeM K c p keep).2 F)) := by
  cases e : getL p K.tab with
  | none =>
    have eb : freeM K c p keep = (12, K) := by unfold freeM; rw [e]
    rw [eb]
    rcases h.found c p with ⟨m, h0, h1, e, eh⟩ | ⟨m, g, hm, l, h0, h1, e', h2, h3, eh, el⟩ | ⟨m, g, hm, hg, l, d, h0, h1, e', h2, h3, eh, el, d0, d1, d2⟩
    · have Hf := Lib.hid (hold_no (c := c) h0 h1)
      have H := Lib.hid h
      clear h0 h1 e eh h eb
      go_enter Try.func10, Try.ntmps10
      go_wp2_with fail
      refine (Hf.out).mono ?_
      rintro e w1 ⟨rfl, rfl⟩
      go_wp2_with fail
      go_ret
      exact ⟨rfl, H.out⟩
    · rw [e] at e'; cases e'
    · rw [e] at e'; cases e'
  | some l =>
    obtain ⟨m, g, O, hp, ho, _, hb⟩ := h.page e
    have h1 : lookT m p (pt g) w := ho.look hp.frame
    have h0 := hp.table
    have hfit := hf l e
    have HO := Lib.hid ho
    have HBACK := Lib.hid hb
    obtain ⟨wv, wh, hh, hw1, hl, s⟩ := hp
    obtain ⟨hm, hc0, hld⟩ := lkp_all hl
    have c0 := hc0 _ _ (PgIs.sw s)
    have hc := hld c
    cases el : getL c l.holds with
    | none =>
      have eb : freeM K c p keep = (12, K) := by unfold freeM; rw [e]; simp only [el]
      rw [eb]
      simp only [el] at hc
      have Hf := Lib.hid (hold_at h0 h1 c0 (hc _ _ (PgIs.sw s)))
      have H := Lib.hid h
      clear h0 h1 e h eb ho hb hw hl s el hld hc hc0 hw1 hfit c0
      go_enter Try.func10, Try.ntmps10
      go_wp2_with fail
      refine (Hf.out).mono ?_
      rintro e w1 ⟨rfl, rfl⟩
      go_wp2_with fail
      go_ret
      exact ⟨rfl, H.out⟩
    | some d =>
      simp only [el] at hc
      obtain ⟨hg, hc⟩ := hc
      have hc1 : 1 ≤ c ∧ c ≤ 8 := hfit.1 (c, d) (getL_mem el)
      have eb : freeM K c p keep = (0, settled K p (if keep then putL c ⟨false, false, 0⟩ (delL c l.holds) else delL c l.holds) l.queue) := by unfold freeM; rw [e]; simp only [el]
      rw [eb]
      have Hf := Lib.hid (hold_at h0 h1 c0 (hc _ _ (PgIs.sw s)).1)
      obtain ⟨hm', w1, h1', k0, k1, hdel, hl1, s1⟩ := lkp_del hl c (PgIs.sw s)
      rw [c0] at k0
      cases k0
      unfold lookT at h1
      have hdel0 : (Builtin.delete_ #[53, 3] 0 #[.map (some hm), .int .i64 c]).run Try.prog w = .ok (.tuple #[]) w1 := hdel 0
      cases keep with
      | false =>
        have hset := settle_any p (show PgIs b m g ⟨delL c l.holds, l.queue⟩ K.ws O w1 from ⟨wv, wh, h1', hw1, hl1, PgIs.ws s1⟩) HO.out ((hfit.del c).fitK (by omega))
        have HSET := Lib.hid hset
        clear e h eb ho hb hw hl s el hld hc hc0 hw1 hfit hl1 s1 hset hc1 k1 hdel hf
        show Calls _ _ _ _ (Ret (.int .i64 0) (KtIs b (settled K p (delL c l.holds) l.queue) F))
        go_enter Try.func10, Try.ntmps10
        go_wp2_with fail
        refine (Hf.out).mono ?_
        rintro e w2 ⟨rfl, rfl⟩
        go_wp2_with fail
        refine (HSET.out).mono ?_
        rintro e w6 ⟨rfl, h6⟩
        have FIN := Lib.hid (HBACK.out _ _ _ h6)
        clear h6 h1 h0 c0 hdel0
        go_wp2_with fail
        go_ret
        exact ⟨rfl, FIN.out⟩
      | true =>
        obtain ⟨hm2, w2, h2', k2, hup, hl2, s2⟩ := lkp_put hl1 c ⟨false, false, 0⟩ (s1.new (hdO ⟨false, false, 0⟩))
        obtain ⟨hm3, hc3, _⟩ := lkp_all hl1
        have k3 := hc3 _ _ ((s1.new (hdO ⟨false, false, 0⟩)).perm List.perm_middle.symm)
        have k4 := hc3 _ _ s1
        rw [k1] at k4
        cases k4
        rw [k3] at k2
        cases k2
        have hup : (Instr.mapUpdate 53 (.map (some hm)) (.int .i64 c) (.pointer (some ⟨w1.heap.size, 0, none⟩))).run Try.prog (w1.alloc (.cells #[.bool false, .bool false, .int .i64 0] 64)) = .ok () w2 := hup
        have hset := settle_any p (show PgIs b m g ⟨putL c ⟨false, false, 0⟩ (delL c l.holds), l.queue⟩ K.ws O w2 from ⟨wv, wh, h2', hw1, hl2, PgIs.ws s2⟩) HO.out (((hfit.del c).put ⟨false, false, 0⟩ hc1.1 hc1.2).fitK (by omega))
        have HSET := Lib.hid hset
        clear e h eb ho hb hw hl s el hld hc hc0 hw1 hfit hl1 s1 hset hc1 hdel hf hc3 hl2 s2
        show Calls _ _ _ _ (Ret (.int .i64 0) (KtIs b (settled K p (putL c ⟨false, false, 0⟩ (delL c l.holds)) l.queue) F))
        go_enter Try.func10, Try.ntmps10
        go_wp2_with fail
        refine (Hf.out).mono ?_
        rintro e w2 ⟨rfl, rfl⟩
        go_wp2_with fail
        refine (HSET.out).mono ?_
        rintro e w6 ⟨rfl, h6⟩
        have FIN := Lib.hid (HBACK.out _ _ _ h6)
        clear h6 h1 h0 c0 hdel0 hup k1 k3
        go_wp2_with fail
        go_ret
        exact ⟨rfl, FIN.out⟩
end Go.Proofs.Ythgfbnopbfiifaa
