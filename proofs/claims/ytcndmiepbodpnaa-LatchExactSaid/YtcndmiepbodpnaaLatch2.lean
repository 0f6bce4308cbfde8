/- The locks: Grant, Call, Clear. Conditions: none. -/
import Derived.Test.YtcndmiepbodpnaaLatch1
namespace Go.Proofs.Ytcndmiepbodpnaa
open Go Go.MapKept Go.RowKit Go.Proofs

theorem put_put {V : Type} (p : Int) (a c : V) : ∀ L : List (Int × V), putL p a (putL p c L) = putL p a L
  | [] => by simp [putL]
  | q :: r => by
    by_cases e : q.1 = p
    · simp [putL, e]
    · simp [putL, e, put_put p a c r]
theorem del_put {V : Type} (p : Int) (c : V) : ∀ {L : List (Int × V)} {v : V}, getL p L = some v → delL p (putL p c L) = delL p L
  | q :: r, v, h => by
    by_cases e : q.1 = p
    · simp [putL, delL, e]
    · simp only [getL, e, if_false] at h
      simp [putL, delL, e, del_put p c h]
theorem grant_nil (p : Int) (x : Bool) (w : World) : Calls Try.prog 9 #[.pointer none, .int .i64 p, .bool x] w (Ret (.tuple #[]) (Same w)) := by
  go_enter Try.func9, Try.ntmps9
  go_wp2
  refine bodyPost_ret (results_none rfl _ _ _) rfl ?_
  exact ⟨rfl, rfl⟩
set_option maxHeartbeats 800000 in
theorem grant_any (b : Nat) (D : Lks) (F : Heaplet) (p : Int) (x : Bool) (w : World) (h : LatchIs b D F w) :
    Calls Try.prog 9 #[.pointer (some ⟨b, 0, none⟩), .int .i64 p, .bool x] w (Ret (.tuple #[]) (LatchIs b (grantM D p x) F)) := by
  obtain ⟨m, L, rfl, hp⟩ := h
  have hf := lfind_any b m L F p w hp
  unfold grantM
  rw [getL_bare]
  cases hk : getL p L with
  | some v =>
    obtain ⟨g, k⟩ := v
    obtain ⟨c0, _, _, u⟩ := hp.lock hk
    have f0 := u 0
    rw [hk] at hf
    have hs := hp.setLock (k' := { k with x := x }) hk 0 (.bool x) rfl
    have hfin : LatchIs b (putL p { k with x := x } (bareL L)) F _ := LatchIs.of hs (bare_put _ _ _ _)
    have Hf := Lib.hid hf
    have Fin := Lib.hid hfin
    clear hf hs hfin hp hk u
    show Calls _ _ _ _ (Ret (.tuple #[]) (LatchIs b (putL p { k with x := x } (bareL L)) F))
    go_enter Try.func9, Try.ntmps9
    go_wp2_with fail
    refine (Hf.out).mono ?_
    rintro e w1 ⟨rfl, rfl⟩
    unfold foundV lkp
    go_wp2_with fail
    refine bodyPost_end (results_none rfl _ _ _) rfl ?_
    exact ⟨rfl, Fin.out⟩
  | none =>
    rw [hk] at hf
    have hn := hp.new (lkObj ⟨false, 0, 0⟩)
    have c0 := hn.cell
    obtain ⟨es, clk, hm, hs⟩ := hn
    obtain ⟨w2, es', clk', hu, hm', hs'⟩ := sat_update (P := Try.prog) (t := 53) (kt := 3) (et := 56) Try.underlying53 Try.underlying3 hm hs.swap p (w.heap.size, (⟨false, 0, 0⟩ : Lk))
    have hp2 : LocksP b m (putL p (w.heap.size, ⟨false, 0, 0⟩) L) F w2 := by
      refine ⟨es', clk', hm', ?_⟩
      refine hs'.swap.perm ?_
      refine List.Perm.cons _ (List.Perm.cons _ ?_)
      refine List.Perm.trans List.perm_middle ?_
      exact ((lkH_new (u := (w.heap.size, (⟨false, 0, 0⟩ : Lk))) hk).append_right F).symm
    have hg : getL p (putL p (w.heap.size, (⟨false, 0, 0⟩ : Lk)) L) = some (w.heap.size, ⟨false, 0, 0⟩) := by rw [getL_putL, if_pos rfl]
    obtain ⟨d0, _, _, u⟩ := hp2.lock hg
    have f0 := u 0
    have hs3 := hp2.setLock (k' := ⟨x, 0, 0⟩) hg 0 (.bool x) rfl
    rw [put_put] at hs3
    have hfin : LatchIs b (putL p ⟨x, 0, 0⟩ (bareL L)) F _ := LatchIs.of hs3 (bare_put _ _ _ _)
    have Hf := Lib.hid hf
    have Fin := Lib.hid hfin
    have hu : (Instr.mapUpdate 53 (.map (some m)) (.int .i64 p) (.pointer (some ⟨w.heap.size, 0, none⟩))).run Try.prog (w.alloc (.cells #[.bool false, .int .i64 0, .int .i64 0] 59)) = .ok () w2 := hu
    have c0 : (w.alloc (.cells #[.bool false, .int .i64 0, .int .i64 0] 59)).cell? ⟨b, 0, none⟩ = some (.map (some m)) := c0
    clear hf hs hfin hp hk u hm hm' hs' hp2 hg hs3
    show Calls _ _ _ _ (Ret (.tuple #[]) (LatchIs b (putL p ⟨x, 0, 0⟩ (bareL L)) F))
    go_enter Try.func9, Try.ntmps9
    go_wp2_with fail
    refine (Hf.out).mono ?_
    rintro e w1 ⟨rfl, rfl⟩
    unfold foundV
    go_wp2_with fail
    refine bodyPost_end (results_none rfl _ _ _) rfl ?_
    exact ⟨rfl, Fin.out⟩
theorem clear_nil (w : World) : Calls Try.prog 19 #[.pointer none] w (Ret (.tuple #[]) (Same w)) := by
  go_enter Try.func19, Try.ntmps19
  go_wp2
  refine bodyPost_end (results_none rfl _ _ _) rfl ?_
  exact ⟨rfl, rfl⟩
theorem call_nil (p : Int) (a : Bool) (w : World) : Calls Try.prog 11 #[.pointer none, .int .i64 p, .bool a] w (Ret (.int .i64 0) (Same w)) := by
  have Hf := Lib.hid (lfind_nil p w)
  go_enter Try.func11, Try.ntmps11
  go_wp2_with fail
  refine (Hf.out).mono ?_
  rintro e w1 ⟨rfl, rfl⟩
  go_wp2_with fail
  go_ret
  exact ⟨rfl, rfl⟩
set_option maxHeartbeats 1600000 in
theorem call_any (b : Nat) (D : Lks) (F : Heaplet) (p : Int) (a : Bool) (w : World) (h : LatchIs b D F w) :
    Calls Try.prog 11 #[.pointer (some ⟨b, 0, none⟩), .int .i64 p, .bool a] w (Ret (.int .i64 (callM D p a).1) (LatchIs b (callM D p a).2 F)) := by
  have H0 := Lib.hid h
  obtain ⟨m, L, rfl, hp⟩ := h
  have hf := lfind_any b m L F p w hp
  unfold callM
  rw [getL_bare]
  cases hk : getL p L with
  | none =>
    rw [hk] at hf
    have Hf := Lib.hid hf
    clear hf hp hk
    show Calls _ _ _ _ (Ret (.int .i64 0) (LatchIs b (bareL L) F))
    go_enter Try.func11, Try.ntmps11
    go_wp2_with fail
    refine (Hf.out).mono ?_
    rintro e w1 ⟨rfl, rfl⟩
    unfold foundV
    go_wp2_with fail
    go_ret
    exact ⟨rfl, H0.out⟩
  | some v =>
    obtain ⟨g, k⟩ := v
    obtain ⟨c0, c1, c2, u⟩ := hp.lock hk
    have f0 := u 0
    have f2 := u 2
    have cb := hp.cell
    rw [hk] at hf
    have Hf := Lib.hid hf
    have w2 : LatchIs b (putL p { k with wait := 2 } (bareL L)) F _ := LatchIs.of (hp.setLock (k' := { k with wait := 2 }) hk 2 (kI 2) rfl) (bare_put _ _ _ _)
    have w1 : LatchIs b (putL p { k with wait := max k.wait 1 } (bareL L)) F _ := LatchIs.of (hp.setLock (k' := { k with wait := max k.wait 1 }) hk 2 (kI (max k.wait 1)) rfl) (bare_put _ _ _ _)
    have wx : LatchIs b (putL p { k with x := false } (bareL L)) F _ := LatchIs.of (hp.setLock (k' := { k with x := false }) hk 0 (.bool false) rfl) (bare_put _ _ _ _)
    obtain ⟨wd, hdel, hfd⟩ : ∃ wd, (∀ ty, (Builtin.delete_ #[53, 3] ty #[.map (some m), kI p]).run Try.prog w = .ok (.tuple #[]) wd) ∧ LatchIs b (delL p (bareL L)) F wd := by
      obtain ⟨es, clk, hm, hs⟩ := hp
      obtain ⟨w', es', hr, hm', hs'⟩ := sat_delete (P := Try.prog) (ty := 0) (t := 53) (kt := 3) (et := 56) Try.underlying53 Try.underlying3 hm hs.swap p
      refine ⟨w', fun ty => hr, m, delL p L, bare_del _ _, es', clk, hm', ?_⟩
      have p1 := hs'.swap.perm ((((lkH_get hk).append_right F).cons _).cons _)
      exact (p1.perm (List.perm_middle (l₁ := [HItem.blk b _, .blk m _]))).tail
    have W2 := Lib.hid w2
    have W1 := Lib.hid w1
    have WX := Lib.hid wx
    have WD := Lib.hid hfd
    have HDEL := Lib.hid hdel
    clear hf hp hk u w2 w1 wx hfd hdel
    obtain ⟨kx, ku, kw⟩ := k
    simp only at c0 c1 c2 W2 W1 WX ⊢
    show Calls _ _ _ _ (Ret (.int .i64 (if !a && !kx then (0, bareL L) else if a && decide (0 < ku) then (3, putL p ⟨kx, ku, 2⟩ (bareL L)) else if a then (1, delL p (bareL L)) else if ku = 2 then (3, putL p ⟨kx, ku, max kw 1⟩ (bareL L)) else (2, putL p ⟨false, ku, kw⟩ (bareL L)) : Int × Lks).1) (LatchIs b (if !a && !kx then (0, bareL L) else if a && decide (0 < ku) then (3, putL p ⟨kx, ku, 2⟩ (bareL L)) else if a then (1, delL p (bareL L)) else if ku = 2 then (3, putL p ⟨kx, ku, max kw 1⟩ (bareL L)) else (2, putL p ⟨false, ku, kw⟩ (bareL L)) : Int × Lks).2 F))
    cases a with
    | true =>
      by_cases hu : 0 < ku
      · have hd : decide (0 < ku) = true := by simpa using hu
        simp only [Bool.not_true, Bool.false_and, Bool.false_eq_true, if_false, hd, Bool.and_true, if_true]
        clear hd
        go_enter Try.func11, Try.ntmps11
        go_wp2_with fail
        refine (Hf.out).mono ?_
        rintro e w1 ⟨rfl, rfl⟩
        unfold foundV lkp
        go_wp2_with fail
        go_ret
        exact ⟨rfl, W2.out⟩
      · have hd : decide (0 < ku) = false := by simpa using hu
        simp only [Bool.not_true, Bool.false_and, Bool.false_eq_true, if_false, hd, Bool.and_false, if_true]
        clear hd
        go_enter Try.func11, Try.ntmps11
        go_wp2_with fail
        refine (Hf.out).mono ?_
        rintro e w1 ⟨rfl, rfl⟩
        unfold foundV lkp
        have hdel := HDEL.out
        go_wp2_with fail
        go_ret
        exact ⟨rfl, WD.out⟩
    | false =>
      cases kx with
      | false =>
        simp only [Bool.not_false, Bool.and_self, if_true]
        go_enter Try.func11, Try.ntmps11
        go_wp2_with fail
        refine (Hf.out).mono ?_
        rintro e w1 ⟨rfl, rfl⟩
        unfold foundV lkp
        go_wp2_with fail
        go_ret
        exact ⟨rfl, H0.out⟩
      | true =>
        simp only [Bool.not_false, Bool.not_true, Bool.and_false, Bool.false_eq_true, if_false, Bool.false_and]
        by_cases hu : ku = 2
        · rw [if_pos hu]
          have hb : (ku == 2) = true := by simpa using hu
          clear hu
          go_enter Try.func11, Try.ntmps11
          go_wp2_with fail
          refine (Hf.out).mono ?_
          rintro e w1 ⟨rfl, rfl⟩
          unfold foundV lkp
          go_wp2_with fail
          go_ret
          exact ⟨rfl, W1.out⟩
        · rw [if_neg hu]
          have hb : (ku == 2) = false := by simpa using hu
          clear hu
          go_enter Try.func11, Try.ntmps11
          go_wp2_with fail
          refine (Hf.out).mono ?_
          rintro e w1 ⟨rfl, rfl⟩
          unfold foundV lkp
          go_wp2_with fail
          go_ret
          exact ⟨rfl, WX.out⟩
end Go.Proofs.Ytcndmiepbodpnaa
