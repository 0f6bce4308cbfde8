/- The locks' calls, each walked once. Conditions: none. -/
import Derived.Test.YtcndmiepbodpnaaLatchH
namespace Go.Proofs.Ytcndmiepbodpnaa
open Go Go.MapKept Go.RowKit Go.Proofs

theorem zeroP (w : World) : (zeroValue 56).run Try.prog w = .ok (.pointer none) w := by kernel_rfl
def foundV : Option (Nat × Lk) → Value
  | some v => lkp v
  | none => .pointer none
theorem LocksP.look {b m : Nat} {L : LL} {F : Heaplet} {w : World} (h : LocksP b m L F w) (p : Int) :
    (Instr.lookup 53 (.map (some m)) (kI p) false).run Try.prog w = .ok (foundV (getL p L)) w := by
  obtain ⟨es, clk, hm, hs⟩ := h
  have := run_lookup_ok (P := Try.prog) (t := 53) (kt := 3) (et := 56) (z := .pointer none) Try.underlying53 Try.underlying3 (zeroP w) hs.h1 hm p
  rw [this]
  cases getL p L <;> rfl
theorem lfind_nil (p : Int) (w : World) : Calls Try.prog 24 #[.pointer none, .int .i64 p] w (Ret (.pointer none) (Same w)) := by
  go_enter Try.func24, Try.ntmps24
  go_wp2
  go_ret
  exact ⟨rfl, rfl⟩
theorem lfind_any (b m : Nat) (L : LL) (F : Heaplet) (p : Int) (w : World) (h : LocksP b m L F w) :
    Calls Try.prog 24 #[.pointer (some ⟨b, 0, none⟩), .int .i64 p] w (Ret (foundV (getL p L)) (Same w)) := by
  have hl := h.look p
  have c0 := h.cell
  clear h
  generalize foundV (getL p L) = v at *
  go_enter Try.func24, Try.ntmps24
  go_wp2
  go_ret
  exact ⟨rfl, rfl⟩
theorem latch_new (F : Heaplet) (w : World) (hs : Sat w F) : Calls Try.prog 8 #[] w fun e w' => ∃ b, e = .returned (.pointer (some ⟨b, 0, none⟩)) ∧ LatchIs b [] F w' := by
  have hmm := @run_makeMap Try.prog
  have s1 := (hs.new (.map #[] 0)).new (.cells #[.map (some w.heap.size)] 55)
  rw [World.size_alloc] at s1
  have hfin : LatchIs (w.heap.size + 1) [] F ((w.alloc (.map #[] 0)).alloc (.cells #[.map (some w.heap.size)] 55)) :=
    ⟨w.heap.size, [], rfl, #[], 0, mapOk_new kI_key kI_inj, s1⟩
  have Fin := Lib.hid hfin
  clear s1 hfin hs
  go_enter Try.func8, Try.ntmps8
  go_wp2
  go_ret
  exact ⟨_, rfl, Fin.out⟩
theorem has_nil (p : Int) (x : Bool) (w : World) : Calls Try.prog 10 #[.pointer none, .int .i64 p, .bool x] w (Ret (.bool false) (Same w)) := by
  have Hf := Lib.hid (lfind_nil p w)
  go_enter Try.func10, Try.ntmps10
  go_wp2_with fail
  refine (Hf.out).mono ?_
  rintro e w1 ⟨rfl, rfl⟩
  go_wp2_with fail
  go_ret
  exact ⟨rfl, rfl⟩
theorem has_any (b : Nat) (D : Lks) (F : Heaplet) (p : Int) (x : Bool) (w : World) (h : LatchIs b D F w) :
    Calls Try.prog 10 #[.pointer (some ⟨b, 0, none⟩), .int .i64 p, .bool x] w (Ret (.bool (hasM D p x)) (Same w)) := by
  obtain ⟨m, L, rfl, hp⟩ := h
  have hf := lfind_any b m L F p w hp
  unfold hasM
  rw [getL_bare]
  cases hk : getL p L with
  | none =>
    rw [hk] at hf
    have Hf := Lib.hid hf
    clear hf hp hk
    show Calls _ _ _ _ (Ret (.bool false) (Same w))
    go_enter Try.func10, Try.ntmps10
    go_wp2_with fail
    refine (Hf.out).mono ?_
    rintro e w1 ⟨rfl, rfl⟩
    unfold foundV
    go_wp2_with fail
    go_ret
    exact ⟨rfl, rfl⟩
  | some v =>
    obtain ⟨g, k⟩ := v
    obtain ⟨c0, _, _, _⟩ := hp.lock hk
    rw [hk] at hf
    have Hf := Lib.hid hf
    clear hf hp hk
    obtain ⟨kx, ku, kw⟩ := k
    show Calls _ _ _ _ (Ret (.bool (kx || !x)) (Same w))
    simp only at c0
    go_enter Try.func10, Try.ntmps10
    go_wp2_with fail
    refine (Hf.out).mono ?_
    rintro e w1 ⟨rfl, rfl⟩
    unfold foundV lkp
    cases kx <;> cases x <;> (go_wp2_with fail; go_ret; exact ⟨rfl, rfl⟩)
theorem used_nil (p : Int) (w : World) : Calls Try.prog 21 #[.pointer none, .int .i64 p] w (Ret (.int .i64 0) (Same w)) := by
  have Hf := Lib.hid (lfind_nil p w)
  go_enter Try.func21, Try.ntmps21
  go_wp2_with fail
  refine (Hf.out).mono ?_
  rintro e w1 ⟨rfl, rfl⟩
  go_wp2_with fail
  go_ret
  exact ⟨rfl, rfl⟩
theorem used_any (b : Nat) (D : Lks) (F : Heaplet) (p : Int) (w : World) (h : LatchIs b D F w) :
    Calls Try.prog 21 #[.pointer (some ⟨b, 0, none⟩), .int .i64 p] w (Ret (.int .i64 (usedM D p)) (Same w)) := by
  obtain ⟨m, L, rfl, hp⟩ := h
  have hf := lfind_any b m L F p w hp
  unfold usedM
  rw [getL_bare]
  cases hk : getL p L with
  | none =>
    rw [hk] at hf
    have Hf := Lib.hid hf
    clear hf hp hk
    show Calls _ _ _ _ (Ret (.int .i64 0) (Same w))
    go_enter Try.func21, Try.ntmps21
    go_wp2_with fail
    refine (Hf.out).mono ?_
    rintro e w1 ⟨rfl, rfl⟩
    unfold foundV
    go_wp2_with fail
    go_ret
    exact ⟨rfl, rfl⟩
  | some v =>
    obtain ⟨g, k⟩ := v
    obtain ⟨_, c1, _, _⟩ := hp.lock hk
    rw [hk] at hf
    have Hf := Lib.hid hf
    clear hf hp hk
    obtain ⟨kx, ku, kw⟩ := k
    show Calls _ _ _ _ (Ret (.int .i64 ku) (Same w))
    simp only at c1
    go_enter Try.func21, Try.ntmps21
    go_wp2_with fail
    refine (Hf.out).mono ?_
    rintro e w1 ⟨rfl, rfl⟩
    unfold foundV lkp
    go_wp2_with fail
    go_ret
    exact ⟨rfl, rfl⟩
theorem LatchIs.of {b m : Nat} {L : LL} {D : Lks} {F : Heaplet} {w : World} (h : LocksP b m L F w) (e : bareL L = D) : LatchIs b D F w := ⟨m, L, e, h⟩
theorem use_nil (p : Int) (x : Bool) (w : World) : Calls Try.prog 13 #[.pointer none, .int .i64 p, .bool x] w (Ret (.int .i64 2) (Same w)) := by
  go_enter Try.func13, Try.ntmps13
  go_wp2
  go_ret
  exact ⟨rfl, rfl⟩
set_option maxHeartbeats 800000 in
theorem use_any (b : Nat) (D : Lks) (F : Heaplet) (p : Int) (x : Bool) (w : World) (h : LatchIs b D F w) :
    Calls Try.prog 13 #[.pointer (some ⟨b, 0, none⟩), .int .i64 p, .bool x] w (Ret (.int .i64 (useM D p x).1) (LatchIs b (useM D p x).2 F)) := by
  have hh := has_any b D F p x w h
  unfold useM
  cases hx : hasM D p x with
  | false =>
    rw [hx] at hh
    have Hh := Lib.hid hh
    have H := Lib.hid h
    clear hh h hx
    show Calls _ _ _ _ (Ret (.int .i64 12) (LatchIs b D F))
    go_enter Try.func13, Try.ntmps13
    go_wp2_with fail
    refine (Hh.out).mono ?_
    rintro e w1 ⟨rfl, rfl⟩
    go_wp2_with fail
    go_ret
    exact ⟨rfl, H.out⟩
  | true =>
    rw [hx] at hh
    obtain ⟨m, L, rfl, hp⟩ := h
    have hf := lfind_any b m L F p w hp
    unfold hasM at hx
    rw [getL_bare] at hx ⊢
    cases hk : getL p L with
    | none => rw [hk] at hx; cases hx
    | some v =>
      obtain ⟨g, k⟩ := v
      obtain ⟨_, c1, _, u1⟩ := hp.lock hk
      rw [hk] at hf
      have f1 := u1 1
      have hs1 := hp.setLock (k' := { k with used := max k.used 1 }) hk 1 (kI (max k.used 1)) rfl
      obtain ⟨_, _, _, u2⟩ := hs1.lock (p := p) (g := g) (k := { k with used := max k.used 1 }) (by rw [getL_putL, if_pos rfl])
      have f2 := u2 1
      have c1' : (w.setCell ⟨g, 1, none⟩ (kI (max k.used 1))).cell? ⟨g, 1, none⟩ = some (kI (max k.used 1)) := (hs1.lock (p := p) (g := g) (k := { k with used := max k.used 1 }) (by rw [getL_putL, if_pos rfl])).2.1
      have hs2 := hs1.setLock (k' := { k with used := 2 }) (p := p) (g := g) (k := { k with used := max k.used 1 }) (by rw [getL_putL, if_pos rfl]) 1 (kI 2) rfl
      have ep : ∀ (a c : Nat × Lk) (L : LL), putL p a (putL p c L) = putL p a L := by
        intro a c L
        induction L with
        | nil => simp [putL]
        | cons q r ih =>
          by_cases e : q.1 = p
          · simp [putL, e]
          · simp [putL, e, ih]
      rw [ep] at hs2
      have r1 : LatchIs b (putL p (useK k false) (bareL L)) F _ := LatchIs.of hs1 (by rw [bare_put]; rfl)
      have r2 : LatchIs b (putL p (useK k true) (bareL L)) F _ := LatchIs.of hs2 (by rw [bare_put]; rfl)
      have Hf := Lib.hid hf
      have Hh := Lib.hid hh
      have R1 := Lib.hid r1
      have R2 := Lib.hid r2
      clear hf hh r1 r2 hs1 hs2 hp hk hx u1 u2 ep
      show Calls _ _ _ _ (Ret (.int .i64 0) (LatchIs b (putL p (useK k x) (bareL L)) F))
      obtain ⟨kx, ku, kw⟩ := k
      simp only at c1 c1' f2 R1 R2 ⊢
      go_enter Try.func13, Try.ntmps13
      go_wp2_with fail
      refine (Hh.out).mono ?_
      rintro e w1 ⟨rfl, rfl⟩
      go_wp2_with fail
      refine (Hf.out).mono ?_
      rintro e w1 ⟨rfl, rfl⟩
      unfold foundV lkp
      cases x
      · go_wp2_with fail
        go_ret
        exact ⟨rfl, R1.out⟩
      · go_wp2_with fail
        go_ret
        exact ⟨rfl, R2.out⟩
end Go.Proofs.Ytcndmiepbodpnaa
