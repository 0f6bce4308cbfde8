/- The plate's power, its acts, what it tells of itself. Conditions: none. -/
import Derived.Test.YtgocmnejlbfplaaDoorPlate
namespace Go.Proofs.YtgocmnejlbfplaaDoor
open Go Go.MapKept Go.RowKit Go.Proofs

def offM (M : PM) : PM := if M.down then M else { M with down := true, armed := 0, life := M.life + 1 }
theorem off_any (b : Nat) (M : PM) (F : Heaplet) (w : World) (h : PlateIs b M F w) (h0 : 0 ≤ M.life) (hl : M.life < 9223372036854775807) :
    Calls Tryd.prog 17 #[.pointer (some ⟨b, 0, none⟩)] w (Ret (.tuple #[]) (PlateIs b (offM M) F)) := by
  obtain ⟨m, qv, c0, c1, c2, c3, c4, c5, c6, u⟩ := h.cells
  unfold offM
  cases hd : M.down with
  | true =>
    rw [hd] at c3
    have H := Lib.hid h
    clear hd h u c0 c1 c2 c4 c5 c6
    go_enter Tryd.func17, Tryd.ntmps17
    go_wp2
    refine bodyPost_end (results_none rfl _ _ _) rfl ?_
    exact ⟨rfl, H.out⟩
  | false =>
    rw [hd] at c3
    have h1 := h.setField (M' := { M with down := true }) 3 (.bool true) rfl rfl (fun _ _ => by rw [hd]; rfl)
    have h2 := h1.setField (M' := { M with down := true, armed := 0 }) 5 (kI 0) rfl rfl (fun _ _ => rfl)
    have h3 := h2.setField (M' := { M with down := true, armed := 0, life := M.life + 1 }) 6 (kI (M.life + 1)) rfl rfl (fun _ _ => rfl)
    obtain ⟨_, _, _, _, _, _, _, _, d6, v⟩ := h2.cells
    have x3 := u 3
    obtain ⟨_, _, _, _, _, _, _, d5, _, v1⟩ := h1.cells
    have x5 := v1 5
    have x6 := v 6
    have Fin := Lib.hid h3
    simp only at d6 d5
    clear hd h h1 h2 h3 u v v1 c0 c1 c2 c4
    generalize M.life = l at *
    go_enter Tryd.func17, Tryd.ntmps17
    go_wp2
    refine bodyPost_end (results_none rfl _ _ _) rfl ?_
    exact ⟨rfl, Fin.out⟩
theorem off_nil (w : World) : Calls Tryd.prog 17 #[.pointer none] w (Ret (.tuple #[]) (Same w)) := by
  go_enter Tryd.func17, Tryd.ntmps17
  go_wp2
  refine bodyPost_end (results_none rfl _ _ _) rfl ?_
  exact ⟨rfl, rfl⟩
def armM (M : PM) (n : Int) : PM := { M with armed := max n 0 }
theorem arm_any (b : Nat) (M : PM) (F : Heaplet) (n : Int) (w : World) (h : PlateIs b M F w) :
    Calls Tryd.prog 14 #[.pointer (some ⟨b, 0, none⟩), .int .i64 n] w (Ret (.tuple #[]) (PlateIs b (armM M n) F)) := by
  obtain ⟨m, qv, c0, c1, c2, c3, c4, c5, c6, u⟩ := h.cells
  have h2 := h.setField (M' := armM M n) 5 (kI (max n 0)) rfl rfl (fun _ _ => rfl)
  have x5 := u 5
  have Fin := Lib.hid h2
  clear h h2 u c0 c1 c2 c3 c4 c6
  by_cases hn : n < 0
  · have e : max n 0 = 0 := by omega
    rw [e] at Fin
    clear e
    go_enter Tryd.func14, Tryd.ntmps14
    go_wp2
    refine bodyPost_end (results_none rfl _ _ _) rfl ?_
    exact ⟨rfl, Fin.out⟩
  · have e : max n 0 = n := by omega
    rw [e] at Fin
    clear e
    go_enter Tryd.func14, Tryd.ntmps14
    go_wp2
    refine bodyPost_end (results_none rfl _ _ _) rfl ?_
    exact ⟨rfl, Fin.out⟩
theorem down_any (b : Nat) (M : PM) (F : Heaplet) (w : World) (h : PlateIs b M F w) :
    Calls Tryd.prog 20 #[.pointer (some ⟨b, 0, none⟩)] w (Ret (.bool M.down) (Same w)) := by
  obtain ⟨m, qv, c0, c1, c2, c3, c4, c5, c6, u⟩ := h.cells
  clear h u
  generalize M.down = dn at *
  go_enter Tryd.func20, Tryd.ntmps20
  go_wp2
  go_ret
  exact ⟨rfl, rfl⟩
theorem down_nil (w : World) : Calls Tryd.prog 20 #[.pointer none] w (Ret (.bool true) (Same w)) := by
  go_enter Tryd.func20, Tryd.ntmps20
  go_wp2
  go_ret
  exact ⟨rfl, rfl⟩
theorem sectors_any (b : Nat) (M : PM) (F : Heaplet) (w : World) (h : PlateIs b M F w) :
    Calls Tryd.prog 19 #[.pointer (some ⟨b, 0, none⟩)] w (Ret (.int .i64 M.count) (Same w)) := by
  obtain ⟨m, qv, c0, c1, c2, c3, c4, c5, c6, u⟩ := h.cells
  clear h u

  go_enter Tryd.func19, Tryd.ntmps19
  go_wp2
  go_ret
  exact ⟨rfl, rfl⟩
theorem sectors_nil (w : World) : Calls Tryd.prog 19 #[.pointer none] w (Ret (.int .i64 0) (Same w)) := by
  go_enter Tryd.func19, Tryd.ntmps19
  go_wp2
  go_ret
  exact ⟨rfl, rfl⟩
theorem acts_any (b : Nat) (M : PM) (F : Heaplet) (w : World) (h : PlateIs b M F w) :
    Calls Tryd.prog 11 #[.pointer (some ⟨b, 0, none⟩)] w (Ret (.int .i64 M.acts) (Same w)) := by
  obtain ⟨m, qv, c0, c1, c2, c3, c4, c5, c6, u⟩ := h.cells
  clear h u

  go_enter Tryd.func11, Tryd.ntmps11
  go_wp2
  go_ret
  exact ⟨rfl, rfl⟩
theorem acts_nil (w : World) : Calls Tryd.prog 11 #[.pointer none] w (Ret (.int .i64 0) (Same w)) := by
  go_enter Tryd.func11, Tryd.ntmps11
  go_wp2
  go_ret
  exact ⟨rfl, rfl⟩
theorem life_any (b : Nat) (M : PM) (F : Heaplet) (w : World) (h : PlateIs b M F w) :
    Calls Tryd.prog 21 #[.pointer (some ⟨b, 0, none⟩)] w (Ret (.int .i64 M.life) (Same w)) := by
  obtain ⟨m, qv, c0, c1, c2, c3, c4, c5, c6, u⟩ := h.cells
  clear h u

  go_enter Tryd.func21, Tryd.ntmps21
  go_wp2
  go_ret
  exact ⟨rfl, rfl⟩
theorem life_nil (w : World) : Calls Tryd.prog 21 #[.pointer none] w (Ret (.int .i64 0) (Same w)) := by
  go_enter Tryd.func21, Tryd.ntmps21
  go_wp2
  go_ret
  exact ⟨rfl, rfl⟩

def actM (M : PM) : Int × PM :=
  if 0 < M.armed then (if M.armed = 1 then (10, offM { M with acts := M.acts + 1, armed := 0 }) else (0, { M with acts := M.acts + 1, armed := M.armed - 1 })) else (0, { M with acts := M.acts + 1 })
set_option maxHeartbeats 400000 in
theorem act_any (b : Nat) (M : PM) (F : Heaplet) (w : World) (h : PlateIs b M F w) (h0 : 0 ≤ M.life ∧ M.life < 9223372036854775807) (h1 : 0 ≤ M.acts ∧ M.acts < 9223372036854775807) (h2 : M.armed ≤ 9223372036854775807) :
    Calls Tryd.prog 40 #[.pointer (some ⟨b, 0, none⟩)] w (Ret (.int .i64 (actM M).1) (PlateIs b (actM M).2 F)) := by
  obtain ⟨m, qv, c0, c1, c2, c3, c4, c5, c6, u⟩ := h.cells
  have g1 := h.setField (M' := { M with acts := M.acts + 1 }) 4 (kI (M.acts + 1)) rfl rfl (fun _ _ => rfl)
  obtain ⟨_, _, _, _, _, _, _, d5, _, v⟩ := g1.cells
  have x4 := u 4
  have x5 := v 5
  simp only at d5
  obtain ⟨a0, a1⟩ := h1
  unfold actM
  by_cases hp : 0 < M.armed
  · rw [if_pos hp]
    have g2 := g1.setField (M' := { M with acts := M.acts + 1, armed := M.armed - 1 }) 5 (kI (M.armed - 1)) rfl rfl (fun _ _ => rfl)
    obtain ⟨_, _, _, _, _, _, _, e5, _, _⟩ := g2.cells
    simp only at e5
    by_cases h1' : M.armed = 1
    · rw [if_pos h1']
      rw [h1'] at g2 e5 c5 d5
      rw [show (1 : Int) - 1 = 0 from rfl] at g2 e5
      have Hoff := Lib.hid (off_any b _ F _ g2 h0.1 h0.2)
      clear h g1 g2 u v h1' hp c0 c1 c2 c3 c6 h0 h2
      generalize M.acts = ac at *
      go_enter Tryd.func40, Tryd.ntmps40
      go_wp2_with fail
      refine (Hoff.out).mono ?_
      rintro e w3 ⟨rfl, h3⟩
      have Fin := Lib.hid h3
      clear h3
      go_wp2_with fail
      go_ret
      exact ⟨rfl, Fin.out⟩
    · rw [if_neg h1']
      have Fin := Lib.hid g2
      have hz : (M.armed - 1 == 0) = false := by rw [beq_eq_false_iff_ne]; omega
      clear h g1 g2 u v h1' c0 c1 c2 c3 c6 h0
      generalize M.acts = ac at *
      generalize M.armed = ar at *
      go_enter Tryd.func40, Tryd.ntmps40
      go_wp2_with fail
      go_ret
      exact ⟨rfl, Fin.out⟩
  · rw [if_neg hp]
    have Fin := Lib.hid g1
    clear h g1 u v c0 c1 c2 c3 c6 h0
    generalize M.acts = ac at *
    generalize M.armed = ar at *
    go_enter Tryd.func40, Tryd.ntmps40
    go_wp2_with fail
    go_ret
    exact ⟨rfl, Fin.out⟩

def newM (n : Int) : PM := ⟨min (max n 1) 16384, [], [], false, 0, 0, 0⟩
theorem plate_new (F : Heaplet) (n : Int) (w : World) (hs : Sat w F) :
    Calls Tryd.prog 7 #[.int .i64 n] w fun e w' => ∃ b, e = .returned (.pointer (some ⟨b, 0, none⟩)) ∧ PlateIs b (newM n) F w' := by
  have hm : MapOk (.int .i64) kI kS #[] 0 ([] : List (Int × ByteArray)) := mapOk_new kI_key kI_inj
  have hmm := @run_makeMap Tryd.prog
  have fin : ∀ c : Int, c = min (max n 1) 16384 → PlateIs (w.heap.size + 1) (newM n) F ((w.alloc (.map #[] 0)).alloc (.cells #[.int .i64 c, .map (some w.heap.size), .slice none 0 0, .bool false, .int .i64 0, .int .i64 0, .int .i64 0] 64)) := by
    rintro c rfl
    have s1 := (hs.new (.map #[] 0)).new (.cells #[.int .i64 (min (max n 1) 16384), .map (some w.heap.size), .slice none 0 0, .bool false, .int .i64 0, .int .i64 0, .int .i64 0] 64)
    rw [World.size_alloc] at s1
    exact ⟨w.heap.size, #[], 0, .slice none 0 0, [], hm, SliceIs.nil _ _, s1⟩
  have Fin := Lib.hid fin
  clear fin hm hs
  by_cases ha : n < 1
  · go_enter Tryd.func7, Tryd.ntmps7
    go_wp2_with fail
    go_ret
    exact ⟨_, rfl, Fin.out 1 (by omega)⟩
  by_cases hb : 16384 < n
  · go_enter Tryd.func7, Tryd.ntmps7
    go_wp2_with fail
    go_ret
    exact ⟨_, rfl, Fin.out 16384 (by omega)⟩
  go_enter Tryd.func7, Tryd.ntmps7
  go_wp2_with fail
  go_ret
  exact ⟨_, rfl, Fin.out n (by omega)⟩
end Go.Proofs.YtgocmnejlbfplaaDoor
