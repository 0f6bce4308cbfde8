/- The plate's reading, whole; a sector of one byte. Conditions: none. -/
import Derived.Test.YtgocmnejlbfplaaDoorPlate7
namespace Go.Proofs.YtgocmnejlbfplaaDoor
open Go Go.MapKept Go.RowKit Go.Proofs

theorem PlateIs.permF {b : Nat} {M : PM} {F F' : Heaplet} {w : World} (h : PlateIs b M F w) (p : F.Perm F') : PlateIs b M F' w := by
  obtain ⟨m, es, clk, qv, qh, h1, h2, hs⟩ := h
  exact ⟨m, es, clk, qv, qh, h1, h2, hs.perm (((p.append_left qh).cons _).cons _)⟩
theorem PlateIs.setF {b g i : Nat} {M : PM} {F : Heaplet} {w : World} {c : Array Value} {t : TypeId} {z : Nat × Nat} (h : PlateIs b M (.blk g (.cells c t z) :: F) w) (v : Value) :
    PlateIs b M (.blk g (.cells (c.setIfInBounds i v) t z) :: F) (w.setCell ⟨g, i, none⟩ v) := by
  obtain ⟨m, es, clk, qv, qh, h1, h2, hs⟩ := h
  have s1 := (hs.perm (List.perm_middle (l₁ := HItem.blk b _ :: .blk m _ :: qh))).setCell (i := i) v
  exact ⟨m, es, clk, qv, qh, h1, h2, s1.perm (List.perm_middle (l₁ := HItem.blk b _ :: .blk m _ :: qh)).symm⟩
set_option maxRecDepth 100000 in
set_option maxHeartbeats 800000 in
theorem read_bad (b : Nat) (M : PM) (F : Heaplet) (n : Int) (w : World) (h : PlateIs b M F w) (hz : readyM M n ≠ 0) :
    Calls Tryd.prog 18 #[.pointer (some ⟨b, 0, none⟩), .int .i64 n] w (Ret (.tuple #[.string (readM M n).1, .int .i64 (readM M n).2]) (PlateIs b M F)) := by
  have h1 := ((h.new (.cells #[kI n] 3)).new (.cells #[.string ⟨#[]⟩] 9)).new (.cells #[.int .i64 0] 37)
  simp only [World.size_alloc] at h1
  have hr := ready_any b M _ n _ h1
  have e : readM M n = (⟨#[]⟩, readyM M n) := by
    unfold readM
    simp [hz]
  rw [e]
  have Hr := Lib.hid hr
  have hb : (readyM M n == 0) = false := by simpa using hz
  have hb2 : (readyM M n != 0) = true := by rw [bne, hb]; rfl
  have f1 := h1.frame
  have H1 := Lib.hid h1
  clear h h1 hr hz e
  generalize readyM M n = rm at *
  go_enter Tryd.func18, Tryd.ntmps18
  go_wp2_with fail
  refine (Hr.out).mono ?_
  rintro e w1 ⟨rfl, rfl⟩
  generalize hW1 : World.alloc _ (.cells #[.int .i64 0] 37) = W1 at *
  generalize w.heap.size = k at *
  have r0 : W1.cell? ⟨k + 1, 0, none⟩ = some (kS ⟨#[]⟩) := by rw [cell_of f1.h1]; rfl
  have v0 : W1.frozen? ⟨k + 1, 0, none⟩ = false := unfrozen_of f1.h1 0
  have e0 : W1.cell? ⟨k + 1 + 1, 0, none⟩ = some (kI 0) := by rw [cell_of f1.h0]; rfl
  have w0 : W1.frozen? ⟨k + 1 + 1, 0, none⟩ = false := unfrozen_of f1.h0 0
  have hfin : PlateIs b M F ((W1.setCell ⟨k + 1, 0, none⟩ (kS ⟨#[]⟩)).setCell ⟨k + 1 + 1, 0, none⟩ (kI rm)) := ((((H1.out.permF (List.Perm.swap _ _ _)).setF (i := 0) (kS ⟨#[]⟩)).permF (List.Perm.swap _ _ _)).setF (i := 0) (kI rm)).unF.unF.unF
  have Fin := Lib.hid hfin
  clear hW1 f1 hfin
  go_wp2_with fail
  refine bodyPost_ret (v := .tuple #[.string ⟨#[]⟩, .int .i64 rm]) ?_ rfl ⟨rfl, Fin.out⟩
  simp [results, Tryd.f18, go_sem, r0, e0]
set_option maxRecDepth 100000 in
set_option maxHeartbeats 800000 in
theorem read_nil (n : Int) (w : World) : Calls Tryd.prog 18 #[.pointer none, .int .i64 n] w (fun e w' => e = .returned (.tuple #[.string ⟨#[]⟩, .int .i64 2]) ∧ Below w.heap.size w w') := by
  have Hr := fun w => Lib.hid (ready_nil n w)
  go_enter Tryd.func18, Tryd.ntmps18
  go_wp2_with fail
  refine ((Hr _).out).mono ?_
  rintro e w1 ⟨rfl, rfl⟩
  go_wp2_with fail
  refine bodyPost_ret (v := .tuple #[.string ⟨#[]⟩, .int .i64 2]) ?_ rfl ⟨rfl, ?_⟩
  · simp [results, Tryd.f18, go_sem]
  · exact (((Below.refl _ w).alloc (Nat.le_refl _) _).alloc (by simp) _).alloc (by simp; omega) _
theorem PlateIs.mono {b : Nat} {M : PM} {F : Heaplet} {w w' : World} (h : PlateIs b M F w) (hb : Below w.heap.size w w') : PlateIs b M F w' := by
  obtain ⟨m, es, clk, qv, qh, h1, h2, hs⟩ := h
  exact ⟨m, es, clk, qv, qh, h1, h2, hs.mono hb⟩
theorem read_any (b : Nat) (M : PM) (F : Heaplet) (n : Int) (w : World) (h : PlateIs b M F w) (hq : M.queue.length ≤ 1000000) :
    Calls Tryd.prog 18 #[.pointer (some ⟨b, 0, none⟩), .int .i64 n] w (Ret (.tuple #[.string (readM M n).1, .int .i64 (readM M n).2]) (PlateIs b M F)) := by
  by_cases hz : readyM M n = 0
  · exact read_wide b M F n w h hz hq
  · exact read_bad b M F n w h hz
end Go.Proofs.YtgocmnejlbfplaaDoor
