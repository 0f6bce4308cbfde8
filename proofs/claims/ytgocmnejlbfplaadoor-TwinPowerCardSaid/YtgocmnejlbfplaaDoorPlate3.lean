/- The plate's writing, and making safe. Conditions: none. -/
import Derived.Test.YtgocmnejlbfplaaDoorPlate2
import Derived.Deep.QuietTactic
import Derived.BigQuiet
import Derived.StillTailTactics
namespace Go.Proofs.YtgocmnejlbfplaaDoor
open Go Go.MapKept Go.RowKit Go.Proofs

theorem infoW : (Tryd.prog.info? 76).map (fun i => (i.zero, i.size, i.bytes)) = some (some (.agg #[.int .i64 0, .string ⟨#[]⟩]), 2, 24) := by kernel_rfl
theorem flatQ_len (q : List (Int × ByteArray)) : (flatQ q).length = q.length * 2 := by
  induction q with
  | nil => rfl
  | cons x r ih => simp [flatQ] at ih ⊢; omega
theorem flatQ_snoc (q : List (Int × ByteArray)) (x : Int × ByteArray) : flatQ (q ++ [x]) = flatQ q ++ [kI x.1, kS x.2] := by simp [flatQ]
/-- A write waits. -/
def pushM (M : PM) (n : Int) (s : ByteArray) : PM := { M with queue := M.queue ++ [(n, s)] }
theorem PlateIs.push {b : Nat} {M : PM} {F : Heaplet} {w : World} {x : Nat} {n : Int} {s : ByteArray} (h : PlateIs b M (.blk x (.cells #[kI n, kS s] 76) :: F) w) (hq : M.queue.length + 1 ≤ 1000000) :
    ∃ qv v' w', w.cell? ⟨b, 2, none⟩ = some qv ∧ (∀ ty, (Builtin.append_ #[62, 62] ty #[qv, .slice (some ⟨x, 0, none⟩) 1 1]).run Tryd.prog w = .ok v' w') ∧
      (∃ u, w'.cell? ⟨b, 2, none⟩ = some u) ∧ w'.frozen? ⟨b, 2, none⟩ = false ∧ PlateIs b (pushM M n s) F (w'.setCell ⟨b, 2, none⟩ v') ∧ (∃ g cap, v' = .slice (some ⟨g, 0, none⟩) (M.queue.length + 1) cap) := by
  obtain ⟨m, es, clk, qv, qh, h1, h2, hs⟩ := h
  obtain ⟨i0, hi, hz, hsize, hby⟩ := info_parts infoW
  have s1 : Sat w (qh ++ (.blk b (plateObj M m qv) :: .blk m (.map es clk) :: .blk x (.cells #[kI n, kS s] 76) :: F)) := by
    refine hs.perm ?_
    have := List.perm_append_comm_assoc (l₁ := [HItem.blk b (plateObj M m qv), .blk m (.map es clk)]) (l₂ := qh) (l₃ := .blk x (.cells #[kI n, kS s] 76) :: F)
    exact this
  have hx : w.heap[x]? = some (.cells #[kI n, kS s] 76) := s1.get (List.mem_append_right _ (.tail _ (.tail _ (.head _))))
  have hnews : ∀ j u, ([kI n, kS s] : List Value)[j]? = some u → w.cell? ((⟨x, 0, none⟩ : Addr).add j) = some u := by
    intro j u hu
    have hadd : (⟨x, 0, none⟩ : Addr).add j = ⟨x, j, none⟩ := by unfold Addr.add; split <;> simp_all
    rw [hadd, cell_of hx]
    match j, hu with
    | 0, hu => simpa using hu
    | 1, hu => simpa using hu
    | j + 2, hu => simp at hu
  have happ := fun ty => sat_append (P := Tryd.prog) (ty := ty) Tryd.underlying62 hi hz hsize hby rfl (by decide) h2 s1 ⟨x, 0, none⟩ 1 1 [kI n, kS s] rfl hnews (by simp [Value.oneCell']) (by decide) (by unfold maxLen; omega) (by omega)
  obtain ⟨v', w', h', hr, hsl, hsat⟩ := happ 0
  have hsat2 : Sat w' (.blk b (plateObj M m qv) :: .blk m (.map es clk) :: (h' ++ F)) := by
    have s2 := hsat.perm (List.perm_append_comm_assoc (l₁ := h') (l₂ := [HItem.blk b (plateObj M m qv), .blk m (.map es clk), .blk x (.cells #[kI n, kS s] 76)]) (l₃ := F))
    exact s2.rot3.tail
  refine ⟨qv, v', w', ?_, fun ty => hr, ⟨qv, ?_⟩, ?_, ⟨m, es, clk, v', h', h1, ?_, ?_⟩, ?_⟩
  · rw [cell_of hs.h0]; rfl
  · rw [cell_of hsat2.h0]; rfl
  · exact unfrozen_of hsat2.h0 2
  · simp only [pushM]
    rw [flatQ_snoc, List.length_append]
    exact hsl
  · exact hsat2.setCell (i := 2) v'
  · rcases hsl.2 with ⟨_, hn, _⟩ | ⟨g, cap, cur, rfl, _⟩
    · omega
    · exact ⟨_, _, rfl⟩
def writeM (M : PM) (n : Int) (s : ByteArray) : Int × PM :=
  if readyM M n ≠ 0 then (readyM M n, M) else if s.size ≠ 256 then (1, M) else actM (pushM M n s)
theorem write_nil (n : Int) (s : ByteArray) (w : World) : Calls Tryd.prog 38 #[.pointer none, .int .i64 n, .string s] w (Ret (.int .i64 2) (Same w)) := by
  have Hr := Lib.hid (ready_nil n w)
  go_enter Tryd.func38, Tryd.ntmps38
  go_wp2_with (go_at_call 32; refine (Hr.out).mono ?_; rintro e w' ⟨rfl, rfl⟩)
  go_ret
  exact ⟨rfl, rfl⟩
set_option maxRecDepth 100000 in
set_option maxHeartbeats 800000 in
theorem write_any (b : Nat) (M : PM) (F : Heaplet) (n : Int) (s : ByteArray) (w : World) (h : PlateIs b M F w) (hq : M.queue.length + 1 ≤ 1000000) (h0 : 0 ≤ M.life ∧ M.life < 9223372036854775807) (h1 : 0 ≤ M.acts ∧ M.acts < 9223372036854775807) (h2 : M.armed ≤ 9223372036854775807) :
    Calls Tryd.prog 38 #[.pointer (some ⟨b, 0, none⟩), .int .i64 n, .string s] w (Ret (.int .i64 (writeM M n s).1) (PlateIs b (writeM M n s).2 F)) := by
  have hr := ready_any b M F n w h
  unfold writeM
  by_cases hz : readyM M n ≠ 0
  · rw [if_pos hz]
    have Hr := Lib.hid hr
    have H := Lib.hid h
    have hb : (readyM M n == 0) = false := by simpa using hz
    have hb2 : (readyM M n != 0) = true := by rw [bne, hb]; rfl
    clear hz h hr h0 h1 h2
    generalize readyM M n = rm at *
    go_enter Tryd.func38, Tryd.ntmps38
    go_wp2_with (go_at_call 32; refine (Hr.out).mono ?_; rintro e w' ⟨rfl, rfl⟩)
    go_ret
    exact ⟨rfl, H.out⟩
  · rw [if_neg hz]
    have hz0 : readyM M n = 0 := by simpa using hz
    rw [hz0] at hr
    have Hr := Lib.hid hr
    by_cases hsz : s.size ≠ 256
    · rw [if_pos hsz]
      have H := Lib.hid h
      have hb : ((s.size : Int) == 256) = false := by rw [beq_eq_false_iff_ne]; omega
      have hb2 : ((s.size : Int) != 256) = true := by rw [bne, hb]; rfl
      clear hz h hr h0 h1 h2 hz0 hsz
      go_enter Tryd.func38, Tryd.ntmps38
      go_wp2_with (go_at_call 32; refine (Hr.out).mono ?_; rintro e w' ⟨rfl, rfl⟩)
      go_ret
      exact ⟨rfl, H.out⟩
    · rw [if_neg hsz]
      have hsz0 : s.size = 256 := by simpa using hsz
      have hb : ((s.size : Int) == 256) = true := by rw [beq_iff_eq]; omega
      have hb2 : ((s.size : Int) != 256) = false := by rw [bne, hb]; rfl
      have hnew := h.new (.cells #[kI n, kS s] 76)
      obtain ⟨qv, v', w', c2, hap, ⟨u, hu⟩, hfz, hfin, ⟨g, cap, rfl⟩⟩ := hnew.push hq
      have c2' : w.cell? ⟨b, 2, none⟩ = some qv := by
        have hlt : b < w.heap.size := by
          obtain ⟨m, es, clk, qv, qh, _, _, hs⟩ := h
          exact (Array.getElem?_eq_some_iff.1 hs.h0).1
        rw [← c2]
        exact (World.cell?_alloc_old w _ ⟨b, 2, none⟩ (Nat.ne_of_lt hlt)).symm
      have Hact := Lib.hid (act_any b _ F _ hfin h0 h1 h2)
      clear hz h hr h0 h1 h2 hz0 hsz hsz0 hnew hfin c2
      go_enter Tryd.func38, Tryd.ntmps38
      go_wp2_with fail
      refine (Hr.out).mono ?_
      rintro e w1 ⟨rfl, rfl⟩
      have Hap := Lib.hid hap
      generalize M.queue.length + 1 = ql at *
      clear hap
      go_wp2_with (at_builtin; refine wpList_append_run rfl _ _ _ _ rfl _ _ _ _ rfl rfl Hap.out ?_)
      refine (Hact.out).mono ?_
      rintro e w2 ⟨rfl, h3⟩
      have Fin := Lib.hid h3
      clear h3
      go_wp2_with fail
      go_ret
      exact ⟨rfl, Fin.out⟩
end Go.Proofs.YtgocmnejlbfplaaDoor
