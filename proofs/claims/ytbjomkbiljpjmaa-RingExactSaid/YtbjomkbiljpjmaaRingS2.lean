/- The ring's methods that free a frame and put a thing (made by ring.gen.py out of ring2.body.txt). Conditions: none. -/
import Derived.Test.YtbjomkbiljpjmaaRingS
import Derived.Handy
namespace Go.Proofs.Ytbjomkbiljpjmaa.RS
open Go Go.MapKept Go.RowKit Go.Proofs Go.Proofs.Ytbjomkbiljpjmaa

set_option maxRecDepth 100000 in
set_option maxHeartbeats 1600000 in
theorem free_any (rb : Nat) (L : Lst X) (hand : Nat) (F : Heaplet) (w : World) (h : RingP rb (ptrs L) L hand F w) (at_ : Nat) (f : Fr X) (fr' : Frs X) (hand' : Nat) (hf : freeM (2 * L.length + 1) (bare L) hand = some (at_, f, fr', hand')) :
    Calls Try.prog 56 #[.pointer (some ⟨rb, 0, none⟩)] w (Ret (.tuple #[.int .i64 at_, .agg #[.int .i64 f.key, kS f.val, .bool true], .bool true]) (FreeIs rb at_ fr' hand' F)) := by
  have h64 := h.1.2.2.1
  have hI := h.new (.cells #[.int .i64 0, kS ⟨#[]⟩, .bool false] 55)
  have hn : ∃ fb : Nat, w.cell? ⟨rb, 0, none⟩ = some (.slice (some ⟨fb, 0, none⟩) L.length L.length) := by
    obtain ⟨fb, m, es, clk, D, hm, hpl, hmb, c0, c1, c2, cf⟩ := h.open
    exact ⟨fb, c0⟩
  obtain ⟨fb, c0⟩ := hn
  have hwz : (⟨rb, 0, none⟩ : Addr).block < w.heap.size := World.block_lt_of_cell? w _ c0
  have Hf := Lib.hid hf
  have HI := Lib.hid hI
  clear h hf hI
  obtain ⟨N, hN⟩ : ∃ N, N = L.length := ⟨_, rfl⟩
  rw [← hN] at h64 c0
  have HN := Lib.hid hN
  clear hN
  go_enter Try.func56, Try.ntmps56
  go_wp2_with fail
  generalize w.heap.size = ob at *
  go_loopw [14] (fun c wr => ∃ (k : Nat) (L' : Lst X) (h' : Nat), k ≤ 2 * N + 1 ∧ c = .int .i64 k ∧ L'.length = N ∧ freeM (2 * N + 1 - k) (bare L') h' = some (at_, f, fr', hand') ∧ RingP rb (ptrs L') L' h' (.blk ob (.cells #[.int .i64 0, kS ⟨#[]⟩, .bool false] 55) :: F) wr) (fun c _ => 2 * N + 1 - (intOf c).toNat)
  case atStart => exact ⟨0, L, hand, by omega, rfl, HN.out.symm, by rw [HN.out]; exact Hf.out, HI.out⟩
  case round =>
    obtain ⟨k, L', h', hk, rfl, hl', hfm, hR⟩ := hrel
    by_cases hlt : k < 2 * N + 1
    · rw [show 2 * N + 1 - k = (2 * N - k) + 1 from by omega] at hfm
      obtain ⟨g, hg⟩ := freeM_head hfm
      rw [freeM_succ _ _ _ _ hg] at hfm
      obtain ⟨b, hb⟩ := bare_inv hg
      have hh := hR.1.2.2.2
      have hbl : (bare L').length = N := by simp [bare, hl']
      rw [hl'] at hh
      have hmod : (h' + 1) % N < L'.length := by rw [hl']; exact Nat.mod_lt _ (by omega)
      have hmodc : ((h' : Int) + 1) % (N : Int) = ((h' + 1) % N : Nat) := by simp
      have hR1 := hR.on hmod hmodc
      obtain ⟨fb', m', es', clk', D', _, _, _, c0', _, c2', cf'⟩ := hR.open
      rw [hl'] at c0'
      have ch := (cf' h').trans (ptrs_get hb)
      simp only [ptr] at ch
      have urb : wr.frozen? ⟨rb, 2, none⟩ = false := hR.unfrozen 2
      have cb := hR.frameCell hb
      have cb0 : wr.cell? ⟨b, 0, none⟩ = some (kI g.key) := by rw [cell_of cb]; rfl
      have cb2 : wr.cell? ⟨b, 2, none⟩ = some (kI g.pins) := by rw [cell_of cb]; rfl
      have cb3 : wr.cell? ⟨b, 3, none⟩ = some (.bool g.fresh) := by rw [cell_of cb]; rfl
      have HR := Lib.hid hR
      have HR1 := Lib.hid hR1
      have HB := Lib.hid hb
      have HL := Lib.hid hl'
      have hh0 : (0 : Int) ≤ (h' : Int) := by omega
      have hhN : (h' : Int) < (N : Int) := by omega
      clear hR hR1 hb hl' cf' cb hg hmodc
      obtain ⟨key, val, pins, fresh⟩ := g
      have cb1 : wr.cell? ⟨b, 1, none⟩ = some (kS val) := by rw [cell_of (HR.out.frameCell HB.out)]; rfl
      simp only at cb0 cb2 cb3
      simp only [hbl] at hfm
      have e14 : k < 2 * N + 1 := hlt
      by_cases hs : (pins == 0 && !fresh) = true
      · rw [if_pos hs] at hfm
        simp only [Option.some.injEq, Prod.mk.injEq] at hfm
        obtain ⟨rfl, rfl, rfl, rfl⟩ := hfm
        simp only [Bool.and_eq_true, Bool.not_eq_true'] at hs
        obtain ⟨hp0, rfl⟩ := hs
        clear hbl
        go_upto_region 7 with (fail)
        generalize wr.setCell ⟨rb, 2, none⟩ (.int .i64 (((h' : Int) + 1) % (N : Int))) = w1 at *
        obtain ⟨m, w2, c1m, hdel, hR3, hb2⟩ := (HR1.out.drew).freed HB.out
        have cb0' : w1.drew.cell? ⟨b, 0, none⟩ = some (kI key) := by rw [cell_of ((HR1.out.drew).frameCell HB.out)]; rfl
        simp only at hdel
        have HR3 := Lib.hid hR3
        have HB2 := Lib.hid hb2
        clear hR3 hb2
        go_still_tail 8, (by kernel_rfl)
        change wpList _ _ _ _ _ (World.drew _)
        generalize World.drew w1 = wd at *
        go_upto_region 8 with (fail)
        have db0 : w2.cell? ⟨b, 0, none⟩ = some (kI key) := by rw [cell_of HB2.out]; rfl
        have db1 : w2.cell? ⟨b, 1, none⟩ = some (kS val) := by rw [cell_of HB2.out]; rfl
        have hof := HR3.out.frame.h0
        have o0 : w2.cell? ⟨ob, 0, none⟩ = some (kI 0) := by rw [cell_of hof]; rfl
        have o1 : w2.cell? ⟨ob, 1, none⟩ = some (kS ⟨#[]⟩) := by rw [cell_of hof]; rfl
        have o2 : w2.cell? ⟨ob, 2, none⟩ = some (.bool false) := by rw [cell_of hof]; rfl
        have v0 := unfrozen_of hof 0
        have v1 := unfrozen_of hof 1
        have v2 := unfrozen_of hof 2
        clear hof
        go_region_with (fail)
        all_goals
          have hfz : RingP rb (ptrs L') (L'.set h' none) ((h' + 1) % N) F ((((w2.setCell ⟨ob, 0, none⟩ (kI key)).setCell ⟨ob, 1, none⟩ (kS val)).setCell ⟨ob, 2, none⟩ (.bool true)).drew) :=
            (((HR3.out.setF (i := 0) (kI key)).setF (i := 1) (kS val)).setF (i := 2) (.bool true)).unF.drew
          have fin : FreeIs rb h' (bare L') ((h' + 1) % N) F ((((w2.setCell ⟨ob, 0, none⟩ (kI key)).setCell ⟨ob, 1, none⟩ (kS val)).setCell ⟨ob, 2, none⟩ (.bool true)).drew) := ⟨L', rfl, hfz⟩
          have Fin := Lib.hid fin
          clear fin hfz
          go_wp2_with fail
          refine bodyPost_ret (v := .tuple #[.int .i64 h', .agg #[.int .i64 key, kS val, .bool true], .bool true]) (by simp [results, Try.results56, go_sem, o0, o1, o2]) rfl ⟨rfl, Fin.out⟩
      · rw [if_neg hs] at hfm
        simp only [Bool.and_eq_true, Bool.not_eq_true', not_and, Bool.not_eq_false] at hs
        clear hbl
        cases fresh
        · have hp0 : (pins == 0) = false := by
            cases hz : (pins == 0) with
            | false => rfl
            | true => exact absurd (hs hz) (by simp)
          clear hs
          simp only [Bool.false_and] at hfm
          go_upto_region 10 with (fail)
          generalize hw1 : wr.setCell ⟨rb, 2, none⟩ (.int .i64 (((h' : Int) + 1) % (N : Int))) = w1 at *
          have cbx := HR1.out.frameCell HB.out
          have d2 : w1.cell? ⟨b, 2, none⟩ = some (kI pins) := by rw [cell_of cbx]; rfl
          have d3 : w1.cell? ⟨b, 3, none⟩ = some (.bool false) := by rw [cell_of cbx]; rfl
          have u3 := unfrozen_of cbx 3
          have hRx := HR1.out.upd (f' := ⟨key, val, pins, false⟩) (w' := w1.setCell ⟨b, 3, none⟩ (.bool false)) HB.out rfl (fun H s => s.setCell (i := 3) _)
          rw [← ptrs_same (f' := ⟨key, val, pins, false⟩) HB.out] at hRx
          have HRx := Lib.hid hRx
          have Hfm := Lib.hid hfm
          clear hRx hfm hw1 cbx
          go_wp2_with fail
          go_roundw
          case rel => exact ⟨k + 1, L'.set h' (some (b, ⟨key, val, pins, false⟩)), (h' + 1) % N, by omega, by go_num, by rw [List.length_set]; exact HL.out, by rw [show 2 * N + 1 - (k + 1) = 2 * N - k from by omega, bare_set]; exact Hfm.out, HRx.out⟩
          case measure => simp [intOf]; omega
        · clear hs
          simp only [Bool.true_and] at hfm
          by_cases hq : 0 < pins
          · have hp0 : (pins == 0) = false := by rw [beq_eq_false_iff_ne]; omega
            rw [decide_eq_true hq] at hfm
            go_upto_region 10 with (fail)
            generalize hw1 : wr.setCell ⟨rb, 2, none⟩ (.int .i64 (((h' : Int) + 1) % (N : Int))) = w1 at *
            have cbx := HR1.out.frameCell HB.out
            have d2 : w1.cell? ⟨b, 2, none⟩ = some (kI pins) := by rw [cell_of cbx]; rfl
            have d3 : w1.cell? ⟨b, 3, none⟩ = some (.bool true) := by rw [cell_of cbx]; rfl
            have u3 := unfrozen_of cbx 3
            have hRx := HR1.out.upd (f' := ⟨key, val, pins, true⟩) (w' := w1.setCell ⟨b, 3, none⟩ (.bool true)) HB.out rfl (fun H s => s.setCell (i := 3) _)
            rw [← ptrs_same (f' := ⟨key, val, pins, true⟩) HB.out] at hRx
            have HRx := Lib.hid hRx
            have Hfm := Lib.hid hfm
            clear hRx hfm hw1 cbx
            go_wp2_with fail
            go_roundw
            case rel => exact ⟨k + 1, L'.set h' (some (b, ⟨key, val, pins, true⟩)), (h' + 1) % N, by omega, by go_num, by rw [List.length_set]; exact HL.out, by rw [show 2 * N + 1 - (k + 1) = 2 * N - k from by omega, bare_set]; exact Hfm.out, HRx.out⟩
            case measure => simp [intOf]; omega
          · rw [decide_eq_false hq] at hfm
            have hqd : decide (0 < pins) = false := decide_eq_false hq
            clear hq
            cases hp0 : (pins == 0)
            all_goals
              go_upto_region 10 with (fail)
              generalize hw1 : wr.setCell ⟨rb, 2, none⟩ (.int .i64 (((h' : Int) + 1) % (N : Int))) = w1 at *
              have cbx := HR1.out.frameCell HB.out
              have d2 : w1.cell? ⟨b, 2, none⟩ = some (kI pins) := by rw [cell_of cbx]; rfl
              have d3 : w1.cell? ⟨b, 3, none⟩ = some (.bool true) := by rw [cell_of cbx]; rfl
              have u3 := unfrozen_of cbx 3
              have hRx := HR1.out.upd (f' := ⟨key, val, pins, false⟩) (w' := w1.setCell ⟨b, 3, none⟩ (.bool false)) HB.out rfl (fun H s => s.setCell (i := 3) _)
              rw [← ptrs_same (f' := ⟨key, val, pins, false⟩) HB.out] at hRx
              have HRx := Lib.hid hRx
              have Hfm := Lib.hid hfm
              clear hRx hfm hw1 cbx
              go_wp2_with fail
              go_roundw
              case rel => exact ⟨k + 1, L'.set h' (some (b, ⟨key, val, pins, false⟩)), (h' + 1) % N, by omega, by go_num, by rw [List.length_set]; exact HL.out, by rw [show 2 * N + 1 - (k + 1) = 2 * N - k from by omega, bare_set]; exact Hfm.out, HRx.out⟩
              case measure => simp [intOf]; omega
    · obtain rfl : k = 2 * N + 1 := by omega
      rw [Nat.sub_self] at hfm
      simp [freeM] at hfm

end Go.Proofs.Ytbjomkbiljpjmaa.RS
