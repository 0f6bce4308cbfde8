/- The ring's Put (made by ring.gen.py out of ring3.body.txt). Conditions: none. -/
import Derived.Test.YtbjomkbiljpjmaaRingS2
import Derived.Handy
namespace Go.Proofs.Ytbjomkbiljpjmaa.RS
open Go Go.MapKept Go.RowKit Go.Proofs Go.Proofs.Ytbjomkbiljpjmaa

/-- What 'Put' answers. -/
def outV : Option (Fr X) → Value
  | none => .agg #[.int .i64 0, kS ⟨#[]⟩, .bool false]
  | some f => .agg #[.int .i64 f.key, kS f.val, .bool true]
theorem RingIs.new {rb : Nat} {fr : Frs X} {hand : Nat} {F : Heaplet} {w : World} (h : RingIs rb fr hand F w) (o : Obj) : RingIs rb fr hand (.blk w.heap.size o :: F) (w.alloc o) := by
  obtain ⟨L, e, h⟩ := h
  exact ⟨L, e, h.new o⟩
theorem RingIs.unF {rb : Nat} {fr : Frs X} {hand : Nat} {x : HItem} {F : Heaplet} {w : World} (h : RingIs rb fr hand (x :: F) w) : RingIs rb fr hand F w := by
  obtain ⟨L, e, h⟩ := h
  exact ⟨L, e, h.unF⟩
theorem put_nil (k : Int) (v : X) (w : World) : Calls Try.prog 26 #[.pointer none, .int .i64 k, kS v] w (fun e w' => e = .returned (.tuple #[outV none, .bool false]) ∧ Below w.heap.size w w') := by
  have hs := (sat_all w).new (.cells #[.int .i64 0, kS ⟨#[]⟩, .bool false] 55)
  have o0 : (w.alloc (.cells #[.int .i64 0, kS ⟨#[]⟩, .bool false] 55)).cell? ⟨w.heap.size, 0, none⟩ = some (kI 0) := by rw [cell_of hs.h0]; rfl
  have o1 : (w.alloc (.cells #[.int .i64 0, kS ⟨#[]⟩, .bool false] 55)).cell? ⟨w.heap.size, 1, none⟩ = some (kS ⟨#[]⟩) := by rw [cell_of hs.h0]; rfl
  have o2 : (w.alloc (.cells #[.int .i64 0, kS ⟨#[]⟩, .bool false] 55)).cell? ⟨w.heap.size, 2, none⟩ = some (.bool false) := by rw [cell_of hs.h0]; rfl
  clear hs
  go_enter Try.func26, Try.ntmps26
  go_wp2
  refine bodyPost_ret (v := .tuple #[outV none, .bool false]) (by simp [results, Try.results26, go_sem, outV, o0, o1, o2]) rfl ⟨rfl, ?_⟩
  go_grown

theorem results_put {ob : Nat} {w : World} {o : Option (Fr X)} {r : Bool} {a : Act} (h6 : a.tmps.getD 6 undef = .pointer (some ⟨ob, 0, none⟩)) (h7 : a.tmps.getD 7 undef = .bool r)
    (hb : ∃ z0 z1 z2, outV o = .agg #[z0, z1, z2] ∧ w.heap[ob]? = some (.cells #[z0, z1, z2] 55)) :
    (results Try.f26 a.tmps).run Try.prog w = .ok (.tuple #[outV o, .bool r]) w := by
  obtain ⟨z0, z1, z2, ho, hb⟩ := hb
  have c0 : w.cell? ⟨ob, 0, none⟩ = some z0 := by rw [cell_of hb]; rfl
  have c1 : w.cell? ⟨ob, 1, none⟩ = some z1 := by rw [cell_of hb]; rfl
  have c2 : w.cell? ⟨ob, 2, none⟩ = some z2 := by rw [cell_of hb]; rfl
  rw [ho]
  simp only [Array.getD_eq_getD_getElem?] at h6 h7
  simp [results, Try.results26, go_sem, h6, h7, c0, c1, c2]

set_option maxHeartbeats 400000 in
theorem put_full (rb : Nat) (fr : Frs X) (hand : Nat) (F : Heaplet) (w : World) (h : RingIs rb fr hand F w) (k : Int) (v : X) (hk : findF fr k = none) (hv : vacM fr = none) (hp : pinnedM fr = true) :
    Calls Try.prog 26 #[.pointer (some ⟨rb, 0, none⟩), .int .i64 k, kS v] w (Ret (.tuple #[outV none, .bool false]) (RingIs rb fr hand F)) := by
  obtain ⟨L, rfl, h⟩ := h
  have h1 := h.new (.cells #[.int .i64 0, kS ⟨#[]⟩, .bool false] 55)
  have Hf := Lib.hid (find_none rb _ L hand _ _ h1 k (findF_none hk))
  have hva := vacant_any rb L hand _ _ h1
  rw [hv] at hva
  have hpa := pinned_any rb L hand _ _ h1
  rw [hp] at hpa
  have Hv := Lib.hid hva
  have Hp := Lib.hid hpa
  have H1 := Lib.hid h1
  clear h hk hv hp hva hpa h1
  go_enter Try.func26, Try.ntmps26
  go_upto_region 1 with (fail)
  generalize w.alloc (.cells #[.int .i64 0, kS ⟨#[]⟩, .bool false] 55) = W1 at *
  generalize w.heap.size = ob at *
  have hof := H1.out.frame.h0
  have o0 : W1.cell? ⟨ob, 0, none⟩ = some (kI 0) := by rw [cell_of hof]; rfl
  have o1 : W1.cell? ⟨ob, 1, none⟩ = some (kS ⟨#[]⟩) := by rw [cell_of hof]; rfl
  have o2 : W1.cell? ⟨ob, 2, none⟩ = some (.bool false) := by rw [cell_of hof]; rfl
  have v0 := unfrozen_of hof 0
  have v1 := unfrozen_of hof 1
  have v2 := unfrozen_of hof 2
  clear hof
  go_wp2_with fail
  refine (Hf.out).mono ?_
  rintro e w' ⟨rfl, rfl⟩
  go_wp2_with fail
  refine (Hv.out).mono ?_
  rintro e w' ⟨rfl, rfl⟩
  go_wp2_with fail
  refine (Hp.out).mono ?_
  rintro e w' ⟨rfl, rfl⟩
  have hfin := ((H1.out.setF (i := 0) (kI 0)).setF (i := 1) (kS ⟨#[]⟩)).setF (i := 2) (.bool false)
  have Fin := Lib.hid hfin
  clear hfin
  go_wp2_with fail
  refine bodyPost_ret (results_put (ob := ob) (o := none) rfl rfl ⟨_, _, _, rfl, Fin.out.frame.h0⟩) rfl ⟨rfl, ⟨L, rfl, Fin.out.unF⟩⟩

/-- What a walk wants of an out cell that holds three values. -/
theorem out3 {rb : Nat} {ps : Array Value} {L : Lst X} {hand : Nat} {F : Heaplet} {w : World} {ob : Nat} {z0 z1 z2 : Value} (h : RingP rb ps L hand (.blk ob (.cells #[z0, z1, z2] 55) :: F) w) :
    w.cell? ⟨ob, 0, none⟩ = some z0 ∧ w.cell? ⟨ob, 1, none⟩ = some z1 ∧ w.cell? ⟨ob, 2, none⟩ = some z2 ∧ w.frozen? ⟨ob, 0, none⟩ = false ∧ w.frozen? ⟨ob, 1, none⟩ = false ∧ w.frozen? ⟨ob, 2, none⟩ = false := by
  have hb := h.frame.h0
  refine ⟨?_, ?_, ?_, unfrozen_of hb 0, unfrozen_of hb 1, unfrozen_of hb 2⟩
  · rw [cell_of hb]; rfl
  · rw [cell_of hb]; rfl
  · rw [cell_of hb]; rfl
/-- Storing three values over themselves. -/
theorem RingP.set3 {rb : Nat} {ps : Array Value} {L : Lst X} {hand : Nat} {F : Heaplet} {w : World} {ob : Nat} {z0 z1 z2 : Value} (h : RingP rb ps L hand (.blk ob (.cells #[z0, z1, z2] 55) :: F) w) (y0 y1 y2 : Value) :
    RingP rb ps L hand (.blk ob (.cells #[y0, y1, y2] 55) :: F) (((w.setCell ⟨ob, 0, none⟩ y0).setCell ⟨ob, 1, none⟩ y1).setCell ⟨ob, 2, none⟩ y2) :=
  ((h.setF (i := 0) y0).setF (i := 1) y1).setF (i := 2) y2

set_option maxHeartbeats 400000 in
theorem put_found (rb : Nat) (fr : Frs X) (hand : Nat) (F : Heaplet) (w : World) (h : RingIs rb fr hand F w) (k : Int) (v : X) (i : Nat) (f : Fr X) (hk : findF fr k = some (i, f)) :
    Calls Try.prog 26 #[.pointer (some ⟨rb, 0, none⟩), .int .i64 k, kS v] w (Ret (.tuple #[outV none, .bool true]) (RingIs rb (fr.set i (some { f with val := v, fresh := true })) hand F)) := by
  obtain ⟨L, rfl, h⟩ := h
  obtain ⟨h1, h2, h3⟩ := findF_some hk
  obtain ⟨b, hb⟩ := bare_inv h2
  have hn := h.new (.cells #[.int .i64 0, kS ⟨#[]⟩, .bool false] 55)
  have Hf := Lib.hid (find_some rb _ L hand _ _ hn k i _ h1 (ptrs_get hb))
  have H1 := Lib.hid hn
  have HB := Lib.hid hb
  clear h hk h1 h2 hn hb
  go_enter Try.func26, Try.ntmps26
  go_upto_region 1 with (fail)
  generalize w.alloc (.cells #[.int .i64 0, kS ⟨#[]⟩, .bool false] 55) = W1 at *
  generalize w.heap.size = ob at *
  have hof := H1.out.frame.h0
  have o0 : W1.cell? ⟨ob, 0, none⟩ = some (kI 0) := by rw [cell_of hof]; rfl
  have o1 : W1.cell? ⟨ob, 1, none⟩ = some (kS ⟨#[]⟩) := by rw [cell_of hof]; rfl
  have o2 : W1.cell? ⟨ob, 2, none⟩ = some (.bool false) := by rw [cell_of hof]; rfl
  have v0 := unfrozen_of hof 0
  have v1 := unfrozen_of hof 1
  have v2 := unfrozen_of hof 2
  clear hof
  have hc := H1.out.frameCell HB.out
  have c1 : W1.cell? ⟨b, 1, none⟩ = some (kS f.val) := by rw [cell_of hc]; rfl
  have c3 : W1.cell? ⟨b, 3, none⟩ = some (.bool f.fresh) := by rw [cell_of hc]; rfl
  have u1 := unfrozen_of hc 1
  have u3 := unfrozen_of hc 3
  clear hc
  have hup := H1.out.upd (f' := { f with val := v, fresh := true }) (w' := (W1.setCell ⟨b, 1, none⟩ (kS v)).setCell ⟨b, 3, none⟩ (.bool true)) HB.out rfl (fun H s => (s.setCell (i := 1) _).setCell (i := 3) _)
  rw [← ptrs_same (f' := { f with val := v, fresh := true }) HB.out] at hup
  have Hup := Lib.hid hup
  clear hup
  go_wp2_with fail
  refine (Hf.out).mono ?_
  rintro e w' ⟨rfl, rfl⟩
  simp only [ptr]
  go_upto_region 6 with (fail)
  generalize (W1.setCell ⟨b, 1, none⟩ (kS v)).setCell ⟨b, 3, none⟩ (.bool true) = W2 at *
  obtain ⟨o0', o1', o2', v0', v1', v2'⟩ := out3 Hup.out
  have Fin := Lib.hid (Hup.out.set3 (kI 0) (kS ⟨#[]⟩) (.bool false))
  go_wp2_with fail
  refine bodyPost_ret (results_put (ob := ob) (o := none) rfl rfl ⟨_, _, _, rfl, Fin.out.frame.h0⟩) rfl ⟨rfl, ⟨L.set i (some (b, { f with val := v, fresh := true })), bare_set _ _ _, Fin.out.unF⟩⟩

/-- A vacant frame is filled: the cells and runs that the walk meets. -/
theorem RingP.fill {rb : Nat} {ps : Array Value} {L : Lst X} {hand : Nat} {F : Heaplet} {w : World} (h : RingP rb ps L hand F w) {i : Nat} (hi : L[i]? = some none) {k : Int} (hk : idxK k (keysOf (bare L)) = none) (v : X)
    (hps : ∀ b, ps.setIfInBounds i (.pointer (some ⟨b, 0, none⟩)) = ptrs (L.set i (some (b, ⟨k, v, 0, true⟩)))) :
    ∃ (fb m : Nat) (u : Value) (w3 : World), w.cell? ⟨rb, 0, none⟩ = some (.slice (some ⟨fb, 0, none⟩) L.length L.length) ∧
      (w.alloc (frObj kS 102 ⟨k, v, 0, true⟩)).cell? ⟨fb, i, none⟩ = some u ∧ (w.alloc (frObj kS 102 ⟨k, v, 0, true⟩)).frozen? ⟨fb, i, none⟩ = false ∧
      ((w.alloc (frObj kS 102 ⟨k, v, 0, true⟩)).setCell ⟨fb, i, none⟩ (.pointer (some ⟨w.heap.size, 0, none⟩))).cell? ⟨rb, 1, none⟩ = some (.map (some m)) ∧
      (Instr.mapUpdate 83 (.map (some m)) (kI k) (kI i)).run Try.prog ((w.alloc (frObj kS 102 ⟨k, v, 0, true⟩)).setCell ⟨fb, i, none⟩ (.pointer (some ⟨w.heap.size, 0, none⟩))) = .ok () w3 ∧
      RingP rb (ptrs (L.set i (some (w.heap.size, ⟨k, v, 0, true⟩)))) (L.set i (some (w.heap.size, ⟨k, v, 0, true⟩))) hand F w3 := by
  have hil : i < L.length := (List.getElem?_eq_some_iff.1 hi).1
  obtain ⟨h0, fb, m, es, clk, D, hm, hpl, hs⟩ := h
  have s1 := hs.new (frObj kS 102 ⟨k, v, 0, true⟩)
  have s2 := (s1.rot3.setCell (i := i) (.pointer (some ⟨w.heap.size, 0, none⟩))).unrot3
  have s3 := s2.rot4
  obtain ⟨w3, es', clk', hu, hm', s4⟩ := sat_update (P := Try.prog) (t := 83) (kt := 3) (et := 3) Try.underlying83 Try.underlying3 hm s3 k (i : Int)
  have hu0 : ∃ u, ps[i]? = some u := ⟨ps[i]'(by rw [h0.1]; exact hil), Array.getElem?_eq_getElem _⟩
  obtain ⟨u, hu0⟩ := hu0
  refine ⟨fb, m, u, w3, ?_, ?_, ?_, ?_, hu, ?_⟩
  · rw [cell_of hs.h0]; rfl
  · rw [cell_of s1.h2, hu0]
  · exact unfrozen_of s1.h2 i
  · rw [cell_of s2.h1]; rfl
  · have hl : (L.set i (some (w.heap.size, (⟨k, v, 0, true⟩ : Fr X)))).length = L.length := List.length_set
    have hkk : keysOf (bare (L.set i (some (w.heap.size, (⟨k, v, 0, true⟩ : Fr X))))) = (keysOf (bare L)).set i (some k) := by rw [bare_set, keysOf_set]; rfl
    refine ⟨by rw [hl, ← hps]; simpa using h0, fb, m, es', clk', _, hm', ?_, ?_⟩
    · rw [hkk]
      exact hpl.fill (by rw [keysOf_get (bare_get hi)]; rfl) hk
    · rw [hl, ← hps]
      have p2 := (frH_put (vv := kS) (T := 102) (b := w.heap.size) (f := ⟨k, v, 0, true⟩) hi).append_right F
      have s6 := s4.unrot4.unrot4
      exact s6.perm (((p2.cons _).cons _ |>.cons _).symm)

set_option maxRecDepth 100000 in
set_option maxHeartbeats 400000 in
theorem put_vacant (rb : Nat) (fr : Frs X) (hand : Nat) (F : Heaplet) (w : World) (h : RingIs rb fr hand F w) (k : Int) (v : X) (i : Nat) (hk : findF fr k = none) (hv : vacM fr = some i) :
    Calls Try.prog 26 #[.pointer (some ⟨rb, 0, none⟩), .int .i64 k, kS v] w (Ret (.tuple #[outV none, .bool true]) (RingIs rb (fr.set i (some ⟨k, v, 0, true⟩)) hand F)) := by
  obtain ⟨L, rfl, h⟩ := h
  have hi := bare_inv_none (vacM_some hv).1
  have hil : i < L.length := (List.getElem?_eq_some_iff.1 hi).1
  have h64 := h.1.2.2.1
  have h1 := h.new (.cells #[.int .i64 0, kS ⟨#[]⟩, .bool false] 55)
  have Hf := Lib.hid (find_none rb _ L hand _ _ h1 k (findF_none hk))
  have hva := vacant_any rb L hand _ _ h1
  rw [hv] at hva
  have Hv := Lib.hid hva
  have H1 := Lib.hid h1
  have HI := Lib.hid hi
  have HK := Lib.hid (findF_none hk)
  clear h hk hv hva h1 hi
  go_enter Try.func26, Try.ntmps26
  go_upto_region 1 with (fail)
  generalize w.alloc (.cells #[.int .i64 0, kS ⟨#[]⟩, .bool false] 55) = W1 at *
  generalize w.heap.size = ob at *
  have hof := H1.out.frame.h0
  have o0 : W1.cell? ⟨ob, 0, none⟩ = some (kI 0) := by rw [cell_of hof]; rfl
  have o1 : W1.cell? ⟨ob, 1, none⟩ = some (kS ⟨#[]⟩) := by rw [cell_of hof]; rfl
  have o2 : W1.cell? ⟨ob, 2, none⟩ = some (.bool false) := by rw [cell_of hof]; rfl
  have v0 := unfrozen_of hof 0
  have v1 := unfrozen_of hof 1
  have v2 := unfrozen_of hof 2
  clear hof
  obtain ⟨fb, m, u, w3, c0, ci, ui, d1, hu, hR⟩ := H1.out.fill HI.out HK.out v (fun b => ptrs_set L i (some (b, ⟨k, v, 0, true⟩)))
  obtain ⟨o0', o1', o2', v0', v1', v2'⟩ := out3 hR
  have Fin := Lib.hid (hR.set3 (kI 0) (kS ⟨#[]⟩) (.bool false))
  clear hR
  have hi0 : (0 : Int) ≤ (i : Int) := by omega
  have hi1 : (i : Int) < (L.length : Int) := by omega
  simp only [frObj] at ci ui d1 hu
  go_wp2_with fail
  refine (Hf.out).mono ?_
  rintro e w' ⟨rfl, rfl⟩
  go_wp2_with fail
  refine (Hv.out).mono ?_
  rintro e w' ⟨rfl, rfl⟩
  go_wp2_with fail
  refine bodyPost_ret (results_put (ob := ob) (o := none) rfl rfl ⟨_, _, _, rfl, Fin.out.frame.h0⟩) rfl ⟨rfl, ⟨L.set i (some (W1.heap.size, ⟨k, v, 0, true⟩)), bare_set _ _ _, Fin.out.unF⟩⟩

set_option maxRecDepth 100000 in
set_option maxHeartbeats 400000 in
theorem put_evict (rb : Nat) (fr : Frs X) (hand : Nat) (F : Heaplet) (w : World) (h : RingIs rb fr hand F w) (k : Int) (v : X) (at_ : Nat) (f : Fr X) (fr' : Frs X) (hand' : Nat) (hk : findF fr k = none) (hv : vacM fr = none) (hp : pinnedM fr = false)
    (hfm : freeM (2 * fr.length + 1) fr hand = some (at_, f, fr', hand')) :
    Calls Try.prog 26 #[.pointer (some ⟨rb, 0, none⟩), .int .i64 k, kS v] w (Ret (.tuple #[outV (some f), .bool true]) (RingIs rb (fr'.set at_ (some ⟨k, v, 0, true⟩)) hand' F)) := by
  obtain ⟨L, rfl, h⟩ := h
  have h64 := h.1.2.2.1
  obtain ⟨hs1, hs2, _, _, _⟩ := freeM_spec _ _ _ _ _ _ _ hfm
  have hkeys := strips_keys hs1
  have hlen := strips_len hs1
  have hbl : (bare L).length = L.length := by simp [bare]
  have h1 := h.new (.cells #[.int .i64 0, kS ⟨#[]⟩, .bool false] 55)
  have Hf := Lib.hid (find_none rb _ L hand _ _ h1 k (findF_none hk))
  have hva := vacant_any rb L hand _ _ h1
  rw [hv] at hva
  have hpa := pinned_any rb L hand _ _ h1
  rw [hp] at hpa
  rw [hbl] at hfm
  have Hv := Lib.hid hva
  have Hp := Lib.hid hpa
  have Hfree := Lib.hid (free_any rb L hand _ _ h1 at_ f fr' hand' hfm)
  have H1 := Lib.hid h1
  have HK := Lib.hid (findF_none hk)
  have HS := Lib.hid hs2
  have HKeys := Lib.hid hkeys
  have HLen := Lib.hid (hlen.trans hbl)
  clear h hk hv hp hva hpa h1 hfm hs1 hs2 hkeys hlen hbl
  go_enter Try.func26, Try.ntmps26
  go_upto_region 1 with (fail)
  generalize w.alloc (.cells #[.int .i64 0, kS ⟨#[]⟩, .bool false] 55) = W1 at *
  generalize w.heap.size = ob at *
  have hof := H1.out.frame.h0
  have o0 : W1.cell? ⟨ob, 0, none⟩ = some (kI 0) := by rw [cell_of hof]; rfl
  have o1 : W1.cell? ⟨ob, 1, none⟩ = some (kS ⟨#[]⟩) := by rw [cell_of hof]; rfl
  have o2 : W1.cell? ⟨ob, 2, none⟩ = some (.bool false) := by rw [cell_of hof]; rfl
  have v0 := unfrozen_of hof 0
  have v1 := unfrozen_of hof 1
  have v2 := unfrozen_of hof 2
  clear hof
  go_wp2_with fail
  refine (Hf.out).mono ?_
  rintro e w' ⟨rfl, rfl⟩
  go_wp2_with fail
  refine (Hv.out).mono ?_
  rintro e w' ⟨rfl, rfl⟩
  go_wp2_with fail
  refine (Hp.out).mono ?_
  rintro e w' ⟨rfl, rfl⟩
  go_wp2_with fail
  refine (Hfree.out).mono ?_
  rintro e w2 ⟨rfl, L', hL', hR2⟩
  obtain ⟨p0, p1, p2, q0, q1, q2⟩ := out3 hR2
  have HR3 := Lib.hid (hR2.set3 (kI f.key) (kS f.val) (.bool true))
  have HL' := Lib.hid hL'
  clear hR2 hL'
  clear o0 o1 o2 v0 v1 v2
  go_upto_region 12 with (fail)
  generalize ((w2.setCell ⟨ob, 0, none⟩ (.int .i64 f.key)).setCell ⟨ob, 1, none⟩ (kS f.val)).setCell ⟨ob, 2, none⟩ (.bool true) = w3 at *
  have hbl' : (bare L').length = L'.length := by simp [bare]
  have hll : L'.length = L.length := by rw [← hbl', HL'.out]; exact HLen.out
  obtain ⟨b, hb⟩ := bare_inv (L := L') (i := at_) (f := f) (by rw [HL'.out]; exact HS.out)
  have hal : at_ < L'.length := (List.getElem?_eq_some_iff.1 hb).1
  have hidx : idxK k (keysOf (bare (L'.set at_ none))) = none := by
    rw [bare_set, keysOf_set, HL'.out, HKeys.out]
    refine idxK_none.2 (fun hm => ?_)
    obtain ⟨j, hj⟩ := List.mem_iff_getElem?.1 hm
    rw [List.getElem?_set] at hj
    by_cases ej : at_ = j
    · simp [ej] at hj
    · simp only [ej, if_false] at hj
      exact idxK_none.1 HK.out (List.mem_of_getElem? hj)
  obtain ⟨fb, m, u, w4, c0, ci, ui, d1, hu, hR⟩ := HR3.out.fill (i := at_) (k := k) (by simp [hal]) hidx v (fun b => by
    rw [List.set_set]; exact ptrs_set L' at_ (some (b, ⟨k, v, 0, true⟩)))
  rw [List.length_set, hll] at c0
  rw [List.set_set] at hR
  obtain ⟨o0', o1', o2', v0', v1', v2'⟩ := out3 hR
  have Fin := Lib.hid (hR.set3 (kI f.key) (kS f.val) (.bool true))
  have hfin2 : bare (L'.set at_ (some (w3.heap.size, ⟨k, v, 0, true⟩))) = fr'.set at_ (some ⟨k, v, 0, true⟩) := by rw [bare_set, HL'.out]; rfl
  have Fin2 := Lib.hid hfin2
  clear hR hfin2 hidx hb hbl'
  have hi0 : (0 : Int) ≤ (at_ : Int) := by omega
  have hi1 : (at_ : Int) < (L.length : Int) := by omega
  have HLL := Lib.hid hll
  clear hll
  simp only [frObj] at ci ui d1 hu
  go_wp2_with fail
  refine bodyPost_ret (results_put (ob := ob) (o := some f) rfl rfl ⟨_, _, _, rfl, Fin.out.frame.h0⟩) rfl ⟨rfl, ⟨L'.set at_ (some (w3.heap.size, ⟨k, v, 0, true⟩)), Fin2.out, Fin.out.unF⟩⟩
end Go.Proofs.Ytbjomkbiljpjmaa.RS
