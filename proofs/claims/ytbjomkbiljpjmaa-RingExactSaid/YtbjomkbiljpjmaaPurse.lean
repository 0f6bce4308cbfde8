/- Purse's methods, each walked once. Conditions: none. -/
import Derived.Test.YtbjomkbiljpjmaaBase
import Derived.Test.YtbjomkbiljpjmaaProg
import Derived.ProofKit
import Derived.Lib.Hide
namespace Go.Proofs.Ytbjomkbiljpjmaa
open Go Go.MapKept Go.RowKit Go.Proofs


/-- What a purse keeps: promises of one or more, their sum, no overflow. -/
def PInv (D : List (Int × Int)) (s : Int) : Prop := (∀ p ∈ D, 1 ≤ p.2) ∧ (D.map (·.2)).sum = s ∧ s ≤ 9223372036854775807

theorem sum_nonneg : ∀ D : List (Int × Int), (∀ p ∈ D, 1 ≤ p.2) → 0 ≤ (D.map (·.2)).sum
  | [], _ => by simp
  | p :: r, h => by
    have := sum_nonneg r (fun q hq => h q (.tail _ hq))
    have := h p (.head _)
    simp; omega
theorem get_le_sum (k : Int) : ∀ D : List (Int × Int), (∀ p ∈ D, 1 ≤ p.2) → 0 ≤ (getL k D).getD 0 ∧ (getL k D).getD 0 ≤ (D.map (·.2)).sum
  | [], _ => by simp [getL]
  | p :: r, h => by
    have h1 := sum_nonneg r (fun q hq => h q (.tail _ hq))
    have h2 := h p (.head _)
    have h3 := get_le_sum k r (fun q hq => h q (.tail _ hq))
    by_cases e : p.1 = k
    · simp [getL, e]; omega
    · simp [getL, e]; omega
theorem sum_putL (k v : Int) : ∀ D : List (Int × Int), ((putL k v D).map (·.2)).sum = (D.map (·.2)).sum - (getL k D).getD 0 + v
  | [] => by simp [putL, getL]
  | p :: r => by
    by_cases e : p.1 = k
    · simp [putL, getL, e]; omega
    · have := sum_putL k v r
      simp [putL, getL, e, this]; omega
theorem sum_delL (k : Int) : ∀ D : List (Int × Int), ((delL k D).map (·.2)).sum = (D.map (·.2)).sum - (getL k D).getD 0
  | [] => by simp [delL, getL]
  | p :: r => by
    by_cases e : p.1 = k
    · simp [delL, getL, e]; omega
    · have := sum_delL k r
      simp [delL, getL, e, this]; omega
theorem mem_putL {k v : Int} : ∀ {D : List (Int × Int)} {p : Int × Int}, p ∈ putL k v D → p = (k, v) ∨ p ∈ D
  | [], p, h => by simp [putL] at h; exact .inl h
  | q :: r, p, h => by
    by_cases e : q.1 = k
    · simp only [putL, e, if_true] at h
      cases h with
      | head => exact .inl rfl
      | tail _ h => exact .inr (.tail _ h)
    · simp only [putL, e, if_false] at h
      cases h with
      | head => exact .inr (.head _)
      | tail _ h => exact (mem_putL h).imp id (.tail _)
theorem PInv.put {D : List (Int × Int)} {s : Int} (h : PInv D s) (k n : Int) (h1 : 1 ≤ n) (h2 : s + n ≤ 9223372036854775807) : PInv (putL k ((getL k D).getD 0 + n) D) (s + n) := by
  refine ⟨fun p hp => ?_, ?_, h2⟩
  · rcases mem_putL hp with rfl | hp
    · have := get_le_sum k D h.1
      simp; omega
    · exact h.1 p hp
  · rw [sum_putL, h.2.1]; omega

/-- THE PURSE AT BLOCK b KEEPS THE PROMISES D, their sum s; the rest of memory: F. -/
def PurseIs (b : Nat) (D : List (Int × Int)) (s : Int) (F : Heaplet) (w : World) : Prop :=
  PInv D s ∧ ∃ m es clk, MapOk (.int .i64) kI kI es clk D ∧ Sat w (.blk b (.cells #[.map (some m), kI s] 85) :: .blk m (.map es clk) :: F)
def of (D : List (Int × Int)) (k : Int) : Int := (getL k D).getD 0
theorem of_look (D : List (Int × Int)) (k : Int) : ((getL k D).map kI).getD (.int .i64 0) = kI (of D k) := by unfold of; cases getL k D <;> rfl
theorem of_bd {D : List (Int × Int)} {s : Int} (h : PInv D s) (k : Int) : 0 ≤ of D k ∧ of D k ≤ s := by
  have := get_le_sum k D h.1
  rw [h.2.1] at this
  exact this
theorem zero3 (w : World) : (zeroValue 3).run Try.prog w = .ok (.int .i64 0) w := by kernel_rfl

theorem new_any (F : Heaplet) (w : World) (hs : Sat w F) : Calls Try.prog 13 #[] w fun e w' => ∃ b, e = .returned (.pointer (some ⟨b, 0, none⟩)) ∧ PurseIs b [] 0 F w' := by
  have hm : MapOk (.int .i64) kI kI #[] 0 ([] : List (Int × Int)) := mapOk_new kI_key kI_inj
  have fin : PurseIs (w.heap.size + 1) [] 0 F ((w.alloc (.map #[] 0)).alloc (.cells #[.map (some w.heap.size), kI 0] 85)) :=
    ⟨⟨by simp, by simp, by omega⟩, w.heap.size, #[], 0, hm, by simpa [World.size_alloc] using (hs.new (.map #[] 0)).new (.cells #[.map (some w.heap.size), kI 0] 85)⟩
  have Fin := Lib.hid fin
  clear fin hm hs
  have hmm := @run_makeMap Try.prog
  go_enter Try.func13, Try.ntmps13
  go_wp2
  go_ret
  exact ⟨_, rfl, Fin.out⟩

theorem of_any (b : Nat) (D : List (Int × Int)) (s : Int) (F : Heaplet) (k : Int) (w : World) (hp : PurseIs b D s F w) :
    Calls Try.prog 16 #[.pointer (some ⟨b, 0, none⟩), .int .i64 k] w (Ret (.int .i64 (of D k)) (Same w)) := by
  obtain ⟨hi, m, es, clk, hm, hs⟩ := hp
  have c0 : w.cell? ⟨b, 0, none⟩ = some (.map (some m)) := by rw [cell_of hs.h0]; rfl
  have hl := run_lookup_ok (P := Try.prog) (t := 83) (kt := 3) (et := 3) (z := .int .i64 0) Try.underlying83 Try.underlying3 (zero3 w) hs.h1 hm k
  rw [of_look] at hl
  clear hs hm hi
  go_enter Try.func16, Try.ntmps16
  go_wp2
  go_ret
  exact ⟨rfl, rfl⟩
theorem of_nil (k : Int) (w : World) : Calls Try.prog 16 #[.pointer none, .int .i64 k] w (Ret (.int .i64 0) (Same w)) := by
  go_enter Try.func16, Try.ntmps16
  go_wp2
  go_ret
  exact ⟨rfl, rfl⟩
theorem sum_any (b : Nat) (D : List (Int × Int)) (s : Int) (F : Heaplet) (w : World) (hp : PurseIs b D s F w) :
    Calls Try.prog 17 #[.pointer (some ⟨b, 0, none⟩)] w (Ret (.int .i64 s) (Same w)) := by
  obtain ⟨hi, m, es, clk, hm, hs⟩ := hp
  have c1 : w.cell? ⟨b, 1, none⟩ = some (kI s) := by rw [cell_of hs.h0]; rfl
  clear hs hm hi
  go_enter Try.func17, Try.ntmps17
  go_wp2
  go_ret
  exact ⟨rfl, rfl⟩
theorem sum_nil (w : World) : Calls Try.prog 17 #[.pointer none] w (Ret (.int .i64 0) (Same w)) := by
  go_enter Try.func17, Try.ntmps17
  go_wp2
  go_ret
  exact ⟨rfl, rfl⟩

def askOk (s n room : Int) : Bool := decide (1 ≤ n ∧ n ≤ 1048576 ∧ n ≤ room ∧ s ≤ room - n)
theorem ask_nil (k n room : Int) (w : World) : Calls Try.prog 14 #[.pointer none, .int .i64 k, .int .i64 n, .int .i64 room] w (Ret (.bool false) (Same w)) := by
  go_enter Try.func14, Try.ntmps14
  go_wp2
  go_ret
  exact ⟨rfl, rfl⟩

set_option maxHeartbeats 400000 in
theorem ask_no (b : Nat) (D : List (Int × Int)) (s : Int) (F : Heaplet) (k n room : Int) (w : World) (hp : PurseIs b D s F w)
    (hr : room ≤ 9223372036854775807) (hc : askOk s n room = false) :
    Calls Try.prog 14 #[.pointer (some ⟨b, 0, none⟩), .int .i64 k, .int .i64 n, .int .i64 room] w (Ret (.bool false) (Same w)) := by
  obtain ⟨hi, m, es, clk, hm, hs⟩ := hp
  have hc' : n < 1 ∨ 1048576 < n ∨ room < n ∨ room - n < s := by
    unfold askOk at hc
    have := of_decide_eq_false hc
    omega
  have c1 : w.cell? ⟨b, 1, none⟩ = some (kI s) := by rw [cell_of hs.h0]; rfl
  clear hm hs hc hi
  by_cases h1 : n < 1
  · clear hc'
    go_enter Try.func14, Try.ntmps14
    go_wp2
    go_ret
    exact ⟨rfl, rfl⟩
  by_cases h2 : 1048576 < n
  · clear hc'
    go_enter Try.func14, Try.ntmps14
    go_wp2
    go_ret
    exact ⟨rfl, rfl⟩
  by_cases h3 : room < n
  · clear hc'
    go_enter Try.func14, Try.ntmps14
    go_wp2
    go_ret
    exact ⟨rfl, rfl⟩
  have h4 : room - n < s := by omega
  clear hc'
  go_enter Try.func14, Try.ntmps14
  go_wp2
  go_ret
  exact ⟨rfl, rfl⟩

set_option maxRecDepth 100000 in
set_option maxHeartbeats 400000 in
theorem ask_yes (b : Nat) (D : List (Int × Int)) (s : Int) (F : Heaplet) (k n room : Int) (w : World) (hp : PurseIs b D s F w)
    (hr : room ≤ 9223372036854775807) (hc : askOk s n room = true) :
    Calls Try.prog 14 #[.pointer (some ⟨b, 0, none⟩), .int .i64 k, .int .i64 n, .int .i64 room] w (Ret (.bool true) (PurseIs b (putL k (of D k + n) D) (s + n) F)) := by
  obtain ⟨hi, m, es, clk, hm, hs⟩ := hp
  have hc' := of_decide_eq_true hc
  obtain ⟨h1, h2, h3, h4⟩ := hc'
  have c0 : w.cell? ⟨b, 0, none⟩ = some (.map (some m)) := by rw [cell_of hs.h0]; rfl
  have c1 : w.cell? ⟨b, 1, none⟩ = some (.int .i64 s) := by rw [cell_of hs.h0]; rfl
  have hl := run_lookup_ok (P := Try.prog) (t := 83) (kt := 3) (et := 3) (z := .int .i64 0) Try.underlying83 Try.underlying3 (zero3 w) hs.h1 hm k
  obtain ⟨w1, es', clk', hu, hm', hs1⟩ := sat_update (P := Try.prog) (t := 83) (kt := 3) (et := 3) Try.underlying83 Try.underlying3 hm hs.swap k (of D k + n)
  have d1 : w1.cell? ⟨b, 1, none⟩ = some (.int .i64 s) := by rw [cell_of hs1.h1]; rfl
  have f1 := unfrozen_of hs1.h1 1
  have hv := of_bd hi k
  rw [of_look] at hl
  have fin : PurseIs b (putL k (of D k + n) D) (s + n) F (w1.setCell ⟨b, 1, none⟩ (kI (s + n))) :=
    ⟨hi.put k n h1 (by omega), m, es', clk', hm', hs1.swap.setCell (i := 1) _⟩
  clear hm hm' hs hs1 hi hc
  have Fin := Lib.hid fin
  clear fin
  generalize of D k = v at *
  obtain ⟨hv0, hv1⟩ := hv
  go_enter Try.func14, Try.ntmps14
  go_wp2_with fail
  go_ret
  exact ⟨rfl, Fin.out⟩

theorem PInv.del {D : List (Int × Int)} {s : Int} (h : PInv D s) (k : Int) : PInv (delL k D) (s - of D k) := by
  refine ⟨fun p hp => h.1 p ((sub_delL k D).subset hp), ?_, ?_⟩
  · rw [sum_delL, h.2.1]; rfl
  · have := of_bd h k
    have := h.2.2
    omega
theorem PInv.less {D : List (Int × Int)} {s : Int} (h : PInv D s) (k n : Int) (h1 : 0 ≤ n) (h2 : n < of D k) : PInv (putL k (of D k - n) D) (s - n) := by
  refine ⟨fun p hp => ?_, ?_, ?_⟩
  · rcases mem_putL hp with rfl | hp
    · simp; omega
    · exact h.1 p hp
  · rw [sum_putL, h.2.1]; unfold of; omega
  · have := h.2.2
    omega
/-- How much is taken; what stays. -/
def takeN (D : List (Int × Int)) (k n : Int) : Int := if n < 1 ∨ of D k < 1 then 0 else if n < of D k then n else of D k
def takeD (D : List (Int × Int)) (k n : Int) : List (Int × Int) := if n < 1 ∨ of D k < 1 then D else if n < of D k then putL k (of D k - n) D else delL k D
theorem of_put (k v : Int) (D : List (Int × Int)) : of (putL k v D) k = v := by unfold of; rw [getL_putL]; simp
theorem delL_putL (k v : Int) : ∀ D : List (Int × Int), getL k D ≠ none → delL k (putL k v D) = delL k D
  | [], h => by simp [getL] at h
  | p :: r, h => by
    by_cases e : p.1 = k
    · simp [putL, delL, e]
    · simp only [getL, e, if_false] at h
      simp [putL, delL, e, delL_putL k v r h]
theorem of_some {k : Int} {D : List (Int × Int)} (h : 0 < of D k) : getL k D ≠ none := by
  intro e
  simp [of, e] at h
set_option maxHeartbeats 400000 in
theorem take_zero (b : Nat) (D : List (Int × Int)) (s : Int) (F : Heaplet) (k n : Int) (w : World) (hp : PurseIs b D s F w) (h1 : n < 1 ∨ of D k < 1) :
    Calls Try.prog 15 #[.pointer (some ⟨b, 0, none⟩), .int .i64 k, .int .i64 n] w (Ret (.int .i64 0) (Same w)) := by
  have Hof := Lib.hid (of_any b D s F k w hp)
  have hv := of_bd hp.1 k
  have hbig := hp.1.2.2
  clear hp
  generalize of D k = v at *
  obtain ⟨hv0, hv1⟩ := hv
  by_cases h2 : n < 0
  · clear h1
    have h3 : ¬ v < n := by omega
    go_enter Try.func15, Try.ntmps15
    go_wp2_with (go_at_call 16; refine (Hof.out).mono ?_; rintro e w' ⟨rfl, rfl⟩)
    go_ret
    exact ⟨rfl, rfl⟩
  by_cases h3 : n = 0
  · subst h3
    clear h1
    have h3 : ¬ v < 0 := by omega
    go_enter Try.func15, Try.ntmps15
    go_wp2_with (go_at_call 16; refine (Hof.out).mono ?_; rintro e w' ⟨rfl, rfl⟩)
    go_ret
    exact ⟨rfl, rfl⟩
  obtain rfl : v = 0 := by omega
  have h4 : 0 < n := by omega
  clear h1 h2 h3
  go_enter Try.func15, Try.ntmps15
  go_wp2_with (go_at_call 16; refine (Hof.out).mono ?_; rintro e w' ⟨rfl, rfl⟩)
  go_ret
  exact ⟨rfl, rfl⟩
set_option maxRecDepth 100000 in
set_option maxHeartbeats 400000 in
theorem take_part (b : Nat) (D : List (Int × Int)) (s : Int) (F : Heaplet) (k n : Int) (w : World) (hp : PurseIs b D s F w) (h1 : 1 ≤ n) (h2 : n < of D k) :
    Calls Try.prog 15 #[.pointer (some ⟨b, 0, none⟩), .int .i64 k, .int .i64 n] w (Ret (.int .i64 n) (PurseIs b (putL k (of D k - n) D) (s - n) F)) := by
  have Hof := Lib.hid (of_any b D s F k w hp)
  obtain ⟨hi, m, es, clk, hm, hs⟩ := hp
  have hv := of_bd hi k
  have hbig := hi.2.2
  have c0 : w.cell? ⟨b, 0, none⟩ = some (.map (some m)) := by rw [cell_of hs.h0]; rfl
  have c1 : w.cell? ⟨b, 1, none⟩ = some (.int .i64 s) := by rw [cell_of hs.h0]; rfl
  have f1 := unfrozen_of hs.h0 1
  have hs1 : Sat (w.setCell ⟨b, 1, none⟩ (kI (s - n))) _ := hs.setCell (i := 1) _
  have d0 : (w.setCell ⟨b, 1, none⟩ (kI (s - n))).cell? ⟨b, 0, none⟩ = some (.map (some m)) := by rw [cell_of hs1.h0]; rfl
  have hl := run_lookup_ok (P := Try.prog) (t := 83) (kt := 3) (et := 3) (z := .int .i64 0) Try.underlying83 Try.underlying3 (zero3 _) hs1.h1 hm k
  obtain ⟨w2, es', clk', hu, hm', hs2⟩ := sat_update (P := Try.prog) (t := 83) (kt := 3) (et := 3) Try.underlying83 Try.underlying3 hm hs1.swap k (of D k - n)
  have e0 : w2.cell? ⟨b, 0, none⟩ = some (.map (some m)) := by rw [cell_of hs2.h1]; rfl
  have hl2 := run_lookup_ok (P := Try.prog) (t := 83) (kt := 3) (et := 3) (z := .int .i64 0) Try.underlying83 Try.underlying3 (zero3 _) hs2.h0 hm' k
  rw [of_look] at hl hl2
  rw [of_put] at hl2
  have fin : PurseIs b (putL k (of D k - n) D) (s - n) F w2 := ⟨hi.less k n (by omega) h2, m, es', clk', hm', hs2.swap⟩
  have Fin := Lib.hid fin
  clear fin hm hm' hs hs1 hs2 hi
  generalize of D k = v at *
  obtain ⟨hv0, hv1⟩ := hv
  have h3 : ¬ v < n := by omega
  have h4 : ¬ n < 0 := by omega
  have h5 : (n == 0) = false := by rw [beq_eq_false_iff_ne]; omega
  have h6 : (v - n == 0) = false := by rw [beq_eq_false_iff_ne]; omega
  go_enter Try.func15, Try.ntmps15
  go_wp2_with (go_at_call 16; refine (Hof.out).mono ?_; rintro e w' ⟨rfl, rfl⟩)
  go_ret
  exact ⟨rfl, Fin.out⟩
set_option maxRecDepth 100000 in
set_option maxHeartbeats 400000 in
theorem take_all (b : Nat) (D : List (Int × Int)) (s : Int) (F : Heaplet) (k n : Int) (w : World) (hp : PurseIs b D s F w) (h1 : 1 ≤ of D k) (h2 : of D k ≤ n) :
    Calls Try.prog 15 #[.pointer (some ⟨b, 0, none⟩), .int .i64 k, .int .i64 n] w (Ret (.int .i64 (of D k)) (PurseIs b (delL k D) (s - of D k) F)) := by
  have Hof := Lib.hid (of_any b D s F k w hp)
  obtain ⟨hi, m, es, clk, hm, hs⟩ := hp
  have hv := of_bd hi k
  have hbig := hi.2.2
  have c0 : w.cell? ⟨b, 0, none⟩ = some (.map (some m)) := by rw [cell_of hs.h0]; rfl
  have c1 : w.cell? ⟨b, 1, none⟩ = some (.int .i64 s) := by rw [cell_of hs.h0]; rfl
  have f1 := unfrozen_of hs.h0 1
  have hs1 : Sat (w.setCell ⟨b, 1, none⟩ (kI (s - of D k))) _ := hs.setCell (i := 1) _
  have d0 : (w.setCell ⟨b, 1, none⟩ (kI (s - of D k))).cell? ⟨b, 0, none⟩ = some (.map (some m)) := by rw [cell_of hs1.h0]; rfl
  have hl := run_lookup_ok (P := Try.prog) (t := 83) (kt := 3) (et := 3) (z := .int .i64 0) Try.underlying83 Try.underlying3 (zero3 _) hs1.h1 hm k
  obtain ⟨w2, es', clk', hu, hm', hs2⟩ := sat_update (P := Try.prog) (t := 83) (kt := 3) (et := 3) Try.underlying83 Try.underlying3 hm hs1.swap k (of D k - of D k)
  have e0 : w2.cell? ⟨b, 0, none⟩ = some (.map (some m)) := by rw [cell_of hs2.h1]; rfl
  have hl2 := run_lookup_ok (P := Try.prog) (t := 83) (kt := 3) (et := 3) (z := .int .i64 0) Try.underlying83 Try.underlying3 (zero3 _) hs2.h0 hm' k
  rw [of_look] at hl hl2
  rw [of_put] at hl2
  obtain ⟨w3, es3, hd, hm3, hs3⟩ := sat_delete (P := Try.prog) (ty := 0) (t := 83) (kt := 3) (et := 3) Try.underlying83 Try.underlying3 hm' hs2 k
  rw [delL_putL k _ D (of_some h1)] at hm3
  have fin : PurseIs b (delL k D) (s - of D k) F w3 := ⟨hi.del k, m, es3, clk', hm3, hs3.swap⟩
  have Fin := Lib.hid fin
  clear fin hm hm' hs hs1 hs2 hi hm3 hs3
  generalize of D k = v at *
  obtain ⟨hv0, hv1⟩ := hv
  have h4 : ¬ v < 0 := by omega
  have h5 : (v == 0) = false := by rw [beq_eq_false_iff_ne]; omega
  have h6 : v - v = 0 := by omega
  rw [h6] at hu hl2
  clear h6
  by_cases h7 : v < n
  · 
    go_enter Try.func15, Try.ntmps15
    go_wp2_with (go_at_call 16; refine (Hof.out).mono ?_; rintro e w' ⟨rfl, rfl⟩)
    go_ret
    exact ⟨rfl, Fin.out⟩
  · obtain rfl : v = n := by omega
    go_enter Try.func15, Try.ntmps15
    go_wp2_with (go_at_call 16; refine (Hof.out).mono ?_; rintro e w' ⟨rfl, rfl⟩)
    go_ret
    exact ⟨rfl, Fin.out⟩
theorem take_any (b : Nat) (D : List (Int × Int)) (s : Int) (F : Heaplet) (k n : Int) (w : World) (hp : PurseIs b D s F w) :
    Calls Try.prog 15 #[.pointer (some ⟨b, 0, none⟩), .int .i64 k, .int .i64 n] w (Ret (.int .i64 (takeN D k n)) (PurseIs b (takeD D k n) (s - takeN D k n) F)) := by
  unfold takeN takeD
  by_cases h1 : n < 1 ∨ of D k < 1
  · rw [if_pos h1, if_pos h1]
    refine (take_zero b D s F k n w hp h1).mono ?_
    rintro e w' ⟨rfl, rfl⟩
    exact ⟨rfl, by rw [Int.sub_zero]; exact hp⟩
  · rw [if_neg h1, if_neg h1]
    by_cases h2 : n < of D k
    · rw [if_pos h2, if_pos h2]
      exact take_part b D s F k n w hp (by omega) h2
    · rw [if_neg h2, if_neg h2]
      exact take_all b D s F k n w hp (by omega) (by omega)
theorem take_nil (k n : Int) (w : World) :
    Calls Try.prog 15 #[.pointer none, .int .i64 k, .int .i64 n] w (Ret (.int .i64 0) (Same w)) := by
  have Hof := Lib.hid (of_nil k w)
  by_cases h2 : 0 < n
  · 
    go_enter Try.func15, Try.ntmps15
    go_wp2_with (go_at_call 16; refine (Hof.out).mono ?_; rintro e w' ⟨rfl, rfl⟩)
    go_ret
    exact ⟨rfl, rfl⟩
  by_cases h3 : n < 0
  · 
    go_enter Try.func15, Try.ntmps15
    go_wp2_with (go_at_call 16; refine (Hof.out).mono ?_; rintro e w' ⟨rfl, rfl⟩)
    go_ret
    exact ⟨rfl, rfl⟩
  obtain rfl : n = 0 := by omega
  clear h2 h3
  go_enter Try.func15, Try.ntmps15
  go_wp2_with (go_at_call 16; refine (Hof.out).mono ?_; rintro e w' ⟨rfl, rfl⟩)
  go_ret
  exact ⟨rfl, rfl⟩
end Go.Proofs.Ytbjomkbiljpjmaa
