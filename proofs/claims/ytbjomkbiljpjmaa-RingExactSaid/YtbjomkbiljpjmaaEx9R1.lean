/- The document's ring walked: place, vacant, on, Pins, Get, Del. Conditions: none. -/
import Derived.Test.YtbjomkbiljpjmaaEx9M
namespace Go.Proofs.Ytbjomkbiljpjmaa
open Go Go.MapKept Go.RowKit Go.Proofs

def placeV : Option Nat → Int
  | some i => i
  | none => -1
section
variable (ub g : Nat) (fr : FrsS) (hand : Nat) (F : Heaplet) (w : World)
set_option maxRecDepth 100000 in
set_option maxHeartbeats 1600000 in
theorem place_any (h : RefF ub g fr hand F w) (k : Int) :
    Calls Try.prog 57 #[.pointer (some ⟨ub, 0, none⟩), .int .i64 k] w (Ret (.int .i64 (placeV (idxK k (keysOf fr)))) (Same w)) := by
  obtain ⟨h0, _, _⟩ := h.head
  have h64 := h.1.2.1
  have HC : Hid (∀ (i : Nat) o (j : Nat) u, fr[i]? = some o → (fR o)[j]? = some u → w.cell? ⟨g, i * 5 + j, none⟩ = some u) := Lib.hid fun i o j u ho hu => h.cell ho hu
  clear h
  go_enter Try.func57, Try.ntmps57
  go_wp2_with fail
  go_loopw [5] (fun v wr => ∃ r : Nat, r ≤ fr.length ∧ v = .int .i64 r ∧ wr = w ∧ ∀ j, j < r → (keysOf fr)[j]? ≠ some (some k)) (fun v _ => 1000 - (RowKit.intOf v).toNat)
  case atStart => exact ⟨0, by omega, rfl, rfl, fun j hj => by omega⟩
  case round =>
    obtain ⟨r, hr, rfl, rfl, hno⟩ := hrel
    have r0 : (0 : Int) ≤ (r : Int) := by omega
    have hL : (fr.length : Int) ≤ 64 := by omega
    by_cases hlr : r < fr.length
    · have r1 : (r : Int) < (fr.length : Int) := by omega
      obtain ⟨o, ho⟩ : ∃ o, fr[r]? = some o := ⟨_, List.getElem?_eq_getElem hlr⟩
      have hkg := keysOf_get ho
      have HNO := Lib.hid hno
      cases o with
      | none =>
        have c0 : wr.cell? ⟨g, r * 5, none⟩ = some (.bool false) := HC.out r _ 0 _ ho rfl
        have hn2 : Hid (∀ j, j < r + 1 → (keysOf fr)[j]? ≠ some (some k)) := Lib.hid fun j hj => by
          by_cases e : j = r
          · subst e; rw [hkg]; simp
          · exact HNO.out j (by omega)
        clear hno hkg ho
        go_wp2_with fail
        exact ⟨⟨r + 1, by omega, by simp, (by first | rfl | trivial), hn2.out⟩, by simp only [RowKit.intOf]; omega⟩
      | some f =>
        have c0 : wr.cell? ⟨g, r * 5, none⟩ = some (.bool true) := HC.out r _ 0 _ ho rfl
        have c1 : wr.cell? ⟨g, r * 5 + 1, none⟩ = some (kI f.key) := HC.out r _ 1 _ ho rfl
        by_cases hfk : f.key = k
        · have b1 : (f.key == k) = true := by simpa using hfk
          have e : Hid (idxK k (keysOf fr) = some r) := Lib.hid (idxK_at hno (by rw [hkg, ← hfk]; rfl))
          clear hno hkg ho hfk
          go_wp2_with fail
          go_ret
          exact ⟨by rw [e.out]; rfl, rfl⟩
        · have b1 : (f.key == k) = false := by simpa using hfk
          have hn2 : Hid (∀ j, j < r + 1 → (keysOf fr)[j]? ≠ some (some k)) := Lib.hid fun j hj => by
            by_cases e : j = r
            · subst e; rw [hkg]; simpa using hfk
            · exact HNO.out j (by omega)
          clear hno hkg ho hfk
          go_wp2_with fail
          exact ⟨⟨r + 1, by omega, by simp, (by first | rfl | trivial), hn2.out⟩, by simp only [RowKit.intOf]; omega⟩
    · obtain rfl : r = fr.length := by omega
      have e : Hid (idxK k (keysOf fr) = none) := Lib.hid (idxK_no (fun j hj => hno j (by simpa [keysOf] using hj)))
      clear hno
      go_wp2_with fail
      go_ret
      exact ⟨by rw [e.out]; rfl, rfl⟩
set_option maxRecDepth 100000 in
set_option maxHeartbeats 1600000 in
theorem vacant_ref (h : RefF ub g fr hand F w) :
    Calls Try.prog 58 #[.pointer (some ⟨ub, 0, none⟩)] w (Ret (.int .i64 (placeV (vacM fr))) (Same w)) := by
  obtain ⟨h0, _, _⟩ := h.head
  have h64 := h.1.2.1
  have HC : Hid (∀ (i : Nat) o (j : Nat) u, fr[i]? = some o → (fR o)[j]? = some u → w.cell? ⟨g, i * 5 + j, none⟩ = some u) := Lib.hid fun i o j u ho hu => h.cell ho hu
  clear h
  go_enter Try.func58, Try.ntmps58
  go_wp2_with fail
  go_loopw [3] (fun v wr => ∃ r : Nat, r ≤ fr.length ∧ v = .int .i64 r ∧ wr = w ∧ ∀ j, j < r → fr[j]? ≠ some none) (fun v _ => 1000 - (RowKit.intOf v).toNat)
  case atStart => exact ⟨0, by omega, rfl, rfl, fun j hj => by omega⟩
  case round =>
    obtain ⟨r, hr, rfl, rfl, hno⟩ := hrel
    have r0 : (0 : Int) ≤ (r : Int) := by omega
    have hL : (fr.length : Int) ≤ 64 := by omega
    by_cases hlr : r < fr.length
    · have r1 : (r : Int) < (fr.length : Int) := by omega
      obtain ⟨o, ho⟩ : ∃ o, fr[r]? = some o := ⟨_, List.getElem?_eq_getElem hlr⟩
      have HNO := Lib.hid hno
      cases o with
      | none =>
        have c0 : wr.cell? ⟨g, r * 5, none⟩ = some (.bool false) := HC.out r _ 0 _ ho rfl
        have e : Hid (vacM fr = some r) := Lib.hid (vacM_at hno ho)
        clear hno ho
        go_wp2_with fail
        go_ret
        exact ⟨by rw [e.out]; rfl, rfl⟩
      | some f =>
        have c0 : wr.cell? ⟨g, r * 5, none⟩ = some (.bool true) := HC.out r _ 0 _ ho rfl
        have hn2 : Hid (∀ j, j < r + 1 → fr[j]? ≠ some none) := Lib.hid fun j hj => by
          by_cases e : j = r
          · subst e; rw [ho]; simp
          · exact HNO.out j (by omega)
        clear hno ho
        go_wp2_with fail
        exact ⟨⟨r + 1, by omega, by simp, (by first | rfl | trivial), hn2.out⟩, by simp only [RowKit.intOf]; omega⟩
    · obtain rfl : r = fr.length := by omega
      have e : Hid (vacM fr = none) := Lib.hid (vacM_no hno)
      clear hno
      go_wp2_with fail
      go_ret
      exact ⟨by rw [e.out]; rfl, rfl⟩
set_option maxRecDepth 100000 in
set_option maxHeartbeats 1600000 in
theorem on_ref (h : RefF ub g fr hand F w) :
    Calls Try.prog 59 #[.pointer (some ⟨ub, 0, none⟩)] w fun e w' => e = .returned (.tuple #[]) ∧ RefF ub g fr ((hand + 1) % fr.length) F w' := by
  obtain ⟨h0, h1, hz⟩ := h.head
  have h64 := h.1.2.1
  have hh := h.1.2.2
  have hl : (hand + 1) % fr.length < fr.length := Nat.mod_lt _ (by omega)
  have FIN := Lib.hid (h.drew.on hl)
  clear h
  generalize fr.length = N at *
  have hL : (N : Int) ≤ 64 := by omega
  have hH0 : (0 : Int) ≤ (hand : Int) := by omega
  have hH : (hand : Int) < (N : Int) := by omega
  have hL0 : (0 : Int) < (N : Int) := by omega
  have hne : ((N : Int) == 0) = false := by rw [beq_eq_false_iff_ne]; omega
  have hrem : ((hand : Int) + 1).tmod (N : Int) = (((hand + 1) % N : Nat) : Int) := by
    rw [Int.tmod_eq_emod_of_nonneg (by omega)]; simp
  have hmodc : ((hand : Int) + 1) % (N : Int) = (((hand + 1) % N : Nat) : Int) := by simp
  have hne2 : ¬ (N : Int) = 0 := by omega
  have hne3 : ¬ N = 0 := by omega
  generalize (hand + 1) % N = h' at *
  have hh' : (h' : Int) < (N : Int) := by omega
  have hh0 : (0 : Int) ≤ (h' : Int) := by omega
  have hw1 : IntKind.i64.wrap ((hand : Int) + 1) = (hand : Int) + 1 := IntWalk.i64_in _ (by omega)
  have hw2 : IntKind.i64.wrap (((hand : Int) + 1).tmod (N : Int)) = (h' : Int) := by rw [hrem]; exact IntWalk.i64_in _ (by omega)
  go_enter Try.func59, Try.ntmps59
  go_upto_region 0 with (fail)
  go_still_tail 14, (by kernel_rfl)
  change wpList _ _ _ _ _ (World.drew _)
  go_wp2_with fail
  go_end0
  exact ⟨rfl, FIN.out⟩
end
end Go.Proofs.Ytbjomkbiljpjmaa
