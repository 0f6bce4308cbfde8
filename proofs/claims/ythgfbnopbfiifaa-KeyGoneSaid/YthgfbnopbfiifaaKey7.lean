/- Whose request it is; the first of a client's: walked. Conditions: none. -/
import Derived.Test.YthgfbnopbfiifaaKey6
namespace Go.Proofs.Ythgfbnopbfiifaa
open Go Go.MapKept Go.RowKit Go.Proofs Go.Sort

def isV (cb : Nat) : Value := .func (.func 31) #[] #[.pointer (some ⟨cb, 0, none⟩)]
theorem isOf_call (c : Int) (w : World) : Calls Try.prog 19 #[.int .i64 c] w fun e w' => e = .returned (isV w.heap.size) ∧ w' = w.alloc (.cells #[kI c] 3) := by
  unfold isV
  go_enter Try.func19, Try.ntmps19
  go_wp2
  go_ret
  exact ⟨rfl, rfl⟩
theorem isOf1_call {c : Int} {cb : Nat} {w : World} (r : Rq) (h : w.cell? ⟨cb, 0, none⟩ = some (kI c)) : Calls Try.prog 31 #[.agg #[.int .i64 r.c, .bool r.x], .pointer (some ⟨cb, 0, none⟩)] w (Ret (.bool (decide (r.c = c))) fun w' => w' = w.alloc (.cells #[kI r.c, .bool r.x] 59)) := by
  obtain ⟨rc, rx⟩ := r
  have hs := (sat_all w).new (.cells #[kI rc, .bool rx] 59)
  have n0 : (w.alloc (.cells #[kI rc, .bool rx] 59)).cell? ⟨w.heap.size, 0, none⟩ = some (kI rc) := by rw [cell_of hs.h0]; rfl
  have hlt := World.block_lt_of_cell? w ⟨cb, 0, none⟩ h
  have n1 : (w.alloc (.cells #[kI rc, .bool rx] 59)).cell? ⟨cb, 0, none⟩ = some (kI c) := by
    have := hs.tail.cellOld (a := ⟨cb, 0, none⟩) hlt
    rw [this]; exact h
  clear hs hlt
  go_enter Try.func31, Try.ntmps31
  go_wp2
  go_ret
  exact ⟨rfl, rfl⟩
/-- Where requests lie. -/
def RqAt (F : Heaplet) (a : Option Addr) (q : List Rq) : Prop := ∀ w, Sat w F → ∀ (i : Nat) r, q[i]? = some r → ∃ qg off, a = some ⟨qg, off, none⟩ ∧ w.cell? ⟨qg, off + i * 2, none⟩ = some (kI r.c) ∧ w.cell? ⟨qg, off + i * 2 + 1, none⟩ = some (.bool r.x)
def idxM (c : Int) (q : List Rq) : Int := match q.findIdx? (fun r => decide (r.c = c)) with
  | some i => i
  | none => -1
theorem idx_found {c : Int} {q : List Rq} {j : Nat} {r : Rq} (hr : q[j]? = some r) (e : r.c = c) (hno : ∀ i r, i < j → q[i]? = some r → r.c ≠ c) : idxM c q = j := by
  have h : q.findIdx? (fun r => decide (r.c = c)) = some j := by
    obtain ⟨hj, hjr⟩ := List.getElem?_eq_some_iff.1 hr
    rw [List.findIdx?_eq_some_iff_getElem]
    refine ⟨hj, by rw [hjr]; exact decide_eq_true e, fun i hi => ?_⟩
    have hil : i < q.length := Nat.lt_trans hi hj
    have := hno i q[i] hi (List.getElem?_eq_getElem hil)
    simpa using this
  unfold idxM
  rw [h]
theorem idx_none {c : Int} {q : List Rq} (hno : ∀ i r, i < q.length → q[i]? = some r → r.c ≠ c) : idxM c q = -1 := by
  have h : q.findIdx? (fun r => decide (r.c = c)) = none := by
    rw [List.findIdx?_eq_none_iff]
    intro r hr
    obtain ⟨i, hi, e⟩ := List.mem_iff_getElem.1 hr
    have := hno i r hi (by rw [← e]; exact List.getElem?_eq_getElem hi)
    simpa using this
  unfold idxM
  rw [h]
theorem idx_ge (c : Int) (q : List Rq) : decide (0 ≤ idxM c q) = q.any (fun r => decide (r.c = c)) := by
  unfold idxM
  cases h : q.findIdx? (fun r => decide (r.c = c)) with
  | none =>
    rw [List.findIdx?_eq_none_iff] at h
    have : q.any (fun r => decide (r.c = c)) = false := by
      rw [List.any_eq_false]
      intro x hx
      rw [h x hx]; simp
    rw [this]; rfl
  | some i =>
    obtain ⟨hi, he, _⟩ := List.findIdx?_eq_some_iff_getElem.1 h
    have : q.any (fun r => decide (r.c = c)) = true := List.any_eq_true.2 ⟨q[i], List.getElem_mem hi, he⟩
    rw [this]
    have : (0 : Int) ≤ (i : Int) := by omega
    simp [this]
set_option maxHeartbeats 1600000 in
theorem index_any {a : Option Addr} {cap cb : Nat} {q : List Rq} {c : Int} {F : Heaplet} {w : World} (hs : Sat w F) (hq : RqAt F a q) (hc : ∀ w, Sat w F → w.cell? ⟨cb, 0, none⟩ = some (kI c)) (hn : q.length ≤ 1000) :
    Calls Try.prog 30 #[.slice a q.length cap, isV cb] w (Ret (.int .i64 (idxM c q)) (Grown w)) := by
  have HS := Lib.hid (And.intro hs (Grown.refl w))
  have HQ := Lib.hid hq
  have HC := Lib.hid hc
  have HN := Lib.hid hn
  clear hs hq hc hn
  unfold isV
  obtain ⟨res, hres⟩ : ∃ res, idxM c q = res := ⟨_, rfl⟩
  rw [hres]
  have HRES := Lib.hid hres
  clear hres
  go_enter Try.func30, Try.ntmps30
  go_wp2_with fail
  go_loopw [8] (fun v8 wr => ∃ j : Nat, j ≤ q.length ∧ v8 = .int .i64 j ∧ (∀ i r, i < j → q[i]? = some r → r.c ≠ c) ∧ Sat wr F ∧ Grown w wr) (fun v8 _ => 200000 - (RowKit.intOf v8).toNat)
  case atStart => exact ⟨0, by omega, rfl, fun i r hi => absurd hi (by omega), HS.out.1, HS.out.2⟩
  case round =>
    clear HS
    obtain ⟨j, hj, rfl, hno, hs, hgr⟩ := hrel
    have j0 : (0 : Int) ≤ (j : Int) := by omega
    have j9 : (j : Int) ≤ 1000 := by have := HN.out; omega
    by_cases hjl : j < q.length
    · have j1 : (j : Int) < (q.length : Int) := by omega
      obtain ⟨r, hr⟩ : ∃ r, q[j]? = some r := ⟨_, List.getElem?_eq_getElem hjl⟩
      obtain ⟨qg, off, rfl, u0, u1⟩ := HQ.out wr hs j r hr
      have hcall := isOf1_call r (HC.out wr hs)
      have HCALL := Lib.hid hcall
      have HR := Lib.hid hr
      have HNO := Lib.hid hno
      have HSG := Lib.hid (And.intro hs hgr)
      clear hcall hr hno hs hgr
      go_wp2_with fail
      refine (HCALL.out).mono ?_
      rintro e w1 ⟨rfl, rfl⟩
      have hs1 := HSG.out.1.grown (Grown.alloc wr (.cells #[kI r.c, .bool r.x] 59))
      have hg1 := HSG.out.2.trans (Grown.alloc wr (.cells #[kI r.c, .bool r.x] 59))
      have HS1 := Lib.hid (And.intro hs1 hg1)
      clear hs1 hg1 u0 u1 HCALL
      by_cases hrc : r.c = c
      · have hres := idx_found HR.out hrc HNO.out
        rw [HRES.out] at hres
        subst hres
        have hrc1 : (r.c = c) = True := eq_true hrc
        rw [hrc] at HS1
        go_wp2_with fail
        go_ret
        exact ⟨rfl, HS1.out.2⟩
      · have hrc1 : (r.c = c) = False := eq_false hrc
        have FIN : Hid (∀ i r', i < j + 1 → q[i]? = some r' → r'.c ≠ c) := Lib.hid (by
          intro i r' hi hr'
          by_cases hij : i = j
          · rw [hij, HR.out] at hr'
            cases hr'
            exact hrc
          · exact HNO.out i r' (by omega) hr')
        clear hrc
        go_wp2_with fail
        exact ⟨⟨j + 1, by omega, by simp, FIN.out, HS1.out.1, HS1.out.2⟩, by simp only [RowKit.intOf]; omega⟩
    · obtain rfl : j = q.length := by omega
      have hres := idx_none hno
      rw [HRES.out] at hres
      subst hres
      have FIN := Lib.hid hgr
      clear hgr hno hs hjl j0 j9 hj
      go_wp2_with fail
      go_ret
      exact ⟨rfl, FIN.out⟩
theorem cont_any {a : Option Addr} {cap cb : Nat} {q : List Rq} {c : Int} {F : Heaplet} {w : World} (hs : Sat w F) (hq : RqAt F a q) (hc : ∀ w, Sat w F → w.cell? ⟨cb, 0, none⟩ = some (kI c)) (hn : q.length ≤ 1000) :
    Calls Try.prog 18 #[.slice a q.length cap, isV cb] w (Ret (.bool (q.any fun r => decide (r.c = c))) (Grown w)) := by
  have H := Lib.hid (index_any (cap := cap) hs hq hc hn)
  clear hs hq hc hn
  rw [← idx_ge]
  unfold isV at *
  go_enter Try.func18, Try.ntmps18
  go_wp2_with fail
  refine (H.out).mono ?_
  rintro e w1 ⟨rfl, hg⟩
  have HG := Lib.hid hg
  clear hg H
  generalize idxM c q = k at *
  go_wp2_with fail
  go_ret
  exact ⟨by simp, HG.out⟩
end Go.Proofs.Ythgfbnopbfiifaa
