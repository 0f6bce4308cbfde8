/- Images: Good, At walked. Conditions: none. -/
import Derived.Test.YtgocmnejlbfplaaDoorPg1
import Derived.Test.YtgocmnejlbfplaaDoorIdx
namespace Go.Proofs.YtgocmnejlbfplaaDoor
open Go Go.MapKept Go.RowKit Go.Proofs

abbrev isOddV : Value := .func (.func 60) #[] #[]
set_option maxRecDepth 100000 in
set_option maxHeartbeats 1600000 in
theorem idx_odd {v : Value} {L : List Sl} {F : Heaplet} {w : World} (hv : SlAt F v L) (s : Sat w F) (hl : L.length ≤ 1000) :
    Calls Tryd.prog 72 #[v, isOddV] w (Pur (.int .i64 (idxF oddS L)) w) := by
  obtain ⟨a, cap, rfl, hc⟩ := hv
  unfold Pur
  have HC := Lib.hid hc
  have HS := Lib.hid s
  have hl9 : (L.length : Int) ≤ 1000 := by omega
  obtain ⟨res, hres⟩ : ∃ res, idxF oddS L = res := ⟨_, rfl⟩
  rw [hres]
  have HRES := Lib.hid hres
  clear hc s hres
  go_enter Tryd.func72, Tryd.ntmps72
  go_wp2_with fail
  go_loopw [8] (fun v8 wr => ∃ j : Nat, j ≤ L.length ∧ v8 = .int .i64 j ∧ (∀ i y, i < j → L[i]? = some y → oddS y = false) ∧ Grown w wr) (fun v8 _ => 2000 - (RowKit.intOf v8).toNat)
  case atStart => exact ⟨0, by omega, rfl, fun i r hi => absurd hi (by omega), Grown.refl w⟩
  case round =>
    obtain ⟨j, hj, rfl, hno, hg⟩ := hrel
    have j0 : (0 : Int) ≤ (j : Int) := by omega
    have j9 : (j : Int) ≤ 1000 := by omega
    by_cases hjl : j < L.length
    · have j1 : (j : Int) < (L.length : Int) := by omega
      obtain ⟨x, hx⟩ : ∃ x, L[j]? = some x := ⟨_, List.getElem?_eq_getElem hjl⟩
      obtain ⟨g, off, e, hu⟩ := HC.out j x hx
      subst e
      obtain ⟨u0, u1⟩ := hu wr (HS.out.grown hg)
      have HCALL := Lib.hid (isOdd_any x wr)
      have HX := Lib.hid (And.intro hx (And.intro hno hg))
      obtain ⟨xu, xd⟩ := x
      obtain ⟨o, ho⟩ : ∃ o, oddS (xu, xd) = o := ⟨_, rfl⟩
      simp only [ho] at HCALL u0 u1
      have HO := Lib.hid ho
      clear hx hu hno hg ho
      go_wp2_with fail
      refine (HCALL.out).mono ?_
      rintro e w1 ⟨rfl, hg1⟩
      have G1 := Lib.hid (HX.out.2.2.trans hg1)
      clear hg1 u0 u1 HCALL
      cases o with
      | true =>
        have h1 := idxF_found HX.out.1 HO.out HX.out.2.1
        rw [HRES.out] at h1
        clear HO HX
        go_wp2_with fail
        go_ret
        exact ⟨by rw [h1]; rfl, G1.out⟩
      | false =>
        have HNO : Hid (∀ i y, i < j + 1 → L[i]? = some y → oddS y = false) := Lib.hid (fun i y hi hy => by
          by_cases e : i = j
          · subst e
            rw [HX.out.1] at hy
            rw [← Option.some.inj hy]; exact HO.out
          · exact HX.out.2.1 i y (by omega) hy)
        clear HO HX
        go_wp2_with fail
        exact ⟨⟨j + 1, by omega, by simp, HNO.out, G1.out⟩, by simp only [RowKit.intOf]; omega⟩
    · obtain rfl : j = L.length := by omega
      have h1 := idxF_none hno
      rw [HRES.out] at h1
      have G1 := Lib.hid hg
      clear hno hg hj hjl
      go_wp2_with fail
      go_ret
      exact ⟨by rw [h1]; rfl, G1.out⟩
set_option maxRecDepth 100000 in
theorem has_odd {v : Value} {L : List Sl} {F : Heaplet} {w : World} (hv : SlAt F v L) (s : Sat w F) (hl : L.length ≤ 1000) :
    Calls Tryd.prog 59 #[v, isOddV] w (Pur (.bool (L.any oddS)) w) := by
  unfold Pur
  have H := Lib.hid (idx_odd hv s hl)
  have e := idxF_any oddS L
  generalize idxF oddS L = r at *
  have HE := Lib.hid e
  clear hv s e
  go_enter Tryd.func59, Tryd.ntmps59
  go_wp2_with fail
  refine (H.out).mono ?_
  rintro e w1 ⟨rfl, hg⟩
  have G1 := Lib.hid hg
  clear hg H
  go_wp2_with fail
  go_ret
  exact ⟨by rw [← HE.out]; rfl, G1.out⟩
/-- A page's value: its number, its slots' slice. -/
abbrev pgV (n : Int) (sv : Value) : Value := .agg #[kI n, sv]
set_option maxRecDepth 100000 in
set_option maxHeartbeats 4000000 in
theorem pgood_any {v : Value} {p : Pg} {F : Heaplet} {w : World} (hv : SlAt F v p.slots) (s : Sat w F) (hl : p.slots.length ≤ 1000) (hd : ∀ x ∈ p.slots, x.2.size ≤ 1000000) (hn : -9223372036854775808 ≤ p.lsn ∧ p.lsn ≤ 9223372036854775807) :
    Calls Tryd.prog 41 #[pgV p.lsn v] w (Pur (.bool (goodP p)) w) := by
  obtain ⟨lsn, L⟩ := p
  simp only at *
  unfold Pur
  have hs1 := s.new (.cells #[kI lsn, v] 25)
  have c0 : (w.alloc (.cells #[kI lsn, v] 25)).cell? ⟨w.heap.size, 0, none⟩ = some (kI lsn) := by rw [cell_of hs1.h0]; rfl
  have c1 : (w.alloc (.cells #[kI lsn, v] 25)).cell? ⟨w.heap.size, 1, none⟩ = some v := by rw [cell_of hs1.h0]; rfl
  have G0 := Lib.hid (Grown.alloc w (.cells #[kI lsn, v] 25))
  have HS := Lib.hid hs1
  have HV := Lib.hid hv
  have HD := Lib.hid hd
  have hgp : goodP ⟨lsn, L⟩ = (decide (0 ≤ lsn) && decide (lsn ≤ 1099511627776) && decide (L.length ≤ 32) && !L.any oddS && lastU L && decide (szL L ≤ 240)) := rfl
  obtain ⟨a, cap, e, _⟩ := hv
  subst e
  clear hs1 hd s
  rw [hgp]
  by_cases h1 : lsn < 0
  · have z : decide (0 ≤ lsn) = false := decide_eq_false (by omega)
    rw [z]
    simp only [Bool.false_and]
    clear hgp HV HD HS
    go_enter Tryd.func41, Tryd.ntmps41
    go_wp2_with fail
    go_ret
    exact ⟨rfl, G0.out⟩
  · by_cases h2 : 1099511627776 < lsn
    · have z : decide (lsn ≤ 1099511627776) = false := decide_eq_false (by omega)
      rw [z]
      simp only [Bool.false_and, Bool.and_false]
      clear hgp HV HD HS
      go_enter Tryd.func41, Tryd.ntmps41
      go_wp2_with fail
      go_ret
      exact ⟨rfl, G0.out⟩
    · have z1 : decide (0 ≤ lsn) = true := decide_eq_true (by omega)
      have z2 : decide (lsn ≤ 1099511627776) = true := decide_eq_true (by omega)
      rw [z1, z2]
      by_cases h3 : 32 < L.length
      · have h3i : (32 : Int) < (L.length : Int) := by omega
        have z : decide (L.length ≤ 32) = false := decide_eq_false (by omega)
        rw [z]
        simp only [Bool.false_and, Bool.and_false]
        clear hgp HV HD HS z1 z2
        go_enter Tryd.func41, Tryd.ntmps41
        go_wp2_with fail
        go_ret
        exact ⟨rfl, G0.out⟩
      · have h3i : ((32 : Int) < (L.length : Int)) = False := eq_false (by omega)
        have z3 : decide (L.length ≤ 32) = true := decide_eq_true (by omega)
        rw [z3]
        have hv1 : SlAt (.blk w.heap.size (.cells #[kI lsn, .slice a L.length cap] 25) :: F) (.slice a L.length cap) L := HV.out.mono (fun w hw => hw.tail)
        have HV1 := Lib.hid hv1
        have HODD := Lib.hid (has_odd hv1 HS.out hl)
        have HSIZE : Hid (∀ w', Sat w' (.blk w.heap.size (.cells #[kI lsn, .slice a L.length cap] 25) :: F) → Calls Tryd.prog 61 #[.slice a L.length cap] w' (Pur (.int .i64 (szL L)) w')) := Lib.hid (fun w' hs => size_any HV1.out hs hl HD.out)
        obtain ⟨o, ho⟩ : ∃ o, L.any oddS = o := ⟨_, rfl⟩
        obtain ⟨lu, hlu⟩ : ∃ lu, lastU L = lu := ⟨_, rfl⟩
        obtain ⟨sz, hsz⟩ : ∃ sz, szL L = sz := ⟨_, rfl⟩
        rw [ho] at HODD
        rw [hsz] at HSIZE
        rw [ho, hlu, hsz]
        have HLU := Lib.hid hlu
        clear hgp z1 z2 z3 hv1 ho HV hlu hsz
        go_enter Tryd.func41, Tryd.ntmps41
        go_wp2_with fail
        refine (HODD.out).mono ?_
        rintro e w1 ⟨rfl, hg⟩
        have HS1 := Lib.hid (HS.out.grown hg)
        have G1 := Lib.hid (G0.out.trans hg)
        have d1 : w1.cell? ⟨w.heap.size, 1, none⟩ = some (.slice a L.length cap) := by rw [cell_of HS1.out.h0]; rfl
        clear hg HODD HS G0 c0 c1
        cases o with
        | true =>
          simp only [Bool.not_true, Bool.false_and, Bool.and_false]
          clear d1 HV1 HD
          go_wp2_with fail
          go_ret
          exact ⟨rfl, G1.out⟩
        | false =>
          by_cases hn0 : L.length = 0
          · have hb : ((L.length : Int) == 0) = true := by simpa using hn0
            have e : L = [] := List.eq_nil_of_length_eq_zero hn0
            have hlt : lu = true := by rw [← HLU.out, e]; rfl
            subst hlt
            clear HLU HV1 HD e hn0
            go_wp2_with fail
            refine (HSIZE.out w1 HS1.out).mono ?_
            rintro e w2 ⟨rfl, hg⟩
            have G2 := Lib.hid (G1.out.trans hg)
            clear hg HSIZE HS1 d1
            go_wp2_with fail
            go_ret
            exact ⟨by simp; omega, G2.out⟩
          · have hb : ((L.length : Int) == 0) = false := by simpa using hn0
            obtain ⟨n, hn⟩ : ∃ n, L.length = n + 1 := ⟨L.length - 1, by omega⟩
            obtain ⟨x, hx⟩ : ∃ x, L[n]? = some x := ⟨_, List.getElem?_eq_getElem (by omega)⟩
            obtain ⟨a', cap', e, hc⟩ := HV1.out
            cases e
            obtain ⟨g, off, e, hu⟩ := hc n x hx
            subst e
            obtain ⟨u0, u1⟩ := hu w1 HS1.out
            have hlt : lu = x.1 := by
              rw [← HLU.out]
              unfold lastU
              rw [List.getLast?_eq_getElem?, hn, Nat.add_sub_cancel, hx]
            obtain ⟨xu, xd⟩ := x
            simp only at hlt u0
            subst hlt
            have HN := Lib.hid hn
            have n0 : (0 : Int) ≤ (n : Int) := by omega
            have n1 : (L.length : Int) = (n : Int) + 1 := by omega
            have n9 : (n : Int) ≤ 1000 := by omega
            have m1 : IntKind.i64.wrap ((L.length : Int) - 1) = (n : Int) := by rw [IntWalk.i64_in _ (by omega)]; omega
            have m2 : wrap64 ((L.length : Int) - 1) = (n : Int) := by rw [IntWalk.wrap64_in _ (by omega)]; omega
            have m3 : (n : Int) < (L.length : Int) := by omega
            have m4 : n < L.length := by omega
            clear HLU hc hx hn u1 HV1 HD hn0 n1
            cases lu with
            | false =>
              go_wp2_with fail
              go_ret
              exact ⟨rfl, G1.out⟩
            | true =>
              go_wp2_with fail
              refine (HSIZE.out w1 HS1.out).mono ?_
              rintro e w2 ⟨rfl, hg⟩
              have G2 := Lib.hid (G1.out.trans hg)
              clear hg HSIZE HS1 d1 u0
              go_wp2_with fail
              go_ret
              exact ⟨by simp; omega, G2.out⟩
end Go.Proofs.YtgocmnejlbfplaaDoor
