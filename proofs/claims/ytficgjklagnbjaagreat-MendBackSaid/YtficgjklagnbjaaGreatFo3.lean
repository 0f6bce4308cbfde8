/- Texts put together: Pg2, Pg3, Copy, Pg4. Conditions: none. -/
import Derived.Laws.IdiomCopy
import Derived.Laws.MakeOwn
import Derived.Test.YtficgjklagnbjaaGreatFo2
namespace Go.Proofs.YtficgjklagnbjaaGreat
open Go Go.MapKept Go.RowKit Go.Proofs

abbrev isOddV : Value := .func (.func 64) #[] #[]
set_option maxRecDepth 100000 in
set_option maxHeartbeats 1600000 in
theorem idx_odd {v : Value} {L : List Sl} {F : Heaplet} {w : World} (hv : SlAt F v L) (s : Sat w F) (hl : L.length ≤ 1000) :
    Calls Tryz.prog 91 #[v, isOddV] w (Pur (.int .i64 (idxF oddS L)) w) := by
  obtain ⟨a, cap, rfl, hc⟩ := hv
  unfold Pur
  have HC := Lib.hid hc
  have HS := Lib.hid s
  have hl9 : (L.length : Int) ≤ 1000 := by omega
  obtain ⟨res, hres⟩ : ∃ res, idxF oddS L = res := ⟨_, rfl⟩
  rw [hres]
  have HRES := Lib.hid hres
  clear hc s hres
  go_enter Tryz.func91, Tryz.ntmps91
  go_wp2_with fail
  go_loopw [8] (fun v8 wr => ∃ j : Nat, j ≤ L.length ∧ v8 = .int .i64 j ∧ (∀ i y, i < j → L[i]? = some y → oddS y = false) ∧ Grown w wr) (fun v8 _ => 2000 - (RowKit.intOf v8).toNat)
  case atStart => exact ⟨0, by omega, rfl, fun i r hi => absurd hi (by omega), Grown.refl w⟩
  case round =>
    obtain ⟨j, hj, rfl, hno, hg⟩ := hrel
    have j0 : (0 : Int) ≤ (j : Int) := by omega
    have j9 : (j : Int) ≤ 1000 := by omega
    by_cases hjl : j < L.length
    · have j1 : (j : Int) < (L.length : Int) := by omega
      obtain ⟨x, hx⟩ : ∃ x, L[j]? = some x := ⟨_, List.getElem?_eq_getElem hjl⟩
      obtain ⟨g, off, e, hu⟩ := HC.out j x hx
      subst e
      obtain ⟨u0, u1⟩ := hu wr (HS.out.grown hg)
      have HCALL := Lib.hid (isOdd_any x wr)
      have HX := Lib.hid (And.intro hx (And.intro hno hg))
      obtain ⟨xu, xd⟩ := x
      obtain ⟨o, ho⟩ : ∃ o, oddS (xu, xd) = o := ⟨_, rfl⟩
      simp only [ho] at HCALL u0 u1
      have HO := Lib.hid ho
      clear hx hu hno hg ho
      go_wp2_with fail
      refine (HCALL.out).mono ?_
      rintro e w1 ⟨rfl, hg1⟩
      have G1 := Lib.hid (HX.out.2.2.trans hg1)
      clear hg1 u0 u1 HCALL
      cases o with
      | true =>
        have h1 := idxF_found HX.out.1 HO.out HX.out.2.1
        rw [HRES.out] at h1
        clear HO HX
        go_wp2_with fail
        go_ret
        exact ⟨by rw [h1]; rfl, G1.out⟩
      | false =>
        have HNO : Hid (∀ i y, i < j + 1 → L[i]? = some y → oddS y = false) := Lib.hid (fun i y hi hy => by
          by_cases e : i = j
          · subst e
            rw [HX.out.1] at hy
            rw [← Option.some.inj hy]; exact HO.out
          · exact HX.out.2.1 i y (by omega) hy)
        clear HO HX
        go_wp2_with fail
        exact ⟨⟨j + 1, by omega, by simp, HNO.out, G1.out⟩, by simp only [RowKit.intOf]; omega⟩
    · obtain rfl : j = L.length := by omega
      have h1 := idxF_none hno
      rw [HRES.out] at h1
      have G1 := Lib.hid hg
      clear hno hg hj hjl
      go_wp2_with fail
      go_ret
      exact ⟨by rw [h1]; rfl, G1.out⟩
set_option maxRecDepth 100000 in
theorem has_odd {v : Value} {L : List Sl} {F : Heaplet} {w : World} (hv : SlAt F v L) (s : Sat w F) (hl : L.length ≤ 1000) :
    Calls Tryz.prog 63 #[v, isOddV] w (Pur (.bool (L.any oddS)) w) := by
  unfold Pur
  have H := Lib.hid (idx_odd hv s hl)
  have e := idxF_any oddS L
  generalize idxF oddS L = r at *
  have HE := Lib.hid e
  clear hv s e
  go_enter Tryz.func63, Tryz.ntmps63
  go_wp2_with fail
  refine (H.out).mono ?_
  rintro e w1 ⟨rfl, hg⟩
  have G1 := Lib.hid hg
  clear hg H
  go_wp2_with fail
  go_ret
  exact ⟨by rw [← HE.out]; rfl, G1.out⟩
/-- A page's value: its number, its slots' slice. -/
abbrev pgV (n : Int) (sv : Value) : Value := .agg #[kI n, sv]
set_option maxRecDepth 100000 in
set_option maxHeartbeats 4000000 in
theorem pgood_any {v : Value} {p : Pg} {F : Heaplet} {w : World} (hv : SlAt F v p.slots) (s : Sat w F) (hl : p.slots.length ≤ 1000) (hd : ∀ x ∈ p.slots, x.2.size ≤ 1000000) (hn : -9223372036854775808 ≤ p.lsn ∧ p.lsn ≤ 9223372036854775807) :
    Calls Tryz.prog 34 #[pgV p.lsn v] w (Pur (.bool (goodP p)) w) := by
  obtain ⟨lsn, L⟩ := p
  simp only at *
  unfold Pur
  have hs1 := s.new (.cells #[kI lsn, v] 52)
  have c0 : (w.alloc (.cells #[kI lsn, v] 52)).cell? ⟨w.heap.size, 0, none⟩ = some (kI lsn) := by rw [cell_of hs1.h0]; rfl
  have c1 : (w.alloc (.cells #[kI lsn, v] 52)).cell? ⟨w.heap.size, 1, none⟩ = some v := by rw [cell_of hs1.h0]; rfl
  have G0 := Lib.hid (Grown.alloc w (.cells #[kI lsn, v] 52))
  have HS := Lib.hid hs1
  have HV := Lib.hid hv
  have HD := Lib.hid hd
  have hgp : goodP ⟨lsn, L⟩ = (decide (0 ≤ lsn) && decide (lsn ≤ 1099511627776) && decide (L.length ≤ 32) && !L.any oddS && lastU L && decide (szL L ≤ 240)) := rfl
  obtain ⟨a, cap, e, _⟩ := hv
  subst e
  clear hs1 hd s
  rw [hgp]
  by_cases h1 : lsn < 0
  · have z : decide (0 ≤ lsn) = false := decide_eq_false (by omega)
    rw [z]
    simp only [Bool.false_and]
    clear hgp HV HD HS
    go_enter Tryz.func34, Tryz.ntmps34
    go_wp2_with fail
    go_ret
    exact ⟨rfl, G0.out⟩
  · by_cases h2 : 1099511627776 < lsn
    · have z : decide (lsn ≤ 1099511627776) = false := decide_eq_false (by omega)
      rw [z]
      simp only [Bool.false_and, Bool.and_false]
      clear hgp HV HD HS
      go_enter Tryz.func34, Tryz.ntmps34
      go_wp2_with fail
      go_ret
      exact ⟨rfl, G0.out⟩
    · have z1 : decide (0 ≤ lsn) = true := decide_eq_true (by omega)
      have z2 : decide (lsn ≤ 1099511627776) = true := decide_eq_true (by omega)
      rw [z1, z2]
      by_cases h3 : 32 < L.length
      · have h3i : (32 : Int) < (L.length : Int) := by omega
        have z : decide (L.length ≤ 32) = false := decide_eq_false (by omega)
        rw [z]
        simp only [Bool.false_and, Bool.and_false]
        clear hgp HV HD HS z1 z2
        go_enter Tryz.func34, Tryz.ntmps34
        go_wp2_with fail
        go_ret
        exact ⟨rfl, G0.out⟩
      · have h3i : ((32 : Int) < (L.length : Int)) = False := eq_false (by omega)
        have z3 : decide (L.length ≤ 32) = true := decide_eq_true (by omega)
        rw [z3]
        have hv1 : SlAt (.blk w.heap.size (.cells #[kI lsn, .slice a L.length cap] 52) :: F) (.slice a L.length cap) L := HV.out.mono (fun w hw => hw.tail)
        have HV1 := Lib.hid hv1
        have HODD := Lib.hid (has_odd hv1 HS.out hl)
        have HSIZE : Hid (∀ w', Sat w' (.blk w.heap.size (.cells #[kI lsn, .slice a L.length cap] 52) :: F) → Calls Tryz.prog 65 #[.slice a L.length cap] w' (Pur (.int .i64 (szL L)) w')) := Lib.hid (fun w' hs => size_any HV1.out hs hl HD.out)
        obtain ⟨o, ho⟩ : ∃ o, L.any oddS = o := ⟨_, rfl⟩
        obtain ⟨lu, hlu⟩ : ∃ lu, lastU L = lu := ⟨_, rfl⟩
        obtain ⟨sz, hsz⟩ : ∃ sz, szL L = sz := ⟨_, rfl⟩
        rw [ho] at HODD
        rw [hsz] at HSIZE
        rw [ho, hlu, hsz]
        have HLU := Lib.hid hlu
        clear hgp z1 z2 z3 hv1 ho HV hlu hsz
        go_enter Tryz.func34, Tryz.ntmps34
        go_wp2_with fail
        refine (HODD.out).mono ?_
        rintro e w1 ⟨rfl, hg⟩
        have HS1 := Lib.hid (HS.out.grown hg)
        have G1 := Lib.hid (G0.out.trans hg)
        have d1 : w1.cell? ⟨w.heap.size, 1, none⟩ = some (.slice a L.length cap) := by rw [cell_of HS1.out.h0]; rfl
        clear hg HODD HS G0 c0 c1
        cases o with
        | true =>
          simp only []
          clear d1 HV1 HD
          go_wp2_with fail
          go_ret
          exact ⟨rfl, G1.out⟩
        | false =>
          by_cases hn0 : L.length = 0
          · have hb : ((L.length : Int) == 0) = true := by simpa using hn0
            have e : L = [] := List.eq_nil_of_length_eq_zero hn0
            have hlt : lu = true := by rw [← HLU.out, e]; rfl
            subst hlt
            clear HLU HV1 HD e hn0
            go_wp2_with fail
            refine (HSIZE.out w1 HS1.out).mono ?_
            rintro e w2 ⟨rfl, hg⟩
            have G2 := Lib.hid (G1.out.trans hg)
            clear hg HSIZE HS1 d1
            go_wp2_with fail
            go_ret
            exact ⟨by simp; omega, G2.out⟩
          · have hb : ((L.length : Int) == 0) = false := by simpa using hn0
            obtain ⟨n, hn⟩ : ∃ n, L.length = n + 1 := ⟨L.length - 1, by omega⟩
            obtain ⟨x, hx⟩ : ∃ x, L[n]? = some x := ⟨_, List.getElem?_eq_getElem (by omega)⟩
            obtain ⟨a', cap', e, hc⟩ := HV1.out
            cases e
            obtain ⟨g, off, e, hu⟩ := hc n x hx
            subst e
            obtain ⟨u0, u1⟩ := hu w1 HS1.out
            have hlt : lu = x.1 := by
              rw [← HLU.out]
              unfold lastU
              rw [List.getLast?_eq_getElem?, hn, Nat.add_sub_cancel, hx]
            obtain ⟨xu, xd⟩ := x
            simp only at hlt u0
            subst hlt
            have HN := Lib.hid hn
            have n0 : (0 : Int) ≤ (n : Int) := by omega
            have n1 : (L.length : Int) = (n : Int) + 1 := by omega
            have n9 : (n : Int) ≤ 1000 := by omega
            have m1 : IntKind.i64.wrap ((L.length : Int) - 1) = (n : Int) := by rw [IntWalk.i64_in _ (by omega)]; omega
            have m2 : wrap64 ((L.length : Int) - 1) = (n : Int) := by rw [IntWalk.wrap64_in _ (by omega)]; omega
            have m3 : (n : Int) < (L.length : Int) := by omega
            have m4 : n < L.length := by omega
            clear HLU hc hx hn u1 HV1 HD hn0 n1
            cases lu with
            | false =>
              go_wp2_with fail
              go_ret
              exact ⟨rfl, G1.out⟩
            | true =>
              go_wp2_with fail
              refine (HSIZE.out w1 HS1.out).mono ?_
              rintro e w2 ⟨rfl, hg⟩
              have G2 := Lib.hid (G1.out.trans hg)
              clear hg HSIZE HS1 d1 u0
              go_wp2_with fail
              go_ret
              exact ⟨by simp; omega, G2.out⟩
end Go.Proofs.YtficgjklagnbjaaGreat
namespace Go.Proofs.YtficgjklagnbjaaGreat
open Go Go.MapKept Go.RowKit Go.Proofs

set_option maxRecDepth 100000 in
set_option maxHeartbeats 4000000 in
theorem at_any {v : Value} {p : Pg} {F : Heaplet} {w : World} (k : Int) (hv : SlAt F v p.slots) (s : Sat w F) (hl : p.slots.length ≤ 1000) (hd : ∀ x ∈ p.slots, x.2.size ≤ 1000000) (hn : -9223372036854775808 ≤ p.lsn ∧ p.lsn ≤ 9223372036854775807) :
    Calls Tryz.prog 16 #[pgV p.lsn v, .int .i64 k] w (Ret (slV (atM p k)) (Below w.heap.size w)) := by
  have hs1 := (s.new (.cells #[kI p.lsn, v] 52)).new (.cells #[.bool false, kS ⟨#[]⟩] 41)
  rw [World.size_alloc] at hs1
  have hs2 := ((sat_all w).new (.cells #[kI p.lsn, v] 52)).new (.cells #[.bool false, kS ⟨#[]⟩] 41)
  rw [World.size_alloc] at hs2
  have HS2 := Lib.hid hs2
  have hv1 : SlAt (.blk (w.heap.size + 1) (.cells #[.bool false, kS ⟨#[]⟩] 41) :: .blk w.heap.size (.cells #[kI p.lsn, v] 52) :: F) v p.slots := hv.mono (fun w hw => hw.tail.tail)
  have HG := Lib.hid (pgood_any hv1 hs1 hl hd hn)
  have HS := Lib.hid hs1
  have HV1 := Lib.hid hv1
  have c0 : ((w.alloc (.cells #[kI p.lsn, v] 52)).alloc (.cells #[.bool false, kS ⟨#[]⟩] 41)).cell? ⟨w.heap.size, 0, none⟩ = some (kI p.lsn) := by rw [cell_of hs1.h1]; rfl
  have c1 : ((w.alloc (.cells #[kI p.lsn, v] 52)).alloc (.cells #[.bool false, kS ⟨#[]⟩] 41)).cell? ⟨w.heap.size, 1, none⟩ = some v := by rw [cell_of hs1.h1]; rfl
  obtain ⟨gp, hgp⟩ : ∃ gp, goodP p = gp := ⟨_, rfl⟩
  obtain ⟨res, hres⟩ : ∃ res, atM p k = res := ⟨_, rfl⟩
  rw [hgp] at HG
  rw [hres]
  have HR := Lib.hid (And.intro hgp hres)
  obtain ⟨a, cap, e, _⟩ := hv
  subst e
  clear s hs1 hs2 hv1 hgp hres hd
  obtain ⟨B, hB⟩ : ∃ B, Below w.heap.size w = B := ⟨_, rfl⟩
  rw [hB]
  have HB : Hid (∀ w' o, Sat w' (o :: .blk w.heap.size (.cells #[kI p.lsn, .slice a p.slots.length cap] 52) :: allOf w) → B w') := Lib.hid (fun w' o hs => by rw [← hB]; exact hs.tail.tail.below)
  clear hB
  go_enter Tryz.func16, Tryz.ntmps16
  go_upto_region 1 with (fail)
  generalize (w.alloc (.cells #[kI p.lsn, .slice a p.slots.length cap] 52)).alloc (.cells #[.bool false, kS ⟨#[]⟩] 41) = W1 at *
  generalize w.heap.size = g at *
  have hln : (p.slots.length : Int) ≤ 1000 := by omega
  by_cases hok : gp = true ∧ 0 ≤ k ∧ k < p.slots.length
  · obtain ⟨rfl, hk0, hk1⟩ := hok
    have hk2 : (k < 0) = False := eq_false (by omega)
    have hk3 : ((p.slots.length : Int) ≤ k) = False := eq_false (by omega)
    obtain ⟨x, hx⟩ : ∃ x, p.slots[k.toNat]? = some x := ⟨_, List.getElem?_eq_getElem (by omega)⟩
    have hxr : x = res := by
      rw [← HR.out.2]
      unfold atM
      rw [if_pos ⟨HR.out.1, hk0⟩, hx]; rfl
    obtain ⟨a', cap', e, hc⟩ := HV1.out
    cases e
    obtain ⟨gg, off, e, hu⟩ := hc _ x hx
    subst e
    have HU := Lib.hid hu
    have hk4 : 0 ≤ k ∧ k < (p.slots.length : Int) := ⟨hk0, hk1⟩
    clear hc hx HV1
    go_wp2_with fail
    refine (HG.out).mono ?_
    rintro e w1 ⟨rfl, hg⟩
    have HS3 := Lib.hid (HS2.out.grown hg)
    have HS4 := Lib.hid (HS.out.grown hg)
    obtain ⟨u0, u1⟩ := HU.out w1 HS4.out
    have d1 : w1.cell? ⟨g, 1, none⟩ = some (.slice (some ⟨gg, off, none⟩) p.slots.length cap) := by rw [cell_of HS4.out.h1]; rfl
    have e0 : w1.cell? ⟨g + 1, 0, none⟩ = some (.bool false) := by rw [cell_of HS4.out.h0]; rfl
    have e1 : w1.cell? ⟨g + 1, 1, none⟩ = some (kS ⟨#[]⟩) := by rw [cell_of HS4.out.h0]; rfl
    have f0 : ∀ i, w1.frozen? ⟨g + 1, i, none⟩ = false := fun i => unfrozen_of HS4.out.h0 i
    have f00 := f0 0
    have f01 := f0 1
    clear hg HG HS HS2 c0 c1 HU f0
    go_wp2_with fail
    have HS5 := Lib.hid ((HS3.out.setCell (i := 0) (.bool res.1)).setCell (i := 1) (kS res.2))
    refine bodyPost_ret (v := slV res) ?_ rfl ⟨rfl, HB.out _ _ HS5.out⟩
    change (results Tryz.f16 _).run Tryz.prog ((w1.setCell ⟨g + 1, 0, none⟩ (.bool res.1)).setCell ⟨g + 1, 1, none⟩ (kS res.2)) = .ok _ ((w1.setCell ⟨g + 1, 0, none⟩ (.bool res.1)).setCell ⟨g + 1, 1, none⟩ (kS res.2))
    have r0 : ((w1.setCell ⟨g + 1, 0, none⟩ (.bool res.1)).setCell ⟨g + 1, 1, none⟩ (kS res.2)).cell? ⟨g + 1, 0, none⟩ = some (.bool res.1) := by rw [cell_of HS5.out.h0]; rfl
    have r1 : ((w1.setCell ⟨g + 1, 0, none⟩ (.bool res.1)).setCell ⟨g + 1, 1, none⟩ (kS res.2)).cell? ⟨g + 1, 1, none⟩ = some (kS res.2) := by rw [cell_of HS5.out.h0]; rfl
    clear HS5
    generalize (w1.setCell ⟨g + 1, 0, none⟩ (.bool res.1)).setCell ⟨g + 1, 1, none⟩ (kS res.2) = W9 at *
    simp [results, Tryz.results16, go_sem, r0, r1]
  · have hxr : res = (false, ⟨#[]⟩) := by
      rw [← HR.out.2]
      unfold atM
      split
      · rename_i h
        rw [HR.out.1] at h
        have h2 := Int.not_lt.1 (fun h1 => hok ⟨h.1, h.2, h1⟩)
        rw [List.getElem?_eq_none (by omega)]; rfl
      · rfl
    subst hxr
    have HOK := Lib.hid hok
    clear hok HV1
    go_wp2_with fail
    refine (HG.out).mono ?_
    rintro e w1 ⟨rfl, hg⟩
    have HS3 := Lib.hid (HS2.out.grown hg)
    have HS4 := Lib.hid (HS.out.grown hg)
    have d1 : w1.cell? ⟨g, 1, none⟩ = some (.slice a p.slots.length cap) := by rw [cell_of HS4.out.h1]; rfl
    have e0 : w1.cell? ⟨g + 1, 0, none⟩ = some (.bool false) := by rw [cell_of HS4.out.h0]; rfl
    have e1 : w1.cell? ⟨g + 1, 1, none⟩ = some (kS ⟨#[]⟩) := by rw [cell_of HS4.out.h0]; rfl
    have f00 : w1.frozen? ⟨g + 1, 0, none⟩ = false := unfrozen_of HS4.out.h0 0
    have f01 : w1.frozen? ⟨g + 1, 1, none⟩ = false := unfrozen_of HS4.out.h0 1
    have HS5 := Lib.hid ((HS3.out.setCell (i := 0) (.bool false)).setCell (i := 1) (kS ⟨#[]⟩))
    have fin : Hid (∀ tm : Array Value, (tm[4]?).getD undef = .pointer (some ⟨g + 1, 0, none⟩) → (results Tryz.f16 tm).run Tryz.prog ((w1.setCell ⟨g + 1, 0, none⟩ (.bool false)).setCell ⟨g + 1, 1, none⟩ (kS ⟨#[]⟩)) = .ok (slV (false, ⟨#[]⟩)) ((w1.setCell ⟨g + 1, 0, none⟩ (.bool false)).setCell ⟨g + 1, 1, none⟩ (kS ⟨#[]⟩))) := Lib.hid (by
      intro tm htm
      have r0 : ((w1.setCell ⟨g + 1, 0, none⟩ (.bool false)).setCell ⟨g + 1, 1, none⟩ (kS ⟨#[]⟩)).cell? ⟨g + 1, 0, none⟩ = some (.bool false) := by rw [cell_of HS5.out.h0]; rfl
      have r1 : ((w1.setCell ⟨g + 1, 0, none⟩ (.bool false)).setCell ⟨g + 1, 1, none⟩ (kS ⟨#[]⟩)).cell? ⟨g + 1, 1, none⟩ = some (kS ⟨#[]⟩) := by rw [cell_of HS5.out.h0]; rfl
      simp [results, Tryz.results16, go_sem, htm, r0, r1])
    clear hg HG HS HS2 c0 c1 HS3 HS4
    have hcs : gp = false ∨ (gp = true ∧ k < 0) ∨ (gp = true ∧ 0 ≤ k ∧ (p.slots.length : Int) ≤ k) := by
      have := HOK.out
      cases gp with
      | false => exact .inl rfl
      | true =>
        right
        by_cases h : k < 0
        · exact .inl ⟨rfl, h⟩
        · exact .inr ⟨rfl, by omega, Int.not_lt.1 (fun h1 => this ⟨rfl, by omega, h1⟩)⟩
    clear HOK
    rcases hcs with rfl | ⟨rfl, hk⟩ | ⟨rfl, hk0, hk1⟩
    · go_wp2_with fail
      exact bodyPost_ret (v := slV (false, ⟨#[]⟩)) (fin.out _ rfl) rfl ⟨rfl, HB.out _ _ HS5.out⟩
    · go_wp2_with fail
      exact bodyPost_ret (v := slV (false, ⟨#[]⟩)) (fin.out _ rfl) rfl ⟨rfl, HB.out _ _ HS5.out⟩
    · have hk2 : (k < 0) = False := eq_false (by omega)
      go_wp2_with fail
      exact bodyPost_ret (v := slV (false, ⟨#[]⟩)) (fin.out _ rfl) rfl ⟨rfl, HB.out _ _ HS5.out⟩
end Go.Proofs.YtficgjklagnbjaaGreat
namespace Go.Proofs.YtficgjklagnbjaaGreat
open Go

section
variable {P : Program}
theorem run_copy_gen (w : World) (dT sT ty elem : TypeId) (sz b o dLen dCap : Nat) (a : Addr) (sLen sCap : Nat) (cs : List Value)
    (hu : P.underlying dT = some (.slice elem)) (hs : (P.info? elem).map (·.size) = some sz) (hn : cs.length = Nat.min sLen dLen * sz)
    (hsrc : ∀ j v, cs[j]? = some v → w.cell? (a.add j) = some v) (hc : ∀ j, j < cs.length → (w.cell? ⟨b, o + j, none⟩).isSome = true) (hf : ∀ j, j < cs.length → w.frozen? ⟨b, o + j, none⟩ = false) (h1 : ∀ v ∈ cs, v.oneCell' = true) :
    (Builtin.copy_ #[dT, sT] ty #[.slice (some ⟨b, o, none⟩) dLen dCap, .slice (some a) sLen sCap]).run P w = .ok (goInt (Nat.min sLen dLen)) (w.setCells b o cs) := by
  have hl := run_loadCells_list (P := P) w a cs hsrc
  have hst := run_storeCells_cells (P := P) b o cs 0 w (by simpa using hc) (by simpa using hf) h1
  cases hq : P.info? elem with
  | none => simp [hq] at hs
  | some i =>
    have hi : i.size = sz := by simpa [hq] using hs
    rw [hn] at hl
    simp [Builtin.copy_, run_underlying hu, Builtin.lenOf, Builtin.firstCells, sizeOf, typeInfo, hq, hi, hl, hst]
theorem run_copy_zero (w : World) (dT sT ty elem : TypeId) (sz : Nat) (d a : Option Addr) (dLen dCap sLen sCap : Nat) (hu : P.underlying dT = some (.slice elem)) (hs : (P.info? elem).map (·.size) = some sz) (hn : Nat.min sLen dLen = 0) :
    (Builtin.copy_ #[dT, sT] ty #[.slice d dLen dCap, .slice a sLen sCap]).run P w = .ok (goInt 0) w := by
  cases hq : P.info? elem with
  | none => simp [hq] at hs
  | some i =>
    have hl : ∀ (x : Addr), (loadCells x 0).run P w = .ok #[] w := fun x => by simpa using run_loadCells_list (P := P) w x [] (by simp)
    cases d <;> cases a <;> simp [Builtin.copy_, run_underlying hu, Builtin.lenOf, Builtin.firstCells, sizeOf, typeInfo, hq, hn, storeCells, hl]
theorem wpList_copy_run {w : World} {ops : Array Oper} {rest : List Oper} {o : Oper} {a : Act} {Q : Exit → Act → World → Prop} (hgd : o.guard = none) (s x : Operand) (t1 t2 : TypeId)
    (ho : o.op = .call { callee := .builtin .copy, args := #[s, x], argTypes := #[t1, t2] }) (v xv v' : Value) (w' : World) (hs : a.eval s = v) (hx : a.eval x = xv)
    (hr : ∀ ty, (Builtin.copy_ #[t1, t2] ty #[v, xv]).run P w = .ok v' w') (h : wpList P ops Q rest (a.put o.dst v') w') : wpList P ops Q (o :: rest) a w := by
  refine wpList_plain hgd fun K hK => ?_
  unfold Oper.wp
  simp [execOp, ho, resolve, invoke, builtin, hs, hx, hr, Result.andThen]
  exact hK _ _ h
end
end Go.Proofs.YtficgjklagnbjaaGreat
namespace Go.Proofs.YtficgjklagnbjaaGreat
open Go Go.MapKept Go.RowKit Go.Proofs

def slC (s : Sl) : List Value := [.bool s.1, kS s.2]
theorem slC_len : ∀ s, (slC s).length = 2 := fun _ => rfl
theorem one_sl : ∀ s, ∀ v ∈ slC s, v.oneCell' = true := by intro s; simp [slC, Value.oneCell']
abbrev SlOwn (v : Value) (L : List Sl) (h : Heaplet) : Prop := SliceIs 41 2 v L.length (L.flatMap slC) h
theorem infoSl : (Tryz.prog.info? 41).map (fun i => (i.zero, i.size, i.bytes)) = some (some (.agg #[.bool false, .string ⟨#[]⟩]), 2, 24) := by kernel_rfl
theorem slAt_own {v : Value} {L : List Sl} {h : Heaplet} (hv : SlOwn v L h) (F : Heaplet) : SlAt (h ++ F) v L := by
  obtain ⟨a, cap, rfl⟩ := sl_form hv
  refine ⟨a, cap, rfl, fun i s hs => ?_⟩
  rcases hv.2 with ⟨e, e0, _⟩ | ⟨g', cap', cur, e, _, _, _, _, rfl⟩
  · have := (List.getElem?_eq_some_iff.1 hs).1
    omega
  · cases e
    refine ⟨g', 0, rfl, fun w hw => ?_⟩
    obtain ⟨a', cap2, e, hc⟩ := sl_cells slC_len hv hw
    cases e
    obtain ⟨g, e, _, hu⟩ := hc i s hs
    cases e
    have u0 := hu 0 _ rfl
    have u1 := hu 1 _ rfl
    rw [Nat.zero_add]
    exact ⟨u0, u1⟩
def noSl : Sl := (false, ⟨#[]⟩)
theorem madeSl (n : Nat) : madeCells #[.bool false, .string ⟨#[]⟩] (n * 2) = ((List.replicate n noSl).flatMap slC).toArray := by
  apply Array.ext_getElem?
  intro j
  by_cases hj : j < n * 2
  · have hi : j / 2 < n := by omega
    have hr : (List.replicate n noSl)[j / 2]? = some noSl := by rw [List.getElem?_replicate, if_pos hi]
    have h2 : j % 2 = 0 ∨ j % 2 = 1 := by omega
    rcases h2 with h2 | h2
    · have := fm_get slC_len _ (j / 2) 0 _ _ hr (show (slC noSl)[0]? = some (.bool false) from rfl)
      rw [show j / 2 * 2 + 0 = j from by omega] at this
      have hR : ((List.replicate n noSl).flatMap slC).toArray[j]? = _ := (List.getElem?_toArray).trans this
      rw [hR]
      simp [madeCells, hj, h2]
    · have := fm_get slC_len _ (j / 2) 1 _ _ hr (show (slC noSl)[1]? = some (kS ⟨#[]⟩) from rfl)
      rw [show j / 2 * 2 + 1 = j from by omega] at this
      have hR : ((List.replicate n noSl).flatMap slC).toArray[j]? = _ := (List.getElem?_toArray).trans this
      rw [hR]
      simp [madeCells, hj, h2]
  · rw [Array.getElem?_eq_none (by simp [madeCells]; omega), Array.getElem?_eq_none (by rw [List.size_toArray, fm_len slC_len, List.length_replicate]; omega)]
theorem sat_cellsTo {T : TypeId} {g : Nat} {G : Heaplet} : ∀ (us : List Value) (o : Nat) (w : World) (c0 : List Value), Sat w (.blk g (.cells c0.toArray T) :: G) → o + us.length ≤ c0.length →
    Sat (w.setCells g o us) (.blk g (.cells (c0.take o ++ (us ++ c0.drop (o + us.length))).toArray T) :: G)
  | [], o, w, c0, hs, _ => by
    show Sat w _
    simpa using hs
  | u :: us, o, w, c0, hs, hle => by
    rw [List.length_cons] at hle
    have hs' := hs.setCell (i := o) u
    rw [show (c0.toArray).setIfInBounds o u = (c0.set o u).toArray from by simp] at hs'
    have ih := sat_cellsTo us (o + 1) _ (c0.set o u) hs' (by simp; omega)
    have e : (c0.set o u).take (o + 1) ++ (us ++ (c0.set o u).drop (o + 1 + us.length)) = c0.take o ++ (u :: us ++ c0.drop (o + (u :: us).length)) := by
      rw [List.take_add_one, List.take_set_of_le (by omega), List.getElem?_set_self (by omega), List.drop_set_of_lt (by omega)]
      simp only [Option.toList_some, List.append_assoc, List.cons_append, List.nil_append, List.length_cons]
      rw [show o + 1 + us.length = o + (us.length + 1) from by omega]
    rw [← e]
    exact ih
theorem trimU_nil : trimU [] = [] := rfl
theorem trimU_drop (L : List Sl) {s : Sl} (h : s.1 = false) : trimU (L ++ [s]) = trimU L := by
  unfold trimU
  rw [List.reverse_append, List.reverse_singleton, List.singleton_append, List.dropWhile_cons_of_pos (by simp [h])]
theorem trimU_keep (L : List Sl) {s : Sl} (h : s.1 = true) : trimU (L ++ [s]) = L ++ [s] := by
  unfold trimU
  rw [List.reverse_append, List.reverse_singleton, List.singleton_append, List.dropWhile_cons_of_neg (by simp [h])]
  simp
end Go.Proofs.YtficgjklagnbjaaGreat
