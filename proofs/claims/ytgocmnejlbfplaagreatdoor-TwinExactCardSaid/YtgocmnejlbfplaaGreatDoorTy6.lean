/- Texts put together: Idx, Pg2, Tx8, Tx9. Conditions: none. -/
import Derived.Test.YtgocmnejlbfplaaGreatDoorTy1
import Derived.Test.YtgocmnejlbfplaaGreatDoorTy5
namespace Go.Proofs.YtgocmnejlbfplaaGreatDoor
open Go

def idxF {α : Type} (P : α → Bool) (L : List α) : Int := match L.findIdx? P with | some i => i | none => -1
theorem idxF_found {α : Type} {P : α → Bool} {L : List α} {j : Nat} {x : α} (hx : L[j]? = some x) (hp : P x = true) (hno : ∀ i y, i < j → L[i]? = some y → P y = false) : idxF P L = j := by
  have h : L.findIdx? P = some j := by
    rw [List.findIdx?_eq_some_iff_getElem]
    obtain ⟨hj, e⟩ := List.getElem?_eq_some_iff.1 hx
    exact ⟨hj, by rw [e]; exact hp, fun i hi => by simpa using hno i _ hi (List.getElem?_eq_getElem (by omega))⟩
  unfold idxF
  rw [h]
theorem idxF_none {α : Type} {P : α → Bool} {L : List α} (hno : ∀ i y, i < L.length → L[i]? = some y → P y = false) : idxF P L = -1 := by
  have h : L.findIdx? P = none := by
    rw [List.findIdx?_eq_none_iff]
    intro y hy
    obtain ⟨i, hi, e⟩ := List.mem_iff_getElem.1 hy
    exact hno i y hi (by rw [List.getElem?_eq_getElem hi, e])
  unfold idxF
  rw [h]
theorem idxF_any {α : Type} (P : α → Bool) (L : List α) : decide (0 ≤ idxF P L) = L.any P := by
  unfold idxF
  cases h : L.findIdx? P with
  | some i =>
    obtain ⟨hl, hi, _⟩ := List.findIdx?_eq_some_iff_getElem.1 h
    have : L.any P = true := List.any_eq_true.2 ⟨L[i], List.getElem_mem _, hi⟩
    rw [this]
    simp
  | none =>
    have hn := List.findIdx?_eq_none_iff.1 h
    have : L.any P = false := by rw [List.any_eq_false]; intro x hx; rw [hn x hx]; decide
    rw [this]; decide
theorem idxF_some {α : Type} {P : α → Bool} {L : List α} {j : Int} (h : idxF P L = j) (h0 : 0 ≤ j) : ∃ (i : Nat) (x : α), j = i ∧ L[i]? = some x ∧ P x = true ∧ ∀ k y, k < i → L[k]? = some y → P y = false := by
  unfold idxF at h
  cases hf : L.findIdx? P with
  | none => rw [hf] at h; simp only at h; omega
  | some i =>
    rw [hf] at h
    simp only at h
    obtain ⟨hi, hp, hno⟩ := List.findIdx?_eq_some_iff_getElem.1 hf
    refine ⟨i, L[i], h.symm, List.getElem?_eq_getElem hi, hp, fun k y hk hy => ?_⟩
    have h1 := hno k hk
    obtain ⟨hk2, e⟩ := List.getElem?_eq_some_iff.1 hy
    rw [← e]
    simpa using h1
end Go.Proofs.YtgocmnejlbfplaaGreatDoor
namespace Go.Proofs.YtgocmnejlbfplaaGreatDoor
open Go Go.MapKept Go.RowKit Go.Proofs

abbrev isOddV : Value := .func (.func 84) #[] #[]
set_option maxRecDepth 100000 in
set_option maxHeartbeats 1600000 in
theorem idx_odd {v : Value} {L : List Sl} {F : Heaplet} {w : World} (hv : SlAt F v L) (s : Sat w F) (hl : L.length ≤ 1000) :
    Calls Tryz.prog 96 #[v, isOddV] w (Pur (.int .i64 (idxF oddS L)) w) := by
  obtain ⟨a, cap, rfl, hc⟩ := hv
  unfold Pur
  have HC := Lib.hid hc
  have HS := Lib.hid s
  have hl9 : (L.length : Int) ≤ 1000 := by omega
  obtain ⟨res, hres⟩ : ∃ res, idxF oddS L = res := ⟨_, rfl⟩
  rw [hres]
  have HRES := Lib.hid hres
  clear hc s hres
  go_enter Tryz.func96, Tryz.ntmps96
  go_wp2_with fail
  go_loopw [8] (fun v8 wr => ∃ j : Nat, j ≤ L.length ∧ v8 = .int .i64 j ∧ (∀ i y, i < j → L[i]? = some y → oddS y = false) ∧ Grown w wr) (fun v8 _ => 2000 - (RowKit.intOf v8).toNat)
  case atStart => exact ⟨0, by omega, rfl, fun i r hi => absurd hi (by omega), Grown.refl w⟩
  case round =>
    obtain ⟨j, hj, rfl, hno, hg⟩ := hrel
    have j0 : (0 : Int) ≤ (j : Int) := by omega
    have j9 : (j : Int) ≤ 1000 := by omega
    by_cases hjl : j < L.length
    · have j1 : (j : Int) < (L.length : Int) := by omega
      obtain ⟨x, hx⟩ : ∃ x, L[j]? = some x := ⟨_, List.getElem?_eq_getElem hjl⟩
      obtain ⟨g, off, e, hu⟩ := HC.out j x hx
      subst e
      obtain ⟨u0, u1⟩ := hu wr (HS.out.grown hg)
      have HCALL := Lib.hid (isOdd_any x wr)
      have HX := Lib.hid (And.intro hx (And.intro hno hg))
      obtain ⟨xu, xd⟩ := x
      obtain ⟨o, ho⟩ : ∃ o, oddS (xu, xd) = o := ⟨_, rfl⟩
      simp only [ho] at HCALL u0 u1
      have HO := Lib.hid ho
      clear hx hu hno hg ho
      go_wp2_with fail
      refine (HCALL.out).mono ?_
      rintro e w1 ⟨rfl, hg1⟩
      have G1 := Lib.hid (HX.out.2.2.trans hg1)
      clear hg1 u0 u1 HCALL
      cases o with
      | true =>
        have h1 := idxF_found HX.out.1 HO.out HX.out.2.1
        rw [HRES.out] at h1
        clear HO HX
        go_wp2_with fail
        go_ret
        exact ⟨by rw [h1]; rfl, G1.out⟩
      | false =>
        have HNO : Hid (∀ i y, i < j + 1 → L[i]? = some y → oddS y = false) := Lib.hid (fun i y hi hy => by
          by_cases e : i = j
          · subst e
            rw [HX.out.1] at hy
            rw [← Option.some.inj hy]; exact HO.out
          · exact HX.out.2.1 i y (by omega) hy)
        clear HO HX
        go_wp2_with fail
        exact ⟨⟨j + 1, by omega, by simp, HNO.out, G1.out⟩, by simp only [RowKit.intOf]; omega⟩
    · obtain rfl : j = L.length := by omega
      have h1 := idxF_none hno
      rw [HRES.out] at h1
      have G1 := Lib.hid hg
      clear hno hg hj hjl
      go_wp2_with fail
      go_ret
      exact ⟨by rw [h1]; rfl, G1.out⟩
set_option maxRecDepth 100000 in
theorem has_odd {v : Value} {L : List Sl} {F : Heaplet} {w : World} (hv : SlAt F v L) (s : Sat w F) (hl : L.length ≤ 1000) :
    Calls Tryz.prog 83 #[v, isOddV] w (Pur (.bool (L.any oddS)) w) := by
  unfold Pur
  have H := Lib.hid (idx_odd hv s hl)
  have e := idxF_any oddS L
  generalize idxF oddS L = r at *
  have HE := Lib.hid e
  clear hv s e
  go_enter Tryz.func83, Tryz.ntmps83
  go_wp2_with fail
  refine (H.out).mono ?_
  rintro e w1 ⟨rfl, hg⟩
  have G1 := Lib.hid hg
  clear hg H
  go_wp2_with fail
  go_ret
  exact ⟨by rw [← HE.out]; rfl, G1.out⟩
/-- A page's value: its number, its slots' slice. -/
abbrev pgV (n : Int) (sv : Value) : Value := .agg #[kI n, sv]
set_option maxRecDepth 100000 in
set_option maxHeartbeats 4000000 in
theorem pgood_any {v : Value} {p : Pg} {F : Heaplet} {w : World} (hv : SlAt F v p.slots) (s : Sat w F) (hl : p.slots.length ≤ 1000) (hd : ∀ x ∈ p.slots, x.2.size ≤ 1000000) (hn : -9223372036854775808 ≤ p.lsn ∧ p.lsn ≤ 9223372036854775807) :
    Calls Tryz.prog 64 #[pgV p.lsn v] w (Pur (.bool (goodP p)) w) := by
  obtain ⟨lsn, L⟩ := p
  simp only at *
  unfold Pur
  have hs1 := s.new (.cells #[kI lsn, v] 48)
  have c0 : (w.alloc (.cells #[kI lsn, v] 48)).cell? ⟨w.heap.size, 0, none⟩ = some (kI lsn) := by rw [cell_of hs1.h0]; rfl
  have c1 : (w.alloc (.cells #[kI lsn, v] 48)).cell? ⟨w.heap.size, 1, none⟩ = some v := by rw [cell_of hs1.h0]; rfl
  have G0 := Lib.hid (Grown.alloc w (.cells #[kI lsn, v] 48))
  have HS := Lib.hid hs1
  have HV := Lib.hid hv
  have HD := Lib.hid hd
  have hgp : goodP ⟨lsn, L⟩ = (decide (0 ≤ lsn) && decide (lsn ≤ 1099511627776) && decide (L.length ≤ 32) && !L.any oddS && lastU L && decide (szL L ≤ 240)) := rfl
  obtain ⟨a, cap, e, _⟩ := hv
  subst e
  clear hs1 hd s
  rw [hgp]
  by_cases h1 : lsn < 0
  · have z : decide (0 ≤ lsn) = false := decide_eq_false (by omega)
    rw [z]
    simp only [Bool.false_and]
    clear hgp HV HD HS
    go_enter Tryz.func64, Tryz.ntmps64
    go_wp2_with fail
    go_ret
    exact ⟨rfl, G0.out⟩
  · by_cases h2 : 1099511627776 < lsn
    · have z : decide (lsn ≤ 1099511627776) = false := decide_eq_false (by omega)
      rw [z]
      simp only [Bool.false_and, Bool.and_false]
      clear hgp HV HD HS
      go_enter Tryz.func64, Tryz.ntmps64
      go_wp2_with fail
      go_ret
      exact ⟨rfl, G0.out⟩
    · have z1 : decide (0 ≤ lsn) = true := decide_eq_true (by omega)
      have z2 : decide (lsn ≤ 1099511627776) = true := decide_eq_true (by omega)
      rw [z1, z2]
      by_cases h3 : 32 < L.length
      · have h3i : (32 : Int) < (L.length : Int) := by omega
        have z : decide (L.length ≤ 32) = false := decide_eq_false (by omega)
        rw [z]
        simp only [Bool.false_and, Bool.and_false]
        clear hgp HV HD HS z1 z2
        go_enter Tryz.func64, Tryz.ntmps64
        go_wp2_with fail
        go_ret
        exact ⟨rfl, G0.out⟩
      · have h3i : ((32 : Int) < (L.length : Int)) = False := eq_false (by omega)
        have z3 : decide (L.length ≤ 32) = true := decide_eq_true (by omega)
        rw [z3]
        have hv1 : SlAt (.blk w.heap.size (.cells #[kI lsn, .slice a L.length cap] 48) :: F) (.slice a L.length cap) L := HV.out.mono (fun w hw => hw.tail)
        have HV1 := Lib.hid hv1
        have HODD := Lib.hid (has_odd hv1 HS.out hl)
        have HSIZE : Hid (∀ w', Sat w' (.blk w.heap.size (.cells #[kI lsn, .slice a L.length cap] 48) :: F) → Calls Tryz.prog 85 #[.slice a L.length cap] w' (Pur (.int .i64 (szL L)) w')) := Lib.hid (fun w' hs => size_any HV1.out hs hl HD.out)
        obtain ⟨o, ho⟩ : ∃ o, L.any oddS = o := ⟨_, rfl⟩
        obtain ⟨lu, hlu⟩ : ∃ lu, lastU L = lu := ⟨_, rfl⟩
        obtain ⟨sz, hsz⟩ : ∃ sz, szL L = sz := ⟨_, rfl⟩
        rw [ho] at HODD
        rw [hsz] at HSIZE
        rw [ho, hlu, hsz]
        have HLU := Lib.hid hlu
        clear hgp z1 z2 z3 hv1 ho HV hlu hsz
        go_enter Tryz.func64, Tryz.ntmps64
        go_wp2_with fail
        refine (HODD.out).mono ?_
        rintro e w1 ⟨rfl, hg⟩
        have HS1 := Lib.hid (HS.out.grown hg)
        have G1 := Lib.hid (G0.out.trans hg)
        have d1 : w1.cell? ⟨w.heap.size, 1, none⟩ = some (.slice a L.length cap) := by rw [cell_of HS1.out.h0]; rfl
        clear hg HODD HS G0 c0 c1
        cases o with
        | true =>
          simp only []
          clear d1 HV1 HD
          go_wp2_with fail
          go_ret
          exact ⟨rfl, G1.out⟩
        | false =>
          by_cases hn0 : L.length = 0
          · have hb : ((L.length : Int) == 0) = true := by simpa using hn0
            have e : L = [] := List.eq_nil_of_length_eq_zero hn0
            have hlt : lu = true := by rw [← HLU.out, e]; rfl
            subst hlt
            clear HLU HV1 HD e hn0
            go_wp2_with fail
            refine (HSIZE.out w1 HS1.out).mono ?_
            rintro e w2 ⟨rfl, hg⟩
            have G2 := Lib.hid (G1.out.trans hg)
            clear hg HSIZE HS1 d1
            go_wp2_with fail
            go_ret
            exact ⟨by simp; omega, G2.out⟩
          · have hb : ((L.length : Int) == 0) = false := by simpa using hn0
            obtain ⟨n, hn⟩ : ∃ n, L.length = n + 1 := ⟨L.length - 1, by omega⟩
            obtain ⟨x, hx⟩ : ∃ x, L[n]? = some x := ⟨_, List.getElem?_eq_getElem (by omega)⟩
            obtain ⟨a', cap', e, hc⟩ := HV1.out
            cases e
            obtain ⟨g, off, e, hu⟩ := hc n x hx
            subst e
            obtain ⟨u0, u1⟩ := hu w1 HS1.out
            have hlt : lu = x.1 := by
              rw [← HLU.out]
              unfold lastU
              rw [List.getLast?_eq_getElem?, hn, Nat.add_sub_cancel, hx]
            obtain ⟨xu, xd⟩ := x
            simp only at hlt u0
            subst hlt
            have HN := Lib.hid hn
            have n0 : (0 : Int) ≤ (n : Int) := by omega
            have n1 : (L.length : Int) = (n : Int) + 1 := by omega
            have n9 : (n : Int) ≤ 1000 := by omega
            have m1 : IntKind.i64.wrap ((L.length : Int) - 1) = (n : Int) := by rw [IntWalk.i64_in _ (by omega)]; omega
            have m2 : wrap64 ((L.length : Int) - 1) = (n : Int) := by rw [IntWalk.wrap64_in _ (by omega)]; omega
            have m3 : (n : Int) < (L.length : Int) := by omega
            have m4 : n < L.length := by omega
            clear HLU hc hx hn u1 HV1 HD hn0 n1
            cases lu with
            | false =>
              go_wp2_with fail
              go_ret
              exact ⟨rfl, G1.out⟩
            | true =>
              go_wp2_with fail
              refine (HSIZE.out w1 HS1.out).mono ?_
              rintro e w2 ⟨rfl, hg⟩
              have G2 := Lib.hid (G1.out.trans hg)
              clear hg HSIZE HS1 d1 u0
              go_wp2_with fail
              go_ret
              exact ⟨by simp; omega, G2.out⟩
end Go.Proofs.YtgocmnejlbfplaaGreatDoor
namespace Go.Proofs.YtgocmnejlbfplaaGreatDoor
open Go Go.MapKept Go.RowKit Go.Proofs

attribute [local go_sem] Oper.semAt_some

def mn (s : Sl) : Nat := if s.2.size < 1000 then s.2.size else 1000
def rsz (L : List Sl) : Nat := 9 + (L.map fun s => 1 + mn s).sum
def rszN (L : List Sl) (i : Nat) : Nat := rsz (L.take i)
theorem rszN_succ {L : List Sl} {i : Nat} {s : Sl} (h : L[i]? = some s) : rszN L (i + 1) = rszN L i + (1 + mn s) := by
  unfold rszN rsz
  rw [List.take_add_one, h]
  simp; omega
theorem rsz_le : ∀ L : List Sl, rsz L ≤ szL L := by
  intro L
  induction L with
  | nil => exact Nat.le_refl _
  | cons x L ih =>
    unfold rsz szL at *
    simp only [List.map_cons, List.sum_cons]
    have : mn x ≤ x.2.size := by unfold mn; split <;> omega
    omega
theorem rsz_eq : ∀ L : List Sl, (∀ x ∈ L, oddS x = false) → rsz L = szL L := by
  intro L
  induction L with
  | nil => intro _; rfl
  | cons x L ih =>
    intro h
    have h1 := ih (fun y hy => h y (.tail _ hy))
    have h2 := (odd_no (h x (.head _))).2
    unfold rsz szL at *
    simp only [List.map_cons, List.sum_cons]
    have : mn x = x.2.size := by unfold mn; rw [if_pos (by omega)]
    omega
set_option maxRecDepth 100000 in
set_option maxHeartbeats 1600000 in
theorem rsize_any {v : Value} {n : Int} {L : List Sl} {F : Heaplet} {w : World} (hv : SlAt F v L) (s : Sat w F) (hl : L.length ≤ 32) (hd : ∀ x ∈ L, x.2.size ≤ 1000000) :
    Calls Tryz.prog 65 #[pgV n v] w (Pur (.int .i64 (rsz L)) w) := by
  obtain ⟨a, cap, rfl, hc⟩ := hv
  unfold Pur
  have hs1 := s.new (.cells #[kI n, .slice a L.length cap] 48)
  have HS := Lib.hid hs1
  have G0 := Lib.hid (Grown.alloc w (.cells #[kI n, .slice a L.length cap] 48))
  have HC := Lib.hid hc
  have HD := Lib.hid hd
  have hb : ∀ i, i ≤ L.length → rszN L i ≤ 9 + 1001 * i := by
    intro i
    induction i with
    | zero => intro _; simp [rszN, rsz]
    | succ i ih =>
      intro hi
      have h1 := rszN_succ (L := L) (i := i) (List.getElem?_eq_getElem (by omega))
      have h2 : mn L[i] ≤ 1000 := by unfold mn; split <;> omega
      have h3 := ih (by omega)
      omega
  have HB := Lib.hid hb
  have hl9 : (L.length : Int) ≤ 32 := by omega
  clear hc s hd hb hs1
  go_enter Tryz.func65, Tryz.ntmps65
  go_wp2_with fail
  go_loopw [3, 4] (fun v3 v4 wr => ∃ i : Nat, i ≤ L.length ∧ v4 = .int .i64 i ∧ v3 = .int .i64 (rszN L i) ∧ Grown (w.alloc (.cells #[kI n, .slice a L.length cap] 48)) wr) (fun _ v4 _ => 2000 - (RowKit.intOf v4).toNat)
  case atStart => exact ⟨0, by omega, rfl, rfl, Grown.refl _⟩
  case round =>
    obtain ⟨i, hi, rfl, rfl, hg⟩ := hrel
    have i0 : (0 : Int) ≤ (i : Int) := by omega
    have i9 : (i : Int) ≤ 32 := by omega
    have hz := HB.out i hi
    have d1 : wr.cell? ⟨w.heap.size, 1, none⟩ = some (.slice a L.length cap) := by rw [cell_of (HS.out.grown hg).h0]; rfl
    by_cases hil : i < L.length
    · have i1 : (i : Int) < (L.length : Int) := by omega
      have i33 : (i : Int) < 33 := by omega
      obtain ⟨x, hx⟩ : ∃ x, L[i]? = some x := ⟨_, List.getElem?_eq_getElem hil⟩
      obtain ⟨g, off, e, hu⟩ := HC.out i x hx
      subst e
      obtain ⟨u0, u1⟩ := hu wr (HS.out.tail.grown hg)
      have hst := rszN_succ hx
      have hxs := HD.out x (List.mem_of_getElem? hx)
      obtain ⟨xu, xd⟩ := x
      simp only at u0 u1 hxs
      have hmn : mn (xu, xd) = if xd.size < 1000 then xd.size else 1000 := rfl
      have G1 := Lib.hid hg
      have q0 : (0 : Int) ≤ (xd.size : Int) := by omega
      have q1 : (xd.size : Int) ≤ 1000000 := by omega
      have q2 : (0 : Int) ≤ (rszN L i : Int) := by omega
      have q3 : (rszN L i : Int) ≤ 40000 := by omega
      by_cases hm : xd.size < 1000
      · rw [if_pos hm] at hmn
        have m1 : (xd.size : Int) < 1000 := by omega
        have m2 : min (xd.size : Int) 1000 = (xd.size : Int) := by omega
        have HST : Hid (((rszN L (i + 1) : Nat) : Int) = (rszN L i : Int) + 1 + (xd.size : Int)) := Lib.hid (by rw [hst, hmn]; omega)
        clear hx hu hg hst hz hmn hm hi hil
        generalize rszN L i = rz at *
        go_upto_region 5 with (fail)
        go_wp2_with fail
        exact ⟨⟨i + 1, by omega, by simp, by simp [HST.out], G1.out⟩, by simp only [RowKit.intOf]; omega⟩
      · rw [if_neg hm] at hmn
        have m1 : (1000 : Int) ≤ (xd.size : Int) := by omega
        have m2 : min (xd.size : Int) 1000 = 1000 := by omega
        have HST : Hid (((rszN L (i + 1) : Nat) : Int) = (rszN L i : Int) + 1 + 1000) := Lib.hid (by rw [hst, hmn]; omega)
        clear hx hu hg hst hz hmn hm hi hil
        generalize rszN L i = rz at *
        go_wp2_with fail
        exact ⟨⟨i + 1, by omega, by simp, by simp [HST.out], G1.out⟩, by simp only [RowKit.intOf]; omega⟩
    · obtain rfl : i = L.length := by omega
      have e : rszN L L.length = rsz L := by unfold rszN; rw [List.take_length]
      have i1 : ((L.length : Int) < (L.length : Int)) = False := eq_false (by omega)
      have G1 := Lib.hid (G0.out.trans hg)
      clear hg hil hi
      go_wp2_with fail
      go_ret
      exact ⟨by rw [e]; rfl, G1.out⟩
end Go.Proofs.YtgocmnejlbfplaaGreatDoor
namespace Go.Proofs.YtgocmnejlbfplaaGreatDoor
open Go Go.MapKept Go.RowKit Go.Proofs

attribute [local go_sem] Oper.semAt_some

theorem two_at' {W : World} {b : Nat} {x0 x1 : Value} {T : TypeId} {F : Heaplet} (hW : Sat W (.blk b (.cells #[x0, x1] T) :: F)) : W.cell? ⟨b, 0, none⟩ = some x0 ∧ W.cell? ⟨b, 1, none⟩ = some x1 ∧ ∀ i, W.frozen? ⟨b, i, none⟩ = false :=
  ⟨by rw [cell_of hW.h0]; rfl, by rw [cell_of hW.h0]; rfl, unfrozen_of hW.h0⟩
theorem good_big {p : Pg} (h : 240 < rsz p.slots) : goodP p = false := by
  cases hg : goodP p with
  | false => rfl
  | true =>
    have h1 := (goodP_iff.1 hg).2.2.2.2.2
    have h2 := rsz_le p.slots
    omega
theorem good_not {p : Pg} (h : ¬ (0 ≤ p.lsn ∧ p.lsn ≤ 1099511627776 ∧ p.slots.length ≤ 32)) : goodP p = false := by
  cases hg : goodP p with
  | false => rfl
  | true =>
    obtain ⟨a, b, c, _⟩ := goodP_iff.1 hg
    exact absurd ⟨a, b, c⟩ h
theorem good_odd {p : Pg} {x : Sl} (hx : x ∈ p.slots) (h : oddS x = true) : goodP p = false := by
  cases hg : goodP p with
  | false => rfl
  | true =>
    have := (goodP_iff.1 hg).2.2.2.1 x hx
    rw [h] at this
    cases this
theorem good_end {p : Pg} (h1 : 0 ≤ p.lsn) (h2 : p.lsn ≤ 1099511627776) (h3 : p.slots.length ≤ 32) (h4 : rsz p.slots ≤ 240) (h5 : ∀ x ∈ p.slots, oddS x = false) : goodP p = lastU p.slots := by
  rw [rsz_eq _ h5] at h4
  cases hl : lastU p.slots with
  | true => exact goodP_iff.2 ⟨h1, h2, h3, h5, hl, h4⟩
  | false =>
    cases hg : goodP p with
    | false => rfl
    | true =>
      have := (goodP_iff.1 hg).2.2.2.2.1
      rw [hl] at this
      cases this
set_option maxRecDepth 100000 in
set_option maxHeartbeats 4000000 in
theorem rgood_any {v : Value} {p : Pg} {F : Heaplet} {w : World} (hv : SlAt F v p.slots) (s : Sat w F) (hl : p.slots.length ≤ 1000) (hd : ∀ x ∈ p.slots, x.2.size ≤ 1000000) (hn : -9223372036854775808 ≤ p.lsn ∧ p.lsn ≤ 9223372036854775807) :
    Calls Tryz.prog 48 #[pgV p.lsn v] w (Pur (.bool (goodP p)) w) := by
  obtain ⟨res, hres⟩ : ∃ res, goodP p = res := ⟨_, rfl⟩
  rw [hres]
  have HBIG : Hid (240 < rsz p.slots → res = false) := Lib.hid (fun h => by rw [← hres]; exact good_big h)
  have HNOT : Hid (¬ (0 ≤ p.lsn ∧ p.lsn ≤ 1099511627776 ∧ p.slots.length ≤ 32) → res = false) := Lib.hid (fun h => by rw [← hres]; exact good_not h)
  have HODD : Hid (∀ x, x ∈ p.slots → oddS x = true → res = false) := Lib.hid (fun x hx h => by rw [← hres]; exact good_odd hx h)
  have HEND : Hid (0 ≤ p.lsn → p.lsn ≤ 1099511627776 → p.slots.length ≤ 32 → rsz p.slots ≤ 240 → (∀ x ∈ p.slots, oddS x = false) → res = lastU p.slots) := Lib.hid (fun a b c d e => by rw [← hres]; exact good_end a b c d e)
  obtain ⟨lsn, L⟩ := p
  simp only at *
  unfold Pur
  have hs1 := s.new (.cells #[kI lsn, v] 48)
  have c0 : (w.alloc (.cells #[kI lsn, v] 48)).cell? ⟨w.heap.size, 0, none⟩ = some (kI lsn) := by rw [cell_of hs1.h0]; rfl
  have c1 : (w.alloc (.cells #[kI lsn, v] 48)).cell? ⟨w.heap.size, 1, none⟩ = some v := by rw [cell_of hs1.h0]; rfl
  have G0 := Lib.hid (Grown.alloc w (.cells #[kI lsn, v] 48))
  have HS := Lib.hid hs1
  have HV := Lib.hid hv
  have HD := Lib.hid hd
  obtain ⟨a, cap, e, _⟩ := hv
  subst e
  clear hs1 hd s hres
  by_cases h1 : lsn < 0
  · obtain rfl : res = false := HNOT.out (by omega)
    clear HV HD HS HBIG HNOT HODD HEND
    go_enter Tryz.func48, Tryz.ntmps48
    go_wp2_with fail
    go_ret
    exact ⟨rfl, G0.out⟩
  have h1f : (lsn < 0) = False := eq_false h1
  by_cases h2 : 1099511627776 < lsn
  · obtain rfl : res = false := HNOT.out (by omega)
    clear HV HD HS HBIG HNOT HODD HEND h1
    go_enter Tryz.func48, Tryz.ntmps48
    go_wp2_with fail
    go_ret
    exact ⟨rfl, G0.out⟩
  have h2f : (1099511627776 < lsn) = False := eq_false h2
  by_cases h3 : 32 < L.length
  · obtain rfl : res = false := HNOT.out (by omega)
    have h3i : (32 : Int) < (L.length : Int) := by omega
    clear HV HD HS HBIG HNOT HODD HEND h1 h2
    go_enter Tryz.func48, Tryz.ntmps48
    go_wp2_with fail
    go_ret
    exact ⟨rfl, G0.out⟩
  have h3i : ((32 : Int) < (L.length : Int)) = False := eq_false (by omega)
  have hv1 : SlAt (.blk w.heap.size (.cells #[kI lsn, .slice a L.length cap] 48) :: F) (.slice a L.length cap) L := HV.out.mono (fun w hw => hw.tail)
  have HSIZE := Lib.hid (rsize_any (n := lsn) hv1 HS.out (by omega) HD.out)
  obtain ⟨sz, hsz⟩ : ∃ sz, rsz L = sz := ⟨_, rfl⟩
  rw [hsz] at HSIZE HBIG HEND
  have HE := Lib.hid (HEND.out (by omega) (by omega) (by omega))
  have hl9 : (L.length : Int) ≤ 32 := by omega
  have HV1 := Lib.hid hv1
  clear hv1 HV HEND HNOT h1 h2 h3 hsz hn
  by_cases h4 : 240 < sz
  · obtain rfl : res = false := HBIG.out h4
    have h4i : (240 : Int) < (sz : Int) := by omega
    clear HBIG HODD HE
    go_enter Tryz.func48, Tryz.ntmps48
    go_wp2_with (go_at_call 65; refine (HSIZE.out).mono ?_; rintro e w1 ⟨rfl, hg⟩; have G1 := Lib.hid (G0.out.trans hg); clear hg)
    go_ret
    exact ⟨rfl, G1.out⟩
  have h4i : ((240 : Int) < (sz : Int)) = False := eq_false (by omega)
  have HE2 := Lib.hid (HE.out (by omega))
  clear HBIG HE h4
  go_enter Tryz.func48, Tryz.ntmps48
  go_upto_block 0 with (go_at_call 65; refine (HSIZE.out).mono ?_; rintro e w1 ⟨rfl, hg⟩; have HS1 := Lib.hid (HS.out.grown hg); have G1 := Lib.hid (G0.out.trans hg); clear hg)
  clear c0 c1 HSIZE HS G0 h4i h1f h2f h3i
  go_wp2_with fail
  go_loopw [3] (fun v3 wr => ∃ i : Nat, i ≤ L.length ∧ v3 = .int .i64 i ∧ (∀ j y, j < i → L[j]? = some y → oddS y = false) ∧ Grown w1 wr) (fun v3 _ => 2000 - (RowKit.intOf v3).toNat)
  case atStart => exact ⟨0, by omega, rfl, fun i r hi => absurd hi (by omega), Grown.refl _⟩
  case round =>
    obtain ⟨i, hi, rfl, hno, hg⟩ := hrel
    have i0 : (0 : Int) ≤ (i : Int) := by omega
    have i9 : (i : Int) ≤ 32 := by omega
    have hsr := HS1.out.grown hg
    have d1 : wr.cell? ⟨w.heap.size, 1, none⟩ = some (.slice a L.length cap) := by rw [cell_of hsr.h0]; rfl
    by_cases hil : i < L.length
    · have i1 : (i : Int) < (L.length : Int) := by omega
      obtain ⟨x, hx⟩ : ∃ x, L[i]? = some x := ⟨_, List.getElem?_eq_getElem hil⟩
      obtain ⟨a', cap', e, hc⟩ := HV1.out
      cases e
      obtain ⟨g, off, e, hu⟩ := hc i x hx
      subst e
      obtain ⟨u0, u1⟩ := hu wr hsr
      have HX := Lib.hid (And.intro hx (And.intro hno (And.intro hil (G1.out.trans hg))))
      have hxs := HD.out x (List.mem_of_getElem? hx)
      have HMEM := Lib.hid (List.mem_of_getElem? hx)
      have hal := (sat_all wr).new (.cells #[.bool x.1, kS x.2] 59)
      obtain ⟨e0, e1, _⟩ := two_at' hal
      have G2 := Lib.hid (hg.trans (Grown.alloc wr (.cells #[.bool x.1, kS x.2] 59)))
      have G3 := Lib.hid ((G1.out.trans hg).trans (Grown.alloc wr (.cells #[.bool x.1, kS x.2] 59)))
      obtain ⟨o, ho⟩ : ∃ o, oddS x = o := ⟨_, rfl⟩
      have HO := Lib.hid ho
      obtain ⟨xu, xd⟩ := x
      have hod : oddS (xu, xd) = ((!xu && !decide (xd.size = 0)) || decide (200 < xd.size)) := rfl
      rw [ho] at hod
      simp only at u0 u1 e0 e1 hxs G2 G3
      have q0 : (0 : Int) ≤ (xd.size : Int) := by omega
      have q1 : (xd.size : Int) ≤ 1000000 := by omega
      clear hc hx hu hno hg ho hal hsr hil hi
      cases o with
      | true =>
        obtain rfl : res = false := HODD.out _ HMEM.out HO.out
        cases xu with
        | true =>
          have hz : 200 < xd.size := by simpa using hod
          have hz2 : (200 : Int) < (xd.size : Int) := by omega
          clear hod
          go_wp2_with fail
          go_ret
          exact ⟨rfl, G3.out⟩
        | false =>
          by_cases hz0 : xd.size = 0
          · exfalso
            have := hod
            rw [hz0] at this
            simp at this
          · have hq : (xd.toList == []) = false := by rw [ba_nil]; exact decide_eq_false hz0
            clear hod
            go_wp2_with fail
            go_ret
            exact ⟨rfl, G3.out⟩
      | false =>
        have HNO : Hid (∀ j y, j < i + 1 → L[j]? = some y → oddS y = false) := Lib.hid (fun j y hj hy => by
          by_cases e : j = i
          · subst e
            rw [HX.out.1] at hy
            rw [← Option.some.inj hy]; exact HO.out
          · exact HX.out.2.1 j y (by omega) hy)
        cases xu with
        | true =>
          have hz : ¬ 200 < xd.size := by
            intro h
            have := hod
            rw [decide_eq_true h] at this
            simp at this
          have hz2 : ((200 : Int) < (xd.size : Int)) = False := eq_false (by omega)
          clear hod hz
          go_wp2_with fail
          exact ⟨⟨i + 1, HX.out.2.2.1, by simp, HNO.out, G2.out⟩, by simp only [RowKit.intOf]; omega⟩
        | false =>
          have hz0 : xd.size = 0 := by
            by_cases h : xd.size = 0
            · exact h
            · exfalso
              have := hod
              rw [decide_eq_false h] at this
              simp at this
          have hq : (xd.toList == []) = true := by rw [ba_nil]; exact decide_eq_true hz0
          have hz2 : ((200 : Int) < (xd.size : Int)) = False := eq_false (by omega)
          clear hod
          go_wp2_with fail
          exact ⟨⟨i + 1, HX.out.2.2.1, by simp, HNO.out, G2.out⟩, by simp only [RowKit.intOf]; omega⟩
    · obtain rfl : i = L.length := by omega
      have hres : res = lastU L := HE2.out (fun x hx => by
        obtain ⟨j, hj, e⟩ := List.mem_iff_getElem.1 hx
        exact hno j x hj (by rw [List.getElem?_eq_getElem hj, e]))
      have i1 : ((L.length : Int) < (L.length : Int)) = False := eq_false (by omega)
      have G9 := Lib.hid (G1.out.trans hg)
      by_cases hn0 : L.length = 0
      · have hb : ((L.length : Int) == 0) = true := by simpa using hn0
        have e : L = [] := List.eq_nil_of_length_eq_zero hn0
        have hr : res = true := by rw [hres, e]; rfl
        subst hr
        clear hres hno hg hsr e hn0 hil hi
        go_wp2_with fail
        go_ret
        exact ⟨rfl, G9.out⟩
      · have hb : ((L.length : Int) == 0) = false := by simpa using hn0
        obtain ⟨n, hn⟩ : ∃ n, L.length = n + 1 := ⟨L.length - 1, by omega⟩
        obtain ⟨x, hx⟩ : ∃ x, L[n]? = some x := ⟨_, List.getElem?_eq_getElem (by omega)⟩
        obtain ⟨a', cap', e, hc⟩ := HV1.out
        cases e
        obtain ⟨g, off, e, hu⟩ := hc n x hx
        subst e
        obtain ⟨u0, u1⟩ := hu wr hsr
        have hlt : res = x.1 := by
          rw [hres]
          unfold lastU
          rw [List.getLast?_eq_getElem?, hn, Nat.add_sub_cancel, hx]
        obtain ⟨xu, xd⟩ := x
        simp only at hlt u0
        subst hlt
        have n0 : (0 : Int) ≤ (n : Int) := by omega
        have n1 : (L.length : Int) = (n : Int) + 1 := by omega
        have n9 : (n : Int) ≤ 1000 := by omega
        have m1 : IntKind.i64.wrap ((L.length : Int) - 1) = (n : Int) := by rw [IntWalk.i64_in _ (by omega)]; omega
        have m2 : wrap64 ((L.length : Int) - 1) = (n : Int) := by rw [IntWalk.wrap64_in _ (by omega)]; omega
        have m3 : (n : Int) < (L.length : Int) := by omega
        have m4 : n < L.length := by omega
        clear hres hc hx hn u1 hn0 n1 hno hg hsr hil hi
        go_wp2_with fail
        go_ret
        exact ⟨rfl, G9.out⟩
end Go.Proofs.YtgocmnejlbfplaaGreatDoor
