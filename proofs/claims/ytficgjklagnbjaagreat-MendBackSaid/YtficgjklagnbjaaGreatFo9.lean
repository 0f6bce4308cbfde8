/- Texts put together: Me8, Me9, Me10, Me11. Conditions: none. -/
import Derived.Test.YtficgjklagnbjaaGreatFo8
namespace Go.Proofs.YtficgjklagnbjaaGreat
open Go Go.MapKept Go.RowKit Go.Proofs Go.Sort

abbrev capV (fn : Nat) (cb : Nat) : Value := .func (.func fn) #[] #[.pointer (some ⟨cb, 0, none⟩)]
set_option maxRecDepth 100000 in
theorem idx_fit {v : Value} {l : List En} {F : Heaplet} {w : World} {cb : Nat} {P : En → Bool} (hv : EnsIn F v l) (s : Sat w F) (hl : l.length ≤ 100000)
    (hp : ∀ x W, x ∈ l → Sat W F → Calls Tryz.prog 46 #[eV x, .pointer (some ⟨cb, 0, none⟩)] W (Ret (.bool (P x)) (Below W.heap.size W))) :
    Calls Tryz.prog 66 #[v, capV 46 cb] w (Ret (.int .i64 (idxF P l)) (Below w.heap.size w)) := by
  obtain ⟨a, cap, rfl, hc⟩ := hv
  have HC := Lib.hid hc
  have HP := Lib.hid hp
  have hl9 : (l.length : Int) ≤ 100000 := by omega
  obtain ⟨res, hres⟩ : ∃ res, idxF P l = res := ⟨_, rfl⟩
  rw [hres]
  have HRES := Lib.hid hres
  have HOLD : Hid (∀ w', Sat w' (allOf w) → Sat w' F) := Lib.hid (fun w' h => s.monoB (Sat.below h))
  have HFIN : Hid (∀ w', Sat w' (allOf w) → Below w.heap.size w w') := Lib.hid (fun w' h => Sat.below h)
  obtain ⟨AW, hAW⟩ : ∃ AW, allOf w = AW := ⟨_, rfl⟩
  have H0 : Hid (Sat w AW) := Lib.hid (by rw [← hAW]; exact sat_all w)
  rw [hAW] at HOLD HFIN
  obtain ⟨PB, hPB⟩ : ∃ PB : World → Prop, Below w.heap.size w = PB := ⟨_, rfl⟩
  rw [hPB] at HFIN ⊢
  clear hc s hres hp hAW hPB
  go_enter Tryz.func66, Tryz.ntmps66
  go_wp2_with fail
  go_loopw [8] (fun v8 wr => ∃ j : Nat, j ≤ l.length ∧ v8 = .int .i64 j ∧ (∀ i y, i < j → l[i]? = some y → P y = false) ∧ Sat wr AW) (fun v8 _ => 200000 - (RowKit.intOf v8).toNat)
  case atStart => exact ⟨0, by omega, rfl, fun i r hi => absurd hi (by omega), H0.out⟩
  case round =>
    clear H0
    obtain ⟨j, hj, rfl, hno, hg⟩ := hrel
    have j0 : (0 : Int) ≤ (j : Int) := by omega
    have j9 : (j : Int) ≤ 100000 := by omega
    by_cases hjl : j < l.length
    · have j1 : (j : Int) < (l.length : Int) := by omega
      obtain ⟨x, hx⟩ : ∃ x, l[j]? = some x := ⟨_, List.getElem?_eq_getElem hjl⟩
      obtain ⟨g, off, e, e0, e1, e2, e3, e4, e5, e6, e7, e8, e9, e10, e11, e12⟩ := HC.out wr (HOLD.out wr hg) j x hx
      subst e
      have HCALL := Lib.hid (HP.out x wr (List.mem_of_getElem? hx) (HOLD.out wr hg))
      have HX := Lib.hid (And.intro hx (And.intro hno hg))
      obtain ⟨o, ho⟩ : ∃ o, P x = o := ⟨_, rfl⟩
      rw [ho] at HCALL
      have HO := Lib.hid ho
      clear hx hno hg ho
      go_wp2_with fail
      refine (HCALL.out).mono ?_
      rintro e w1 ⟨rfl, hg1⟩
      have G1 := Lib.hid (HX.out.2.2.monoB hg1)
      clear hg1 e0 e1 e2 e3 e4 e5 e6 e7 e8 e9 e10 e11 e12 HCALL
      cases o with
      | true =>
        have h1 := idxF_found HX.out.1 HO.out HX.out.2.1
        rw [HRES.out] at h1
        clear HO HX
        go_wp2_with fail
        go_ret
        exact ⟨by rw [h1]; rfl, HFIN.out _ G1.out⟩
      | false =>
        have HNO : Hid (∀ i y, i < j + 1 → l[i]? = some y → P y = false) := Lib.hid (fun i y hi hy => by
          by_cases e : i = j
          · subst e
            rw [HX.out.1] at hy
            rw [← Option.some.inj hy]; exact HO.out
          · exact HX.out.2.1 i y (by omega) hy)
        clear HO HX
        go_wp2_with fail
        exact ⟨⟨j + 1, by omega, by simp, HNO.out, G1.out⟩, by simp only [RowKit.intOf]; omega⟩
    · obtain rfl : j = l.length := by omega
      have h1 := idxF_none hno
      rw [HRES.out] at h1
      have G1 := Lib.hid hg
      clear hno hg hj hjl
      go_wp2_with fail
      go_ret
      exact ⟨by rw [h1]; rfl, HFIN.out _ G1.out⟩
set_option maxRecDepth 100000 in
theorem has_fit {v : Value} {l : List En} {F : Heaplet} {w : World} {cb : Nat} {P : En → Bool} (hv : EnsIn F v l) (s : Sat w F) (hl : l.length ≤ 100000)
    (hp : ∀ x W, x ∈ l → Sat W F → Calls Tryz.prog 46 #[eV x, .pointer (some ⟨cb, 0, none⟩)] W (Ret (.bool (P x)) (Below W.heap.size W))) :
    Calls Tryz.prog 49 #[v, capV 46 cb] w (Ret (.bool (l.any P)) (Below w.heap.size w)) := by
  have H := Lib.hid (idx_fit hv s hl hp)
  obtain ⟨a, cap, rfl, _⟩ := hv
  have e := idxF_any P l
  generalize idxF P l = r at *
  have HE := Lib.hid e
  clear s e hp
  obtain ⟨PB, hPB⟩ : ∃ PB : World → Prop, Below w.heap.size w = PB := ⟨_, rfl⟩
  rw [hPB] at H ⊢
  go_enter Tryz.func49, Tryz.ntmps49
  go_wp2_with fail
  refine (H.out).mono ?_
  rintro e w1 ⟨rfl, hg⟩
  have G1 := Lib.hid hg
  clear hg H
  go_wp2_with fail
  go_ret
  exact ⟨by rw [← HE.out]; rfl, G1.out⟩
set_option maxRecDepth 100000 in
theorem idx_next {v : Value} {l : List En} {F : Heaplet} {w : World} {cb : Nat} {P : En → Bool} (hv : EnsIn F v l) (s : Sat w F) (hl : l.length ≤ 100000)
    (hp : ∀ x W, x ∈ l → Sat W F → Calls Tryz.prog 67 #[eV x, .pointer (some ⟨cb, 0, none⟩)] W (Ret (.bool (P x)) (Below W.heap.size W))) :
    Calls Tryz.prog 66 #[v, capV 67 cb] w (Ret (.int .i64 (idxF P l)) (Below w.heap.size w)) := by
  obtain ⟨a, cap, rfl, hc⟩ := hv
  have HC := Lib.hid hc
  have HP := Lib.hid hp
  have hl9 : (l.length : Int) ≤ 100000 := by omega
  obtain ⟨res, hres⟩ : ∃ res, idxF P l = res := ⟨_, rfl⟩
  rw [hres]
  have HRES := Lib.hid hres
  have HOLD : Hid (∀ w', Sat w' (allOf w) → Sat w' F) := Lib.hid (fun w' h => s.monoB (Sat.below h))
  have HFIN : Hid (∀ w', Sat w' (allOf w) → Below w.heap.size w w') := Lib.hid (fun w' h => Sat.below h)
  obtain ⟨AW, hAW⟩ : ∃ AW, allOf w = AW := ⟨_, rfl⟩
  have H0 : Hid (Sat w AW) := Lib.hid (by rw [← hAW]; exact sat_all w)
  rw [hAW] at HOLD HFIN
  obtain ⟨PB, hPB⟩ : ∃ PB : World → Prop, Below w.heap.size w = PB := ⟨_, rfl⟩
  rw [hPB] at HFIN ⊢
  clear hc s hres hp hAW hPB
  go_enter Tryz.func66, Tryz.ntmps66
  go_wp2_with fail
  go_loopw [8] (fun v8 wr => ∃ j : Nat, j ≤ l.length ∧ v8 = .int .i64 j ∧ (∀ i y, i < j → l[i]? = some y → P y = false) ∧ Sat wr AW) (fun v8 _ => 200000 - (RowKit.intOf v8).toNat)
  case atStart => exact ⟨0, by omega, rfl, fun i r hi => absurd hi (by omega), H0.out⟩
  case round =>
    clear H0
    obtain ⟨j, hj, rfl, hno, hg⟩ := hrel
    have j0 : (0 : Int) ≤ (j : Int) := by omega
    have j9 : (j : Int) ≤ 100000 := by omega
    by_cases hjl : j < l.length
    · have j1 : (j : Int) < (l.length : Int) := by omega
      obtain ⟨x, hx⟩ : ∃ x, l[j]? = some x := ⟨_, List.getElem?_eq_getElem hjl⟩
      obtain ⟨g, off, e, e0, e1, e2, e3, e4, e5, e6, e7, e8, e9, e10, e11, e12⟩ := HC.out wr (HOLD.out wr hg) j x hx
      subst e
      have HCALL := Lib.hid (HP.out x wr (List.mem_of_getElem? hx) (HOLD.out wr hg))
      have HX := Lib.hid (And.intro hx (And.intro hno hg))
      obtain ⟨o, ho⟩ : ∃ o, P x = o := ⟨_, rfl⟩
      rw [ho] at HCALL
      have HO := Lib.hid ho
      clear hx hno hg ho
      go_wp2_with fail
      refine (HCALL.out).mono ?_
      rintro e w1 ⟨rfl, hg1⟩
      have G1 := Lib.hid (HX.out.2.2.monoB hg1)
      clear hg1 e0 e1 e2 e3 e4 e5 e6 e7 e8 e9 e10 e11 e12 HCALL
      cases o with
      | true =>
        have h1 := idxF_found HX.out.1 HO.out HX.out.2.1
        rw [HRES.out] at h1
        clear HO HX
        go_wp2_with fail
        go_ret
        exact ⟨by rw [h1]; rfl, HFIN.out _ G1.out⟩
      | false =>
        have HNO : Hid (∀ i y, i < j + 1 → l[i]? = some y → P y = false) := Lib.hid (fun i y hi hy => by
          by_cases e : i = j
          · subst e
            rw [HX.out.1] at hy
            rw [← Option.some.inj hy]; exact HO.out
          · exact HX.out.2.1 i y (by omega) hy)
        clear HO HX
        go_wp2_with fail
        exact ⟨⟨j + 1, by omega, by simp, HNO.out, G1.out⟩, by simp only [RowKit.intOf]; omega⟩
    · obtain rfl : j = l.length := by omega
      have h1 := idxF_none hno
      rw [HRES.out] at h1
      have G1 := Lib.hid hg
      clear hno hg hj hjl
      go_wp2_with fail
      go_ret
      exact ⟨by rw [h1]; rfl, HFIN.out _ G1.out⟩
set_option maxRecDepth 100000 in
theorem idx_pick {v : Value} {l : List En} {F : Heaplet} {w : World} {cb : Nat} {P : En → Bool} (hv : EnsIn F v l) (s : Sat w F) (hl : l.length ≤ 100000)
    (hp : ∀ x W, x ∈ l → Sat W F → Calls Tryz.prog 88 #[eV x, .pointer (some ⟨cb, 0, none⟩)] W (Ret (.bool (P x)) (Below W.heap.size W))) :
    Calls Tryz.prog 66 #[v, capV 88 cb] w (Ret (.int .i64 (idxF P l)) (Below w.heap.size w)) := by
  obtain ⟨a, cap, rfl, hc⟩ := hv
  have HC := Lib.hid hc
  have HP := Lib.hid hp
  have hl9 : (l.length : Int) ≤ 100000 := by omega
  obtain ⟨res, hres⟩ : ∃ res, idxF P l = res := ⟨_, rfl⟩
  rw [hres]
  have HRES := Lib.hid hres
  have HOLD : Hid (∀ w', Sat w' (allOf w) → Sat w' F) := Lib.hid (fun w' h => s.monoB (Sat.below h))
  have HFIN : Hid (∀ w', Sat w' (allOf w) → Below w.heap.size w w') := Lib.hid (fun w' h => Sat.below h)
  obtain ⟨AW, hAW⟩ : ∃ AW, allOf w = AW := ⟨_, rfl⟩
  have H0 : Hid (Sat w AW) := Lib.hid (by rw [← hAW]; exact sat_all w)
  rw [hAW] at HOLD HFIN
  obtain ⟨PB, hPB⟩ : ∃ PB : World → Prop, Below w.heap.size w = PB := ⟨_, rfl⟩
  rw [hPB] at HFIN ⊢
  clear hc s hres hp hAW hPB
  go_enter Tryz.func66, Tryz.ntmps66
  go_wp2_with fail
  go_loopw [8] (fun v8 wr => ∃ j : Nat, j ≤ l.length ∧ v8 = .int .i64 j ∧ (∀ i y, i < j → l[i]? = some y → P y = false) ∧ Sat wr AW) (fun v8 _ => 200000 - (RowKit.intOf v8).toNat)
  case atStart => exact ⟨0, by omega, rfl, fun i r hi => absurd hi (by omega), H0.out⟩
  case round =>
    clear H0
    obtain ⟨j, hj, rfl, hno, hg⟩ := hrel
    have j0 : (0 : Int) ≤ (j : Int) := by omega
    have j9 : (j : Int) ≤ 100000 := by omega
    by_cases hjl : j < l.length
    · have j1 : (j : Int) < (l.length : Int) := by omega
      obtain ⟨x, hx⟩ : ∃ x, l[j]? = some x := ⟨_, List.getElem?_eq_getElem hjl⟩
      obtain ⟨g, off, e, e0, e1, e2, e3, e4, e5, e6, e7, e8, e9, e10, e11, e12⟩ := HC.out wr (HOLD.out wr hg) j x hx
      subst e
      have HCALL := Lib.hid (HP.out x wr (List.mem_of_getElem? hx) (HOLD.out wr hg))
      have HX := Lib.hid (And.intro hx (And.intro hno hg))
      obtain ⟨o, ho⟩ : ∃ o, P x = o := ⟨_, rfl⟩
      rw [ho] at HCALL
      have HO := Lib.hid ho
      clear hx hno hg ho
      go_wp2_with fail
      refine (HCALL.out).mono ?_
      rintro e w1 ⟨rfl, hg1⟩
      have G1 := Lib.hid (HX.out.2.2.monoB hg1)
      clear hg1 e0 e1 e2 e3 e4 e5 e6 e7 e8 e9 e10 e11 e12 HCALL
      cases o with
      | true =>
        have h1 := idxF_found HX.out.1 HO.out HX.out.2.1
        rw [HRES.out] at h1
        clear HO HX
        go_wp2_with fail
        go_ret
        exact ⟨by rw [h1]; rfl, HFIN.out _ G1.out⟩
      | false =>
        have HNO : Hid (∀ i y, i < j + 1 → l[i]? = some y → P y = false) := Lib.hid (fun i y hi hy => by
          by_cases e : i = j
          · subst e
            rw [HX.out.1] at hy
            rw [← Option.some.inj hy]; exact HO.out
          · exact HX.out.2.1 i y (by omega) hy)
        clear HO HX
        go_wp2_with fail
        exact ⟨⟨j + 1, by omega, by simp, HNO.out, G1.out⟩, by simp only [RowKit.intOf]; omega⟩
    · obtain rfl : j = l.length := by omega
      have h1 := idxF_none hno
      rw [HRES.out] at h1
      have G1 := Lib.hid hg
      clear hno hg hj hjl
      go_wp2_with fail
      go_ret
      exact ⟨by rw [h1]; rfl, HFIN.out _ G1.out⟩
end Go.Proofs.YtficgjklagnbjaaGreat
namespace Go.Proofs.YtficgjklagnbjaaGreat
open Go Go.MapKept Go.RowKit Go.Proofs Go.Sort

def oddE (P : List Lf) (x : En) : Bool := !goodM x || (decide (x.kind ≤ 2) && decide (idxF (atN x.page) P < 0))
def fitM (l : List En) (P : List Lf) : Bool := arePM [] P && !(l.any (oddE P))
theorem ret_below {v : Value} {w : World} {e : Ending} {w' : World} (h : Pur v w e w') : Ret v (Below w.heap.size w) e w' := ⟨h.1, h.2.below⟩
set_option maxRecDepth 100000 in
theorem fit1_any {v : Value} {P : List Lf} {F : Heaplet} {cb : Nat} (x : En) (w : World) (hx : -9223372036854775808 ≤ x.lsn ∧ x.lsn ≤ 9223372036854775807) (hv : LvAt F v P) (s : Sat w (.blk cb (.cells #[v] 30) :: F)) (hl : P.length ≤ 1000) :
    Calls Tryz.prog 46 #[eV x, .pointer (some ⟨cb, 0, none⟩)] w (Ret (.bool (oddE P x)) (Below w.heap.size w)) := by
  suffices h : Calls Tryz.prog 46 #[eV x, .pointer (some ⟨cb, 0, none⟩)] w (Pur (.bool (oddE P x)) w) from h.mono (fun e w' => ret_below)
  unfold Pur
  have hs := s.new (eO x)
  have HE := Lib.hid (enAt_new w x)
  have HG := Lib.hid (Grown.alloc w (eO x))
  have HS := Lib.hid hs
  have HV := Lib.hid hv
  obtain ⟨gx, hgx⟩ : ∃ gx, goodM x = gx := ⟨_, rfl⟩
  have HGX : Hid (∀ W, Calls Tryz.prog 37 #[eV x] W (Pur (.bool gx) W)) := Lib.hid (fun W => by rw [← hgx]; exact good_any x W hx.1 hx.2)
  obtain ⟨r, hr⟩ : ∃ r, idxF (atN x.page) P = r := ⟨_, rfl⟩
  obtain ⟨o, ho⟩ : ∃ o, oddE P x = o := ⟨_, rfl⟩
  rw [ho]
  have HO : Hid ((!gx || (decide (x.kind ≤ 2) && decide (r < 0))) = o) := Lib.hid (by rw [← ho, ← hgx, ← hr]; rfl)
  have HPL : Hid (∀ W, Sat W (.blk w.heap.size (eO x) :: .blk cb (.cells #[v] 30) :: F) → Calls Tryz.prog 47 #[v, kI x.page] W (Pur (.int .i64 r) W)) := Lib.hid (fun W hW => by rw [← hr]; exact place_any x.page hv hW.tail.tail hl)
  obtain ⟨z0, z1, z2, z3, z4, z5, z6, z7, z8, z9, z10, z11, z12⟩ := HE.out
  obtain ⟨a, cap, rfl, _⟩ := hv
  clear hs s hgx hr ho
  go_enter Tryz.func46, Tryz.ntmps46
  go_upto_region 1 with (fail)
  generalize w.alloc (.cells #[kI x.kind, kI x.t.c, kI x.t.e, kI x.t.n, kI x.lsn, kI x.prev, kI x.page, kI x.slot, .bool x.wu, kS x.wd, .bool x.iu, kS x.idt, kI x.next] 58) = W1 at *
  generalize w.heap.size = g at *
  go_wp2_with fail
  refine (HGX.out _).mono ?_
  rintro e w2 ⟨rfl, hg⟩
  have G2 := Lib.hid (HG.out.trans hg)
  have HS2 := Lib.hid (HS.out.grown hg)
  clear hg HG HS HE HGX z0 z1 z2 z3 z4 z5 z6 z7 z8 z9 z10 z11 z12
  cases gx with
  | false =>
    obtain rfl : true = o := by rw [← HO.out]; rfl
    clear HO
    go_wp2_with fail
    go_ret
    exact ⟨rfl, G2.out⟩
  | true =>
    obtain ⟨z0, z1, z2, z3, z4, z5, z6, z7, z8, z9, z10, z11, z12⟩ := enAt_of HS2.out.h0
    by_cases hk : x.kind ≤ 2
    · have hcb : w2.cell? ⟨cb, 0, none⟩ = some (.slice a P.length cap) := by rw [cell_of HS2.out.h1]; rfl
      have HPC := Lib.hid (HPL.out _ HS2.out)
      have ho := HO.out
      rw [decide_eq_true hk] at ho
      have HO2 := Lib.hid ho
      clear ho HO HPL
      go_wp2_with fail
      refine (HPC.out).mono ?_
      rintro e w3 ⟨rfl, hg⟩
      have G3 := Lib.hid (G2.out.trans hg)
      clear hg G2 HPC z0 z1 z2 z3 z4 z5 z6 z7 z8 z9 z10 z11 z12 hcb HS2
      go_wp2_with fail
      go_ret
      exact ⟨by rw [← HO2.out]; rfl, G3.out⟩
    · have hk2 : (x.kind ≤ 2) = False := eq_false hk
      obtain rfl : false = o := by rw [← HO.out, decide_eq_false hk]; rfl
      clear HO HPL hk
      go_wp2_with fail
      go_ret
      exact ⟨rfl, G2.out⟩
theorem hE0 {F : Heaplet} {v : Value} {l : List En} (h : EnsIn F v l) : ∃ a cap, v = .slice a l.length cap ∧ True := by
  obtain ⟨a, cap, e, _⟩ := h
  exact ⟨a, cap, e, trivial⟩
set_option maxRecDepth 100000 in
theorem fit_any {v lv : Value} {P : List Lf} {l : List En} {F : Heaplet} {w : World} (hv : LvAt F v P) (hE : EnsIn F lv l) (s : Sat w F) (hl : P.length ≤ 1000) (hp : FitP P) (hll : l.length ≤ 100000) (hf : FitL l) :
    Calls Tryz.prog 27 #[lv, v] w (Ret (.bool (fitM l P)) (Below w.heap.size w)) := by
  have hs := s.new (.cells #[v] 30)
  have hv1 : LvAt (.blk w.heap.size (.cells #[v] 30) :: F) v P := hv.mono (fun _ h => h.tail)
  have HA := Lib.hid (are_any hv1 hs hl hp)
  have hsa : Sat (w.alloc (.cells #[v] 30)) (.blk w.heap.size (.cells #[v] 30) :: allOf w) := (sat_all w).new _
  obtain ⟨a, cap, rfl, _⟩ := hv1
  obtain ⟨la, lc, rfl, _⟩ := hE0 hE
  have HK : Hid (∀ W, Sat W (allOf (w.alloc (.cells #[.slice a P.length cap] 30))) → Sat W (.blk w.heap.size (.cells #[.slice a P.length cap] 30) :: F) ∧ Below w.heap.size w W) := Lib.hid (fun W h => ⟨hs.monoB (Sat.below h), Sat.below (hsa.monoB (Sat.below h)).tail⟩)
  have HH : Hid (∀ W, Sat W (.blk w.heap.size (.cells #[.slice a P.length cap] 30) :: F) → Calls Tryz.prog 49 #[.slice la l.length lc, capV 46 w.heap.size] W (Ret (.bool (l.any (oddE P))) (Below W.heap.size W))) := Lib.hid (fun W hW =>
    has_fit (F := .blk w.heap.size (.cells #[.slice a P.length cap] 30) :: F) (hE.mono (fun _ h => h.tail)) hW hll (fun x W2 hx hW2 => fit1_any x W2 (hf x hx) hv hW2 hl))
  obtain ⟨PB, hPB⟩ : ∃ PB : World → Prop, Below w.heap.size w = PB := ⟨_, rfl⟩
  rw [hPB] at HK ⊢
  obtain ⟨r1, hr1⟩ : ∃ r1, arePM [] P = r1 := ⟨_, rfl⟩
  obtain ⟨r2, hr2⟩ : ∃ r2, l.any (oddE P) = r2 := ⟨_, rfl⟩
  have hr : fitM l P = (r1 && !r2) := by rw [← hr1, ← hr2]; rfl
  rw [hr]
  rw [hr1] at HA
  rw [hr2] at HH
  have H0 : Hid (Sat (w.alloc (.cells #[.slice a P.length cap] 30)) (allOf (w.alloc (.cells #[.slice a P.length cap] 30)))) := Lib.hid (sat_all _)
  have hcell : (w.alloc (.cells #[.slice a P.length cap] 30)).cell? ⟨w.heap.size, 0, none⟩ = some (.slice a P.length cap) := by rw [cell_of hs.h0]; rfl
  clear s hs hr1 hr2 hr hsa hPB hf hp
  go_enter Tryz.func27, Tryz.ntmps27
  go_upto_region 2 with (fail)
  generalize w.alloc (.cells #[.slice a P.length cap] 30) = W1 at *
  generalize w.heap.size = g at *
  go_wp2_with fail
  refine (HA.out).mono ?_
  rintro e w2 ⟨rfl, hb⟩
  have HS2 := Lib.hid (H0.out.monoB hb)
  clear hb HA H0 hcell
  cases r1 with
  | false =>
    have HB := Lib.hid (HK.out _ HS2.out).2
    clear HK HS2 HH
    go_wp2_with fail
    go_ret
    exact ⟨rfl, HB.out⟩
  | true =>
    have HC := Lib.hid (HH.out _ (HK.out _ HS2.out).1)
    clear HH
    go_wp2_with fail
    refine (HC.out).mono ?_
    rintro e w3 ⟨rfl, hb⟩
    have HB := Lib.hid (HK.out _ (HS2.out.monoB hb)).2
    clear hb HK HS2 HC
    go_wp2_with fail
    go_ret
    exact ⟨rfl, HB.out⟩
end Go.Proofs.YtficgjklagnbjaaGreat
namespace Go.Proofs.YtficgjklagnbjaaGreat
open Go Go.MapKept Go.RowKit Go.Proofs Go.Sort

/-- A leaf's cells. -/
abbrev Lr := Int × Int × Value
abbrev lrC (r : Lr) : List Value := [kI r.1, kI r.2.1, r.2.2]
theorem lrC_len (r : Lr) : (lrC r).length = 3 := rfl
abbrev LrSl (v : Value) (R : List Lr) (h : Heaplet) : Prop := SliceIs 54 3 v R.length (R.flatMap lrC) h
/-- The slots of leaves lie in h. -/
def LrIs (h : Heaplet) (R : List Lr) (P : List Lf) : Prop := R.length = P.length ∧ ∀ (i : Nat) r p, R[i]? = some r → P[i]? = some p → r.1 = p.1 ∧ r.2.1 = p.2.lsn ∧ SlAt h r.2.2 p.2.slots
/-- A slice of leaves of its own. -/
def LvOwn (v : Value) (P : List Lf) (h : Heaplet) : Prop := ∃ R h1 h2, LrSl v R h1 ∧ LrIs h2 R P ∧ h = h1 ++ h2
theorem LvOwn.nil : LvOwn (.slice none 0 0) [] [] := ⟨[], [], [], SliceIs.nil _ _, ⟨rfl, fun i r p h => by simp at h⟩, rfl⟩
theorem LvOwn.form {v : Value} {P : List Lf} {h : Heaplet} (hv : LvOwn v P h) : ∃ a cap, v = .slice a P.length cap := by
  obtain ⟨R, h1, h2, hs, hi, _⟩ := hv
  obtain ⟨a, cap, e⟩ := sl_form hs
  exact ⟨a, cap, by rw [e, hi.1]⟩
theorem LvOwn.at {v : Value} {P : List Lf} {h : Heaplet} (hv : LvOwn v P h) (F : Heaplet) : LvAt (h ++ F) v P := by
  obtain ⟨R, h1, h2, hs, hi, rfl⟩ := hv
  obtain ⟨a, cap, rfl⟩ := sl_form hs
  refine ⟨a, cap, by rw [hi.1], fun i p hp => ?_⟩
  have hil : i < P.length := (List.getElem?_eq_some_iff.1 hp).1
  obtain ⟨r, hr⟩ : ∃ r, R[i]? = some r := ⟨_, List.getElem?_eq_getElem (by rw [hi.1]; exact hil)⟩
  obtain ⟨e1, e2, e3⟩ := hi.2 i r p hr hp
  have hcell : ∀ w, Sat w (h1 ++ h2 ++ F) → ∃ g, a = some ⟨g, 0, none⟩ ∧ w.cell? ⟨g, i * 3, none⟩ = some (kI p.1) ∧ w.cell? ⟨g, i * 3 + 1, none⟩ = some (kI p.2.lsn) ∧ w.cell? ⟨g, i * 3 + 2, none⟩ = some r.2.2 := by
    intro w hw
    obtain ⟨a', cap', e, hc⟩ := sl_cells lrC_len hs (show Sat w (h1 ++ (h2 ++ F)) by rw [← List.append_assoc]; exact hw)
    cases e
    obtain ⟨g, ea, _, hu⟩ := hc i r hr
    refine ⟨g, ea, ?_, ?_, ?_⟩
    · rw [← e1]; exact hu 0 _ rfl
    · rw [← e2]; exact hu 1 _ rfl
    · exact hu 2 _ rfl
  have hslot : SlAt (h1 ++ h2 ++ F) r.2.2 p.2.slots := e3.mono (fun w hw => by (refine Sat.part hw ?_; intro a; simp only [cnt_append]; omega))
  rcases hs.2 with ⟨e, e0, _⟩ | ⟨g', cap', cur, e, _, _, _, _, rfl⟩
  · have := (List.getElem?_eq_some_iff.1 hr).1
    omega
  · cases e
    refine ⟨g', 0, r.2.2, rfl, hslot, fun w hw => ?_⟩
    obtain ⟨g, ea, c0, c1, c2⟩ := hcell w hw
    cases ea
    rw [Nat.zero_add]
    exact ⟨c0, c1, c2⟩
theorem infoLf : (Tryz.prog.info? 54).map (fun i => (i.zero, i.size, i.bytes)) = some (some (.agg #[kI 0, kI 0, .slice none 0 0]), 3, 40) := by kernel_rfl
theorem lv_push {P : List Lf} {v : Value} {h hn B : Heaplet} {w : World} {x : Nat} {n : Int} {q : Pg} {a : Option Addr} {len cap : Nat} (hv : LvOwn v P h) (s : Sat w (.blk x (.cells #[kI n, kI q.lsn, .slice a len cap] 54) :: (h ++ (hn ++ B)))) (hsl : SlAt hn (.slice a len cap) q.slots) (hlen : P.length + 1 ≤ 200000) :
    ∃ v' w' h', (∀ ty, (Builtin.append_ #[30, 30] ty #[v, .slice (some ⟨x, 0, none⟩) 1 1]).run Tryz.prog w = .ok v' w') ∧ LvOwn v' (P ++ [(n, q)]) h' ∧ Sat w' (h' ++ B) := by
  obtain ⟨R, h1, h2, hs, hi, rfl⟩ := hv
  obtain ⟨i0, hin, hz, hsize, hby⟩ := info_parts infoLf
  have s2 : Sat w (.blk x (.cells (lrC (n, q.lsn, .slice a len cap)).toArray 54) :: ([] ++ (h1 ++ (h2 ++ (hn ++ B))))) := by
    have s' : Sat w (.blk x (.cells (lrC (n, q.lsn, .slice a len cap)).toArray 54) :: (h1 ++ h2 ++ (hn ++ B))) := s
    (refine Sat.part s' ?_; intro a; simp only [cnt_cons, cnt_append, List.nil_append]; omega)
  obtain ⟨v', w', h', hap, hv', hs'⟩ := sl_push (P := Tryz.prog) lrC_len Tryz.underlying30 hin hz hsize hby rfl (by decide) hs (n, q.lsn, .slice a len cap) s2 (by intro u hu; simp only [lrC, List.mem_cons, List.not_mem_nil, or_false] at hu; rcases hu with rfl | rfl | rfl <;> rfl) (by unfold maxLen; rw [hi.1]; omega) (by rw [hi.1]; omega)
  refine ⟨v', w', h' ++ (h2 ++ hn), hap, ⟨R ++ [(n, q.lsn, .slice a len cap)], h', h2 ++ hn, by (show SliceIs 54 3 v' (R ++ [((n, q.lsn, .slice a len cap) : Lr)]).length ((R ++ [((n, q.lsn, .slice a len cap) : Lr)]).flatMap lrC) h'); rw [List.length_append, List.flatMap_append]; simpa using hv', ⟨by simp [hi.1], fun i r p hr hp => ?_⟩, rfl⟩, by (refine Sat.part hs' ?_; intro a; simp only [cnt_append, List.nil_append]; omega)⟩
  by_cases hil : i < P.length
  · rw [List.getElem?_append_left (by rw [hi.1]; exact hil)] at hr
    rw [List.getElem?_append_left hil] at hp
    obtain ⟨e1, e2, e3⟩ := hi.2 i r p hr hp
    exact ⟨e1, e2, e3.left hn⟩
  · rw [List.getElem?_append_right (by rw [hi.1]; omega)] at hr
    rw [List.getElem?_append_right (by omega)] at hp
    have h0 : i - P.length = 0 := by
      have := (List.getElem?_eq_some_iff.1 hp).1
      simp only [List.length_cons, List.length_nil] at this
      omega
    rw [hi.1, h0] at hr
    rw [h0] at hp
    cases hr; cases hp
    exact ⟨rfl, rfl, hsl.mono (fun w hw => by (refine Sat.part hw ?_; intro a; simp only [cnt_append]; omega))⟩
end Go.Proofs.YtficgjklagnbjaaGreat
namespace Go.Proofs.YtficgjklagnbjaaGreat
open Go Go.MapKept Go.RowKit Go.Proofs Go.Sort

def goL (l : List En) : List Lf → List Lf → List Lf × Int
  | out, [] => (out, 0)
  | out, p :: r => if (patchM p.2 p.1 l).2 ≠ 0 then ([], (patchM p.2 p.1 l).2) else goL l (out ++ [(p.1, (patchM p.2 p.1 l).1)]) r
/-- Pages behind entries; the error. -/
def redoL (l : List En) (P : List Lf) : List Lf × Int := if fitM l P = true then goL l [] P else ([], 1)
/-- Leaves, an error. -/
def LvRet (P : List Lf) (c : Int) (F : Heaplet) (e : Ending) (w' : World) : Prop := ∃ v h, e = .returned (.tuple #[v, .int .i64 c]) ∧ LvOwn v P h ∧ Sat w' (h ++ F)
set_option maxRecDepth 100000 in
set_option maxHeartbeats 4000000 in
theorem redoL_any {v lv : Value} {P : List Lf} {l : List En} {F : Heaplet} {w : World} (hv : LvAt F v P) (hE : EnsIn F lv l) (s : Sat w F) (hl : P.length ≤ 1000) (hp : FitP P) (hll : l.length ≤ 100000) (hf : FitL l) :
    Calls Tryz.prog 24 #[lv, v] w (LvRet (redoL l P).1 (redoL l P).2 F) := by
  obtain ⟨rP, rc, hr⟩ : ∃ rP rc, redoL l P = (rP, rc) := ⟨_, _, rfl⟩
  rw [hr]
  have HFIT := Lib.hid (fit_any hv hE s hl hp hll hf)
  have HV := Lib.hid hv
  have HE := Lib.hid hE
  have HP := Lib.hid (And.intro hp (And.intro hll hf))
  have HS := Lib.hid s
  have HR := Lib.hid hr
  obtain ⟨a, cap, rfl, hc⟩ := hv
  have HC := Lib.hid hc
  obtain ⟨la, lc, rfl, _⟩ := hE0 hE
  obtain ⟨ft, hft⟩ : ∃ ft, fitM l P = ft := ⟨_, rfl⟩
  rw [hft] at HFIT
  have HFT := Lib.hid hft
  have hl9 : (P.length : Int) ≤ 1000 := by omega
  clear hr hc s hft hp hf hE
  go_enter Tryz.func24, Tryz.ntmps24
  go_wp2_with fail
  refine (HFIT.out).mono ?_
  rintro e w1 ⟨rfl, hb⟩
  have HS1 := Lib.hid (HS.out.monoB hb)
  clear hb HFIT HS
  cases ft with
  | false =>
    have hq : (([], 1) : List Lf × Int) = (rP, rc) := by rw [← HR.out]; unfold redoL; rw [HFT.out]; rfl
    have h1 : [] = rP := congrArg Prod.fst hq
    have h2 : 1 = rc := congrArg Prod.snd hq
    subst h1; subst h2
    clear hq HR HFT HV HE HP HC
    go_wp2_with fail
    go_ret2
    exact ⟨_, [], rfl, LvOwn.nil, HS1.out⟩
  | true =>
    have hq : goL l [] P = (rP, rc) := by rw [← HR.out]; unfold redoL; rw [HFT.out]; rfl
    have HQ := Lib.hid hq
    clear hq HR HFT
    go_wp2_with fail
    go_loopw [6, 17] (fun v6 v17 wr => ∃ (i : Nat) (out : List Lf) (h : Heaplet), i ≤ P.length ∧ out.length = i ∧ v17 = .int .i64 i ∧ goL l out (P.drop i) = (rP, rc) ∧ LvOwn v6 out h ∧ Sat wr (h ++ F)) (fun _ v17 _ => 2000 - (RowKit.intOf v17).toNat)
    case atStart => exact ⟨0, [], [], by omega, rfl, rfl, HQ.out, LvOwn.nil, HS1.out⟩
    case round =>
      clear HQ HS1
      obtain ⟨i, out, h, hi, hol, rfl, hrest, hown, hs⟩ := hrel
      have i0 : (0 : Int) ≤ (i : Int) := by omega
      by_cases hil : i < P.length
      · have i1 : (i : Int) < (P.length : Int) := by omega
        obtain ⟨p, hp⟩ : ∃ p, P[i]? = some p := ⟨_, List.getElem?_eq_getElem hil⟩
        obtain ⟨g, off, sv, rfl, hsv, hu⟩ := HC.out i p hp
        obtain ⟨u0, u1, u2⟩ := hu wr hs.right
        have hdr : P.drop i = p :: P.drop (i + 1) := by rw [List.drop_eq_getElem_cons hil]; congr 1; exact Option.some.inj ((List.getElem?_eq_getElem hil).symm.trans hp)
        rw [hdr] at hrest
        have hfp := HP.out.1 p (List.mem_of_getElem? hp)
        obtain ⟨n, q⟩ := p
        simp only at hsv u0 u1 u2 hfp
        have hsv2 := hsv
        obtain ⟨sa, sc, rfl, _⟩ := hsv2
        have hs1 := hs.new (.cells #[kI n, kI q.lsn, .slice sa q.slots.length sc] 54)
        have hsv1 : SlAt (.blk wr.heap.size (.cells #[kI n, kI q.lsn, .slice sa q.slots.length sc] 54) :: (h ++ F)) (.slice sa q.slots.length sc) q.slots := hsv.mono (fun w' h => h.tail.right)
        have hE1 : EnsIn (.blk wr.heap.size (.cells #[kI n, kI q.lsn, .slice sa q.slots.length sc] 54) :: (h ++ F)) (.slice la l.length lc) l := HE.out.mono (fun w' h => h.tail.right)
        have HA := Lib.hid (all_any n hsv1 hE1 hs1 hfp.1 hfp.2.1 hfp.2.2 HP.out.2.1 HP.out.2.2)
        obtain ⟨q', c', hpm⟩ : ∃ q' c', patchM q n l = (q', c') := ⟨_, _, rfl⟩
        rw [hpm] at HA
        simp only [goL, hpm] at hrest
        have HRS := Lib.hid hrest
        have HO := Lib.hid (And.intro hown hol)
        have x0 : (wr.alloc (.cells #[kI n, kI q.lsn, .slice sa q.slots.length sc] 54)).cell? ⟨wr.heap.size, 0, none⟩ = some (kI n) := by rw [cell_of hs1.h0]; rfl
        have x1 : (wr.alloc (.cells #[kI n, kI q.lsn, .slice sa q.slots.length sc] 54)).cell? ⟨wr.heap.size, 1, none⟩ = some (kI q.lsn) := by rw [cell_of hs1.h0]; rfl
        have x2 : (wr.alloc (.cells #[kI n, kI q.lsn, .slice sa q.slots.length sc] 54)).cell? ⟨wr.heap.size, 2, none⟩ = some (.slice sa q.slots.length sc) := by rw [cell_of hs1.h0]; rfl
        clear hu hdr hrest hfp hsv hsv1 hs hs1 hp hown hE1 hpm
        go_upto_region 7 with (fail)
        clear u0 u1 u2
        generalize wr.alloc (.cells #[kI n, kI q.lsn, .slice sa q.slots.length sc] 54) = W1 at *
        generalize wr.heap.size = xb at *
        go_wp2_with fail
        refine (HA.out).mono ?_
        rintro e w2 ⟨sv', h', rfl, hs2, hsv'⟩
        have HSV := Lib.hid hsv'
        obtain ⟨sa', sc', rfl, _⟩ := hsv'
        have HS2 := Lib.hid hs2
        clear hs2 HA x0 x1 x2
        by_cases hc0 : c' = 0
        · subst hc0
          have hrs := HRS.out
          rw [if_neg (by decide)] at hrs
          have hs3 := HS2.out.new (.cells #[kI q'.lsn, .slice sa' q'.slots.length sc'] 52)
          have x0 : (w2.alloc (.cells #[kI q'.lsn, .slice sa' q'.slots.length sc'] 52)).cell? ⟨xb, 0, none⟩ = some (kI n) := by
            rw [cell_of (show (w2.alloc (.cells #[kI q'.lsn, .slice sa' q'.slots.length sc'] 52)).heap[xb]? = some (.cells #[kI n, kI q.lsn, .slice sa q.slots.length sc] 54) from hs3.get (by simp))]; rfl
          have hs4 := hs3.new (.cells #[kI n, kI q'.lsn, .slice sa' q'.slots.length sc'] 54)
          rw [World.size_alloc] at hs4
          have hs4' : Sat ((w2.alloc (.cells #[kI q'.lsn, .slice sa' q'.slots.length sc'] 52)).alloc (.cells #[kI n, kI q'.lsn, .slice sa' q'.slots.length sc'] 54)) (.blk (w2.heap.size + 1) (.cells #[kI n, kI q'.lsn, .slice sa' q'.slots.length sc'] 54) :: (h ++ (h' ++ F))) := by (refine Sat.part hs4 ?_; intro a; simp only [cnt_cons, cnt_append]; omega)
          obtain ⟨v5, w5, h5, hap, hown5, hs5⟩ := lv_push (B := F) (hn := h') (n := n) (q := q') HO.out.1 hs4' HSV.out (by rw [HO.out.2]; omega)
          have HAP := Lib.hid hap
          have FIN : Hid (goL l (out ++ [(n, q')]) (P.drop (i + 1)) = (rP, rc) ∧ LvOwn v5 (out ++ [(n, q')]) h5 ∧ Sat w5 (h5 ++ F) ∧ (out ++ [(n, q')]).length = i + 1) := Lib.hid ⟨hrs, hown5, hs5, by simp [HO.out.2]⟩
          clear hs3 hs4 hs4' hrs hap hown5 hs5 HRS HSV HS2 hol
          go_wp2_with (at_builtin; refine wpList_append_run rfl _ _ _ _ rfl _ _ _ _ rfl rfl HAP.out ?_)
          exact ⟨⟨i + 1, out ++ [(n, q')], h5, by omega, FIN.out.2.2.2, by simp, FIN.out.1, FIN.out.2.1, FIN.out.2.2.1⟩, by simp only [RowKit.intOf]; omega⟩
        · have hb1 : (c' == 0) = false := beq_eq_false_iff_ne.2 hc0
          have hb2 : (c' != 0) = true := by rw [bne, hb1]; rfl
          have hrs := HRS.out
          rw [if_pos hc0] at hrs
          have h1 : [] = rP := congrArg Prod.fst hrs
          have h2 : c' = rc := congrArg Prod.snd hrs
          subst h1; subst h2
          have FIN : Hid (Sat (w2.alloc (.cells #[kI q'.lsn, .slice sa' q'.slots.length sc'] 52)) ([] ++ F)) := Lib.hid (by (refine Sat.part (HS2.out.new (.cells #[kI q'.lsn, .slice sa' q'.slots.length sc'] 52)) ?_; intro a; simp only [cnt_cons, cnt_append, List.nil_append]; omega))
          clear hrs HRS HSV HS2 HO HV HE HP HC hc0
          go_wp2_with fail
          go_ret2
          exact ⟨_, [], rfl, LvOwn.nil, FIN.out⟩
      · obtain rfl : i = P.length := by omega
        rw [List.drop_length] at hrest
        have hq : (out, (0 : Int)) = (rP, rc) := by rw [← hrest]; rfl
        have h1 : out = rP := congrArg Prod.fst hq
        have h2 : 0 = rc := congrArg Prod.snd hq
        subst h1; subst h2
        have FIN := Lib.hid (And.intro hown hs)
        clear hs hq hrest hown hi hil HV HE HP HC
        go_wp2_with fail
        go_ret2
        exact ⟨_, h, rfl, FIN.out.1, FIN.out.2⟩
end Go.Proofs.YtficgjklagnbjaaGreat
