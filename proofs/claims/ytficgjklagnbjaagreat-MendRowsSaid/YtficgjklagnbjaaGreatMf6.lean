/- MendRows walked: every record, once, in order. Conditions: none. -/
import Derived.Test.YtficgjklagnbjaaGreatSt11
namespace Go.Proofs.YtficgjklagnbjaaGreat
open Go Go.MapKept Go.RowKit Go.Proofs Go.Shelf Go.Sort St

attribute [local go_sem] Oper.semAt_some

theorem greatP_fit {P : List Lf} (h : greatP P = false) (hb : ∀ p ∈ P, -9223372036854775808 ≤ p.2.lsn ∧ p.2.lsn ≤ 9223372036854775807) : P.length ≤ 12 ∧ FitP P := by
  unfold greatP at h
  simp only [Bool.or_eq_false_iff, decide_eq_false_iff_not, List.any_eq_false] at h
  refine ⟨by omega, fun p hp => ?_⟩
  have h1 := h.2 p hp
  unfold bigP at h1
  simp only [Bool.or_eq_true, decide_eq_true_eq, List.any_eq_true, not_or, not_exists, not_and] at h1
  refine ⟨by omega, fun x hx => ?_, hb p hp⟩
  have h2 := h1.2 x hx
  unfold bigS at h2
  simp only [decide_eq_true_eq] at h2
  omega
theorem pw_at {α : Type} {r : α → α → Prop} {R : List α} (h : R.Pairwise r) {i j : Nat} {x y : α} (hx : R[i]? = some x) (hy : R[j]? = some y) (hij : i < j) : r x y := by
  obtain ⟨hi, rfl⟩ := List.getElem?_eq_some_iff.1 hx
  obtain ⟨hj, rfl⟩ := List.getElem?_eq_some_iff.1 hy
  exact List.pairwise_iff_getElem.1 h i j hi hj hij
theorem eq_rw (a b : Int) (c : ByteArray) (a' b' : Int) (c' : ByteArray) (w : World) : (binOp .eql 73 (.agg #[kI a, kI b, kS c]) (.agg #[kI a', kI b', kS c'])).run Tryz.prog w = .ok (.bool (decide ((a, b, c) = (a', b', c')))) w := by
  have h := ba_eq_iff c c'
  have hi := ba_iff c c'
  have e : decide ((a, b, c) = (a', b', c')) = ((a == a') && ((b == b') && decide (c = c'))) := by
    by_cases h1 : a = a' <;> by_cases h2 : b = b' <;> by_cases h3 : c = c' <;> simp [h1, h2, h3]
  rw [e, ← h]
  simp [go_sem]
  repeat' split
  all_goals
    simp_all
theorem guard_rw (a b : Int) (c : ByteArray) (a' b' : Int) (c' : ByteArray) (w : World) (x y : Operand) : (eqGuard .eql 73 x y (.agg #[kI a, kI b, kS c]) (.agg #[kI a', kI b', kS c'])).run Tryz.prog w = .ok () w := by
  simp [go_sem, eqGuard]
theorem cntA_le (p : Lf) (s : Nat) : cntA p s ≤ s := by
  unfold cntA
  exact Nat.le_trans (List.length_filter_le _ _) (by simp)
set_option maxRecDepth 100000 in
set_option maxHeartbeats 4000000 in
theorem rowsLaw_walk (a : Option Addr) (cap : Nat) (P : List Lf) (Wi : World) (hv : LvAt (allOf Wi) (.slice a P.length cap) P) (hb : ∀ p ∈ P, -9223372036854775808 ≤ p.2.lsn ∧ p.2.lsn ≤ 9223372036854775807) :
    Calls Tryz.prog 8 #[.slice a P.length cap] Wi (Ret (.bool true) (RowKit.Below Wi.heap.size Wi)) := by
  have HS := Lib.hid (sat_all Wi)
  have HV := Lib.hid hv
  have HBD := Lib.hid hb
  have HB : Hid (∀ W, Sat W (allOf Wi) → RowKit.Below Wi.heap.size Wi W) := Lib.hid (fun W hW => hW.below)
  obtain ⟨F0, hF0⟩ : ∃ F0, allOf Wi = F0 := ⟨_, rfl⟩
  rw [hF0] at HS HV HB
  obtain ⟨PB, hPB⟩ : ∃ PB : World → Prop, RowKit.Below Wi.heap.size Wi = PB := ⟨_, rfl⟩
  rw [hPB] at HB ⊢
  clear hF0 hPB hv hb
  have HG : Hid (∀ W, Sat W F0 → Calls Tryz.prog 22 #[.slice none 0 0, .slice a P.length cap] W (Ret (.bool (greatP P)) (Same W))) := Lib.hid (fun W hW => greatP_any _ P F0 W hW HV.out)
  obtain ⟨gr, hgr⟩ : ∃ gr, greatP P = gr := ⟨_, rfl⟩
  rw [hgr] at HG
  have HGR := Lib.hid hgr
  clear hgr
  have HC : Hid (∃ a' c', Value.slice a P.length cap = .slice a' P.length c' ∧ True) := Lib.hid ⟨_, _, rfl, trivial⟩
  go_enter Tryz.func8, Tryz.ntmps8
  go_upto_region 3 with (go_at_call 9; refine (awake_any F0 _ HS.out).mono ?_; rintro e w1 ⟨rfl, hs1⟩; have HS1 := Lib.hid hs1; clear hs1 HS)
  cases gr with
  | true =>
    have HE := Lib.hid (HB.out _ HS1.out)
    go_wp2_with (go_at_call 22; refine (HG.out _ HS1.out).mono ?_; rintro e w2 ⟨rfl, rfl⟩)
    go_ret
    exact ⟨rfl, HE.out⟩
  | false =>
    have HFT := Lib.hid (greatP_fit HGR.out HBD.out)
    have hl12 : (P.length : Int) ≤ 12 := by have := HFT.out.1; omega
    go_upto_block 0 with (go_at_call 22; refine (HG.out _ HS1.out).mono ?_; rintro e w2 ⟨rfl, rfl⟩)
    clear HG HGR HC
    go_cut [] (fun wx => DistP P ∧ Sat wx F0)
    case first =>
      go_wp2_with fail
      go_loopw [3] (fun v3 wr => ∃ i : Nat, i ≤ P.length ∧ v3 = .int .i64 i ∧ (∀ (x y : Nat) (p q : Lf), P[x]? = some p → P[y]? = some q → x < y → y < i → p.1 ≠ q.1) ∧ Sat wr F0) (fun v3 _ => 1000 - (RowKit.intOf v3).toNat)
      case atStart => exact ⟨0, by omega, rfl, fun x y p q _ _ _ h => by omega, HS1.out⟩
      case round =>
        clear HS1
        obtain ⟨i, hi, rfl, hd, hs⟩ := hrel
        have b0 : (0 : Int) ≤ (i : Int) := by omega
        by_cases hil : i < P.length
        · have b1 : (i : Int) < (P.length : Int) := by omega
          obtain ⟨q, hq⟩ : ∃ q, P[i]? = some q := ⟨_, List.getElem?_eq_getElem hil⟩
          have HD := Lib.hid (And.intro hd hq)
          have HSI := Lib.hid hs
          clear hd hq hs hi
          go_wp2_with fail
          go_loopw [4] (fun v4 wr => ∃ k : Nat, k ≤ i ∧ v4 = .int .i64 k ∧ (∀ (x : Nat) (p : Lf), P[x]? = some p → x < k → p.1 ≠ q.1) ∧ Sat wr F0) (fun v4 _ => 1000 - (RowKit.intOf v4).toNat)
          case atStart => exact ⟨0, by omega, rfl, fun x p _ h => by omega, HSI.out⟩
          case round =>
            clear HSI
            obtain ⟨k, hk, rfl, hdk, hs⟩ := hrel
            have c0 : (0 : Int) ≤ (k : Int) := by omega
            by_cases hki : k < i
            · have c1 : (k : Int) < (i : Int) := by omega
              have c2 : (k : Int) < (P.length : Int) := by omega
              obtain ⟨p, hp⟩ : ∃ p, P[k]? = some p := ⟨_, List.getElem?_eq_getElem (by omega)⟩
              obtain ⟨a', cp, e', hc⟩ := HV.out
              simp only [Value.slice.injEq] at e'
              obtain ⟨rfl, _, rfl⟩ := e'
              obtain ⟨g, off, sv, rfl, _, hu⟩ := hc k p hp
              obtain ⟨g2, off2, sv2, e2, _, hu2⟩ := hc i q HD.out.2
              simp only [Option.some.injEq, Addr.mk.injEq, and_true] at e2
              obtain ⟨rfl, rfl⟩ := e2
              have p0 := (hu wr hs).1
              have p1 := (hu2 wr hs).1
              have HSN : Hid (∀ nd, Sat (wr.drewN nd) F0) := Lib.hid (fun nd => hs.grown (Grown.drewN wr nd))
              have HDK := Lib.hid (And.intro hdk hp)
              clear hdk hp hs hc hu hu2 hk
              by_cases he : p.1 = q.1
              · have hee : (p.1 = q.1) = True := eq_true he
                go_upto_region 11 with (fail)
                go_quiet (fail)
                have HE := Lib.hid (HB.out _ (HSN.out nq))
                clear HSN p0 p1
                generalize wr.drewN nq = wr5 at *
                go_wp2_with fail
                go_ret
                exact ⟨rfl, HE.out⟩
              · have hee : (p.1 = q.1) = False := eq_false he
                go_upto_region 11 with (fail)
                go_quiet (fail)
                have HS5 := Lib.hid (HSN.out nq)
                clear HSN p0 p1
                generalize wr.drewN nq = wr5 at *
                go_wp2_with fail
                refine ⟨⟨k + 1, by omega, by simp, fun x r hx hxk => ?_, HS5.out⟩, by simp only [RowKit.intOf]; omega⟩
                by_cases hxe : x = k
                · subst hxe
                  have := HDK.out.2
                  rw [hx] at this
                  cases this
                  exact he
                · exact HDK.out.1 x r hx (by omega)
            · obtain rfl : k = i := by omega
              have c1 : ((k : Int) < (k : Int)) = False := eq_false (by omega)
              have HDK := Lib.hid (And.intro hdk hs)
              clear hdk hs hk hki
              go_wp2_with fail
              refine ⟨⟨k + 1, by omega, by simp, fun x y p r hx hy hxy hyk => ?_, HDK.out.2⟩, by simp only [RowKit.intOf]; omega⟩
              by_cases hye : y = k
              · subst hye
                have := HD.out.2
                rw [hy] at this
                cases this
                exact HDK.out.1 x p hx hxy
              · exact HD.out.1 x y p r hx hy hxy (by omega)
        · obtain rfl : i = P.length := by omega
          have b1 : ((P.length : Int) < (P.length : Int)) = False := eq_false (by omega)
          have HD := Lib.hid (And.intro hd hs)
          clear hd hs hi hil
          go_wp2_with fail
          go_meet
          exact ⟨fun x y p q hx hy hxy => HD.out.1 x y p q hx hy hxy (List.getElem?_eq_some_iff.1 hy).1, HD.out.2⟩
    case rest =>
      obtain ⟨hd, hs⟩ := hcut
      have HRW : Hid (Calls Tryz.prog 23 #[.slice a P.length cap] wc fun e w' => ∃ rg N rc R h, e = .returned (.slice rg N rc) ∧ (R.length = N ∧ N ≤ 12000) ∧ RwSl (.slice rg N rc) R h ∧ Sat w' (h ++ F0) ∧ R.Pairwise (Le rk) ∧ R.Pairwise (Sb rk rs) ∧ R.Perm (rowsA P)) := Lib.hid (by
        refine (rows_any HV.out hs (by have := HFT.out.1; omega) HFT.out.2 hd).mono ?_
        rintro e w' ⟨rv, R, h, rfl, h1, h2, h3, h4⟩
        obtain ⟨rg, rc, rfl⟩ := sl_form h1
        have h5 := rowsA_len P HFT.out.2
        have h6 := h4.perm.length_eq
        have h7 := HFT.out.1
        exact ⟨rg, R.length, rc, R, h, rfl, ⟨rfl, by omega⟩, h1, h2, h3, h4.stb (rowsA_stb P hd), h4.perm⟩)
      have HDS := Lib.hid hd
      clear hd hs
      go_upto_block 4 with (go_at_call 23; refine (HRW.out).mono ?_; rintro e w3 ⟨rg, N, rc, R, h, rfl, hN, hrv, hs3, hle, hsb, hpm⟩; have HR := Lib.hid (And.intro hN (And.intro hrv (And.intro hle (And.intro hsb hpm)))); have HS3 := Lib.hid hs3; clear hN hrv hle hsb hpm hs3)
      clear HRW HS1
      have hN12 : (N : Int) ≤ 12000 := by have := HR.out.1.2; omega
      go_cut [] (fun wx => Sat wx (h ++ F0))
      case first =>
        go_wp2_with fail
        go_loopw [7] (fun v7 wr => ∃ t : Nat, t ≤ N ∧ v7 = .int .i64 t ∧ Sat wr (h ++ F0)) (fun v7 _ => 20000 - (RowKit.intOf v7).toNat)
        case atStart => exact ⟨0, by omega, rfl, HS3.out⟩
        case round =>
          clear HS3
          obtain ⟨t, ht, rfl, hs⟩ := hrel
          have b0 : (0 : Int) ≤ (t : Int) := by omega
          by_cases htN : t < N
          · have b1 : (t : Int) < (N : Int) := by omega
            have HSN : Hid (∀ nd, Sat (wr.drewN nd) (h ++ F0)) := Lib.hid (fun nd => hs.grown (Grown.drewN wr nd))
            have HT1 := Lib.hid (show t + 1 ≤ N from htN)
            by_cases ht0 : t = 0
            · have z1 : ((0 : Int) < (t : Int)) = False := eq_false (by omega)
              have z2 : (0 < t) = False := eq_false (by omega)
              clear hs ht htN ht0
              go_upto_region 18 with (fail)
              go_quiet (fail)
              have HS5 := Lib.hid (HSN.out nq)
              clear HSN
              generalize wr.drewN nq = wr5 at *
              go_wp2_with fail
              exact ⟨⟨t + 1, HT1.out, by simp, HS5.out⟩, by simp only [RowKit.intOf]; omega⟩
            · have z1 : (0 : Int) < (t : Int) := by omega
              have z2 : (0 < t) = True := eq_true (by omega)
              obtain ⟨m, hm⟩ : ∃ m, m + 1 = t := ⟨t - 1, by omega⟩
              have hR := HR.out.1.1
              obtain ⟨x, hx⟩ : ∃ x, R[t]? = some x := ⟨_, List.getElem?_eq_getElem (by omega)⟩
              obtain ⟨y, hy⟩ : ∃ y, R[m]? = some y := ⟨_, List.getElem?_eq_getElem (by omega)⟩
              obtain ⟨s1, s2⟩ := dec_at hm (by omega)
              have m0 : (0 : Int) ≤ (m : Int) := by omega
              have m1 : (m : Int) < (N : Int) := by omega
              obtain ⟨g, cc, erg⟩ := sl_some HR.out.2.1 (by omega)
              have erg1 := (Value.slice.inj erg).1
              subst erg1
              clear erg
              obtain ⟨_, x0, x1, _⟩ := rw_old HR.out.2.1 hs hx
              obtain ⟨_, y0, y1, _⟩ := rw_old HR.out.2.1 hs hy
              have hle1 : y.1 ≤ x.1 := pw_at HR.out.2.2.1 hy hx (by omega)
              have hsb1 : y.1 = x.1 → y.2.1 < x.2.1 := pw_at HR.out.2.2.2.1 hy hx (by omega)
              have l1 : (x.1 < y.1) = False := eq_false (by omega)
              have l4 : (y.1 ≤ x.1) = True := eq_true hle1
              by_cases hxy : x.1 = y.1
              · have l2 : (x.1 = y.1) = True := eq_true hxy
                have l3 : (x.2.1 ≤ y.2.1) = False := eq_false (by have := hsb1 hxy.symm; omega)
                clear hs ht htN ht0 hm hR hx hy hle1 hsb1 hxy
                go_upto_region 18 with (fail)
                go_quiet (fail)
                have HS5 := Lib.hid (HSN.out nq)
                clear HSN s1 s2 x0 x1 y0 y1
                generalize wr.drewN nq = wr5 at *
                go_wp2_with fail
                exact ⟨⟨t + 1, HT1.out, by simp, HS5.out⟩, by simp only [RowKit.intOf]; omega⟩
              · have l2 : (x.1 = y.1) = False := eq_false hxy
                clear hs ht htN ht0 hm hR hx hy hle1 hsb1 hxy
                go_upto_region 18 with (fail)
                go_quiet (fail)
                have HS5 := Lib.hid (HSN.out nq)
                clear HSN s1 s2 x0 x1 y0 y1
                generalize wr.drewN nq = wr5 at *
                go_wp2_with fail
                exact ⟨⟨t + 1, HT1.out, by simp, HS5.out⟩, by simp only [RowKit.intOf]; omega⟩
          · have b1 : ((t : Int) < (N : Int)) = False := eq_false (by omega)
            have FIN := Lib.hid hs
            clear hs ht htN
            go_wp2_with fail
            go_meet
            exact FIN.out
      case rest =>
        have HS6 := Lib.hid hcut
        have HPM : Hid ((rowsA P).length = N ∧ ∀ y, y ∈ R ↔ y ∈ rowsA P) := Lib.hid ⟨by have h1 := HR.out.2.2.2.2.length_eq; have h2 := HR.out.1.1; omega, fun y => HR.out.2.2.2.2.mem_iff⟩
        have HRV := Lib.hid (And.intro HR.out.1.1 HR.out.2.1)
        have HRT : Hid (∀ i, (rowsA (P.take i)).length ≤ 12000) := Lib.hid (fun i => by
          have h1 := rowsA_len (P.take i) (fun x hx => HFT.out.2 x (List.mem_of_mem_take hx))
          have h2 : (P.take i).length ≤ P.length := List.length_take_le' _ _
          have h3 := HFT.out.1
          omega)
        have HN12 := Lib.hid hN12
        clear hcut HS3 HR
        go_wp2_with fail
        go_loopw [6, 8] (fun v6 v8 wr => ∃ i z : Nat, i ≤ P.length ∧ v8 = .int .i64 i ∧ (rowsA (P.take i)).length = z ∧ v6 = .int .i64 z ∧ Sat wr (h ++ F0)) (fun _ v8 _ => 1000 - (RowKit.intOf v8).toNat)
        case atStart => exact ⟨0, 0, by omega, rfl, rfl, rfl, HS6.out⟩
        case round =>
          clear HS6
          obtain ⟨i, z, hi, rfl, hz, rfl, hs⟩ := hrel
          have b0 : (0 : Int) ≤ (i : Int) := by omega
          by_cases hil : i < P.length
          · have b1 : (i : Int) < (P.length : Int) := by omega
            obtain ⟨p, hp⟩ : ∃ p, P[i]? = some p := ⟨_, List.getElem?_eq_getElem hil⟩
            have hsn : rowsA (P.take (i + 1)) = rowsA (P.take i) ++ (if inR p.1 = true then rowsL p else []) := by rw [List.take_add_one, hp]; exact rowsA_snoc _ _
            have hz9 := HRT.out i
            rw [hz] at hz9
            obtain ⟨a', cp, e', hc⟩ := HV.out
            simp only [Value.slice.injEq] at e'
            obtain ⟨rfl, _, rfl⟩ := e'
            obtain ⟨g, off, sv, rfl, hsv, hu⟩ := hc i p hp
            have HU : Hid (∀ w, Sat w (h ++ F0) → w.cell? ⟨g, off + i * 3, none⟩ = some (kI p.1) ∧ w.cell? ⟨g, off + i * 3 + 1, none⟩ = some (kI p.2.lsn) ∧ w.cell? ⟨g, off + i * 3 + 2, none⟩ = some sv) := Lib.hid (fun w hw => hu w hw.right)
            obtain ⟨p0, _, _⟩ := HU.out _ hs
            by_cases hr : inR p.1 = true
            · rw [if_pos hr] at hsn
              have hnx : (rowsA (P.take (i + 1))).length = z + cntA p 32 := by rw [hsn, List.length_append, hz, cnt_rows]
              have hin := hr
              unfold inR at hin
              simp only [Bool.and_eq_true, decide_eq_true_eq] at hin
              obtain ⟨r0, r1⟩ := hin
              have HX : Hid (∀ (s : Nat) (xu : Bool) (xd : ByteArray), s < 32 → atM p.2 (s : Int) = (xu, xd) → ((p.1, (s : Int), xd) ∈ R ↔ xu = true)) := Lib.hid (fun s xu xd h1 h2 => by
                rw [HPM.out.2]
                have := saw_iff (p := p) HDS.out (List.mem_of_getElem? hp) hr h1
                rw [h2] at this
                exact this)
              have hfp := HFT.out.2 p (List.mem_of_getElem? hp)
              have HAT : Hid (∀ (s : Nat) W, Sat W (h ++ F0) → Calls Tryz.prog 16 #[pgV p.2.lsn sv, .int .i64 s] W (Ret (slV (atM p.2 (s : Int))) (Below W.heap.size W))) := Lib.hid (fun s W hW => at_any (s : Int) (hsv.mono (fun w hw => Sat.right (h' := h) hw)) hW (by have := hfp.1; omega) (fun x hx => by have := hfp.2.1 x hx; omega) hfp.2.2)
              have HSI := Lib.hid hs
              have HNX := Lib.hid (And.intro hnx (And.intro hz9 hi))
              have hpn : ∃ pn, p.1 = pn := ⟨_, rfl⟩
              clear hsn hz hz9 hs hc hu hsv hr hnx hfp hp hi p0 hpn HRT
              go_wp2_with fail
              go_loopw [6, 9] (fun v6 v9 wr => ∃ s y : Nat, s ≤ 32 ∧ v9 = .int .i64 s ∧ z + cntA p s = y ∧ v6 = .int .i64 y ∧ Sat wr (h ++ F0)) (fun _ v9 _ => 100 - (RowKit.intOf v9).toNat)
              case atStart => exact ⟨0, z, by omega, rfl, rfl, rfl, HSI.out⟩
              case round =>
                clear HSI
                obtain ⟨s, y, hs32, rfl, hy, rfl, hs⟩ := hrel
                have s0 : (0 : Int) ≤ (s : Int) := by omega
                obtain ⟨p0, p1, p2⟩ := HU.out _ hs
                have hy9 : y ≤ 12032 := by have := HNX.out.2.1; have := cntA_le p s; omega
                by_cases hsl : s < 32
                · have s1 : (s : Int) < 32 := by omega
                  obtain ⟨xu, xd, hX⟩ : ∃ xu xd, atM p.2 (s : Int) = (xu, xd) := ⟨_, _, rfl⟩
                  have HAS := Lib.hid (HAT.out s _ hs)
                  rw [hX] at HAS
                  have hy2 : z + cntA p (s + 1) = y + (if xu = true then 1 else 0) := by
                    have h := cntA_succ p s
                    rw [hX] at h
                    simp only at h
                    rw [h, ← Nat.add_assoc, hy]
                  have HXS := Lib.hid (HX.out s xu xd hsl hX)
                  have HSS := Lib.hid hs
                  have HY := Lib.hid (And.intro hy2 hy9)
                  have y9 : (y : Int) ≤ 12032 := by omega
                  have y0 : (0 : Int) ≤ (y : Int) := by omega
                  clear hs hX hy hy2 hy9
                  go_upto_region 27 with (go_at_call 16; refine (HAS.out).mono ?_; rintro e w4 ⟨rfl, hb⟩; have HS4 := Lib.hid (HSS.out.monoB hb); clear hb HAS HSS p0 p1 p2)
                  have HS5 := Lib.hid (HS4.out.new (.cells #[.bool xu, kS xd] 41))
                  generalize w4.alloc (.cells #[.bool xu, .string xd] 41) = W5 at *
                  generalize w4.heap.size = xb at *
                  clear HS4
                  go_wp2_with fail
                  go_loopw [11, 12] (fun v11 v12 wr => ∃ (j : Nat) (res : Bool), j ≤ N ∧ v12 = .int .i64 j ∧ v11 = .bool res ∧ (res = true ↔ (p.1, (s : Int), xd) ∈ R.take j) ∧ Sat wr (.blk xb (.cells #[.bool xu, kS xd] 41) :: (h ++ F0))) (fun _ v12 _ => 20000 - (RowKit.intOf v12).toNat)
                  case atStart => exact ⟨0, false, by omega, rfl, rfl, by simp, HS5.out⟩
                  case round =>
                    clear HS5
                    obtain ⟨j, res, hj, rfl, rfl, hres, hs⟩ := hrel
                    have j0 : (0 : Int) ≤ (j : Int) := by omega
                    have hR := HRV.out.1
                    by_cases hjN : j < N
                    · have j1 : (j : Int) < (N : Int) := by omega
                      obtain ⟨x, hx⟩ : ∃ x, R[j]? = some x := ⟨_, List.getElem?_eq_getElem (by omega)⟩
                      have htk : R.take (j + 1) = R.take j ++ [x] := by rw [List.take_add_one, hx]; rfl
                      have HSN : Hid (∀ nd, Sat (wr.drewN nd) (.blk xb (.cells #[.bool xu, kS xd] 41) :: (h ++ F0))) := Lib.hid (fun nd => hs.grown (Grown.drewN wr nd))
                      have HJ1 := Lib.hid (show j + 1 ≤ N from hjN)
                      have hj9 : (j : Int) ≤ 12000 := by have := HN12.out; omega
                      cases res with
                      | true =>
                        have HM : Hid ((true = true) ↔ (p.1, (s : Int), xd) ∈ R.take (j + 1)) := Lib.hid ⟨fun _ => by rw [htk]; exact List.mem_append_left _ (hres.1 rfl), fun _ => rfl⟩
                        clear hs htk hx hres hj hjN hR
                        go_upto_region 31 with (fail)
                        go_quiet (fail)
                        have HS7 := Lib.hid (HSN.out nq)
                        clear HSN
                        generalize wr.drewN nq = wr5 at *
                        go_wp2_with fail
                        exact ⟨⟨j + 1, true, HJ1.out, by simp, rfl, HM.out, HS7.out⟩, by simp only [RowKit.intOf]; omega⟩
                      | false =>
                        obtain ⟨g2, cc, erg⟩ := sl_some HRV.out.2 (by omega)
                        have erg1 := (Value.slice.inj erg).1
                        subst erg1
                        clear erg
                        obtain ⟨p0, _, _⟩ := HU.out _ hs.tail
                        obtain ⟨_, x0, x1, x2⟩ := rw_old HRV.out.2 hs.tail hx
                        have d1 : wr.cell? ⟨xb, 1, none⟩ = some (kS xd) := by rw [cell_of hs.h0]; rfl
                        have heq := eq_rw x.1 x.2.1 x.2.2 p.1 (s : Int) xd
                        have hgd := guard_rw x.1 x.2.1 x.2.2 p.1 (s : Int) xd
                        obtain ⟨rs, hrs⟩ : ∃ rs, decide ((x.1, x.2.1, x.2.2) = (p.1, (s : Int), xd)) = rs := ⟨_, rfl⟩
                        rw [hrs] at heq
                        have HM : Hid ((rs = true) ↔ (p.1, (s : Int), xd) ∈ R.take (j + 1)) := Lib.hid (by
                          rw [htk, List.mem_append, List.mem_singleton, ← hres, ← hrs, decide_eq_true_eq]
                          exact ⟨fun e => .inr e.symm, fun e => by rcases e with e | e; · cases e
                                                                   · exact e.symm⟩)
                        clear hs htk hx hres hj hjN hR hrs
                        go_upto_region 31 with (fail)
                        go_quiet (fail)
                        have HS7 := Lib.hid (HSN.out nq)
                        clear HSN p0 x0 x1 x2 d1 heq hgd
                        generalize wr.drewN nq = wr5 at *
                        go_wp2_with fail
                        exact ⟨⟨j + 1, rs, HJ1.out, by simp, rfl, HM.out, HS7.out⟩, by simp only [RowKit.intOf]; omega⟩
                    · obtain rfl : j = N := by omega
                      have j1 : ((j : Int) < (j : Int)) = False := eq_false (by omega)
                      have htl : R.take j = R := List.take_of_length_le (by omega)
                      rw [htl, HXS.out] at hres
                      have d0 : wr.cell? ⟨xb, 0, none⟩ = some (.bool xu) := by rw [cell_of hs.h0]; rfl
                      have HSE := Lib.hid hs.tail
                      have hru : res = xu := by cases res <;> cases xu <;> simp_all
                      subst hru
                      clear hs htl hres hj hjN hR HXS
                      cases res with
                      | true =>
                        have HY1 : Hid (z + cntA p (s + 1) = y + 1) := Lib.hid HY.out.1
                        clear HY
                        go_wp2_with fail
                        exact ⟨⟨s + 1, y + 1, by omega, by simp, HY1.out, by simp, HSE.out⟩, by simp only [RowKit.intOf]; omega⟩
                      | false =>
                        have HY1 : Hid (z + cntA p (s + 1) = y) := Lib.hid HY.out.1
                        clear HY
                        go_wp2_with fail
                        exact ⟨⟨s + 1, y, by omega, by simp, HY1.out, by simp, HSE.out⟩, by simp only [RowKit.intOf]; omega⟩
                · obtain rfl : s = 32 := by omega
                  have FIN := Lib.hid hs
                  have hnx : (rowsA (P.take (i + 1))).length = y := by rw [HNX.out.1, hy]
                  have HN2 := Lib.hid hnx
                  clear hs hy hy9 hsl hs32 hnx
                  go_wp2_with fail
                  exact ⟨⟨i + 1, y, by omega, by simp, HN2.out, by simp, FIN.out⟩, by simp only [RowKit.intOf]; omega⟩
            · rw [if_neg hr, List.append_nil] at hsn
              have HN2 : Hid ((rowsA (P.take (i + 1))).length = z) := Lib.hid (by rw [hsn, hz])
              have FIN := Lib.hid hs
              have HI2 := Lib.hid (show i + 1 ≤ P.length from hil)
              have hin : p.1 < 0 ∨ (0 ≤ p.1 ∧ 1024 ≤ p.1) := by
                by_cases h0 : 0 ≤ p.1
                · exact .inr ⟨h0, Int.not_lt.1 (fun h1 => hr (by unfold inR; simp [h0, h1]))⟩
                · exact .inl (by omega)
              clear hs hsn hz hz9 hr hc hu hsv hp hi hil HRT
              rcases hin with hin | ⟨hin, hin2⟩
              · have r0 : (0 ≤ p.1) = False := eq_false (by omega)
                clear hin
                go_wp2_with fail
                refine wp_loop_once ?_
                go_wp2_with fail
                exact ⟨⟨i + 1, z, HI2.out, by simp, HN2.out, rfl, FIN.out⟩, by simp only [RowKit.intOf]; omega⟩
              · have r0 : 0 ≤ p.1 := hin
                have r1 : (p.1 < 1024) = False := eq_false (by omega)
                clear hin hin2
                go_wp2_with fail
                refine wp_loop_once ?_
                go_wp2_with fail
                exact ⟨⟨i + 1, z, HI2.out, by simp, HN2.out, rfl, FIN.out⟩, by simp only [RowKit.intOf]; omega⟩
          · obtain rfl : i = P.length := by omega
            have b1 : ((P.length : Int) < (P.length : Int)) = False := eq_false (by omega)
            obtain rfl : z = N := by
              rw [← hz, List.take_of_length_le (Nat.le_refl _)]
              exact HPM.out.1
            have FIN := Lib.hid (HB.out _ hs.right)
            clear hs hz hi hil
            go_wp2_with fail
            go_ret
            exact ⟨rfl, FIN.out⟩
end Go.Proofs.YtficgjklagnbjaaGreat
