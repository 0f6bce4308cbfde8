/- Equal edges in a row are one: the library's Compact walked. Conditions: none. -/
import Derived.Test.YthgfbnopbfiifaaKeyC
namespace Go.Proofs.Ythgfbnopbfiifaa
open Go Go.MapKept Go.RowKit Go.Proofs Go.Sort

theorem dd_short {L : EL} (h : L.length < 2) : dd L = L := by
  match L, h with
  | [], _ => rfl
  | [x], _ => rfl
theorem CpAt.prev {g sz k j : Nat} {L : EL} {G : Heaplet} {w : World} {y : Int × Int} (h : CpAt g L sz G (k + 1) (j + 1) w) (hy : L[j]? = some y) {i : Nat} (hi : i = k) : w.cell? ⟨g, i * 2, none⟩ = some (kI y.1) ∧ w.cell? ⟨g, i * 2 + 1, none⟩ = some (kI y.2) := by
  subst hi
  obtain ⟨cur, a, b, c, s⟩ := h
  rw [cell_of s.h0, cell_of s.h0]
  refine c i y ?_
  have hl := dd_last (L.take (j + 1))
  rw [take_last hy, List.getLast?_eq_getElem?, b] at hl
  rw [List.getElem?_append_left (by omega)]
  exact hl
theorem pair_ne {x y : Int × Int} (h : x ≠ y) : ((x.1 == y.1) && (x.2 == y.2)) = false := by
  cases e : ((x.1 == y.1) && (x.2 == y.2)) with
  | false => rfl
  | true =>
    simp only [Bool.and_eq_true, beq_iff_eq] at e
    exact absurd (Prod.ext e.1 e.2) h
set_option maxRecDepth 100000 in
set_option maxHeartbeats 4000000 in
theorem compact_any {v : Value} {L : EL} {h G : Heaplet} {w : World} (hv : ESl v L h) (s : Sat w (h ++ G)) (hn : L.length ≤ 1000000) :
    Calls Try.prog 28 #[v] w fun e w' => ∃ v' h', e = .returned v' ∧ ESl v' (dd L) h' ∧ Sat w' (h' ++ G) := by
  rcases Nat.lt_or_ge L.length 2 with hl | hl
  · obtain ⟨a, cap, rfl⟩ := sl_form hv
    have hl2 : (L.length : Int) < 2 := by omega
    have FIN : Hid (ESl (.slice a L.length cap) (dd L) h ∧ Sat w (h ++ G)) := Lib.hid ⟨by rw [dd_short hl]; exact hv, s⟩
    clear hv s hl hn
    go_enter Try.func28, Try.ntmps28
    go_wp2_with fail
    go_ret
    exact ⟨_, h, rfl, FIN.out.1, FIN.out.2⟩
  · obtain ⟨g, cap, rfl⟩ := sl_some hv (by omega)
    obtain ⟨hcap, hmax, hst⟩ := CpAt.start hv s
    obtain ⟨x0, hx0⟩ : ∃ x0, L[0]? = some x0 := ⟨_, List.getElem?_eq_getElem (by omega)⟩
    have H0 := Lib.hid (hst.one hx0)
    have HC := Lib.hid (And.intro hcap (And.intro hmax hn))
    have hl2 : ((L.length : Int) < 2) = False := eq_false (by omega)
    have hl9 : (L.length : Int) ≤ 1000000 := by omega
    have hl8 : (2 : Int) ≤ (L.length : Int) := by omega
    clear hv s hn hcap hmax hst hx0
    go_enter Try.func28, Try.ntmps28
    go_wp2_with fail
    go_loopw [3] (fun v3 wr => ∃ j : Nat, j + 1 ≤ L.length ∧ v3 = .int .i64 ((j : Int) + 1) ∧ CpAt g L (cap * 2) G (j + 1) (j + 1) wr) (fun v3 _ => 2000000 - (RowKit.intOf v3).toNat)
    case atStart => exact ⟨0, by omega, rfl, H0.out⟩
    case round =>
      clear H0
      obtain ⟨j, hj, rfl, hd⟩ := hrel
      have j0 : (0 : Int) ≤ (j : Int) := by omega
      have j9 : (j : Int) + 1 ≤ (L.length : Int) := by omega
      by_cases hjl : j + 1 < L.length
      · have j1 : (j : Int) + 1 < (L.length : Int) := by omega
        obtain ⟨y, hy⟩ : ∃ y, L[j]? = some y := ⟨_, List.getElem?_eq_getElem (by omega)⟩
        obtain ⟨x, hx⟩ : ∃ x, L[j + 1]? = some x := ⟨_, List.getElem?_eq_getElem hjl⟩
        have HD : Hid (∀ n, CpAt g L (cap * 2) G (j + 1) (j + 1) (wr.drewN n)) := Lib.hid fun n => hd.grown (Grown.drewN wr n)
        obtain ⟨z0, z1⟩ := hd.prev hy rfl
        obtain ⟨u0, u1⟩ := hd.cells (Nat.le_refl _) hx
        have HY := Lib.hid (And.intro hy hx)
        clear hd hy hx
        go_upto_region 6 with (fail)
        by_cases hxy : x = y
        · go_quiet (fail)
          subst hxy
          have H1 := Lib.hid ((HD.out nq).skip HY.out.1 HY.out.2)
          have hci : (cap = j + 1) = False := eq_false (by have := HC.out; omega)
          have hci2 : j + 1 ≤ cap := by have := HC.out; omega
          clear HD HY u0 u1 z0 z1
          go_wp2_with fail
          go_loopw [3, 5] (fun v3 v5 wr => ∃ k i : Nat, k ≤ j + 1 + i ∧ j + 2 + i ≤ L.length ∧ v3 = .int .i64 k ∧ v5 = .int .i64 ((i : Int) + 1) ∧ CpAt g L (cap * 2) G k (j + 2 + i) wr) (fun _ v5 _ => 2000000 - (RowKit.intOf v5).toNat)
          case atStart => exact ⟨j + 1, 0, by omega, by omega, by simp, rfl, H1.out⟩
          case round =>
            clear H1
            obtain ⟨k, i, hk, hi, rfl, rfl, hd⟩ := hrel
            have i0 : (0 : Int) ≤ (i : Int) := by omega
            have i9 : (i : Int) + 1 ≤ 1000000 := by have := HC.out; omega
            have k0 : (0 : Int) ≤ (k : Int) := by omega
            have k9 : (k : Int) < (L.length : Int) := by omega
            have k8 : k < L.length := by omega
            by_cases hil : j + 2 + i < L.length
            · have e1 : (i : Int) + 1 < ((L.length - (j + 1) : Nat) : Int) := by omega
              have e2 : i + 1 < L.length - (j + 1) := by omega
              have e3 : i < L.length - (j + 1) := by omega
              have e4 : (i : Int) < ((L.length - (j + 1) : Nat) : Int) := by omega
              obtain ⟨y, hy⟩ : ∃ y, L[j + 1 + i]? = some y := ⟨_, List.getElem?_eq_getElem (by omega)⟩
              obtain ⟨x, hx⟩ : ∃ x, L[j + 1 + i + 1]? = some x := ⟨_, List.getElem?_eq_getElem (by omega)⟩
              have en : j + 2 + i = j + 1 + i + 1 := by omega
              rw [en] at hd
              obtain ⟨z0, z1⟩ := hd.cells (i := j + 1 + i) (by omega) hy
              obtain ⟨u0, u1⟩ := hd.cells (i := j + 1 + i + 1) (by omega) hx
              rw [show (j + 1 + i) * 2 = (j + 1) * 2 + i * 2 from by omega] at z0 z1
              rw [show (j + 1 + i + 1) * 2 = (j + 1) * 2 + (i + 1) * 2 from by omega] at u0 u1
              have HD : Hid (∀ n, CpAt g L (cap * 2) G k (j + 1 + i + 1) (wr.drewN n)) := Lib.hid fun n => hd.grown (Grown.drewN wr n)
              have HY := Lib.hid (And.intro hy hx)
              have f0 := hd.fz (k * 2)
              have f1 := hd.fz (k * 2 + 1)
              obtain ⟨y0, x0⟩ := Option.isSome_iff_exists.1 (hd.has (k * 2) (by have := HC.out; omega))
              obtain ⟨y1, x1⟩ := Option.isSome_iff_exists.1 (hd.has (k * 2 + 1) (by have := HC.out; omega))
              clear hd hy hx
              go_upto_region 11 with (fail)
              by_cases hxy : x = y
              · go_quiet (fail)
                subst hxy
                have H1 : Hid (CpAt g L (cap * 2) G k (j + 2 + (i + 1)) (wr.drewN nq)) := Lib.hid (by rw [show j + 2 + (i + 1) = j + 1 + i + 2 from by omega]; exact (HD.out nq).skip HY.out.1 HY.out.2)
                clear HD HY u0 u1 z0 z1 f0 f1 x0 x1
                go_wp2_with fail
                exact ⟨⟨k, i + 1, by omega, by omega, rfl, by simp, H1.out⟩, by simp only [RowKit.intOf]; omega⟩
              · have H1 : Hid (∀ n, CpAt g L (cap * 2) G (k + 1) (j + 2 + (i + 1)) (((wr.drewN n).setCell ⟨g, k * 2, none⟩ (kI x.1)).setCell ⟨g, k * 2 + 1, none⟩ (kI x.2))) := Lib.hid (fun n => by rw [show j + 2 + (i + 1) = j + 1 + i + 2 from by omega]; exact (HD.out n).keep HY.out.1 HY.out.2 hxy (by omega) (by have := HC.out; omega))
                by_cases h1 : x.1 = y.1
                · have h2 : x.2 ≠ y.2 := fun e => hxy (Prod.ext h1 e)
                  have b1 : (x.1 == y.1) = true := by simpa using h1
                  have b2 : (x.2 == y.2) = false := by simpa using h2
                  clear hxy h1 h2 HD HY
                  go_quiet (fail)
                  go_wp2_with fail
                  exact ⟨⟨k + 1, i + 1, by omega, by omega, by simp, by simp, H1.out _⟩, by simp only [RowKit.intOf]; omega⟩
                · have b1 : (x.1 == y.1) = false := by simpa using h1
                  clear hxy h1 HD HY
                  go_quiet (fail)
                  go_wp2_with fail
                  exact ⟨⟨k + 1, i + 1, by omega, by omega, by simp, by simp, H1.out _⟩, by simp only [RowKit.intOf]; omega⟩
            · have hLi : j + 2 + i = L.length := by omega
              rw [hLi] at hd
              obtain ⟨w', h', hcl, hq', hs'⟩ := hd.fin (cap := cap) k8 HC.out.1 HC.out.2.1 rfl
              have FIN := Lib.hid (And.intro hq' hs')
              have e1 : ((i : Int) + 1 < ((L.length - (j + 1) : Nat) : Int)) = False := eq_false (by omega)
              have hci : (cap = k) = False := eq_false (by have := HC.out; omega)
              have ic : (k : Int) ≤ (cap : Int) := by have := HC.out; omega
              have ic2 : k ≤ cap := by have := HC.out; omega
              have ic3 : k ≤ L.length := by omega
              clear hd hq' hs' hi hil hLi
              go_wp2_with fail
              go_ret
              exact ⟨_, h', rfl, FIN.out.1, FIN.out.2⟩
        · have H1 : Hid (∀ n, CpAt g L (cap * 2) G (j + 1 + 1) (j + 1 + 1) (wr.drewN n)) := Lib.hid (fun n => (HD.out n).next HY.out.1 HY.out.2 hxy)
          by_cases h1 : x.1 = y.1
          · have h2 : x.2 ≠ y.2 := fun e => hxy (Prod.ext h1 e)
            have b1 : (x.1 == y.1) = true := by simpa using h1
            have b2 : (x.2 == y.2) = false := by simpa using h2
            clear hxy h1 h2 HD HY
            go_quiet (fail)
            go_wp2_with fail
            exact ⟨⟨j + 1, by omega, by simp, H1.out _⟩, by simp only [RowKit.intOf]; omega⟩
          · have b1 : (x.1 == y.1) = false := by simpa using h1
            clear hxy h1 HD HY
            go_quiet (fail)
            go_wp2_with fail
            exact ⟨⟨j + 1, by omega, by simp, H1.out _⟩, by simp only [RowKit.intOf]; omega⟩
      · have hLj : j + 1 = L.length := by omega
        rw [hLj] at hd
        obtain ⟨h', hv', hs'⟩ := hd.all HC.out.1 HC.out.2.1 rfl
        have FIN := Lib.hid (And.intro hv' hs')
        have e1 : ((j : Int) + 1 < (L.length : Int)) = False := eq_false (by omega)
        clear hd hv' hs' hj hjl hLj
        go_wp2_with fail
        go_ret
        exact ⟨_, h', rfl, FIN.out.1, FIN.out.2⟩
end Go.Proofs.Ythgfbnopbfiifaa
