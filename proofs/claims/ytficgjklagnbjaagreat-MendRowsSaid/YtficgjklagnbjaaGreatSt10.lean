/- Whether pages are more than is asked: great walked at no entries. Conditions: none. -/
import Derived.Test.YtficgjklagnbjaaGreatSt9
namespace Go.Proofs.YtficgjklagnbjaaGreat
open Go Go.MapKept Go.RowKit Go.Proofs Go.Shelf Go.Sort St

attribute [local go_sem] Oper.semAt_some

def bigS (s : Sl) : Bool := decide (1024 < (s.2.size : Int))
def bigP (p : Lf) : Bool := decide (50 < (p.2.slots.length : Int)) || p.2.slots.any bigS
def greatP (P : List Lf) : Bool := decide (12 < P.length) || P.any bigP
set_option maxRecDepth 100000 in
set_option maxHeartbeats 4000000 in
theorem greatP_any (v : Value) (P : List Lf) (F : Heaplet) (w : World) (hs : Sat w F) (hv : LvAt F v P) : Calls Tryz.prog 22 #[.slice none 0 0, v] w (Ret (.bool (greatP P)) (Same w)) := by
  obtain ⟨a, cap, rfl, hc⟩ := hv
  have HC := Lib.hid hc
  have HS := Lib.hid hs
  clear hc hs
  unfold greatP
  by_cases h12 : P.length ≤ 12
  · have hd : decide (12 < P.length) = false := by simpa using h12
    have h12i : (P.length : Int) ≤ 12 := by omega
    rw [hd, Bool.false_or]
    clear hd
    go_enter Tryz.func22, Tryz.ntmps22
    go_upto_block 0 with (fail)
    go_cut [5] (fun v5 wx => v5 = kI 0 ∧ w = wx)
    case first =>
      go_wp2_with fail
      refine wp_loop_once ?_
      go_wp2_with fail
      go_meet
      exact ⟨rfl, rfl⟩
    case rest =>
      obtain ⟨rfl, rfl⟩ := hcut
      go_wp2_with fail
      go_loopw [6] (fun v6 wx => ∃ r : Nat, r ≤ P.length ∧ v6 = .int .i64 r ∧ (P.take r).any bigP = false ∧ w = wx) (fun v6 _ => 1000 - (RowKit.intOf v6).toNat)
      case atStart => exact ⟨0, by omega, rfl, by simp, rfl⟩
      case round =>
        obtain ⟨r, hr, rfl, hb, rfl⟩ := hrel
        have r0 : (0 : Int) ≤ (r : Int) := by omega
        by_cases hlr : r < P.length
        · have r1 : (r : Int) < (P.length : Int) := by omega
          obtain ⟨p, hp⟩ : ∃ p, P[r]? = some p := ⟨_, List.getElem?_eq_getElem hlr⟩
          obtain ⟨g, off, sv, rfl, hsv, hu⟩ := HC.out r p hp
          obtain ⟨_, _, e2⟩ := hu w HS.out
          have htk : P.take (r + 1) = P.take r ++ [p] := by rw [List.take_add_one, hp]; rfl
          have hst : (P.take (r + 1)).any bigP = bigP p := by rw [htk, List.any_append, hb, Bool.false_or]; simp
          have hin : bigP p = true → P.any bigP = true := fun h => List.any_eq_true.2 ⟨p, List.mem_of_getElem? hp, h⟩
          have HF := Lib.hid (And.intro hst hin)
          have hbp : bigP p = (decide (50 < (p.2.slots.length : Int)) || p.2.slots.any bigS) := rfl
          have HBP := Lib.hid hbp
          obtain ⟨n, q⟩ := p
          simp only at hsv e2
          obtain ⟨sa, sc, rfl, hsc⟩ := hsv
          have HSC := Lib.hid hsc
          clear hst hin hbp htk hp hb hu hsc HC
          by_cases h1 : (50 : Int) < (q.slots.length : Int)
          · clear HSC
            go_wp2_with fail
            go_ret
            exact ⟨by rw [HF.out.2 (by rw [HBP.out]; simp [h1])]; rfl, rfl⟩
          · have h50 : (q.slots.length : Int) ≤ 50 := by omega
            go_wp2_with fail
            go_loopw [7] (fun v7 wx => ∃ k : Nat, k ≤ q.slots.length ∧ v7 = .int .i64 k ∧ (q.slots.take k).any bigS = false ∧ w = wx) (fun v7 _ => 1000 - (RowKit.intOf v7).toNat)
            case atStart => exact ⟨0, by omega, rfl, by simp, rfl⟩
            case round =>
              obtain ⟨k, hk, rfl, hkb, rfl⟩ := hrel
              have k0 : (0 : Int) ≤ (k : Int) := by omega
              by_cases hlk : k < q.slots.length
              · have k1 : (k : Int) < (q.slots.length : Int) := by omega
                obtain ⟨s, hs⟩ : ∃ s, q.slots[k]? = some s := ⟨_, List.getElem?_eq_getElem hlk⟩
                obtain ⟨g2, off2, rfl, hw2⟩ := HSC.out k s hs
                obtain ⟨_, d1⟩ := hw2 w HS.out
                have htk2 : q.slots.take (k + 1) = q.slots.take k ++ [s] := by rw [List.take_add_one, hs]; rfl
                have hst2 : (q.slots.take (k + 1)).any bigS = bigS s := by rw [htk2, List.any_append, hkb, Bool.false_or]; simp
                have hin2 : bigS s = true → q.slots.any bigS = true := fun h => List.any_eq_true.2 ⟨s, List.mem_of_getElem? hs, h⟩
                have HF2 := Lib.hid (And.intro hst2 hin2)
                have hbs : bigS s = decide (1024 < (s.2.size : Int)) := rfl
                have HBS := Lib.hid hbs
                clear hst2 hin2 hbs htk2 hs hkb hw2
                by_cases h2 : (1024 : Int) < (s.2.size : Int)
                · go_wp2_with fail
                  go_ret
                  exact ⟨by rw [HF.out.2 (by rw [HBP.out, HF2.out.2 (by rw [HBS.out]; simp [h2])]; simp)]; rfl, rfl⟩
                · go_wp2_with fail
                  exact ⟨⟨k + 1, by omega, by simp, by rw [HF2.out.1, HBS.out]; simp [h2], trivial⟩, by simp only [RowKit.intOf]; omega⟩
              · obtain rfl : k = q.slots.length := by omega
                rw [List.take_length] at hkb
                have HKB := Lib.hid hkb
                have k1 : ((q.slots.length : Int) < (q.slots.length : Int)) = False := eq_false (by omega)
                clear hkb hk hlk
                go_wp2_with fail
                exact ⟨⟨r + 1, by omega, by simp, by rw [HF.out.1, HBP.out, HKB.out]; simp [h1], trivial⟩, by simp only [RowKit.intOf]; omega⟩
        · obtain rfl : r = P.length := by omega
          rw [List.take_length] at hb
          have HB := Lib.hid hb
          have r1 : ((P.length : Int) < (P.length : Int)) = False := eq_false (by omega)
          clear hb hr hlr HC
          go_wp2_with fail
          go_ret
          exact ⟨by rw [HB.out]; rfl, rfl⟩
  · have h1 : (12 : Int) < (P.length : Int) := by omega
    have hd : decide (12 < P.length) = true := by simp; omega
    rw [hd, Bool.true_or]
    clear hd HC HS h12
    go_enter Tryz.func22, Tryz.ntmps22
    go_wp2_with fail
    go_ret
    exact ⟨rfl, rfl⟩
end Go.Proofs.YtficgjklagnbjaaGreat
