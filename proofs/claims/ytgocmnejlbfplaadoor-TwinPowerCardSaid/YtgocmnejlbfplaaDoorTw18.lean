/- Whether calls are more than is asked: great walked. Conditions: none. -/
import Derived.Test.YtgocmnejlbfplaaDoorTw17
namespace Go.Proofs.YtgocmnejlbfplaaDoor
open Go Go.MapKept Go.RowKit Go.Proofs

attribute [local go_sem] Oper.semAt_some

def bigS (s : Sl) : Bool := decide (1000 < (s.2.size : Int))
def bigP (p : Lf) : Bool := decide (50 < (p.2.slots.length : Int)) || p.2.slots.any bigS
/-- An act's list, and how many fates. -/
abbrev Ag := List Lf × Nat
def bigA (x : Ag) : Bool := (decide (20 < (x.1.length : Int)) || decide (1000 < (x.2 : Int))) || x.1.any bigP
def greatM (A : List Ag) : Bool := (A.take 40).any bigA
/-- Where F holds, the acts lie there. -/
def AgAt (F : Heaplet) (v : Value) (A : List Ag) : Prop := ∃ a cap, v = .slice a A.length cap ∧ ∀ (i : Nat) x, A[i]? = some x → ∃ g off la lc fa fc, a = some ⟨g, off, none⟩ ∧ LvAt F (.slice la x.1.length lc) x.1 ∧ ∀ w, Sat w F → w.cell? ⟨g, off + i * 5 + 3, none⟩ = some (.slice la x.1.length lc) ∧ w.cell? ⟨g, off + i * 5 + 4, none⟩ = some (.slice fa x.2 fc)
set_option maxRecDepth 100000 in
set_option maxHeartbeats 4000000 in
theorem great_any (v : Value) (A : List Ag) (F : Heaplet) (w : World) (hs : Sat w F) (hv : AgAt F v A) (hl : A.length ≤ 9223372036854775807) : Calls Tryd.prog 6 #[v] w (Ret (.bool (greatM A)) (Same w)) := by
  obtain ⟨a, cap, rfl, hc⟩ := hv
  have HC := Lib.hid hc
  have HS := Lib.hid hs
  obtain ⟨res, hres⟩ : ∃ res, greatM A = res := ⟨_, rfl⟩
  rw [hres]
  have HRES := Lib.hid hres
  have hl9 : (A.length : Int) ≤ 9223372036854775807 := by omega
  clear hc hs hres hl
  go_enter Tryd.func6, Tryd.ntmps6
  go_wp2_with fail
  go_loopw [3] (fun v3 wx => ∃ r : Nat, r ≤ A.length ∧ r ≤ 40 ∧ v3 = .int .i64 r ∧ (A.take r).any bigA = false ∧ w = wx) (fun v3 _ => 1000 - (RowKit.intOf v3).toNat)
  case atStart => exact ⟨0, by omega, by omega, rfl, by simp, rfl⟩
  case round =>
    obtain ⟨r, hr, hr40, rfl, hb, rfl⟩ := hrel
    have r0 : (0 : Int) ≤ (r : Int) := by omega
    by_cases hlr : r < A.length ∧ r < 40
    · have r1 : (r : Int) < (A.length : Int) := by omega
      have r2 : (r : Int) < 40 := by omega
      obtain ⟨x, hx⟩ : ∃ x, A[r]? = some x := ⟨_, List.getElem?_eq_getElem hlr.1⟩
      obtain ⟨g, off, la, lc, fa, fc, rfl, hlv, hu⟩ := HC.out r x hx
      obtain ⟨e3, e4⟩ := hu w HS.out
      have htk : A.take (r + 1) = A.take r ++ [x] := by rw [List.take_add_one, hx]; rfl
      have hst : (A.take (r + 1)).any bigA = bigA x := by rw [htk, List.any_append, hb, Bool.false_or]; simp
      have hin : bigA x = true → res = true := fun h => by
        rw [← HRES.out]
        unfold greatM
        refine List.any_eq_true.2 ⟨x, ?_, h⟩
        rw [List.mem_iff_getElem?]
        exact ⟨r, by rw [List.getElem?_take_of_lt hlr.2]; exact hx⟩
      have HF := Lib.hid (And.intro hst (And.intro hin hlr))
      have hba : bigA x = ((decide (20 < (x.1.length : Int)) || decide (1000 < (x.2 : Int))) || x.1.any bigP) := rfl
      have HBA := Lib.hid hba
      obtain ⟨P, fl⟩ := x
      simp only at hlv e3 e4
      obtain ⟨a', c', e', hcc⟩ := hlv
      simp only [Value.slice.injEq] at e'
      obtain ⟨rfl, _, rfl⟩ := e'
      have HP := Lib.hid hcc
      clear hst hin hba htk hx hb hu hcc hlr hr hr40
      by_cases h1 : (20 : Int) < (P.length : Int)
      · obtain rfl : res = true := HF.out.2.1 (by rw [HBA.out]; simp; omega)
        go_wp2_with fail
        go_ret
        exact ⟨rfl, rfl⟩
      · have h1' : ((20 : Int) < (P.length : Int)) = False := eq_false h1
        have h20 : (P.length : Int) ≤ 20 := by omega
        by_cases h2 : (1000 : Int) < (fl : Int)
        · obtain rfl : res = true := HF.out.2.1 (by rw [HBA.out]; simp; omega)
          go_wp2_with fail
          go_ret
          exact ⟨rfl, rfl⟩
        · have h2' : ((1000 : Int) < (fl : Int)) = False := eq_false h2
          have hda : bigA (P, fl) = P.any bigP := by rw [HBA.out]; simp only [decide_eq_false h1, decide_eq_false h2, Bool.false_or, Bool.or_self]
          have HDA := Lib.hid hda
          clear h1 h2 hda
          go_wp2_with fail
          go_loopw [4] (fun v4 wx => ∃ t : Nat, t ≤ P.length ∧ v4 = .int .i64 t ∧ (P.take t).any bigP = false ∧ w = wx) (fun v4 _ => 1000 - (RowKit.intOf v4).toNat)
          case atStart => exact ⟨0, by omega, rfl, by simp, rfl⟩
          case round =>
            obtain ⟨t, ht, rfl, hpb, rfl⟩ := hrel
            have t0 : (0 : Int) ≤ (t : Int) := by omega
            by_cases hlt : t < P.length
            · have t1 : (t : Int) < (P.length : Int) := by omega
              obtain ⟨p, hp⟩ : ∃ p, P[t]? = some p := ⟨_, List.getElem?_eq_getElem hlt⟩
              obtain ⟨g1, off1, sv, rfl, hsv, hu⟩ := HP.out t p hp
              obtain ⟨_, _, u2⟩ := hu w HS.out
              have htk : P.take (t + 1) = P.take t ++ [p] := by rw [List.take_add_one, hp]; rfl
              have hst : (P.take (t + 1)).any bigP = bigP p := by rw [htk, List.any_append, hpb, Bool.false_or]; simp
              have hin : bigP p = true → res = true := fun h => HF.out.2.1 (by rw [HDA.out]; exact List.any_eq_true.2 ⟨p, List.mem_of_getElem? hp, h⟩)
              have HF2 := Lib.hid (And.intro hst hin)
              have hbp : bigP p = (decide (50 < (p.2.slots.length : Int)) || p.2.slots.any bigS) := rfl
              have HBP := Lib.hid hbp
              obtain ⟨n, q⟩ := p
              simp only at hsv u2
              obtain ⟨sa, sc, rfl, hsc⟩ := hsv
              have HSC := Lib.hid hsc
              clear hst hin hbp htk hp hpb hu hsc ht
              by_cases h1 : (50 : Int) < (q.slots.length : Int)
              · obtain rfl : res = true := HF2.out.2 (by rw [HBP.out]; simp; omega)
                go_wp2_with fail
                go_ret
                exact ⟨rfl, rfl⟩
              · have h1'' : ((50 : Int) < (q.slots.length : Int)) = False := eq_false h1
                have h50 : (q.slots.length : Int) ≤ 50 := by omega
                have hdp : bigP (n, q) = q.slots.any bigS := by rw [HBP.out]; simp only [decide_eq_false h1, Bool.false_or]
                have HDP := Lib.hid hdp
                clear h1 hdp
                go_wp2_with fail
                go_loopw [5] (fun v5 wx => ∃ k : Nat, k ≤ q.slots.length ∧ v5 = .int .i64 k ∧ (q.slots.take k).any bigS = false ∧ w = wx) (fun v5 _ => 1000 - (RowKit.intOf v5).toNat)
                case atStart => exact ⟨0, by omega, rfl, by simp, rfl⟩
                case round =>
                  obtain ⟨k, hk, rfl, hkb, rfl⟩ := hrel
                  have k0 : (0 : Int) ≤ (k : Int) := by omega
                  by_cases hlk : k < q.slots.length
                  · have k1 : (k : Int) < (q.slots.length : Int) := by omega
                    obtain ⟨s, hs⟩ : ∃ s, q.slots[k]? = some s := ⟨_, List.getElem?_eq_getElem hlk⟩
                    obtain ⟨g2, off2, rfl, hw2⟩ := HSC.out k s hs
                    obtain ⟨_, d1⟩ := hw2 w HS.out
                    have htk2 : q.slots.take (k + 1) = q.slots.take k ++ [s] := by rw [List.take_add_one, hs]; rfl
                    have hst2 : (q.slots.take (k + 1)).any bigS = bigS s := by rw [htk2, List.any_append, hkb, Bool.false_or]; simp
                    have hin2 : bigS s = true → res = true := fun h => HF2.out.2 (by rw [HDP.out]; exact List.any_eq_true.2 ⟨s, List.mem_of_getElem? hs, h⟩)
                    have HF3 := Lib.hid (And.intro hst2 hin2)
                    have hbs : bigS s = decide (1000 < (s.2.size : Int)) := rfl
                    have HBS := Lib.hid hbs
                    have HK := Lib.hid hlk
                    clear hst2 hin2 hbs htk2 hs hkb hw2 hk hlk
                    by_cases h2 : (1000 : Int) < (s.2.size : Int)
                    · obtain rfl : res = true := HF3.out.2 (by rw [HBS.out]; simp [h2])
                      go_wp2_with fail
                      go_ret
                      exact ⟨rfl, rfl⟩
                    · have h2'' : ((1000 : Int) < (s.2.size : Int)) = False := eq_false h2
                      go_wp2_with fail
                      exact ⟨⟨k + 1, by have := HK.out; omega, by simp, by rw [HF3.out.1, HBS.out]; simp [h2], trivial⟩, by simp only [RowKit.intOf]; omega⟩
                  · obtain rfl : k = q.slots.length := by omega
                    rw [List.take_length] at hkb
                    have HKB := Lib.hid hkb
                    have k1 : ((q.slots.length : Int) < (q.slots.length : Int)) = False := eq_false (by omega)
                    clear hkb hk hlk
                    go_wp2_with fail
                    exact ⟨⟨t + 1, by omega, by simp, by rw [HF2.out.1, HDP.out, HKB.out], trivial⟩, by simp only [RowKit.intOf]; omega⟩
            · obtain rfl : t = P.length := by omega
              rw [List.take_length] at hpb
              have HPB := Lib.hid hpb
              have t1 : ((P.length : Int) < (P.length : Int)) = False := eq_false (by omega)
              clear hpb ht hlt
              go_wp2_with fail
              exact ⟨⟨r + 1, by have := HF.out.2.2; omega, by have := HF.out.2.2; omega, by simp, by rw [HF.out.1, HDA.out, HPB.out], trivial⟩, by simp only [RowKit.intOf]; have := HF.out.2.2; omega⟩
    · have hres : res = false := by
        rw [← HRES.out]
        unfold greatM
        by_cases h : r < 40
        · have : r = A.length := by omega
          rw [List.take_of_length_le (by omega)]
          rw [this, List.take_length] at hb
          exact hb
        · have : r = 40 := by omega
          rw [← this]; exact hb
      subst hres
      have hcs : (r : Int) < (A.length : Int) ∧ ((r : Int) < 40) = False ∨ ((r : Int) < (A.length : Int)) = False := by
        by_cases h : r < A.length
        · exact .inl ⟨by omega, eq_false (by omega)⟩
        · exact .inr (eq_false (by omega))
      clear hb hr hr40 hlr HC
      rcases hcs with ⟨h1, h2⟩ | h1
      · go_wp2_with fail
        go_ret
        exact ⟨rfl, rfl⟩
      · go_wp2_with fail
        go_ret
        exact ⟨rfl, rfl⟩
end Go.Proofs.YtgocmnejlbfplaaDoor
