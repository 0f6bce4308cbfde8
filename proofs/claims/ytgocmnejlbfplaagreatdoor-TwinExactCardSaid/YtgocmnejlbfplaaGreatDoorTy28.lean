/- Texts put together: Tw17, Tw18. Conditions: none. -/
import Derived.Test.YtgocmnejlbfplaaGreatDoorTy26
namespace Go.Proofs.YtgocmnejlbfplaaGreatDoor
open Go Go.MapKept Go.RowKit Go.Proofs

attribute [local go_sem] Oper.semAt_some

def imgP (lsn : Int) (d : ByteArray) : Pg := ⟨lsn, [(true, d)]⟩
theorem slAt_one (x : Nat) (d : ByteArray) (F : Heaplet) : SlAt (.blk x (.cells #[.bool true, kS d] 59) :: F) (.slice (some ⟨x, 0, none⟩) 1 1) [(true, d)] := by
  refine ⟨some ⟨x, 0, none⟩, 1, rfl, fun i s hs => ?_⟩
  match i, hs with
  | 0, hs =>
    cases hs
    refine ⟨x, 0, rfl, fun w hw => ⟨?_, ?_⟩⟩
    · show w.cell? ⟨x, 0, none⟩ = _
      rw [cell_of hw.h0]; rfl
    · show w.cell? ⟨x, 1, none⟩ = _
      rw [cell_of hw.h0]; rfl
theorem image_any (lsn : Int) (d : ByteArray) (F : Heaplet) (w : World) (hs : Sat w F) : Calls Tryz.prog 26 #[.int .i64 lsn, .string d] w (fun e w' => ∃ x, e = .returned (pgV lsn (.slice (some ⟨x, 0, none⟩) 1 1)) ∧ Sat w' (.blk x (.cells #[.bool true, kS d] 59) :: F)) := by
  have h2 := (hs.new (.cells #[kI lsn, .slice (some ⟨w.heap.size + 1, 0, none⟩) 1 1] 48)).new (.cells #[.bool true, kS d] 59)
  rw [World.size_alloc] at h2
  have R := Lib.hid (two_at h2.swap)
  have HS := Lib.hid (show Sat _ (.blk (w.heap.size + 1) (.cells #[.bool true, kS d] 59) :: F) from h2.swap.tail)
  clear hs h2
  go_enter Tryz.func26, Tryz.ntmps26
  go_wp2_with fail
  refine bodyPost_ret (v := pgV lsn (.slice (some ⟨w.heap.size + 1, 0, none⟩) 1 1)) ?_ rfl ⟨_, rfl, HS.out⟩
  have r0 := R.out.1
  have r1 := R.out.2.1
  simp [results, Tryz.results26, go_sem, r0, r1]
theorem ne_sl (a b : Sl) (w : World) : (binOp .neq 59 (slV a) (slV b)).run Tryz.prog w = .ok (.bool (decide (a ≠ b))) w := by
  obtain ⟨a1, a2⟩ := a
  obtain ⟨b1, b2⟩ := b
  have h := ba_cmp a2 b2
  have hi : a2.toList = b2.toList ↔ a2 = b2 := ⟨fun h => by rw [ByteArray.toList_eq, ByteArray.toList_eq] at h; exact ba_ext h, fun h => by rw [h]⟩
  have e : decide ((a1, a2) ≠ (b1, b2)) = !((a1 == b1) && decide (a2 = b2)) := by
    by_cases h1 : a1 = b1 <;> by_cases h2 : a2 = b2 <;> simp [h1, h2]
  rw [e, ← h]
  simp [go_sem]
  repeat' split
  all_goals
    simp_all
set_option maxRecDepth 100000 in
theorem guard_sl (a b : Sl) (w : World) (x y : Operand) : (eqGuard .neq 59 x y (slV a) (slV b)).run Tryz.prog w = .ok () w := by
  obtain ⟨a1, a2⟩ := a
  obtain ⟨b1, b2⟩ := b
  simp [go_sem, eqGuard]
theorem pg_ext {p q : Pg} (h1 : p.lsn = q.lsn) (h2 : p.slots = q.slots) : p = q := by cases p; cases q; simp_all
set_option maxRecDepth 100000 in
set_option maxHeartbeats 4000000 in
theorem same_any {va vb : Value} {p q : Pg} {F : Heaplet} {w : World} (ha : SlAt F va p.slots) (hb : SlAt F vb q.slots) (s : Sat w F) (hl : p.slots.length ≤ 1000) (hl2 : q.slots.length ≤ 1000) (res : Bool) (hres : res = true ↔ p = q) :
    Calls Tryz.prog 25 #[pgV p.lsn va, pgV q.lsn vb] w (Ret (.bool res) (Below w.heap.size w)) := by
  obtain ⟨a, cap, rfl, hca⟩ := ha
  obtain ⟨b, cap2, rfl, hcb⟩ := hb
  have h2 := ((sat_all w).new (.cells #[kI p.lsn, .slice a p.slots.length cap] 48)).new (.cells #[kI q.lsn, .slice b q.slots.length cap2] 48)
  rw [World.size_alloc] at h2
  have HOLD : Hid (∀ W, Sat W (allOf w) → Sat W F) := Lib.hid (fun W hW => s.monoB hW.below)
  have HB : Hid (∀ W, Sat W (allOf w) → Below w.heap.size w W) := Lib.hid (fun W hW => hW.below)
  obtain ⟨AW, hAW⟩ : ∃ AW, allOf w = AW := ⟨_, rfl⟩
  rw [hAW] at HOLD HB h2
  obtain ⟨PB, hPB⟩ : ∃ PB : World → Prop, Below w.heap.size w = PB := ⟨_, rfl⟩
  rw [hPB] at HB ⊢
  have HA := Lib.hid hca
  have HBB := Lib.hid hcb
  have HRES := Lib.hid hres
  have HS := Lib.hid h2
  have c0 := (two_at h2.swap).1
  have c1 := (two_at h2.swap).2.1
  have d0 := (two_at h2).1
  have d1 := (two_at h2).2.1
  obtain ⟨lp, Lp⟩ := p
  obtain ⟨lq, Lq⟩ := q
  simp only at *
  have l9 : (Lp.length : Int) ≤ 1000 := by omega
  have l8 : (Lq.length : Int) ≤ 1000 := by omega
  clear hca hcb h2 hAW hPB hres s hl hl2
  by_cases h1 : lp = lq
  · subst h1
    have e1 : (lp == lp) = true := by simp
    by_cases h2 : Lp.length = Lq.length
    · have e2 : ((Lp.length : Int) == (Lq.length : Int)) = true := by rw [beq_iff_eq]; omega
      have e3 : ((Lp.length : Int) != (Lq.length : Int)) = false := by rw [bne, e2]; rfl
      have HLN := Lib.hid h2
      have H0 : Hid (∀ j, j < 0 → Lp[j]? = Lq[j]?) := Lib.hid (fun j h => absurd h (by omega))
      clear h2
      go_enter Tryz.func25, Tryz.ntmps25
      go_upto_block 0 with (fail)
      generalize (w.alloc (.cells #[.int .i64 lp, .slice a Lp.length cap] 48)).alloc (.cells #[.int .i64 lp, .slice b Lq.length cap2] 48) = W2 at *
      obtain ⟨bb, hbb⟩ : ∃ bb, w.heap.size + 1 = bb := ⟨_, rfl⟩
      rw [hbb] at HS d0 d1
      generalize w.heap.size = ba at *
      clear c0 c1 d0 d1 e1 e2 e3
      go_wp2_with fail
      go_loopw [5] (fun v5 wr => ∃ i : Nat, i ≤ Lp.length ∧ v5 = .int .i64 i ∧ (∀ j, j < i → Lp[j]? = Lq[j]?) ∧ Sat wr (.blk bb (.cells #[kI lp, .slice b Lq.length cap2] 48) :: .blk ba (.cells #[kI lp, .slice a Lp.length cap] 48) :: AW)) (fun v5 _ => 2000 - (RowKit.intOf v5).toNat)
      case atStart => exact ⟨0, by omega, rfl, H0.out, HS.out⟩
      case round =>
        clear HS H0
        obtain ⟨i, hi, rfl, he, hs⟩ := hrel
        have i0 : (0 : Int) ≤ (i : Int) := by omega
        have d1 := (two_at hs).2.1
        have c1 := (two_at hs.swap).2.1
        by_cases hil : i < Lp.length
        · have i1 : (i : Int) < (Lp.length : Int) := by omega
          have i2 : (i : Int) < (Lq.length : Int) := by have := HLN.out; omega
          obtain ⟨x, hx⟩ : ∃ x, Lp[i]? = some x := ⟨_, List.getElem?_eq_getElem hil⟩
          obtain ⟨y, hy⟩ : ∃ y, Lq[i]? = some y := ⟨_, List.getElem?_eq_getElem (by have := HLN.out; omega)⟩
          obtain ⟨g, off, rfl, hu⟩ := HA.out i x hx
          obtain ⟨g2, off2, rfl, hu2⟩ := HBB.out i y hy
          obtain ⟨x0, x1⟩ := hu wr (HOLD.out _ hs.tail.tail)
          obtain ⟨y0, y1⟩ := hu2 wr (HOLD.out _ hs.tail.tail)
          have hne := ne_sl x y
          have hgu := guard_sl x y
          have HSN : Hid (∀ k, Sat (wr.drewN k) (.blk bb (.cells #[kI lp, .slice (some ⟨g2, off2, none⟩) Lq.length cap2] 48) :: .blk ba (.cells #[kI lp, .slice (some ⟨g, off, none⟩) Lp.length cap] 48) :: AW)) := Lib.hid (fun k => hs.grown (Grown.drewN wr k))
          have HE := Lib.hid (And.intro he (And.intro hx (And.intro hy hil)))
          obtain ⟨db, hdb⟩ : ∃ db, decide (x ≠ y) = db := ⟨_, rfl⟩
          rw [hdb] at hne
          have HDB := Lib.hid hdb
          clear hs he hx hy hu hu2 hi hil hdb
          go_upto_region 6 with (fail)
          go_quiet (fail)
          clear x0 x1 y0 y1 hne hgu c1 d1
          cases db with
          | true =>
            obtain rfl : res = false := by
              cases res with
              | false => rfl
              | true =>
                have h1 := congrArg (fun p : Pg => p.slots[i]?) (HRES.out.1 rfl)
                simp only at h1
                rw [HE.out.2.1, HE.out.2.2.1] at h1
                exact absurd (Option.some.inj h1) (of_decide_eq_true HDB.out)
            have FIN := Lib.hid (HB.out _ (HSN.out nq).tail.tail)
            clear HSN
            go_wp2_with fail
            go_ret
            exact ⟨rfl, FIN.out⟩
          | false =>
            have HNX : Hid (∀ j, j < i + 1 → Lp[j]? = Lq[j]?) := Lib.hid (fun j hj => by
              by_cases h : j = i
              · subst h
                have := of_decide_eq_false HDB.out
                rw [HE.out.2.1, HE.out.2.2.1]
                simp only [ne_eq, Decidable.not_not] at this
                rw [this]
              · exact HE.out.1 j (by omega))
            go_wp2_with fail
            exact ⟨⟨i + 1, by have := HE.out.2.2.2; omega, by simp, HNX.out, HSN.out _⟩, by simp only [RowKit.intOf]; have := HE.out.2.2.2; omega⟩
        · obtain rfl : i = Lp.length := by omega
          have i1 : ((Lp.length : Int) < (Lp.length : Int)) = False := eq_false (by omega)
          obtain rfl : res = true := HRES.out.2 (by
            congr 1
            apply List.ext_getElem?
            intro j
            by_cases hj : j < Lp.length
            · exact he j hj
            · rw [List.getElem?_eq_none (by omega), List.getElem?_eq_none (by have := HLN.out; omega)])
          have FIN := Lib.hid (HB.out _ hs.tail.tail)
          clear hs he hi hil
          go_wp2_with fail
          go_ret
          exact ⟨rfl, FIN.out⟩
    · have e2 : ((Lp.length : Int) == (Lq.length : Int)) = false := by rw [beq_eq_false_iff_ne]; omega
      have e3 : ((Lp.length : Int) != (Lq.length : Int)) = true := by rw [bne, e2]; rfl
      have e4 : (Lp.length = Lq.length) = False := eq_false h2
      obtain rfl : res = false := by
        cases res with
        | false => rfl
        | true => exact absurd (congrArg (fun p : Pg => p.slots.length) (HRES.out.1 rfl)) h2
      have FIN := Lib.hid (HB.out _ HS.out.tail.tail)
      clear HS
      go_enter Tryz.func25, Tryz.ntmps25
      go_wp2_with fail
      go_ret
      exact ⟨rfl, FIN.out⟩
  · have e1 : (lp == lq) = false := by rw [beq_eq_false_iff_ne]; exact h1
    have e3 : (lp != lq) = true := by rw [bne, e1]; rfl
    obtain rfl : res = false := by
      cases res with
      | false => rfl
      | true => exact absurd (congrArg (fun p : Pg => p.lsn) (HRES.out.1 rfl)) h1
    have FIN := Lib.hid (HB.out _ HS.out.tail.tail)
    clear HS
    go_enter Tryz.func25, Tryz.ntmps25
    go_wp2_with fail
    go_ret
    exact ⟨rfl, FIN.out⟩
end Go.Proofs.YtgocmnejlbfplaaGreatDoor
namespace Go.Proofs.YtgocmnejlbfplaaGreatDoor
open Go Go.MapKept Go.RowKit Go.Proofs

attribute [local go_sem] Oper.semAt_some

def bigS (s : Sl) : Bool := decide (1000 < (s.2.size : Int))
def bigP (p : Lf) : Bool := decide (50 < (p.2.slots.length : Int)) || p.2.slots.any bigS
/-- An act's list, and how many fates. -/
abbrev Ag := List Lf × Nat
def bigA (x : Ag) : Bool := (decide (20 < (x.1.length : Int)) || decide (1000 < (x.2 : Int))) || x.1.any bigP
def greatM (A : List Ag) : Bool := (A.take 40).any bigA
/-- Where F holds, the acts lie there. -/
def AgAt (F : Heaplet) (v : Value) (A : List Ag) : Prop := ∃ a cap, v = .slice a A.length cap ∧ ∀ (i : Nat) x, A[i]? = some x → ∃ g off la lc fa fc, a = some ⟨g, off, none⟩ ∧ LvAt F (.slice la x.1.length lc) x.1 ∧ ∀ w, Sat w F → w.cell? ⟨g, off + i * 5 + 3, none⟩ = some (.slice la x.1.length lc) ∧ w.cell? ⟨g, off + i * 5 + 4, none⟩ = some (.slice fa x.2 fc)
set_option maxRecDepth 100000 in
set_option maxHeartbeats 4000000 in
theorem great_any (v : Value) (A : List Ag) (F : Heaplet) (w : World) (hs : Sat w F) (hv : AgAt F v A) (hl : A.length ≤ 9223372036854775807) : Calls Tryz.prog 5 #[v] w (Ret (.bool (greatM A)) (Same w)) := by
  obtain ⟨a, cap, rfl, hc⟩ := hv
  have HC := Lib.hid hc
  have HS := Lib.hid hs
  obtain ⟨res, hres⟩ : ∃ res, greatM A = res := ⟨_, rfl⟩
  rw [hres]
  have HRES := Lib.hid hres
  have hl9 : (A.length : Int) ≤ 9223372036854775807 := by omega
  clear hc hs hres hl
  go_enter Tryz.func5, Tryz.ntmps5
  go_wp2_with fail
  go_loopw [3] (fun v3 wx => ∃ r : Nat, r ≤ A.length ∧ r ≤ 40 ∧ v3 = .int .i64 r ∧ (A.take r).any bigA = false ∧ w = wx) (fun v3 _ => 1000 - (RowKit.intOf v3).toNat)
  case atStart => exact ⟨0, by omega, by omega, rfl, by simp, rfl⟩
  case round =>
    obtain ⟨r, hr, hr40, rfl, hb, rfl⟩ := hrel
    have r0 : (0 : Int) ≤ (r : Int) := by omega
    by_cases hlr : r < A.length ∧ r < 40
    · have r1 : (r : Int) < (A.length : Int) := by omega
      have r2 : (r : Int) < 40 := by omega
      obtain ⟨x, hx⟩ : ∃ x, A[r]? = some x := ⟨_, List.getElem?_eq_getElem hlr.1⟩
      obtain ⟨g, off, la, lc, fa, fc, rfl, hlv, hu⟩ := HC.out r x hx
      obtain ⟨e3, e4⟩ := hu w HS.out
      have htk : A.take (r + 1) = A.take r ++ [x] := by rw [List.take_add_one, hx]; rfl
      have hst : (A.take (r + 1)).any bigA = bigA x := by rw [htk, List.any_append, hb, Bool.false_or]; simp
      have hin : bigA x = true → res = true := fun h => by
        rw [← HRES.out]
        unfold greatM
        refine List.any_eq_true.2 ⟨x, ?_, h⟩
        rw [List.mem_iff_getElem?]
        exact ⟨r, by rw [List.getElem?_take_of_lt hlr.2]; exact hx⟩
      have HF := Lib.hid (And.intro hst (And.intro hin hlr))
      have hba : bigA x = ((decide (20 < (x.1.length : Int)) || decide (1000 < (x.2 : Int))) || x.1.any bigP) := rfl
      have HBA := Lib.hid hba
      obtain ⟨P, fl⟩ := x
      simp only at hlv e3 e4
      obtain ⟨a', c', e', hcc⟩ := hlv
      simp only [Value.slice.injEq] at e'
      obtain ⟨rfl, _, rfl⟩ := e'
      have HP := Lib.hid hcc
      clear hst hin hba htk hx hb hu hcc hlr hr hr40
      by_cases h1 : (20 : Int) < (P.length : Int)
      · obtain rfl : res = true := HF.out.2.1 (by rw [HBA.out]; simp; omega)
        go_wp2_with fail
        go_ret
        exact ⟨rfl, rfl⟩
      · have h1' : ((20 : Int) < (P.length : Int)) = False := eq_false h1
        have h20 : (P.length : Int) ≤ 20 := by omega
        by_cases h2 : (1000 : Int) < (fl : Int)
        · obtain rfl : res = true := HF.out.2.1 (by rw [HBA.out]; simp; omega)
          go_wp2_with fail
          go_ret
          exact ⟨rfl, rfl⟩
        · have h2' : ((1000 : Int) < (fl : Int)) = False := eq_false h2
          have hda : bigA (P, fl) = P.any bigP := by rw [HBA.out]; simp only [decide_eq_false h1, decide_eq_false h2, Bool.false_or, Bool.or_self]
          have HDA := Lib.hid hda
          clear h1 h2 hda
          go_wp2_with fail
          go_loopw [4] (fun v4 wx => ∃ t : Nat, t ≤ P.length ∧ v4 = .int .i64 t ∧ (P.take t).any bigP = false ∧ w = wx) (fun v4 _ => 1000 - (RowKit.intOf v4).toNat)
          case atStart => exact ⟨0, by omega, rfl, by simp, rfl⟩
          case round =>
            obtain ⟨t, ht, rfl, hpb, rfl⟩ := hrel
            have t0 : (0 : Int) ≤ (t : Int) := by omega
            by_cases hlt : t < P.length
            · have t1 : (t : Int) < (P.length : Int) := by omega
              obtain ⟨p, hp⟩ : ∃ p, P[t]? = some p := ⟨_, List.getElem?_eq_getElem hlt⟩
              obtain ⟨g1, off1, sv, rfl, hsv, hu⟩ := HP.out t p hp
              obtain ⟨_, _, u2⟩ := hu w HS.out
              have htk : P.take (t + 1) = P.take t ++ [p] := by rw [List.take_add_one, hp]; rfl
              have hst : (P.take (t + 1)).any bigP = bigP p := by rw [htk, List.any_append, hpb, Bool.false_or]; simp
              have hin : bigP p = true → res = true := fun h => HF.out.2.1 (by rw [HDA.out]; exact List.any_eq_true.2 ⟨p, List.mem_of_getElem? hp, h⟩)
              have HF2 := Lib.hid (And.intro hst hin)
              have hbp : bigP p = (decide (50 < (p.2.slots.length : Int)) || p.2.slots.any bigS) := rfl
              have HBP := Lib.hid hbp
              obtain ⟨n, q⟩ := p
              simp only at hsv u2
              obtain ⟨sa, sc, rfl, hsc⟩ := hsv
              have HSC := Lib.hid hsc
              clear hst hin hbp htk hp hpb hu hsc ht
              by_cases h1 : (50 : Int) < (q.slots.length : Int)
              · obtain rfl : res = true := HF2.out.2 (by rw [HBP.out]; simp; omega)
                go_wp2_with fail
                go_ret
                exact ⟨rfl, rfl⟩
              · have h1'' : ((50 : Int) < (q.slots.length : Int)) = False := eq_false h1
                have h50 : (q.slots.length : Int) ≤ 50 := by omega
                have hdp : bigP (n, q) = q.slots.any bigS := by rw [HBP.out]; simp only [decide_eq_false h1, Bool.false_or]
                have HDP := Lib.hid hdp
                clear h1 hdp
                go_wp2_with fail
                go_loopw [5] (fun v5 wx => ∃ k : Nat, k ≤ q.slots.length ∧ v5 = .int .i64 k ∧ (q.slots.take k).any bigS = false ∧ w = wx) (fun v5 _ => 1000 - (RowKit.intOf v5).toNat)
                case atStart => exact ⟨0, by omega, rfl, by simp, rfl⟩
                case round =>
                  obtain ⟨k, hk, rfl, hkb, rfl⟩ := hrel
                  have k0 : (0 : Int) ≤ (k : Int) := by omega
                  by_cases hlk : k < q.slots.length
                  · have k1 : (k : Int) < (q.slots.length : Int) := by omega
                    obtain ⟨s, hs⟩ : ∃ s, q.slots[k]? = some s := ⟨_, List.getElem?_eq_getElem hlk⟩
                    obtain ⟨g2, off2, rfl, hw2⟩ := HSC.out k s hs
                    obtain ⟨_, d1⟩ := hw2 w HS.out
                    have htk2 : q.slots.take (k + 1) = q.slots.take k ++ [s] := by rw [List.take_add_one, hs]; rfl
                    have hst2 : (q.slots.take (k + 1)).any bigS = bigS s := by rw [htk2, List.any_append, hkb, Bool.false_or]; simp
                    have hin2 : bigS s = true → res = true := fun h => HF2.out.2 (by rw [HDP.out]; exact List.any_eq_true.2 ⟨s, List.mem_of_getElem? hs, h⟩)
                    have HF3 := Lib.hid (And.intro hst2 hin2)
                    have hbs : bigS s = decide (1000 < (s.2.size : Int)) := rfl
                    have HBS := Lib.hid hbs
                    have HK := Lib.hid hlk
                    clear hst2 hin2 hbs htk2 hs hkb hw2 hk hlk
                    by_cases h2 : (1000 : Int) < (s.2.size : Int)
                    · obtain rfl : res = true := HF3.out.2 (by rw [HBS.out]; simp [h2])
                      go_wp2_with fail
                      go_ret
                      exact ⟨rfl, rfl⟩
                    · have h2'' : ((1000 : Int) < (s.2.size : Int)) = False := eq_false h2
                      go_wp2_with fail
                      exact ⟨⟨k + 1, by have := HK.out; omega, by simp, by rw [HF3.out.1, HBS.out]; simp [h2], trivial⟩, by simp only [RowKit.intOf]; omega⟩
                  · obtain rfl : k = q.slots.length := by omega
                    rw [List.take_length] at hkb
                    have HKB := Lib.hid hkb
                    have k1 : ((q.slots.length : Int) < (q.slots.length : Int)) = False := eq_false (by omega)
                    clear hkb hk hlk
                    go_wp2_with fail
                    exact ⟨⟨t + 1, by omega, by simp, by rw [HF2.out.1, HDP.out, HKB.out], trivial⟩, by simp only [RowKit.intOf]; omega⟩
            · obtain rfl : t = P.length := by omega
              rw [List.take_length] at hpb
              have HPB := Lib.hid hpb
              have t1 : ((P.length : Int) < (P.length : Int)) = False := eq_false (by omega)
              clear hpb ht hlt
              go_wp2_with fail
              exact ⟨⟨r + 1, by have := HF.out.2.2; omega, by have := HF.out.2.2; omega, by simp, by rw [HF.out.1, HDA.out, HPB.out], trivial⟩, by simp only [RowKit.intOf]; have := HF.out.2.2; omega⟩
    · have hres : res = false := by
        rw [← HRES.out]
        unfold greatM
        by_cases h : r < 40
        · have : r = A.length := by omega
          rw [List.take_of_length_le (by omega)]
          rw [this, List.take_length] at hb
          exact hb
        · have : r = 40 := by omega
          rw [← this]; exact hb
      subst hres
      have hcs : (r : Int) < (A.length : Int) ∧ ((r : Int) < 40) = False ∨ ((r : Int) < (A.length : Int)) = False := by
        by_cases h : r < A.length
        · exact .inl ⟨by omega, eq_false (by omega)⟩
        · exact .inr (eq_false (by omega))
      clear hb hr hr40 hlr HC
      rcases hcs with ⟨h1, h2⟩ | h1
      · go_wp2_with fail
        go_ret
        exact ⟨rfl, rfl⟩
      · go_wp2_with fail
        go_ret
        exact ⟨rfl, rfl⟩
end Go.Proofs.YtgocmnejlbfplaaGreatDoor
