/- A page of one record; whether two images are the same. Conditions: none. -/
import Derived.Test.YtgocmnejlbfplaaDoorTw16
namespace Go.Proofs.YtgocmnejlbfplaaDoor
open Go Go.MapKept Go.RowKit Go.Proofs

attribute [local go_sem] Oper.semAt_some

def imgP (lsn : Int) (d : ByteArray) : Pg := ⟨lsn, [(true, d)]⟩
theorem slAt_one (x : Nat) (d : ByteArray) (F : Heaplet) : SlAt (.blk x (.cells #[.bool true, kS d] 60) :: F) (.slice (some ⟨x, 0, none⟩) 1 1) [(true, d)] := by
  refine ⟨some ⟨x, 0, none⟩, 1, rfl, fun i s hs => ?_⟩
  match i, hs with
  | 0, hs =>
    cases hs
    refine ⟨x, 0, rfl, fun w hw => ⟨?_, ?_⟩⟩
    · show w.cell? ⟨x, 0, none⟩ = _
      rw [cell_of hw.h0]; rfl
    · show w.cell? ⟨x, 1, none⟩ = _
      rw [cell_of hw.h0]; rfl
theorem image_any (lsn : Int) (d : ByteArray) (F : Heaplet) (w : World) (hs : Sat w F) : Calls Tryd.prog 10 #[.int .i64 lsn, .string d] w (fun e w' => ∃ x, e = .returned (pgV lsn (.slice (some ⟨x, 0, none⟩) 1 1)) ∧ Sat w' (.blk x (.cells #[.bool true, kS d] 60) :: F)) := by
  have h2 := (hs.new (.cells #[kI lsn, .slice (some ⟨w.heap.size + 1, 0, none⟩) 1 1] 25)).new (.cells #[.bool true, kS d] 60)
  rw [World.size_alloc] at h2
  have R := Lib.hid (two_at h2.swap)
  have HS := Lib.hid (show Sat _ (.blk (w.heap.size + 1) (.cells #[.bool true, kS d] 60) :: F) from h2.swap.tail)
  clear hs h2
  go_enter Tryd.func10, Tryd.ntmps10
  go_wp2_with fail
  refine bodyPost_ret (v := pgV lsn (.slice (some ⟨w.heap.size + 1, 0, none⟩) 1 1)) ?_ rfl ⟨_, rfl, HS.out⟩
  have r0 := R.out.1
  have r1 := R.out.2.1
  simp [results, Tryd.results10, go_sem, r0, r1]
theorem ne_sl (a b : Sl) (w : World) : (binOp .neq 60 (slV a) (slV b)).run Tryd.prog w = .ok (.bool (decide (a ≠ b))) w := by
  obtain ⟨a1, a2⟩ := a
  obtain ⟨b1, b2⟩ := b
  have h := ba_cmp a2 b2
  have hi : a2.toList = b2.toList ↔ a2 = b2 := ⟨fun h => by rw [ByteArray.toList_eq, ByteArray.toList_eq] at h; exact ba_ext h, fun h => by rw [h]⟩
  have e : decide ((a1, a2) ≠ (b1, b2)) = !((a1 == b1) && decide (a2 = b2)) := by
    by_cases h1 : a1 = b1 <;> by_cases h2 : a2 = b2 <;> simp [h1, h2]
  rw [e, ← h]
  simp [go_sem]
  repeat' split
  all_goals
    simp_all
set_option maxRecDepth 100000 in
theorem guard_sl (a b : Sl) (w : World) (x y : Operand) : (eqGuard .neq 60 x y (slV a) (slV b)).run Tryd.prog w = .ok () w := by
  obtain ⟨a1, a2⟩ := a
  obtain ⟨b1, b2⟩ := b
  simp [go_sem, eqGuard]
theorem pg_ext {p q : Pg} (h1 : p.lsn = q.lsn) (h2 : p.slots = q.slots) : p = q := by cases p; cases q; simp_all
set_option maxRecDepth 100000 in
set_option maxHeartbeats 4000000 in
theorem same_any {va vb : Value} {p q : Pg} {F : Heaplet} {w : World} (ha : SlAt F va p.slots) (hb : SlAt F vb q.slots) (s : Sat w F) (hl : p.slots.length ≤ 1000) (hl2 : q.slots.length ≤ 1000) (res : Bool) (hres : res = true ↔ p = q) :
    Calls Tryd.prog 13 #[pgV p.lsn va, pgV q.lsn vb] w (Ret (.bool res) (Below w.heap.size w)) := by
  obtain ⟨a, cap, rfl, hca⟩ := ha
  obtain ⟨b, cap2, rfl, hcb⟩ := hb
  have h2 := ((sat_all w).new (.cells #[kI p.lsn, .slice a p.slots.length cap] 25)).new (.cells #[kI q.lsn, .slice b q.slots.length cap2] 25)
  rw [World.size_alloc] at h2
  have HOLD : Hid (∀ W, Sat W (allOf w) → Sat W F) := Lib.hid (fun W hW => s.monoB hW.below)
  have HB : Hid (∀ W, Sat W (allOf w) → Below w.heap.size w W) := Lib.hid (fun W hW => hW.below)
  obtain ⟨AW, hAW⟩ : ∃ AW, allOf w = AW := ⟨_, rfl⟩
  rw [hAW] at HOLD HB h2
  obtain ⟨PB, hPB⟩ : ∃ PB : World → Prop, Below w.heap.size w = PB := ⟨_, rfl⟩
  rw [hPB] at HB ⊢
  have HA := Lib.hid hca
  have HBB := Lib.hid hcb
  have HRES := Lib.hid hres
  have HS := Lib.hid h2
  have c0 := (two_at h2.swap).1
  have c1 := (two_at h2.swap).2.1
  have d0 := (two_at h2).1
  have d1 := (two_at h2).2.1
  obtain ⟨lp, Lp⟩ := p
  obtain ⟨lq, Lq⟩ := q
  simp only at *
  have l9 : (Lp.length : Int) ≤ 1000 := by omega
  have l8 : (Lq.length : Int) ≤ 1000 := by omega
  clear hca hcb h2 hAW hPB hres s hl hl2
  by_cases h1 : lp = lq
  · subst h1
    have e1 : (lp == lp) = true := by simp
    by_cases h2 : Lp.length = Lq.length
    · have e2 : ((Lp.length : Int) == (Lq.length : Int)) = true := by rw [beq_iff_eq]; omega
      have e3 : ((Lp.length : Int) != (Lq.length : Int)) = false := by rw [bne, e2]; rfl
      have HLN := Lib.hid h2
      have H0 : Hid (∀ j, j < 0 → Lp[j]? = Lq[j]?) := Lib.hid (fun j h => absurd h (by omega))
      clear h2
      go_enter Tryd.func13, Tryd.ntmps13
      go_upto_block 0 with (fail)
      generalize (w.alloc (.cells #[.int .i64 lp, .slice a Lp.length cap] 25)).alloc (.cells #[.int .i64 lp, .slice b Lq.length cap2] 25) = W2 at *
      obtain ⟨bb, hbb⟩ : ∃ bb, w.heap.size + 1 = bb := ⟨_, rfl⟩
      rw [hbb] at HS d0 d1
      generalize w.heap.size = ba at *
      clear c0 c1 d0 d1 e1 e2 e3
      go_wp2_with fail
      go_loopw [5] (fun v5 wr => ∃ i : Nat, i ≤ Lp.length ∧ v5 = .int .i64 i ∧ (∀ j, j < i → Lp[j]? = Lq[j]?) ∧ Sat wr (.blk bb (.cells #[kI lp, .slice b Lq.length cap2] 25) :: .blk ba (.cells #[kI lp, .slice a Lp.length cap] 25) :: AW)) (fun v5 _ => 2000 - (RowKit.intOf v5).toNat)
      case atStart => exact ⟨0, by omega, rfl, H0.out, HS.out⟩
      case round =>
        clear HS H0
        obtain ⟨i, hi, rfl, he, hs⟩ := hrel
        have i0 : (0 : Int) ≤ (i : Int) := by omega
        have d1 := (two_at hs).2.1
        have c1 := (two_at hs.swap).2.1
        by_cases hil : i < Lp.length
        · have i1 : (i : Int) < (Lp.length : Int) := by omega
          have i2 : (i : Int) < (Lq.length : Int) := by have := HLN.out; omega
          obtain ⟨x, hx⟩ : ∃ x, Lp[i]? = some x := ⟨_, List.getElem?_eq_getElem hil⟩
          obtain ⟨y, hy⟩ : ∃ y, Lq[i]? = some y := ⟨_, List.getElem?_eq_getElem (by have := HLN.out; omega)⟩
          obtain ⟨g, off, rfl, hu⟩ := HA.out i x hx
          obtain ⟨g2, off2, rfl, hu2⟩ := HBB.out i y hy
          obtain ⟨x0, x1⟩ := hu wr (HOLD.out _ hs.tail.tail)
          obtain ⟨y0, y1⟩ := hu2 wr (HOLD.out _ hs.tail.tail)
          have hne := ne_sl x y
          have hgu := guard_sl x y
          have HSN : Hid (∀ k, Sat (wr.drewN k) (.blk bb (.cells #[kI lp, .slice (some ⟨g2, off2, none⟩) Lq.length cap2] 25) :: .blk ba (.cells #[kI lp, .slice (some ⟨g, off, none⟩) Lp.length cap] 25) :: AW)) := Lib.hid (fun k => hs.grown (Grown.drewN wr k))
          have HE := Lib.hid (And.intro he (And.intro hx (And.intro hy hil)))
          obtain ⟨db, hdb⟩ : ∃ db, decide (x ≠ y) = db := ⟨_, rfl⟩
          rw [hdb] at hne
          have HDB := Lib.hid hdb
          clear hs he hx hy hu hu2 hi hil hdb
          go_upto_region 6 with (fail)
          go_quiet (fail)
          clear x0 x1 y0 y1 hne hgu c1 d1
          cases db with
          | true =>
            obtain rfl : res = false := by
              cases res with
              | false => rfl
              | true =>
                have h1 := congrArg (fun p : Pg => p.slots[i]?) (HRES.out.1 rfl)
                simp only at h1
                rw [HE.out.2.1, HE.out.2.2.1] at h1
                exact absurd (Option.some.inj h1) (of_decide_eq_true HDB.out)
            have FIN := Lib.hid (HB.out _ (HSN.out nq).tail.tail)
            clear HSN
            go_wp2_with fail
            go_ret
            exact ⟨rfl, FIN.out⟩
          | false =>
            have HNX : Hid (∀ j, j < i + 1 → Lp[j]? = Lq[j]?) := Lib.hid (fun j hj => by
              by_cases h : j = i
              · subst h
                have := of_decide_eq_false HDB.out
                rw [HE.out.2.1, HE.out.2.2.1]
                simp only [ne_eq, Decidable.not_not] at this
                rw [this]
              · exact HE.out.1 j (by omega))
            go_wp2_with fail
            exact ⟨⟨i + 1, by have := HE.out.2.2.2; omega, by simp, HNX.out, HSN.out _⟩, by simp only [RowKit.intOf]; have := HE.out.2.2.2; omega⟩
        · obtain rfl : i = Lp.length := by omega
          have i1 : ((Lp.length : Int) < (Lp.length : Int)) = False := eq_false (by omega)
          obtain rfl : res = true := HRES.out.2 (by
            congr 1
            apply List.ext_getElem?
            intro j
            by_cases hj : j < Lp.length
            · exact he j hj
            · rw [List.getElem?_eq_none (by omega), List.getElem?_eq_none (by have := HLN.out; omega)])
          have FIN := Lib.hid (HB.out _ hs.tail.tail)
          clear hs he hi hil
          go_wp2_with fail
          go_ret
          exact ⟨rfl, FIN.out⟩
    · have e2 : ((Lp.length : Int) == (Lq.length : Int)) = false := by rw [beq_eq_false_iff_ne]; omega
      have e3 : ((Lp.length : Int) != (Lq.length : Int)) = true := by rw [bne, e2]; rfl
      have e4 : (Lp.length = Lq.length) = False := eq_false h2
      obtain rfl : res = false := by
        cases res with
        | false => rfl
        | true => exact absurd (congrArg (fun p : Pg => p.slots.length) (HRES.out.1 rfl)) h2
      have FIN := Lib.hid (HB.out _ HS.out.tail.tail)
      clear HS
      go_enter Tryd.func13, Tryd.ntmps13
      go_wp2_with fail
      go_ret
      exact ⟨rfl, FIN.out⟩
  · have e1 : (lp == lq) = false := by rw [beq_eq_false_iff_ne]; exact h1
    have e3 : (lp != lq) = true := by rw [bne, e1]; rfl
    obtain rfl : res = false := by
      cases res with
      | false => rfl
      | true => exact absurd (congrArg (fun p : Pg => p.lsn) (HRES.out.1 rfl)) h1
    have FIN := Lib.hid (HB.out _ HS.out.tail.tail)
    clear HS
    go_enter Tryd.func13, Tryd.ntmps13
    go_wp2_with fail
    go_ret
    exact ⟨rfl, FIN.out⟩
end Go.Proofs.YtgocmnejlbfplaaDoor
