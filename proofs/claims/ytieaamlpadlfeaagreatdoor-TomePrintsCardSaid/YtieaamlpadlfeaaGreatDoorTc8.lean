/- The document's call walked. Conditions: none. -/
import Derived.Test.YtieaamlpadlfeaaGreatDoorTc7
import Derived.Deep.RegionHeld3
import Derived.Deep.RegionWith
namespace Go.Proofs.YtieaamlpadlfeaaGreatDoor
open Go Go.MapKept Go.RowKit Go.Proofs

attribute [local go_sem] Oper.semAt_some

/-- What call answers. -/
def CallRet (F : Heaplet) (o : Option CallM) (e : Ending) (w' : World) : Prop := (∃ y : CallM, e = .returned (.tuple #[callV y, .bool o.isSome]) ∧ ∀ x, o = some x → y = x) ∧ Sat w' F
set_option maxRecDepth 100000 in
theorem call_results (tm : Array Value) (W9 : World) (g : Nat) (b : Bool) (a0 a1 a2 a3 : Value) (h1 : (tm[2]?).getD undef = .pointer (some ⟨g, 0, none⟩)) (h2 : (tm[3]?).getD undef = .bool b)
    (r0 : W9.cell? ⟨g, 0, none⟩ = some a0) (r1 : W9.cell? ⟨g, 1, none⟩ = some a1) (r2 : W9.cell? ⟨g, 2, none⟩ = some a2) (r3 : W9.cell? ⟨g, 3, none⟩ = some a3) :
    (results Tryz.f40 tm).run Tryz.prog W9 = .ok (.tuple #[.agg #[a0, a1, a2, a3], .bool b]) W9 := by
  simp [results, Tryz.results40, go_sem, h1, h2, r0, r1, r2, r3]
theorem call_end {PB : Ending → World → Prop} {A : Nat} {b : Bool} {y : CallM} {K : Heaplet} {W : World} {a : Act} (hd : a.defers = []) (h1 : (a.tmps[2]?).getD undef = .pointer (some ⟨A, 0, none⟩)) (h2 : (a.tmps[3]?).getD undef = .bool b)
    (hs : Sat W (.blk A (callO y.kind y.page y.slot y.data) :: K)) (hfin : PB (.returned (.tuple #[callV y, .bool b])) W) : bodyPost Tryz.prog Tryz.f40 PB Exit.ret a W := by
  obtain ⟨r0, r1, r2, r3, _⟩ := four_at hs
  exact bodyPost_ret (call_results _ _ A b _ _ _ _ h1 h2 r0 r1 r2 r3) hd hfin
set_option maxRecDepth 100000 in
set_option maxHeartbeats 8000000 in
theorem refcall_any {F : Heaplet} {w : World} {v : Value} {l : List Bs} (s : Sat w F) (hv : WsAt F v l) (hl : l.length ≤ 1000000) (hs : ∀ x ∈ l, x.length ≤ 900000) : Calls Tryz.prog 40 #[v] w (CallRet F (callR l)) := by
  obtain ⟨a, cap, rfl, hcap, hu⟩ := hv
  have HU := Lib.hid hu
  have HSH := Lib.hid hs
  have hl9 : (l.length : Int) ≤ 1000000 := by omega
  obtain ⟨A, hA⟩ : ∃ A, w.heap.size = A := ⟨_, rfl⟩
  have h2 := (s.new (callO 0 0 0 [])).new (callO 0 0 0 [])
  rw [World.size_alloc, hA] at h2
  have H2 := Lib.hid h2
  obtain ⟨PB, hPB⟩ : ∃ PB : Ending → World → Prop, CallRet F (callR l) = PB := ⟨_, rfl⟩
  rw [hPB]
  have HPB := Lib.hid hPB
  clear hPB s hu hs hcap h2
  cases l with
  | nil =>
    go_enter Tryz.func40, Tryz.ntmps40
    go_wp2_with fail
    refine call_end (A := A) (b := false) (y := CallM.zero) rfl rfl rfl H2.out.tail ?_
    rw [← HPB.out]
    exact ⟨⟨CallM.zero, rfl, fun x h => by cases h⟩, H2.out.tail.tail⟩
  | cons y t =>
    have l1 : (((y :: t : List Bs).length : Int) < 1) = False := eq_false (by simp only [List.length_cons]; omega)
    have l2 : (0 : Int) < ((y :: t : List Bs).length : Int) := by simp only [List.length_cons]; omega
    have l3 : 0 < (y :: t : List Bs).length := by simp only [List.length_cons]; omega
    generalize hln : (y :: t : List Bs).length = ln at *
    go_enter Tryz.func40, Tryz.ntmps40
    go_upto_region 4 with (fail)
    have hlk : ∀ W, Sat W F → ∃ g off, a = some ⟨g, off, none⟩ ∧ W.cell? ⟨g, off, none⟩ = some (kL y) := fun W hW => by
      obtain ⟨g, off, e, hc⟩ := HU.out 0 y rfl
      exact ⟨g, off, e, hc W hW⟩
    obtain ⟨g, off, rfl, c0⟩ := hlk _ H2.out.tail.tail
    have HLK : Hid (∀ W, Sat W F → W.cell? ⟨g, off, none⟩ = some (kL y)) := Lib.hid (fun W hW => by
      obtain ⟨g', off', e, hc⟩ := hlk W hW
      cases e
      exact hc)
    have HC := Lib.hid (rcalls_any H2.out.drew)
    have HPL : Hid (∀ v h W G, WOwn v ([] :: callNames) h → Sat W (h ++ G) → Calls Tryz.prog 38 #[v, kL y] W (Ret (.int .i64 (kindOf callNames y : Int)) (fun W => Sat W (h ++ G)))) := Lib.hid (fun v h W G hv hW => rplace_any hW (hv.ws.mono (fun w hw => hw.lft)) (by decide) y)
    obtain ⟨k, hk⟩ : ∃ k, kindOf callNames y = k := ⟨_, rfl⟩
    rw [hk] at HPL
    have hk9 : k ≤ 9 := by rw [← hk]; exact kindOf_le callNames y
    have hcr : callR (y :: t) = if k = 0 ∨ t.length ≠ (formR k).length then none else fillR (formR k) t ⟨k, 0, 0, []⟩ := by
      unfold callR
      simp only [hk]
    have HCR := Lib.hid hcr
    have HK9 := Lib.hid hk9
    have HLN := Lib.hid hln
    clear hlk hk hk9 hcr hln
    generalize (w.alloc (callO 0 0 0 [])).alloc (callO 0 0 0 []) = W0 at *
    clear hA
    go_cut [] (fun wx => Sat wx (.blk (A + 1) (callO k 0 0 []) :: .blk A (callO 0 0 0 []) :: F))
    case first =>
      go_region_law (first
        | ((try go_simp); go_at_call 38; refine (HPL.out _ _ _ _ V2.out S2.out).mono ?_; rintro e w3 ⟨rfl, h3⟩; have S3 := Lib.hid h3; have d0 : w3.frozen? ⟨A + 1, 0, none⟩ = false := unfrozen_of h3.right.h0 0; have d1 := (four_at h3.right).1; clear h3; (try dsimp only))
        | ((try go_simp); go_at_call 35; refine (HC.out).mono ?_; rintro e w2 ⟨v2, h2, rfl, hv2, hs2⟩; have V2 := Lib.hid hv2; have S2 := Lib.hid hs2; have c2 := HLK.out _ hs2.right.tail.tail; clear hv2 hs2; (try dsimp only)))
      all_goals
        go_wp2_with fail
        go_meet
        exact S3.out.right.setCell (i := 0) (kI k)
    case rest =>
      have S4 := Lib.hid hcut
      obtain ⟨x0, x1, x2, x3, _⟩ := four_at hcut
      have HF := Lib.hid (rform_any hcut k HK9.out)
      have hk9 := HK9.out
      have k0 : (0 : Int) ≤ (k : Int) := by omega
      clear hcut H2 c0 HC HPL HLK hk9
      have hfb := form_bytes k
      have hfl := form_len k
      generalize formR k = f at *
      have HFB := Lib.hid hfb
      have HFL := Lib.hid hfl
      have hf9 : (f.length : Int) ≤ 3 := by omega
      clear hfb hfl
      have hend : ∀ (W : World) (z : CallM), Sat W (.blk (A + 1) (callO z.kind z.page z.slot z.data) :: .blk A (callO 0 0 0 []) :: F) → callR (y :: t) = none → PB (.returned (.tuple #[callV z, .bool false])) ((((W.setCell ⟨A, 0, none⟩ (kI z.kind)).setCell ⟨A, 1, none⟩ (kI z.page)).setCell ⟨A, 2, none⟩ (kI z.slot)).setCell ⟨A, 3, none⟩ (kL z.data)) := fun W z hW hno => by
        rw [← HPB.out, hno]
        exact ⟨⟨z, rfl, fun x h => by cases h⟩, (put4 hW.swap _ _ _ _).tail.tail⟩
      have HEND := Lib.hid hend
      clear hend
      by_cases k00 : k = 0
      · have m0 : ((k : Int) == 0) = true := by rw [k00]; rfl
        have hno : callR (y :: t) = none := by rw [HCR.out, if_pos (.inl k00)]
        have HN := Lib.hid hno
        clear k00 hno
        go_upto_region 6 with (go_at_call 36; refine (HF.out).mono ?_; rintro e w5 ⟨rfl, h5⟩; have S5 := Lib.hid h5; obtain ⟨x0, x1, x2, x3, _⟩ := four_at h5; obtain ⟨e0, e1, e2, e3, ez⟩ := four_at h5.tail; clear h5)
        go_wp2_with fail
        exact call_end (A := A) (b := false) (y := ⟨k, 0, 0, []⟩) rfl rfl rfl (put4 S5.out.swap _ _ _ _) (HEND.out _ ⟨k, 0, 0, []⟩ S5.out HN.out)
      have m0 : ((k : Int) == 0) = false := by rw [beq_eq_false_iff_ne]; omega
      by_cases hlf : ln = 1 + f.length
      · have m1 : ((ln : Int) != 1 + (f.length : Int)) = false := by
          have e : (ln : Int) = 1 + (f.length : Int) := by omega
          rw [e, bne_self_eq_false]
        have htl : t.length = f.length := by
          have := HLN.out
          simp only [List.length_cons] at this
          omega
        have hfill : callR (y :: t) = fillR f t ⟨k, 0, 0, []⟩ := by
          rw [HCR.out, if_neg (fun h => h.elim k00 (fun h => h htl))]
        have HFILL := Lib.hid hfill
        have HTL := Lib.hid htl
        have HLF := Lib.hid hlf
        clear hfill htl hlf k00 HCR
        go_upto_block 0 with (go_at_call 36; refine (HF.out).mono ?_; rintro e w5 ⟨rfl, h5⟩; have S5 := Lib.hid h5; obtain ⟨x0, x1, x2, x3, _⟩ := four_at h5; clear h5)
        clear x0 x1 x2 x3 HF S4 m0 m1
        go_wp2_with fail
        go_loopw [6] (fun v6 wr => ∃ (i : Nat) (z : CallM), i ≤ f.length ∧ v6 = .int .i64 (i : Int) ∧ callR (y :: t) = fillR (f.drop i) (t.drop i) z ∧ Sat wr (.blk (A + 1) (callO z.kind z.page z.slot z.data) :: .blk A (callO 0 0 0 []) :: F)) (fun v6 _ => 2000 - (RowKit.intOf v6).toNat)
        case atStart => exact ⟨0, ⟨k, 0, 0, []⟩, by omega, rfl, HFILL.out, S5.out⟩
        case round =>
          clear S5 HFILL
          obtain ⟨i, z, hi, rfl, hfz, hs⟩ := hrel
          have i0 : (0 : Int) ≤ (i : Int) := by omega
          obtain ⟨x0, x1, x2, x3, xz⟩ := four_at hs
          obtain ⟨e0, e1, e2, e3, ez⟩ := four_at hs.tail
          have HS := Lib.hid hs
          by_cases hil : i < f.length
          · have i1 : (i : Int) < (f.length : Int) := by omega
            have i8 : i < 2000 := by have := HFL.out; omega
            have i3 : (i : Int) ≤ 3 := by omega
            obtain ⟨c, hc⟩ : ∃ c, f[i]? = some c := ⟨_, List.getElem?_eq_getElem hil⟩
            have hgt : ∀ (h : i < (⟨f.toArray⟩ : ByteArray).size), (⟨f.toArray⟩ : ByteArray)[i]'h = c := fun h => by
              rw [List.getElem?_eq_getElem hil] at hc
              cases hc
              rfl
            obtain ⟨wd, hwd⟩ : ∃ wd, t[i]? = some wd := ⟨_, List.getElem?_eq_getElem (by rw [HTL.out]; exact hil)⟩
            have hwd2 : (y :: t : List Bs)[1 + i]? = some wd := by
              rw [Nat.add_comm, List.getElem?_cons_succ]
              exact hwd
            have hlk : ∀ W, Sat W F → W.cell? ⟨g, off + (1 + i), none⟩ = some (kL wd) := fun W hW => by
              obtain ⟨g', off', e, hc⟩ := HU.out (1 + i) wd hwd2
              cases e
              exact hc W hW
            have c0 := hlk wr hs.tail.tail
            have j0 : (1 : Int) + (i : Int) < (ln : Int) := by have := HLF.out; omega
            have j1 : (0 : Int) ≤ 1 + (i : Int) := by omega
            have j2 : ((1 : Int) + (i : Int)).toNat = 1 + i := by omega
            have hwl : wd.length ≤ 900000 := HSH.out wd (.tail _ (List.mem_of_getElem? hwd))
            have hmore := fill_more (x := z) hc hwd
            rw [hmore] at hfz
            have hcb := HFB.out c (List.mem_of_getElem? hc)
            have HI := Lib.hid (show i + 1 ≤ f.length by omega)
            by_cases h100 : c = 100
            · subst h100
              have k1 : (((100 : UInt8).toNat : Int) == 100) = true := rfl
              have hfz2 : callR (y :: t) = (textS wd).bind fun s => fillR (f.drop (i + 1)) (t.drop (i + 1)) { z with data := s } := hfz
              have hT := refText_any hs wd hwl
              obtain ⟨o, ho⟩ : ∃ o, textS wd = o := ⟨_, rfl⟩
              rw [ho] at hT hfz2
              have HT := Lib.hid hT
              have HFZ := Lib.hid hfz2
              clear hfz hfz2 hT ho hmore hcb hwl hlk hwd hwd2 hc hil hi hs
              cases o with
              | none =>
                go_wp2_with (go_at_call 51; refine (HT.out).mono ?_; rintro e w9 ⟨rfl, h9⟩; have S9 := Lib.hid h9; obtain ⟨x0, x1, x2, x3, xz⟩ := four_at S9.out; obtain ⟨e0, e1, e2, e3, ez⟩ := four_at S9.out.tail; clear h9)
                exact call_end (A := A) (b := false) (y := z) rfl rfl rfl (put4 S9.out.swap _ _ _ _) (HEND.out _ z S9.out HFZ.out)
              | some d =>
                go_wp2_with (go_at_call 51; refine (HT.out).mono ?_; rintro e w9 ⟨rfl, h9⟩; have S9 := Lib.hid h9; obtain ⟨x0, x1, x2, x3, xz⟩ := four_at S9.out; obtain ⟨e0, e1, e2, e3, ez⟩ := four_at S9.out.tail; clear h9)
                exact ⟨⟨i + 1, { z with data := d }, HI.out, by simp, HFZ.out, S9.out.setCell (i := 3) (kL d)⟩, by simp only [RowKit.intOf]; omega⟩
            · have k1 : ((c.toNat : Int) == 100) = false := by
                rw [beq_eq_false_iff_ne]
                intro e
                exact h100 (UInt8.toNat_inj.1 (by show c.toNat = 100; omega))
              rw [if_neg h100] at hfz
              have hN := refnum_any hs wd hwl
              have HN := Lib.hid hN
              obtain ⟨o, ho⟩ : ∃ o, numS wd = o := ⟨_, rfl⟩
              have HO := Lib.hid ho
              rw [ho] at hfz
              cases o with
              | none =>
                have HFZ : Hid (callR (y :: t) = none) := Lib.hid hfz
                clear hfz hN ho hmore hcb hwl hlk hwd hwd2 hc hil hi hs h100
                go_wp2_with (go_at_call 39; refine (HN.out).mono ?_; intro e w9 h8; obtain ⟨v9, rfl, h9⟩ := h8.of_none HO.out; have S9 := Lib.hid h9; obtain ⟨x0, x1, x2, x3, xz⟩ := four_at S9.out; obtain ⟨e0, e1, e2, e3, ez⟩ := four_at S9.out.tail; clear h8 h9)
                exact call_end (A := A) (b := false) (y := z) rfl rfl rfl (put4 S9.out.swap _ _ _ _) (HEND.out _ z S9.out HFZ.out)
              | some n =>
                rw [Option.bind_some] at hfz
                by_cases h112 : c = 112
                · rw [if_pos h112] at hfz
                  have k2 : ((c.toNat : Int) == 112) = true := by rw [h112]; rfl
                  have HFZ := Lib.hid hfz
                  clear hfz hN ho hmore hcb hwl hlk hwd hwd2 hc hil hi hs h100 h112
                  go_wp2_with (go_at_call 39; refine (HN.out).mono ?_; intro e w9 h8; obtain ⟨rfl, h9⟩ := h8.of_some HO.out; have S9 := Lib.hid h9; obtain ⟨x0, x1, x2, x3, xz⟩ := four_at S9.out; obtain ⟨e0, e1, e2, e3, ez⟩ := four_at S9.out.tail; clear h8 h9)
                  exact ⟨⟨i + 1, { z with page := n }, HI.out, by simp, HFZ.out, S9.out.setCell (i := 1) (kI n)⟩, by simp only [RowKit.intOf]; omega⟩
                · rw [if_neg h112] at hfz
                  have k2 : ((c.toNat : Int) == 112) = false := by
                    rw [beq_eq_false_iff_ne]
                    intro e
                    exact h112 (UInt8.toNat_inj.1 (by show c.toNat = 112; omega))
                  have HFZ := Lib.hid hfz
                  clear hfz hN ho hmore hcb hwl hlk hwd hwd2 hc hil hi hs h100 h112
                  go_wp2_with (go_at_call 39; refine (HN.out).mono ?_; intro e w9 h8; obtain ⟨rfl, h9⟩ := h8.of_some HO.out; have S9 := Lib.hid h9; obtain ⟨x0, x1, x2, x3, xz⟩ := four_at S9.out; obtain ⟨e0, e1, e2, e3, ez⟩ := four_at S9.out.tail; clear h8 h9)
                  exact ⟨⟨i + 1, { z with slot := n }, HI.out, by simp, HFZ.out, S9.out.setCell (i := 2) (kI n)⟩, by simp only [RowKit.intOf]; omega⟩
          · obtain rfl : i = f.length := by omega
            have hfin : callR (y :: t) = some z := by
              rw [hfz, List.drop_length, ← HTL.out, List.drop_length]
              rfl
            have HFIN := Lib.hid hfin
            clear hfin hfz hil hi hs
            go_wp2_with fail
            refine call_end (A := A) (b := true) (y := z) rfl rfl rfl (put4 HS.out.swap _ _ _ _) ?_
            rw [← HPB.out, HFIN.out]
            exact ⟨⟨z, rfl, fun x h => by cases h; rfl⟩, (put4 HS.out.swap _ _ _ _).tail.tail⟩
      · have m1 : ((ln : Int) != 1 + (f.length : Int)) = true := by rw [bne_iff_ne]; omega
        have hno : callR (y :: t) = none := by
          rw [HCR.out]
          refine if_pos (.inr (fun e => hlf ?_))
          have := HLN.out
          simp only [List.length_cons] at this
          omega
        have HN := Lib.hid hno
        clear k00 hno hlf
        go_upto_region 6 with (go_at_call 36; refine (HF.out).mono ?_; rintro e w5 ⟨rfl, h5⟩; have S5 := Lib.hid h5; obtain ⟨x0, x1, x2, x3, _⟩ := four_at h5; obtain ⟨e0, e1, e2, e3, ez⟩ := four_at h5.tail; clear h5)
        go_wp2_with fail
        exact call_end (A := A) (b := false) (y := ⟨k, 0, 0, []⟩) rfl rfl rfl (put4 S5.out.swap _ _ _ _) (HEND.out _ ⟨k, 0, 0, []⟩ S5.out HN.out)
end Go.Proofs.YtieaamlpadlfeaaGreatDoor
