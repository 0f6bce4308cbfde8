/- TomeWords walked. Conditions: none. -/
import Derived.Test.YtieaamlpadlfeaaDoorTb16
import Derived.Deep.RegionWith
import Derived.Test.YtieaamlpadlfeaaDoorTmL
namespace Go.Proofs.YtieaamlpadlfeaaDoor
open Go Go.MapKept Go.RowKit Go.Proofs

attribute [local go_sem] Oper.semAt_some

theorem wordL_eq (x y : Bs) : (wordL x == wordL y) = (x == y) := by
  by_cases h : x = y
  · subst h; simp
  · rw [beq_eq_false_iff_ne.2 h, beq_eq_false_iff_ne.2 (fun e => h (wordL_inj e))]
set_option maxRecDepth 100000 in
set_option maxHeartbeats 4000000 in
theorem words_walk {F : Heaplet} {w : World} (hL : LibF F) (s : Sat w F) (x y z : Bs) : Calls Tryd.prog 6 #[kL x, kL y, kL z] w (Ret (.bool true) (fun W => Sat W F)) := by
  have HA := Lib.hid (awake_any hL s)
  have HL := Lib.hid hL
  clear s hL
  by_cases hx : x.length ≤ 8192
  · have kx : ((8192 : Int) < (x.length : Int)) = False := eq_false (by omega)
    by_cases hy : y.length ≤ 8192
    · have ky : ((8192 : Int) < (y.length : Int)) = False := eq_false (by omega)
      by_cases hz : z.length ≤ 8192
      · have kz : ((8192 : Int) < (z.length : Int)) = False := eq_false (by omega)
        have HWX : Hid (∀ W, Sat W F → Calls Tryd.prog 17 #[kL x] W (Ret (kL (wordL x)) (fun W => Sat W F))) := Lib.hid (fun W hW => word_at hW x (by omega))
        have HWY : Hid (∀ W, Sat W F → Calls Tryd.prog 17 #[kL y] W (Ret (kL (wordL y)) (fun W => Sat W F))) := Lib.hid (fun W hW => word_at hW y (by omega))
        have hwl := wordL_len x
        have HTX : Hid (∀ W, Sat W F → Calls Tryd.prog 10 #[kL (wordL x)] W (Ret (.tuple #[kL x, .int .i64 0]) (fun W => Sat W F))) := Lib.hid (fun W hW => by
          have h := text_any HL.out hW (wordL x) (by omega)
          rw [textS_iff.2 rfl] at h
          exact h)
        obtain ⟨o, ho⟩ : ∃ o, textS z = o := ⟨_, rfl⟩
        have HTZ : Hid (∀ W, Sat W F → Calls Tryd.prog 10 #[kL z] W (Ret (.tuple #[kL (o.getD []), .int .i64 (if o.isSome then 0 else 4)]) (fun W => Sat W F))) := Lib.hid (fun W hW => by
          have h := text_any HL.out hW z (by omega)
          rw [ho] at h
          exact h)
        have HO := Lib.hid ho
        have hne : (wordL x == []) = false := beq_eq_false_iff_ne.2 (wordL_ne x)
        have hbd : ∀ c ∈ wordL x, 33 ≤ c.toNat ∧ c.toNat ≤ 126 := fun c h => wordL_bds h
        have hxy := wordL_eq x y
        generalize wordL x = wx at *
        generalize wordL y = wy at *
        obtain ⟨q, hq⟩ : ∃ q, (x == y) = q := ⟨_, rfl⟩
        rw [hq] at hxy
        have HBD := Lib.hid hbd
        have hw9 : (wx.length : Int) ≤ 30000 := by omega
        have HZ := Lib.hid hz
        clear hx hy hz hbd ho hwl
        go_enter Tryd.func6, Tryd.ntmps6
        go_upto_block 0 with (first
          | (go_at_call 17; refine (HWY.out _ T3.out).mono ?_; rintro e w4 ⟨rfl, h4⟩; have T4 := Lib.hid h4; clear h4)
          | (go_at_call 10; refine (HTX.out _ T2.out).mono ?_; rintro e w3 ⟨rfl, h3⟩; have T3 := Lib.hid h3; clear h3)
          | (go_at_call 17; refine (HWX.out _ T1.out).mono ?_; rintro e w2 ⟨rfl, h2⟩; have T2 := Lib.hid h2; clear h2)
          | (go_at_call 7; refine (HA.out).mono ?_; rintro e w1 ⟨rfl, h1⟩; have T1 := Lib.hid h1; clear h1))
        clear HWX HTX HWY T1 T2 T3 hxy hq hne
        go_wp2_with fail
        go_loopw [10] (fun v10 wr => ∃ i : Nat, i ≤ wx.length ∧ v10 = .int .i64 (i : Int) ∧ Sat wr F) (fun v10 _ => 60000 - (RowKit.intOf v10).toNat)
        case atStart => exact ⟨0, by omega, rfl, T4.out⟩
        case round =>
          clear T4
          obtain ⟨i, hi, rfl, hs⟩ := hrel
          have HS := Lib.hid hs
          have i0 : (0 : Int) ≤ (i : Int) := by omega
          by_cases hil : i < wx.length
          · have i1 : (i : Int) < (wx.length : Int) := by omega
            have i9 : i < 60000 := by omega
            obtain ⟨c, hc⟩ : ∃ c, wx[i]? = some c := ⟨_, List.getElem?_eq_getElem hil⟩
            have hgt : ∀ (h : i < (⟨wx.toArray⟩ : ByteArray).size), (⟨wx.toArray⟩ : ByteArray)[i]'h = c := fun h => by
              rw [List.getElem?_eq_getElem hil] at hc
              cases hc
              rfl
            have hb := HBD.out c (List.mem_of_getElem? hc)
            have c1 : ((c.toNat : Int) ≤ 32) = False := eq_false (by omega)
            have c2 : ((127 : Int) ≤ (c.toNat : Int)) = False := eq_false (by omega)
            have HI := Lib.hid hil
            clear hi hil hc hb hs
            go_wp2_with fail
            exact ⟨⟨i + 1, HI.out, by simp, HS.out⟩, by simp only [RowKit.intOf]; omega⟩
          · obtain rfl : i = wx.length := by omega
            have HTZ2 := Lib.hid (HTZ.out _ hs)
            clear hi hil hs HBD HTZ
            cases o with
            | none =>
              go_wp2_with (go_at_call 10; refine (HTZ2.out).mono ?_; rintro e w5 ⟨rfl, h5⟩; have T5 := Lib.hid h5; clear h5)
              go_ret
              exact ⟨rfl, T5.out⟩
            | some d =>
              have hdz := textS_iff.1 HO.out
              have hdl := wordL_ge d
              rw [hdz] at hdl
              have HWD : Hid (∀ W, Sat W F → Calls Tryd.prog 17 #[kL d] W (Ret (kL z) (fun W => Sat W F))) := Lib.hid (fun W hW => by
                have h := word_at hW d (by have := HZ.out; omega)
                rw [hdz] at h
                exact h)
              clear hdz hdl
              go_wp2_with (first
                | (go_at_call 17; refine (HWD.out _ T5.out).mono ?_; rintro e w6 ⟨rfl, h6⟩; have T6 := Lib.hid h6; clear h6)
                | (go_at_call 10; refine (HTZ2.out).mono ?_; rintro e w5 ⟨rfl, h5⟩; have T5 := Lib.hid h5; clear h5))
              go_ret
              exact ⟨rfl, T6.out⟩
      · have kz : (8192 : Int) < (z.length : Int) := by omega
        clear hx hy hz
        go_enter Tryd.func6, Tryd.ntmps6
        go_wp2_with (go_at_call 7; refine (HA.out).mono ?_; rintro e w1 ⟨rfl, h1⟩; have T1 := Lib.hid h1; clear h1)
        go_ret
        exact ⟨rfl, T1.out⟩
    · have ky : (8192 : Int) < (y.length : Int) := by omega
      clear hx hy
      go_enter Tryd.func6, Tryd.ntmps6
      go_wp2_with (go_at_call 7; refine (HA.out).mono ?_; rintro e w1 ⟨rfl, h1⟩; have T1 := Lib.hid h1; clear h1)
      go_ret
      exact ⟨rfl, T1.out⟩
  · have kx : (8192 : Int) < (x.length : Int) := by omega
    clear hx
    go_enter Tryd.func6, Tryd.ntmps6
    go_wp2_with (go_at_call 7; refine (HA.out).mono ?_; rintro e w1 ⟨rfl, h1⟩; have T1 := Lib.hid h1; clear h1)
    go_ret
    exact ⟨rfl, T1.out⟩
theorem words_law {W : World} (hv : VarsAt W) (a b c : ByteArray) : Calls Tryd.prog 6 #[.string a, .string b, .string c] W (Ret (.bool true) (Below W.heap.size W)) := by
  have h : Calls Tryd.prog 6 #[.string ⟨a.data.toList.toArray⟩, .string ⟨b.data.toList.toArray⟩, .string ⟨c.data.toList.toArray⟩] W (Ret (.bool true) (fun W' => Sat W' (allOf W))) := words_walk (libF_all hv) (sat_all W) a.data.toList b.data.toList c.data.toList
  rw [ba_mk a, ba_mk b, ba_mk c] at h
  exact h.mono (fun e w' h => ⟨h.1, h.2.below⟩)
end Go.Proofs.YtieaamlpadlfeaaDoor
