/- MendBack's end walked: what was undone one by one. Conditions: none. (cut out of Mf5 by mf5cut.py) -/
import Derived.Test.YtficgjklagnbjaaGreatMp19
import Derived.Test.YtficgjklagnbjaaGreatMd3K
namespace Go.Proofs.YtficgjklagnbjaaGreat
open Go Go.MapKept Go.RowKit Go.Proofs Go.Shelf Go.Sort

attribute [local go_sem] Oper.semAt_some

/-- The first region of a code. -/
def leadR : Code → Option Nat
  | .region j _ _ => some j
  | .seq a _ => leadR a
  | .block _ c => leadR c
  | .loop c => leadR c
  | .scope c => leadR c
  | _ => none
/-- The code from a region on, as far as its sequence goes. -/
def codeFrom (k : Nat) : Code → Option Code
  | .seq a b => if leadR (.seq a b) = some k then some (.seq a b) else match codeFrom k a with
    | some c => some c
    | none => codeFrom k b
  | .block _ c => codeFrom k c
  | .loop c => codeFrom k c
  | .scope c => codeFrom k c
  | .cond _ a b => match codeFrom k a with
    | some c => some c
    | none => codeFrom k b
  | _ => none
noncomputable def backRest : Code := (Tryz.f6.body.bind (codeFrom 32)).getD .skip
set_option maxRecDepth 1000000 in
set_option maxHeartbeats 16000000 in
theorem back_tail (Wi : World) {pb og oc i k0 tg tof tc ln lc nc nbk nof : Nat} {l0 : Option Addr} {OI : List Int} {FR : List HItem} {H H0 : Heaplet} {S' : PS} {P1 : List Lf} {wc : World}
    (HFC : Hid (∀ W, Sat W FR → W.cell? ⟨pb, 0, none⟩ = some (.slice l0 ln lc) ∧ W.cell? ⟨pb, 1, none⟩ = some (.slice (some ⟨nbk, nof, none⟩) 4 nc)))
    (HFE : Hid (∀ W, Sat W FR → ∀ (i : Nat) (q : En), S'.list[i]? = some q → ∃ g off, l0 = some ⟨g, off, none⟩ ∧ EnO W g (off + i * 13) q))
    (HFO : Hid (∀ W, Sat W FR → ∀ (i : Nat) (z : Int), OI[i]? = some z → W.cell? ⟨og, i, none⟩ = some (kI z)))
    (HFH : Hid (∀ W K, Sat W (K ++ FR) → Sat W H ∧ Sat W H0)) (HFB : Hid (∀ W, Sat W FR → RowKit.Below Wi.heap.size Wi W))
    (HBF : Hid (∀ (i3 : Nat) (z : Int), OI[i3]? = some z → ∃ j3 : Nat, z = (j3 : Int) ∧ j3 < ln ∧ (j3 < k0 + 1 → ∃ (x : En) (n : Nat), S'.list[j3]? = some x ∧ n < 4 ∧ x.page = (n : Int) ∧ ∀ q : Nat, atM (pgAt S'.now n) q = atM (pgAt P1 n) q)))
    (HNW : Hid (∀ n, n < 4 → ∃ sa sc, SlAt H (.slice sa (pgAt S'.now n).slots.length sc) (pgAt S'.now n).slots ∧ goodP (pgAt S'.now n) = true ∧ ∀ w, Sat w H → w.cell? ⟨nbk, nof + n * 3 + 1, none⟩ = some (kI (pgAt S'.now n).lsn) ∧ w.cell? ⟨nbk, nof + n * 3 + 2, none⟩ = some (.slice sa (pgAt S'.now n).slots.length sc))) (HTN : Hid (∀ n, n < 4 → ∃ sa sc, SlAt H0 (.slice sa (pgAt P1 n).slots.length sc) (pgAt P1 n).slots ∧ goodP (pgAt P1 n) = true ∧ ∀ w, Sat w H0 → w.cell? ⟨tg, tof + n * 3 + 1, none⟩ = some (kI (pgAt P1 n).lsn) ∧ w.cell? ⟨tg, tof + n * 3 + 2, none⟩ = some (.slice sa (pgAt P1 n).slots.length sc))) (HSF : Hid (Sat wc FR)) (hl9 : (ln : Int) ≤ 1000) (HOL : Hid (OI.length = i)) (hi80 : (i : Int) ≤ 80) (i0 : (0 : Int) ≤ (i : Int)) (j0 : (0 : Int) ≤ (k0 : Int))
    {s0 s1 s2 s3 s4 s5 s6 s8 s9 s11 s12 s13 s15 s16 s18 s19 s20 s21 s22 s23 s24 s25 s26 s27 s28 s29 s30 s31 s32 s33 s34 s35 s36 s37 s38 s39 s40 s41 s42 s43 s44 s45 s46 s47 s48 s49 s50 s51 s52 s53 s54 s55 s56 s57 s58 s59 s60 s61 s62 s63 s64 s65 s66 s67 s68 s69 s70 s71 s72 s73 s74 s75 s76 s77 s78 s79 s80 s81 s82 s83 s84 s85 s86 s87 s88 s89 s90 s91 s92 s93 s94 s95 s96 s97 s98 s99 s100 s101 s102 s103 s104 s105 s106 s107 s108 s109 s110 s111 s112 s113 s114 s115 s116 s117 s118 s119 s120 s121 s122 s123 s124 s125 s126 s127 s128 s129 s130 s131 s132 s133 s134 s135 s136 s137 s138 s139 s140 s141 s142 s143 s144 s145 s146 s147 s148 s149 s150 s151 s152 s153 s154 s155 s156 s157 s158 s159 s160 s161 s162 s163 s164 s165 s166 s167 s168 s169 s170 s171 s172 s173 s174 s175 s176 s177 s178 s179 s180 s181 s182 s183 s184 s185 s186 s187 s188 s189 s190 s191 s192 s193 s194 s195 s196 s197 s198 s199 s200 s201 s202 s203 s204 s205 s206 s207 s208 s209 s210 s211 s212 s213 s214 s215 s216 s217 s218 s219 s220 s221 s222 s223 s224 s225 s226 s227 s228 s229 s230 s231 s232 s233 s234 s235 s236 s237 s238 s239 s240 s241 s242 s243 : Value} :
    Code.wp Tryz.prog backRest (bodyPost Tryz.prog Tryz.f6 (Ret (.bool true) (RowKit.Below Wi.heap.size Wi))) ⟨#[s0, s1, s2, s3, s4, s5, s6, .pointer (some ⟨pb, 0, none⟩), s8, s9, .slice (some ⟨og, 0, none⟩) i oc, s11, s12, s13, kI (k0 : Int), s15, s16, .slice (some ⟨tg, tof, none⟩) 4 tc, s18, s19, s20, s21, s22, s23, s24, s25, s26, s27, s28, s29, s30, s31, s32, s33, s34, s35, s36, s37, s38, s39, s40, s41, s42, s43, s44, s45, s46, s47, s48, s49, s50, s51, s52, s53, s54, s55, s56, s57, s58, s59, s60, s61, s62, s63, s64, s65, s66, s67, s68, s69, s70, s71, s72, s73, s74, s75, s76, s77, s78, s79, s80, s81, s82, s83, s84, s85, s86, s87, s88, s89, s90, s91, s92, s93, s94, s95, s96, s97, s98, s99, s100, s101, s102, s103, s104, s105, s106, s107, s108, s109, s110, s111, s112, s113, s114, s115, s116, s117, s118, s119, s120, s121, s122, s123, s124, s125, s126, s127, s128, s129, s130, s131, s132, s133, s134, s135, s136, s137, s138, s139, s140, s141, s142, s143, s144, s145, s146, s147, s148, s149, s150, s151, s152, s153, s154, s155, s156, s157, s158, s159, s160, s161, s162, s163, s164, s165, s166, s167, s168, s169, s170, s171, s172, s173, s174, s175, s176, s177, s178, s179, s180, s181, s182, s183, s184, s185, s186, s187, s188, s189, s190, s191, s192, s193, s194, s195, s196, s197, s198, s199, s200, s201, s202, s203, s204, s205, s206, s207, s208, s209, s210, s211, s212, s213, s214, s215, s216, s217, s218, s219, s220, s221, s222, s223, s224, s225, s226, s227, s228, s229, s230, s231, s232, s233, s234, s235, s236, s237, s238, s239, s240, s241, s242, s243], []⟩ wc := by
  conv => arg 2; whnf
  go_wp2_with fail
  go_loopw [23] (fun v23 wr => ∃ i3 : Nat, i3 ≤ i ∧ v23 = .int .i64 i3 ∧ Sat wr FR) (fun v23 _ => 1000 - (RowKit.intOf v23).toNat)
  case atStart => exact ⟨0, by omega, rfl, HSF.out⟩
  case round =>
    clear HSF
    obtain ⟨i3, hi3, rfl, hs⟩ := hrel
    have b0 : (0 : Int) ≤ (i3 : Int) := by omega
    by_cases hil3 : i3 < i
    · have b1 : (i3 : Int) < (i : Int) := by omega
      obtain ⟨z, hzi⟩ : ∃ z, OI[i3]? = some z := ⟨_, List.getElem?_eq_getElem (by have := HOL.out; omega)⟩
      obtain ⟨j3, rfl, hj3, hf3⟩ := HBF.out i3 z hzi
      have hoc := HFO.out _ hs i3 _ hzi
      by_cases hle : j3 < k0 + 1
      · obtain ⟨x, n, hx, hn, hxp, hat⟩ := hf3 hle
        have b2 : (j3 : Int) ≤ (k0 : Int) := by omega
        have p0 := (HFC.out _ hs).1
        obtain ⟨eg, eo, rfl, _, _, _, _, _, _, e6, _⟩ := HFE.out _ hs j3 x hx
        rw [hxp] at e6
        have b3 : (0 : Int) ≤ (j3 : Int) := by omega
        have b4 : (j3 : Int) < (ln : Int) := by omega
        obtain ⟨sa, sc, hsv, hgp, hu⟩ := HNW.out n hn
        obtain ⟨fa, fc, hfv, hfp, hfu⟩ := HTN.out n hn
        have HSN : Hid (∀ nd, Sat (wr.drewN nd) FR) := Lib.hid (fun nd => hs.grown (Grown.drewN wr nd))
        have HAT0 := Lib.hid hat
        have HXP := Lib.hid hxp
        have HPP := Lib.hid (And.intro hsv (And.intro hgp (And.intro hu (And.intro hfv (And.intro hfp hfu)))))
        have n0 : (0 : Int) ≤ (n : Int) := by omega
        have n4 : (n : Int) < 4 := by omega
        clear hzi hf3 hle hx hxp hat hs hsv hgp hu hfv hfp hfu
        go_upto_region 35 with (fail)
        go_quiet (fail)
        clear hoc p0 e6 b2
        have HS5 := Lib.hid (HSN.out nq)
        generalize wr.drewN nq = wr5 at *
        clear HSN
        go_wp2_with fail
        go_loopw [25] (fun v25 wr => ∃ k : Nat, k ≤ 5 ∧ v25 = .int .i64 k ∧ Sat wr FR) (fun v25 _ => 100 - (RowKit.intOf v25).toNat)
        case atStart => exact ⟨0, by omega, rfl, HS5.out⟩
        case round =>
          clear HS5
          obtain ⟨k, hk5, rfl, hs⟩ := hrel
          have k0' : (0 : Int) ≤ (k : Int) := by omega
          by_cases hkl : k < 5
          · have k1 : (k : Int) < 5 := by omega
            obtain ⟨hsv, hgp, hu, hfv, hfp, hfu⟩ := HPP.out
            obtain ⟨sA, hsA⟩ : ∃ sA, atM (pgAt S'.now n) (k : Int) = sA := ⟨_, rfl⟩
            have hsB : atM (pgAt P1 n) (k : Int) = sA := by rw [← hsA]; exact (HAT0.out k).symm
            have HAT1 : Hid (∀ W K, Sat W (K ++ FR) → Calls Tryz.prog 16 #[pgV (pgAt S'.now n).lsn (.slice sa (pgAt S'.now n).slots.length sc), .int .i64 (k : Int)] W (Ret (slV sA) (Below W.heap.size W))) := Lib.hid (fun W K hW => by
              have := at_any (k : Int) (hsv.mono (fun w hw => (HFH.out w K hw).1)) hW (good_bd hgp).1 (good_bd hgp).2.1 (good_bd hgp).2.2
              rw [hsA] at this; exact this)
            have HAT2 : Hid (∀ W K, Sat W (K ++ FR) → Calls Tryz.prog 16 #[pgV (pgAt P1 n).lsn (.slice fa (pgAt P1 n).slots.length fc), .int .i64 (k : Int)] W (Ret (slV sA) (Below W.heap.size W))) := Lib.hid (fun W K hW => by
              have := at_any (k : Int) (hfv.mono (fun w hw => (HFH.out w K hw).2)) hW (good_bd hfp).1 (good_bd hfp).2.1 (good_bd hfp).2.2
              rw [hsB] at this; exact this)
            have hcell : ∀ W, Sat W FR → W.cell? ⟨pb, 1, none⟩ = some (.slice (some ⟨nbk, nof, none⟩) 4 nc) ∧ W.cell? ⟨nbk, nof + n * 3 + 1, none⟩ = some (kI (pgAt S'.now n).lsn) ∧ W.cell? ⟨nbk, nof + n * 3 + 2, none⟩ = some (.slice sa (pgAt S'.now n).slots.length sc) ∧ W.cell? ⟨tg, tof + n * 3 + 1, none⟩ = some (kI (pgAt P1 n).lsn) ∧ W.cell? ⟨tg, tof + n * 3 + 2, none⟩ = some (.slice fa (pgAt P1 n).slots.length fc) := fun W hW => by
              obtain ⟨q1, q2⟩ := HFH.out W [] hW
              exact ⟨(HFC.out W hW).2, (hu W q1).1, (hu W q1).2, (hfu W q2).1, (hfu W q2).2⟩
            have HC2 := Lib.hid hcell
            have K1 := Lib.hid (hcell _ hs)
            have K2 := Lib.hid (hcell _ hs.drew)
            have HSD := Lib.hid hs.drew
            have hne := ne_sl sA sA
            have hgu := fun (x y : Operand) (W : World) => guard_sl sA sA W x y
            clear hcell hs hsv hgp hu hfv hfp hfu hsA hsB
            generalize pgAt S'.now n = pN at *
            generalize pgAt P1 n = pT at *
            go_upto_region 39 with (fail)
            go_region_held3 (fun w' => w'.cell? ⟨pb, 1, none⟩ = some (.slice (some ⟨nbk, nof, none⟩) 4 nc) ∧ w'.cell? ⟨nbk, nof + n * 3 + 1, none⟩ = some (kI pN.lsn) ∧ w'.cell? ⟨nbk, nof + n * 3 + 2, none⟩ = some (.slice sa pN.slots.length sc) ∧ w'.cell? ⟨tg, tof + n * 3 + 1, none⟩ = some (kI pT.lsn) ∧ w'.cell? ⟨tg, tof + n * 3 + 2, none⟩ = some (.slice fa pT.slots.length fc))
              (with_reducible first | exact K1.out | exact K2.out | exact K3.out | exact K4.out)
              (first
                | (go_at_call 16
                   with_reducible refine (HAT1.out _ [] HSD.out).mono ?_
                   rintro e w4 ⟨rfl, hb⟩
                   have HS4 := Lib.hid (HSD.out.monoB hb)
                   have K3 := Lib.hid (HC2.out _ HS4.out))
                | (go_at_call 16
                   with_reducible refine (HAT2.out _ [] HS4.out).mono ?_
                   rintro e w5 ⟨rfl, hb2⟩
                   have HS5 := Lib.hid (HS4.out.monoB hb2)
                   have K4 := Lib.hid (HC2.out _ HS5.out)))
            all_goals
              have hd : decide (sA ≠ sA) = false := by simp
              have FIN := Lib.hid HS5.out
              clear K1 K2 K3 K4 HAT1 HAT2 HC2 hne hgu HS4 HS5 HSD hb hb2
              go_wp2_with fail
              exact ⟨⟨k + 1, by omega, by simp, FIN.out⟩, by simp only [RowKit.intOf]; omega⟩
          · have e5 : k = 5 := by omega
            have k1 : ((k : Int) < 5) = False := eq_false (by omega)
            have FIN := Lib.hid hs
            clear hs e5 hk5 hkl
            go_wp2_with fail
            exact ⟨⟨i3 + 1, by omega, by simp, FIN.out⟩, by simp only [RowKit.intOf]; omega⟩
      · have b2 : ((j3 : Int) ≤ (k0 : Int)) = False := eq_false (by omega)
        have FIN := Lib.hid (HFB.out _ hs)
        clear hs hf3 hzi hle
        go_wp2_with fail
        go_ret
        exact ⟨rfl, FIN.out⟩
    · obtain rfl : i3 = i := by omega
      have b1 : ((i3 : Int) < (i3 : Int)) = False := eq_false (by omega)
      have FIN := Lib.hid (HFB.out _ hs)
      clear hs
      go_wp2_with fail
      go_ret
      exact ⟨rfl, FIN.out⟩
end Go.Proofs.YtficgjklagnbjaaGreat
