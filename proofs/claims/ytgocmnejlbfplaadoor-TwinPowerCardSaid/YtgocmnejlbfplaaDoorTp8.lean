/- TwinPower walked. Conditions: none. -/
import Derived.Test.YtgocmnejlbfplaaDoorTq2
namespace Go.Proofs.YtgocmnejlbfplaaDoor
open Go Go.MapKept Go.RowKit Go.Proofs

attribute [local go_sem] Oper.semAt_some

theorem LaidOk.fitP {lsn : Int} {L : List Lf} (h : LaidOk lsn L) (hl : 0 ≤ lsn ∧ lsn ≤ 1000) : FitP L := fun p hp => by
  obtain ⟨_, _, c, e⟩ := h.at5 p hp
  rw [e]
  refine ⟨show 1 ≤ 1000 by omega, fun x hx => ?_, show _ ≤ lsn by omega, show lsn ≤ _ by omega⟩
  obtain rfl : x = (true, ⟨#[c]⟩) := by simpa [imgP] using hx
  show 1 ≤ 1000000
  omega
set_option maxRecDepth 100000 in
set_option maxHeartbeats 8000000 in
theorem power_any {ga p0 p1 : Option Addr} {gn gc l0 c0 l1 c1 : Nat} {A0 A1 : Nat → Int} {F : Heaplet} {w : World} (hg : GrAt F ga gn) (hgl : gn ≤ 9223372036854775807) (hi0 : IsAt F p0 l0 A0) (hl0 : (l0 : Int) ≤ 9223372036854775807) (hi1 : IsAt F p1 l1 A1) (hl1 : (l1 : Int) ≤ 9223372036854775807) (hs : Sat w F) :
    Calls Tryd.prog 4 #[.slice ga gn gc, .agg #[.slice p0 l0 c0, .slice p1 l1 c1]] w (Ret (.bool true) (Below w.heap.size w)) := by
  have h1 := (sat_all w).new (.cells #[.slice p0 l0 c0, .slice p1 l1 c1] 48)
  obtain ⟨bx, hbx⟩ : ∃ bx, w.heap.size = bx := ⟨_, rfl⟩
  rw [hbx] at h1 ⊢
  obtain ⟨G, hG⟩ : ∃ G, HItem.blk bx (.cells #[.slice p0 l0 c0, .slice p1 l1 c1] 48) :: allOf w = G := ⟨_, rfl⟩
  rw [hG] at h1
  have hGF : ∀ W, Sat W G → Sat W F := fun W hW => by
    rw [← hG] at hW
    exact hs.monoB hW.tail.below
  have HGR : Hid (GrAt G ga gn) := Lib.hid (fun i hi => by
    obtain ⟨b, off, p, len, cap, A, c, e, hI, hl, hw⟩ := hg i hi
    exact ⟨b, off, p, len, cap, A, c, e, hI.mono hGF, hl, fun w s => hw w (hGF w s)⟩)
  have HI0 := Lib.hid (hi0.mono hGF)
  have HI1 := Lib.hid (hi1.mono hGF)
  have HB : Hid (∀ W, Sat W G → Below bx w W) := Lib.hid (fun W hW => by
    rw [← hG] at hW
    rw [← hbx]
    exact hW.tail.below)
  have HX : Hid (∀ W, Sat W G → W.cell? ⟨bx, 0, none⟩ = some (.slice p0 l0 c0) ∧ W.cell? ⟨bx, 1, none⟩ = some (.slice p1 l1 c1)) := Lib.hid (fun W hW => by
    rw [← hG] at hW
    refine ⟨?_, ?_⟩ <;> (rw [cell_of hW.h0]; rfl))
  have HAW := Lib.hid (awake8 G _ h1)
  have hgn9 : (gn : Int) ≤ 9223372036854775807 := by omega
  clear hg hs hi0 hi1 h1 hG hGF hgl
  obtain ⟨PB, hPB⟩ : ∃ PB : World → Prop, Below bx w = PB := ⟨_, rfl⟩
  rw [hPB] at HB ⊢
  clear hPB
  go_enter Tryd.func4, Tryd.ntmps4
  go_upto_region 3 with (go_at_call 5; refine (HAW.out).mono ?_; rintro e w2 ⟨rfl, hs2⟩; have HNW := Lib.hid (plate_new G 16 w2 hs2); clear hs2)
  clear HAW
  have HOP : Hid (∀ pb W, PlateIs pb (newM 16) G W → _) := Lib.hid (fun pb W hW => fresh_open (N := 16) (frm := 0) (twins := 3) (k := 5) (by decide) (by decide) (by decide) (by decide) (by decide) (by decide) (by decide) hW)
  have HS8 := Lib.hid St8.new
  generalize newT 0 3 5 = S0 at HOP HS8
  generalize newM 16 = M0 at HNW HOP HS8
  go_upto_region 4 with (go_at_call 7; refine (HNW.out).mono ?_; rintro e w4 ⟨pb, rfl, hp1⟩; have HP1 := Lib.hid hp1; clear hp1)
  clear HNW
  go_upto_region 7 with (go_at_call 8; refine (HOP.out _ _ HP1.out).mono ?_; rintro e w5 ⟨tb, rfl, hs5⟩; have HS5 := Lib.hid hs5; clear hs5)
  clear HOP HP1
  have hmk : ∀ w, (Instr.makeSlice 49 (.int .i64 5) (.int .i64 5)).run Tryd.prog w = .ok (.slice (some ⟨w.heap.size, 0, none⟩) 5 5) (w.alloc (.cells #[kI 0, .slice none 0 0, kI 0, .slice none 0 0, kI 0, .slice none 0 0, kI 0, .slice none 0 0, kI 0, .slice none 0 0] 25)) := fun _ => by kernel_rfl
  go_upto_region 8 with (fail)
  clear hmk
  have HS6 := Lib.hid (HS5.out.new (.cells #[kI 0, .slice none 0 0, kI 0, .slice none 0 0, kI 0, .slice none 0 0, kI 0, .slice none 0 0, kI 0, .slice none 0 0] 25))
  have HR6 := Lib.hid (RowAt.new w5.heap.size)
  clear HS5
  generalize w5.heap.size = gw at *
  generalize w5.alloc (.cells #[kI 0, .slice none 0 0, kI 0, .slice none 0 0, kI 0, .slice none 0 0, kI 0, .slice none 0 0, kI 0, .slice none 0 0] 25) = W6 at *
  obtain ⟨x0, x1⟩ := HX.out _ HS6.out.frame.tail
  have l00 : (0 : Int) ≤ (l0 : Int) := by omega
  go_upto_if 34 with (fail)
  go_cut [] (fun wx => Main8 pb G 0 (.pointer (some ⟨tb, 0, none⟩)) (.slice (some ⟨gw, 0, none⟩) 5 5) wx)
  case first =>
    by_cases h0 : 0 < l0
    · have l01 : (0 : Int) < (l0 : Int) := by omega
      obtain ⟨b, off, rfl, _, hu⟩ := HI0.out 0 h0
      have u0 := hu _ HS6.out.frame.tail
      rw [Nat.add_zero] at u0
      obtain ⟨am, ham, ham0, ham1⟩ : ∃ m, RowKit.wrap64 ((IntKind.u64.wrap (A0 0)).tmod 40) = m ∧ 0 ≤ m ∧ m < 40 := ⟨_, rfl, umod_bd (A0 0) 40 (by decide) (by decide)⟩
      have HARM := Lib.hid (HS6.out.arm am)
      clear hu
      go_wp2_with (go_at_call 14; rw [ham]; refine (HARM.out).mono ?_; rintro e w7 ⟨rfl, hs7⟩; have FIN : Hid (Main8 pb G 0 (.pointer (some ⟨tb, 0, none⟩)) (.slice (some ⟨gw, 0, none⟩) 5 5) w7) := Lib.hid ⟨tb, S0, _, _, _, [], rfl, HS8.out.arm (n := am) (by omega), HR6.out, hs7⟩; clear hs7)
      go_meet
      exact FIN.out
    · have h00 : (0 < l0) = False := eq_false h0
      have FIN : Hid (Main8 pb G 0 (.pointer (some ⟨tb, 0, none⟩)) (.slice (some ⟨gw, 0, none⟩) 5 5) W6) := Lib.hid ⟨tb, S0, _, _, _, [], rfl, HS8.out, HR6.out, HS6.out⟩
      clear HS6 HR6 HS8
      go_wp2_with fail
      go_meet
      exact FIN.out
  case rest =>
    have HCUT := Lib.hid hcut
    clear hcut HS6 HR6 HS8 x0 x1 l00
    go_upto_block 0 with (fail)
    go_wp2_with fail
    go_loopw [6, 8, 9, 10] (fun v6 v8 v9 v10 wx => ∃ i k : Nat, i ≤ gn ∧ i ≤ 30 ∧ k ≤ 5 ∧ v10 = .int .i64 i ∧ v9 = .int .i64 k ∧ Main8 pb G i v6 v8 wx) (fun _ _ _ v10 _ => 100 - (RowKit.intOf v10).toNat)
    case atStart => exact ⟨0, 0, by omega, by omega, by omega, rfl, rfl, HCUT.out⟩
    case round =>
      clear HCUT
      obtain ⟨i, k, hi, hi30, hk5, rfl, rfl, tb2, S, M, was, h, K, rfl, hst8, hrow, hst⟩ := hrel
      have HT8 := Lib.hid hst8
      have HROW := Lib.hid hrow
      have HST := Lib.hid hst
      clear hst8 hrow hst
      have i0 : (0 : Int) ≤ (i : Int) := by omega
      by_cases hgo : i < gn ∧ i < 30
      · have i1 : (i : Int) < (gn : Int) := by omega
        have i2 : (i : Int) < 30 := by omega
        obtain ⟨gb, goff, p, len, cap, A, c, rfl, hI, hln, hu⟩ := HGR.out i hgo.1
        obtain ⟨u0, u1⟩ := hu _ HST.out.frame.right.right
        have HLD := Lib.hid (HST.out.laid (cap := cap) (hI.mono (fun W hW => hW.right.right)) hln c ((i : Int) + 1))
        have HGO := Lib.hid hgo
        clear hI hu hln hgo hi hi30
        go_upto_region 15 with (go_at_call 15; refine (HLD.out).mono ?_; rintro e w8 ⟨la, lc, L, hL, rfl, ho, hok, hs8⟩; have HO := Lib.hid ho; have HOK := Lib.hid hok; have HS8' := Lib.hid hs8; clear ho hok hs8)
        clear HLD u0 u1 HST
        obtain ⟨nv, w9, hn, hap, hrn, hs9⟩ := StIs.copy (ge := w8.heap.size) (h := h) (G := hL ++ (K ++ G)) (w := w8.alloc (.cells #[] 25)) (by refine (HS8'.out.new (.cells #[] 25)).part (fun a => ?_); simp only [cnt_cons, cnt_append]; omega) HROW.out
        obtain ⟨gq, cq, rfl, -⟩ := hrn.read
        have HAP := Lib.hid hap
        have HRN := Lib.hid (hrn.mono (K' := hL ++ K) (fun W hW => hW.right))
        have HRW := Lib.hid (HROW.out.mono (K' := hL ++ K) (fun W hW => hW.right))
        have HS9 := Lib.hid hs9
        clear hap hrn hs9 HS8' HROW
        go_upto_block 2 with (at_builtin; refine wpList_append_run rfl _ _ _ _ rfl _ _ _ _ rfl rfl HAP.out ?_)
        clear HAP
        go_wp2_with fail
        go_loopw [13] (fun v13 wx => ∃ (j : Nat) (hq : Heaplet), j ≤ L.length ∧ v13 = .int .i64 j ∧ RowAt (.slice (some ⟨gq, 0, none⟩) 5 cq) (nowF was (L.take j)) hq (hL ++ K) ∧ StIs tb2 pb S M (hq ++ (h ++ (hL ++ (K ++ G)))) wx) (fun v13 _ => 100 - (RowKit.intOf v13).toNat)
        case atStart => exact ⟨0, hn, by omega, rfl, HRN.out, HS9.out⟩
        case round =>
          clear HS9 HRN
          obtain ⟨j, hq, hj, rfl, hrq, hsj⟩ := hrel
          have HRQ := Lib.hid hrq
          have HSJ := Lib.hid hsj
          clear hrq hsj
          have j0 : (0 : Int) ≤ (j : Int) := by omega
          have hl3 : L.length ≤ 3 := HOK.out.le
          by_cases hjl : j < L.length
          · have j1 : (j : Int) < (L.length : Int) := by omega
            obtain ⟨q, hqj⟩ : ∃ q, L[j]? = some q := ⟨_, List.getElem?_eq_getElem hjl⟩
            obtain ⟨q0, q5, cc, qe⟩ := HOK.out.at5 q (List.mem_of_getElem? hqj)
            obtain ⟨a', c', e', hcc⟩ := HO.out.at []
            simp only [Value.slice.injEq] at e'
            obtain ⟨rfl, _, rfl⟩ := e'
            obtain ⟨g9, off9, sv, rfl, hsv, hu⟩ := hcc j q hqj
            have htk : L.take (j + 1) = L.take j ++ [q] := by rw [List.take_add_one, hqj]; rfl
            have hnf : nowF was (L.take (j + 1)) = fun i => if i = q.1.toNat then q.2 else nowF was (L.take j) i := by
              rw [htk]
              exact nowF_snoc (by rw [← htk, List.map_take]; exact HOK.out.nd.sublist (List.take_sublist _ _)) q0
            obtain ⟨nn, hnn⟩ : ∃ nn : Nat, q.1 = (nn : Int) := ⟨q.1.toNat, by omega⟩
            have hn5 : nn < 5 := by omega
            obtain ⟨sa, sc, rfl, -⟩ := id hsv
            have hL9 : ∀ W, Sat W (hq ++ (h ++ (hL ++ (K ++ G)))) → Sat W (hL ++ []) := fun W hW => by rw [List.append_nil]; exact hW.right.right.lft
            obtain ⟨hq2, hr2, hs2⟩ := StIs.rowSet HSJ.out HRQ.out hn5 (hsv.mono (F' := hL ++ K) (fun W hW => by rw [List.append_nil]; exact hW.lft))
            obtain ⟨gq', cq', eq', hrd⟩ := HRQ.out.read
            simp only [Value.slice.injEq, Option.some.injEq, Addr.mk.injEq, true_and, and_true] at eq'
            obtain ⟨rfl, rfl⟩ := eq'
            obtain ⟨_, _, _, hrc⟩ := hrd nn hn5
            obtain ⟨y0, y1, fz⟩ := hrc _ _ HSJ.out.frame
            rw [show q.1.toNat = nn from by omega] at hnf
            rw [← hnf] at hr2
            have hu1 := hu _ (hL9 _ HSJ.out.frame)
            have hu2 := hu _ (show Sat _ (hL ++ []) by rw [List.append_nil]; exact hs2.frame.right.right.lft)
            rw [hnn] at hu1 hu2
            obtain ⟨z0, z1, z2⟩ := hu1
            obtain ⟨w0, w1, w2'⟩ := hu2
            have FIN : Hid (j + 1 ≤ L.length ∧ RowAt (.slice (some ⟨gq, 0, none⟩) 5 cq) (nowF was (L.take (j + 1))) hq2 (hL ++ K) ∧ StIs tb2 pb S M (hq2 ++ (h ++ (hL ++ (K ++ G)))) ((wr.setCell ⟨gq, nn * 2, none⟩ (kI q.2.lsn)).setCell ⟨gq, nn * 2 + 1, none⟩ (.slice sa q.2.slots.length sc)).drew) := Lib.hid ⟨hjl, hr2, hs2.below (below_drewN _ 1)⟩
            have K1 : Hid (wr.cell? ⟨g9, off9 + j * 3, none⟩ = some (kI (nn : Int)) ∧ wr.cell? ⟨g9, off9 + j * 3 + 1, none⟩ = some (kI q.2.lsn) ∧ wr.cell? ⟨g9, off9 + j * 3 + 2, none⟩ = some (.slice sa q.2.slots.length sc)) := Lib.hid ⟨z0, z1, z2⟩
            have K2 : Hid (wr.drew.cell? ⟨g9, off9 + j * 3, none⟩ = some (kI (nn : Int)) ∧ wr.drew.cell? ⟨g9, off9 + j * 3 + 1, none⟩ = some (kI q.2.lsn) ∧ wr.drew.cell? ⟨g9, off9 + j * 3 + 2, none⟩ = some (.slice sa q.2.slots.length sc)) := Lib.hid ⟨z0, z1, z2⟩
            have K3 : Hid (((wr.setCell ⟨gq, nn * 2, none⟩ (kI q.2.lsn)).setCell ⟨gq, nn * 2 + 1, none⟩ (.slice sa q.2.slots.length sc)).drew.cell? ⟨g9, off9 + j * 3, none⟩ = some (kI (nn : Int)) ∧ ((wr.setCell ⟨gq, nn * 2, none⟩ (kI q.2.lsn)).setCell ⟨gq, nn * 2 + 1, none⟩ (.slice sa q.2.slots.length sc)).drew.cell? ⟨g9, off9 + j * 3 + 1, none⟩ = some (kI q.2.lsn) ∧ ((wr.setCell ⟨gq, nn * 2, none⟩ (kI q.2.lsn)).setCell ⟨gq, nn * 2 + 1, none⟩ (.slice sa q.2.slots.length sc)).drew.cell? ⟨g9, off9 + j * 3 + 2, none⟩ = some (.slice sa q.2.slots.length sc)) := Lib.hid ⟨w0, w1, w2'⟩
            have hx0 : ∃ u, wr.cell? ⟨gq, nn * 2, none⟩ = some u := ⟨_, y0⟩
            have hx1 : ∃ u, wr.cell? ⟨gq, nn * 2 + 1, none⟩ = some u := ⟨_, y1⟩
            obtain ⟨ux0, hx0⟩ := hx0
            obtain ⟨ux1, hx1⟩ := hx1
            have n0 : (0 : Int) ≤ (nn : Int) := by omega
            have n1 : (nn : Int) < 5 := by omega
            have j9 : j < 100 := by omega
            clear w0 w1 w2' z0 z1 z2 y0 y1 hu hsv hcc hrc hrd hr2 hs2 hnf htk hL9 hnn hn5 hqj q0 q5 qe hl3
            go_upto_region 19 with (fail)
            go_region_held3 (fun W => W.cell? ⟨g9, off9 + j * 3, none⟩ = some (kI (nn : Int)) ∧ W.cell? ⟨g9, off9 + j * 3 + 1, none⟩ = some (kI q.2.lsn) ∧ W.cell? ⟨g9, off9 + j * 3 + 2, none⟩ = some (.slice sa q.2.slots.length sc))
              (with_reducible first | exact K1.out | exact K2.out | exact K3.out)
              (fail)
            all_goals
              clear K1 K2 K3 hx0 hx1 fz
              go_wp2_with fail
              exact ⟨⟨j + 1, hq2, FIN.out.1, by simp, FIN.out.2.1, FIN.out.2.2⟩, by have := FIN.out.1; simp only [RowKit.intOf]; omega⟩
          · obtain rfl : j = L.length := by omega
            have j1 : ((L.length : Int) < (L.length : Int)) = False := eq_false (by omega)
            have hrn := HRQ.out
            rw [List.take_length] at hrn
            have HRN := Lib.hid hrn
            have hF5 := HOK.out.fits ⟨by omega, by have := HGO.out; omega⟩
            have hSt := HT8.out.st
            have hSp : S.pages.length = 5 := by rw [hSt]; simp
            obtain ⟨S', M', hcase⟩ := write_std HT8.out (by have := HGO.out; omega) hF5 (hF5.true hSp (by rw [hSt])) (fun p hp => by
              obtain ⟨_, _, cc, e⟩ := HOK.out.at5 p hp
              rw [e]; rfl)
            have HWC := Lib.hid (twrite_any HSJ.out (v := .slice la L.length lc) ((HO.out.at []).mono (fun W hW => by rw [List.append_nil]; exact hW.right.right.lft)) HT8.out.ok (by have := HGO.out; omega) (by omega) (HOK.out.fitP ⟨by omega, by have := HGO.out; omega⟩) (by rw [hSt]; exact ⟨show (0 : Int) ≤ 0 by omega, show (0 : Int) ≤ 1000000 by omega⟩) (by rw [hSt]; exact ⟨show (0 : Int) ≤ 3 by omega, show (3 : Int) ≤ 64 by omega⟩) (by omega))
            clear hrn hF5 hSt hSp hj hjl HRQ
            rcases hcase with ⟨he, hs8⟩ | ⟨he, hgone⟩
            · rw [he] at HWC
              have HN8 := Lib.hid hs8
              clear he hs8 HSJ HT8
              go_wp2_with (go_at_call 9; refine (HWC.out).mono ?_; rintro e wb ⟨rfl, hsb⟩; have HSB := Lib.hid hsb; clear hsb)
              have hg := HGO.out
              have e1 : (((i + 1 : Nat)) : Int) = (i : Int) + 1 := by omega
              exact ⟨⟨i + 1, k, by omega, by omega, hk5, by rw [e1], rfl, tb2, S', M', nowF was L, hq, hL ++ K, rfl, by rw [e1]; exact HN8.out.mono (by omega) (by omega), HRN.out, HSB.out.part (fun a => by simp only [cnt_append]; omega)⟩, by simp only [RowKit.intOf]; omega⟩
            · rw [he] at HWC
              have HGN := Lib.hid hgone
              have HWS : Hid (∀ n : Nat, n < 5 → (was n).slots.length ≤ 1000 ∧ (nowF was L n).slots.length ≤ 1000) := Lib.hid (fun n hn => by
                refine ⟨HT8.out.gd n hn, ?_⟩
                unfold nowF
                cases hf : L.find? (fun p => p.1 == (n : Int)) with
                | none => exact HT8.out.gd n hn
                | some p =>
                  obtain ⟨_, _, cc, e⟩ := HOK.out.at5 p (List.mem_of_find?_eq_some hf)
                  simp only
                  rw [e]
                  show 1 ≤ 1000
                  omega)
              clear he hgone HT8 HSJ
              obtain ⟨FR, hFR⟩ : ∃ FR, hq ++ (h ++ (hL ++ (K ++ G))) = FR := ⟨_, rfl⟩
              have HFG : Hid (∀ W, Sat W FR → Sat W G) := Lib.hid (fun W hW => by rw [← hFR] at hW; exact hW.right.right.right.right)
              have HFR := Lib.hid hFR
              have HON : Hid (∀ W M9 b, PlateIs pb M9 FR W → PlOk b M9 → Calls Tryd.prog 16 #[.pointer (some ⟨pb, 0, none⟩), .slice p1 l1 c1] W (Ret (.tuple #[]) (PlateIs pb (onM M9 (fateM l1 A1)) FR))) := Lib.hid (fun W M9 b hp hk => on_at hp hk (HI1.out.mono HFG.out) hl1)
              have HWC2 : Hid (Calls Tryd.prog 9 #[.pointer (some ⟨tb2, 0, none⟩), .slice la L.length lc] wr (fun e w' => e = .returned (.int .i64 10) ∧ PlateIs pb M' FR w' ∧ w'.cell? ⟨bx, 0, none⟩ = some (.slice p0 l0 c0) ∧ w'.cell? ⟨bx, 1, none⟩ = some (.slice p1 l1 c1))) := Lib.hid ((HWC.out).mono (fun e w' h9 => by
                obtain ⟨e1, h2⟩ := h9
                have h3 := h2.toPlate
                rw [hFR] at h3
                obtain ⟨x0, x1⟩ := HX.out _ (HFG.out _ h3.frame)
                exact ⟨e1, h3, x0, x1⟩))
              have hok := HGN.out.ok
              obtain ⟨hrc, har⟩ := HGN.out.on (fateM l1 A1)
              have HON1 : Hid (∀ W, PlateIs pb M' FR W → Calls Tryd.prog 16 #[.pointer (some ⟨pb, 0, none⟩), .slice p1 l1 c1] W (Ret (.tuple #[]) (RcA pb (600 * i + 300 + 10 * k) was (nowF was L) ((i : Int) + 1) FR))) := Lib.hid (fun W hp => (HON.out W M' _ hp hok).mono (fun e w' h => by
                obtain ⟨e1, h2⟩ := h
                exact ⟨e1, _, hrc.mono (by omega) (by have := HGO.out; omega), har, h2⟩))
              have HI1F := Lib.hid (HI1.out.mono HFG.out)
              clear hrc har hok HWC HON hFR
              go_upto_block 4 with (first | (go_at_call 9; refine (HWC2.out).mono ?_; rintro e wb ⟨rfl, hsb, x0, x1⟩; have HSB := Lib.hid hsb; clear hsb) | (go_at_call 16; refine (HON1.out _ HSB.out).mono ?_; rintro e wc ⟨rfl, hsc⟩; have HSC := Lib.hid hsc; clear hsc x0 x1))
              clear HWC2 HON1 HSB HGN
              go_wp2_with fail
              go_loopw [9] (fun v9 wx => ∃ k : Nat, k ≤ 5 ∧ v9 = .int .i64 k ∧ RcA pb (600 * i + 300 + 10 * k) was (nowF was L) ((i : Int) + 1) FR wx) (fun v9 _ => 100 - (RowKit.intOf v9).toNat)
              case atStart => exact ⟨k, hk5, rfl, HSC.out⟩
              case round =>
                clear HSC hk5
                obtain ⟨k', hk5, rfl, hra⟩ := hrel
                have HRA := Lib.hid hra
                clear hra
                have k0 : (0 : Int) ≤ (k' : Int) := by omega
                obtain ⟨x0, x1⟩ := HX.out _ (HFG.out _ HRA.out.frame)
                by_cases hk : k' < l0 ∧ k' < 5
                · have k1 : (k' : Int) < (l0 : Int) := by omega
                  have k2 : (k' : Int) < 5 := by omega
                  obtain ⟨ib, ioff, e0, _, hu⟩ := HI0.out k' hk.1
                  subst e0
                  have u0 := hu _ (HFG.out _ HRA.out.frame)
                  have HARM := Lib.hid (fun n hn => HRA.out.arm (n := n) hn)
                  have hb9 : 600 * i + 300 + 10 * k' + 2000 ≤ 100000 := by have := HGO.out; omega
                  have HB9 := Lib.hid hb9
                  have HK9 := Lib.hid hk.2
                  clear hu hk hk5 hb9
                  go_wp2_with (first
                    | (go_at_call 14; refine (HARM.out _ (by first | exact wrap64_hi _ | omega)).mono ?_; rintro e wa ⟨rfl, ha⟩; have HA1 := Lib.hid ha; clear ha)
                    | (go_at_call 8; refine (HA1.out.open HB9.out).mono ?_; rintro e wo ⟨⟨v, rfl⟩, ho⟩; have HO1 := Lib.hid ho; clear ho)
                    | (go_at_call 17; refine (HO1.out.off HB9.out).mono ?_; rintro e wf ⟨rfl, hf⟩; have HF1 := Lib.hid hf; obtain ⟨x2, x3⟩ := HX.out _ (HFG.out _ hf.frame); clear hf)
                    | (go_at_call 16; refine (HF1.out.on HB9.out HI1F.out hl1).mono ?_; rintro e wn ⟨rfl, hn⟩; have HN1 := Lib.hid hn; clear hn))
                  exact ⟨⟨k' + 1, by have := HK9.out; omega, by simp, HN1.out.mono (by omega) (by have := HB9.out; omega)⟩, by simp only [RowKit.intOf]; have := HK9.out; omega⟩
                · go_upto_region 26 with (fail)
                  go_cut [102] (fun v wx => v = .bool false ∧ wx = wr)
                  case first =>
                    by_cases h1 : k' < l0
                    · have k1 : (k' : Int) < (l0 : Int) := by omega
                      obtain rfl : k' = 5 := by omega
                      clear hk hk5 k0
                      go_wp2_with fail
                      go_meet
                      exact ⟨rfl, rfl⟩
                    · have k1 : ((k' : Int) < (l0 : Int)) = False := eq_false (by omega)
                      clear hk hk5
                      go_wp2_with fail
                      go_meet
                      exact ⟨rfl, rfl⟩
                  case rest =>
                    obtain ⟨rfl, rfl⟩ := hcut
                    have hb9 : 600 * i + 300 + 10 * k' + 2000 ≤ 100000 := by have := HGO.out; omega
                    have HOP := Lib.hid (HRA.out.open hb9)
                    have HK5 := Lib.hid hk5
                    clear hk hb9 HRA x0 x1 k0 hk5
                    go_upto_block 6 with (go_at_call 8; refine (HOP.out).mono ?_; rintro e wd ⟨tb3, pg, rfl, hpg, hsd⟩; have HPG := Lib.hid hpg; have HSD := Lib.hid hsd; clear hpg hsd)
                    clear HOP
                    obtain ⟨g8, c8, e8, -⟩ := HRW.out.read
                    subst e8
                    have hPK : Pick8 tb3 pb (600 * i + 300 + 10 * k' + 8) pg was (nowF was L) ((i : Int) + 1) G (.slice (some ⟨g8, 0, none⟩) 5 c8) (.slice (some ⟨gq, 0, none⟩) 5 cq) 0 wd := by
                      have hs := HSD.out
                      rw [← HFR.out] at hs
                      exact ⟨h, hq, hL ++ K, HRW.out.congr (fun n _ => by simp), HRN.out, hs.part (fun a => by simp only [cnt_append]; omega)⟩
                    have HPK := Lib.hid hPK
                    clear hPK HSD
                    go_wp2_with fail
                    go_loopw [14] (fun v14 wx => ∃ n : Nat, n ≤ 5 ∧ v14 = .int .i64 n ∧ Pick8 tb3 pb (600 * i + 300 + 10 * k' + 8) pg was (nowF was L) ((i : Int) + 1) G (.slice (some ⟨g8, 0, none⟩) 5 c8) (.slice (some ⟨gq, 0, none⟩) 5 cq) n wx) (fun v14 _ => 100 - (RowKit.intOf v14).toNat)
                    case atStart => exact ⟨0, by omega, rfl, HPK.out⟩
                    case round =>
                      clear HPK
                      obtain ⟨n, hn, rfl, hpk⟩ := hrel
                      by_cases hn5 : n < 5
                      · have n0 : (0 : Int) ≤ (n : Int) := by omega
                        have n1 : (n : Int) < 5 := by omega
                        obtain ⟨h6, hq6, K6, hr8, hr12, hst⟩ := hpk
                        obtain ⟨g8', c8', e8, hcell8⟩ := hr8.read
                        simp only [Value.slice.injEq, Option.some.injEq, Addr.mk.injEq, true_and, and_true] at e8
                        obtain ⟨rfl, rfl⟩ := e8
                        obtain ⟨sa8, sc8, hsl8, hce8⟩ := hcell8 n hn5
                        obtain ⟨gr, cr, er, hcell12⟩ := hr12.read
                        simp only [Value.slice.injEq, Option.some.injEq, Addr.mk.injEq, true_and, and_true] at er
                        obtain ⟨rfl, rfl⟩ := er
                        obtain ⟨sa12, sc12, hsl12, hce12⟩ := hcell12 n hn5
                        rw [if_neg (by omega)] at hsl8 hce8
                        have hrd := hst.read n hn5
                        have hpgn := HPG.out n hn5
                        have hz1 := hst.small hn5
                        obtain ⟨hz2, hz3⟩ := HWS.out n hn5
                        obtain ⟨p, hp⟩ : ∃ p, pg n = p := ⟨_, rfl⟩
                        obtain ⟨q, hq'⟩ : ∃ q, was n = q := ⟨_, rfl⟩
                        obtain ⟨r, hr'⟩ : ∃ r, nowF was L n = r := ⟨_, rfl⟩
                        rw [hp] at hrd hpgn hz1
                        rw [hq'] at hsl8 hce8 hpgn hz2
                        rw [hr'] at hsl12 hce12 hpgn hz3
                        have HRD := Lib.hid hrd
                        have HPQ := Lib.hid hpgn
                        have HP := Lib.hid hp
                        have HZ1 := Lib.hid hz1
                        have HZ2 := Lib.hid hz2
                        have HZ3 := Lib.hid hz3
                        have HS8 := Lib.hid hsl8
                        have HS12 := Lib.hid hsl12
                        have HC8 := Lib.hid hce8
                        have HC12 := Lib.hid hce12
                        have HRO8 := Lib.hid hr8
                        have HRO12 := Lib.hid hr12
                        have HN5 := Lib.hid hn5
                        clear hrd hpgn hp hz1 hz2 hz3 hsl8 hsl12 hce8 hce12 hr8 hr12 hcell8 hcell12 hst hq' hr' hn hn5
                        go_upto_region 39 with (go_at_call 12; refine (HRD.out).mono ?_; rintro e wa ⟨ra, rc, hh, rfl, hsl, hsa⟩; have HSL := Lib.hid hsl; have HSA := Lib.hid (hsa.new (.cells #[kI p.lsn, .slice ra p.slots.length rc] 25)); clear hsl hsa)
                        clear HRD
                        generalize wa.alloc (.cells #[.int .i64 p.lsn, .slice ra p.slots.length rc] 25) = WB at *
                        generalize wa.heap.size = ba at *
                        obtain ⟨FM, hFM⟩ : ∃ FM, HItem.blk ba (.cells #[kI p.lsn, .slice ra p.slots.length rc] 25) :: (hh ++ (h6 ++ (hq6 ++ (K6 ++ G)))) = FM := ⟨_, rfl⟩
                        rw [hFM] at HSA
                        obtain ⟨SR, hSR⟩ : ∃ SR : World → Prop, StR tb3 pb (600 * i + 300 + 10 * k' + 8) pg ((i : Int) + 1) FM = SR := ⟨_, rfl⟩
                        have HK : Hid (∀ W, SR W → (W.cell? ⟨ba, 0, none⟩ = some (kI p.lsn) ∧ W.cell? ⟨ba, 1, none⟩ = some (.slice ra p.slots.length rc) ∧ W.cell? ⟨g8, n * 2, none⟩ = some (kI q.lsn) ∧ W.cell? ⟨g8, n * 2 + 1, none⟩ = some (.slice sa8 q.slots.length sc8) ∧ W.cell? ⟨gq, n * 2, none⟩ = some (kI r.lsn) ∧ W.cell? ⟨gq, n * 2 + 1, none⟩ = some (.slice sa12 r.slots.length sc12)) ∧ (∀ i, W.frozen? ⟨g8, i, none⟩ = false)) := Lib.hid (fun W hW => by
                          rw [← hSR] at hW
                          have hf := hW.frame
                          rw [← hFM] at hf
                          obtain ⟨a0, a1, _⟩ := two_at hf
                          obtain ⟨b0, b1, b2⟩ := HC8.out W _ hf.tail.right
                          obtain ⟨d0, d1, _⟩ := HC12.out W _ hf.tail.right.right
                          exact ⟨⟨a0, a1, b0, b1, d0, d1⟩, b2⟩)
                        have HSM1 : Hid (∀ W (res : Bool), SR W → (res = true ↔ p = q) → Calls Tryd.prog 13 #[pgV p.lsn (.slice ra p.slots.length rc), pgV q.lsn (.slice sa8 q.slots.length sc8)] W (Ret (.bool res) SR)) := Lib.hid (fun W res hW hres => by
                          rw [← hSR] at hW ⊢
                          refine hW.same (p := p) (q := q) (HSL.out.mono (fun W hW => ?_)) (HS8.out.mono (fun W hW => ?_)) HZ1.out ?_ res hres
                          · rw [← hFM] at hW; exact hW.tail.lft
                          · rw [← hFM] at hW; exact hW.tail.right.right.right.lft
                          · exact HZ2.out)
                        have HSM2 : Hid (∀ W (res : Bool), SR W → (res = true ↔ p = r) → Calls Tryd.prog 13 #[pgV p.lsn (.slice ra p.slots.length rc), pgV r.lsn (.slice sa12 r.slots.length sc12)] W (Ret (.bool res) SR)) := Lib.hid (fun W res hW hres => by
                          rw [← hSR] at hW ⊢
                          refine hW.same (p := p) (q := r) (HSL.out.mono (fun W hW => ?_)) (HS12.out.mono (fun W hW => ?_)) HZ1.out ?_ res hres
                          · rw [← hFM] at hW; exact hW.tail.lft
                          · rw [← hFM] at hW; exact hW.tail.right.right.right.lft
                          · exact HZ3.out)
                        have hsr : SR WB := by rw [← hSR]; exact HSA.out
                        have hsd : SR WB.drew := by rw [← hSR]; exact HSA.out.below (below_drewN WB 1)
                        have HSRE := Lib.hid hSR
                        have HFME := Lib.hid hFM
                        clear HSA HC8 HC12 HS8 HS12 hSR hFM
                        go_cut [160] (fun v wx => v = .bool false ∧ SR wx)
                        case first =>
                          have k1 := (HK.out _ hsr).1
                          have k2 := (HK.out _ hsd).1
                          by_cases hpq : p = q
                          · have HS1 := Lib.hid (HSM1.out WB.drew true hsd (by simp [hpq]))
                            obtain ⟨a0, a1, b0, b1, _, _⟩ := k1
                            clear hsr hsd k2 HSM1 HSM2 HPQ hpq HK
                            first
                              | (go_region_with (first | (go_at_call 13; refine (HS1.out).mono ?_; rintro e ws ⟨rfl, hs⟩; have HSE := Lib.hid hs; clear hs)))
                              | fail
                            all_goals
                              clear a0 a1 b0 b1 HS1
                              go_wp2_with fail
                              go_meet
                              exact ⟨rfl, HSE.out⟩
                          · have hpr : p = r := HPQ.out.resolve_left hpq
                            have HS1 := Lib.hid (HSM1.out WB.drew false hsd (by simp [hpq]))
                            have K1 := Lib.hid k1
                            have K2 := Lib.hid k2
                            have HS2 := Lib.hid (fun W hW => HSM2.out W true hW (by simp [hpr]))
                            clear hsr hsd k1 k2 HSM1 HSM2 HPQ hpq hpr
                            first
                              | (go_region_held3 (fun W => W.cell? ⟨ba, 0, none⟩ = some (kI p.lsn) ∧ W.cell? ⟨ba, 1, none⟩ = some (.slice ra p.slots.length rc) ∧ W.cell? ⟨g8, n * 2, none⟩ = some (kI q.lsn) ∧ W.cell? ⟨g8, n * 2 + 1, none⟩ = some (.slice sa8 q.slots.length sc8) ∧ W.cell? ⟨gq, n * 2, none⟩ = some (kI r.lsn) ∧ W.cell? ⟨gq, n * 2 + 1, none⟩ = some (.slice sa12 r.slots.length sc12))
                                  (with_reducible first | exact K1.out | exact K2.out | exact K3.out | exact K4.out)
                                  (first | (go_at_call 13; refine (HS2.out _ HSE.out).mono ?_; rintro e wt ⟨rfl, ht⟩; have HSF := Lib.hid ht; have K4 := Lib.hid (HK.out _ ht).1; clear ht) | (go_at_call 13; refine (HS1.out).mono ?_; rintro e ws ⟨rfl, hs⟩; have HSE := Lib.hid hs; have K3 := Lib.hid (HK.out _ hs).1; clear hs)))
                              | fail
                            all_goals
                              go_wp2_with fail
                              go_meet
                              exact ⟨rfl, HSF.out⟩
                        case rest =>
                          clear hsr hsd HSM1 HSM2 HPQ
                          obtain ⟨rfl, hsw⟩ := hcut
                          obtain ⟨⟨a0, a1, b0, b1, _, _⟩, fz⟩ := HK.out _ hsw
                          rw [← HSRE.out, ← HFME.out] at hsw
                          obtain ⟨h7, hr7, hs7⟩ := StR.rowSet (h := h6) (K := hh ++ K6) (G := hq6 ++ ((hh ++ K6) ++ G)) (q := p) (n := n) (hsw.part (fun a => by simp only [cnt_cons, cnt_append]; omega)) (HRO8.out.mono (fun W hW => hW.right)) HN5.out (HSL.out.mono (fun W hW => hW.lft))
                          rw [← HP.out, pick_next] at hr7
                          have FIN : Hid (Pick8 tb3 pb (600 * i + 300 + 10 * k' + 8) pg was (nowF was L) ((i : Int) + 1) G (.slice (some ⟨g8, 0, none⟩) 5 c8) (.slice (some ⟨gq, 0, none⟩) 5 cq) (n + 1) _) := Lib.hid ⟨h7, hq6, hh ++ K6, hr7, HRO12.out.mono (fun W hW => hW.right), hs7⟩
                          clear hsw hr7 hs7 HK HSRE HFME HSL HRO8 HRO12
                          go_wp2_with fail
                          exact ⟨⟨n + 1, by have := HN5.out; omega, by simp, FIN.out⟩, by simp only [RowKit.intOf]; have := HN5.out; omega⟩
                      · obtain rfl : n = 5 := by omega
                        have e1 : (((i + 1 : Nat)) : Int) = (i : Int) + 1 := by omega
                        rw [← e1] at hpk
                        have FIN := Lib.hid (hpk.done (by have := HK5.out; have := HGO.out; omega) (by have := HGO.out; omega))
                        clear hpk hn hn5
                        go_wp2_with fail
                        have hg := HGO.out
                        have hk := HK5.out
                        exact ⟨⟨i + 1, k', by omega, by omega, hk, by rw [e1], rfl, FIN.out⟩, by simp only [RowKit.intOf]; omega⟩
      · go_upto_region 12 with (fail)
        go_cut [51] (fun v wx => v = .bool false ∧ wx = wr)
        case first =>
          by_cases h1 : i < gn
          · have i1 : (i : Int) < (gn : Int) := by omega
            have i2 : ((i : Int) < 30) = False := eq_false (by omega)
            clear hgo hi hi30 hk5
            go_wp2_with fail
            go_meet
            exact ⟨rfl, rfl⟩
          · have i1 : ((i : Int) < (gn : Int)) = False := eq_false (by omega)
            clear hgo hi hi30 hk5
            go_wp2_with fail
            go_meet
            exact ⟨rfl, rfl⟩
        case rest =>
          obtain ⟨rfl, rfl⟩ := hcut
          have hsr : StR tb2 pb (600 * i) was (i : Int) (h ++ (K ++ G)) _ := ⟨S, M, HT8.out, HST.out⟩
          have hb9 : 600 * i + 2001 ≤ 100000 := by omega
          have HOFF := Lib.hid (hsr.off (by omega))
          have HON : Hid (∀ W, OfS pb (600 * i) was (i : Int) (h ++ (K ++ G)) W → _) := Lib.hid (fun W hW => OfS.on hW (by omega))
          have HOP : Hid (∀ W, RcA pb (600 * i + 1) was was (i : Int) (h ++ (K ++ G)) W → _) := Lib.hid (fun W hW => RcA.open hW (by omega))
          clear hgo hi hi30 hk5 hsr hb9 HT8 HST i0
          go_upto_block 8 with (first
            | (go_at_call 17; refine (HOFF.out).mono ?_; rintro e wf ⟨rfl, hf⟩; have HF1 := Lib.hid hf; clear hf)
            | (go_at_call 16; refine (HON.out _ HF1.out).mono ?_; rintro e wn ⟨rfl, hn⟩; have HN1 := Lib.hid hn; clear hn)
            | (go_at_call 8; refine (HOP.out _ HN1.out).mono ?_; rintro e wd ⟨tb3, pg, rfl, hpg, hsd⟩; have HPG : Hid (∀ n : Nat, n < 5 → pg n = was n) := Lib.hid (fun n hn => (hpg n hn).elim id id); have HSD := Lib.hid hsd; clear hpg hsd))
          clear HOFF HON HOP HF1 HN1
          obtain ⟨bb, hbb⟩ : ∃ bb, 600 * i + 1 + 8 = bb := ⟨_, rfl⟩
          rw [hbb] at HSD
          clear hbb
          go_wp2_with fail
          go_loopw [17] (fun v17 wx => ∃ n : Nat, n ≤ 5 ∧ v17 = .int .i64 n ∧ StR tb3 pb bb pg (i : Int) (h ++ (K ++ G)) wx) (fun v17 _ => 100 - (RowKit.intOf v17).toNat)
          case atStart => exact ⟨0, by omega, rfl, HSD.out⟩
          case round =>
            clear HSD
            obtain ⟨n, hn, rfl, hst⟩ := hrel
            by_cases hn5 : n < 5
            · have n0 : (0 : Int) ≤ (n : Int) := by omega
              have n1 : (n : Int) < 5 := by omega
              obtain ⟨g8, c8, rfl, hcell8⟩ := HROW.out.read
              obtain ⟨sa8, sc8, hsl8, hce8⟩ := hcell8 n hn5
              have hrd := hst.read n hn5
              have hz1 := hst.small hn5
              have hpgn := HPG.out n hn5
              obtain ⟨p, hp⟩ : ∃ p, was n = p := ⟨_, rfl⟩
              rw [hpgn, hp] at hrd hz1
              rw [hp] at hsl8 hce8
              have HRD := Lib.hid hrd
              have HZ1 := Lib.hid hz1
              have HS8 := Lib.hid hsl8
              have HC8 := Lib.hid hce8
              have HN5 := Lib.hid hn5
              clear hrd hz1 hsl8 hce8 hpgn hp hcell8 hst hn hn5
              go_upto_region 49 with (go_at_call 12; refine (HRD.out).mono ?_; rintro e wa ⟨ra, rc, hh, rfl, hsl, hsa⟩; have HSL := Lib.hid hsl; have HSA := Lib.hid (hsa.new (.cells #[kI p.lsn, .slice ra p.slots.length rc] 25)); clear hsl hsa)
              clear HRD
              generalize wa.alloc (.cells #[.int .i64 p.lsn, .slice ra p.slots.length rc] 25) = WB at *
              generalize wa.heap.size = ba at *
              obtain ⟨a0, a1, _⟩ := two_at HSA.out.frame
              obtain ⟨b0, b1, _⟩ := HC8.out WB _ HSA.out.frame.tail.right
              have HSM : Hid (Calls Tryd.prog 13 #[pgV p.lsn (.slice ra p.slots.length rc), pgV p.lsn (.slice sa8 p.slots.length sc8)] WB.drew (Ret (.bool true) (StR tb3 pb bb pg (i : Int) (h ++ (K ++ G))))) := Lib.hid (by
                refine ((HSA.out.below (below_drewN WB 1)).same (p := p) (q := p) (HSL.out.mono (fun W hW => hW.tail.lft)) (HS8.out.mono (fun W hW => hW.tail.right.right.lft)) HZ1.out HZ1.out true (by simp)).mono ?_
                rintro e w' ⟨rfl, h⟩
                exact ⟨rfl, h.part (fun a => by simp only [cnt_cons, cnt_append]; omega)⟩)
              clear HSA HSL HS8 HC8 HZ1
              go_region_with (go_at_call 13; refine (HSM.out).mono ?_; rintro e we ⟨rfl, hse⟩; have HSE := Lib.hid hse; clear hse)
              all_goals
                clear a0 a1 b0 b1 HSM
                go_wp2_with fail
                exact ⟨⟨n + 1, by have := HN5.out; omega, by simp, HSE.out⟩, by simp only [RowKit.intOf]; have := HN5.out; omega⟩
            · obtain rfl : n = 5 := by omega
              have FIN := Lib.hid (HB.out _ hst.frame.right.right)
              clear hst hn hn5
              go_wp2_with fail
              go_ret
              exact ⟨rfl, FIN.out⟩
end Go.Proofs.YtgocmnejlbfplaaDoor
