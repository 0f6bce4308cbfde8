/- Texts put together: Tx11. Conditions: none. -/
import Derived.Deep.CutBlock
import Derived.Deep.RegionLaw
import Derived.Test.YtgocmnejlbfplaaGreatDoorTy11
namespace Go.Proofs.YtgocmnejlbfplaaGreatDoor
open Go Go.MapKept Go.RowKit Go.Proofs

attribute [local go_sem] Oper.semAt_some

theorem rdec_results (tm : Array Value) (W9 : World) (g : Nat) (n c : Int) (sv : Value) (h1 : (tm[2]?).getD undef = .pointer (some ⟨g, 0, none⟩)) (h2 : (tm[3]?).getD undef = .int .i64 c) (r0 : W9.cell? ⟨g, 0, none⟩ = some (kI n)) (r1 : W9.cell? ⟨g, 1, none⟩ = some sv) :
    (results Tryz.f62 tm).run Tryz.prog W9 = .ok (.tuple #[pgV n sv, .int .i64 c]) W9 := by
  simp [results, Tryz.results62, go_sem, h1, h2, r0, r1]
theorem rlsn_succ {l : List UInt8} {i : Nat} {b : UInt8} (h2 : 2 ≤ i) (h : l[i]? = some b) : rlsn l (i + 1) = rlsn l i * 256 + b.toNat := by
  unfold rlsn
  rw [List.take_add_one, h, List.drop_append, ]
  have hl : i ≤ l.length := by have := (List.getElem?_eq_some_iff.1 h).1; omega
  have e : 2 - (l.take i).length = 0 := by rw [List.length_take]; omega
  rw [e]
  show getB ((l.take i).drop 2 ++ [b]) = _
  rw [getB_snoc]
theorem rlsn_lt (l : List UInt8) (i : Nat) (h : i ≤ 8) : rlsn l i < 281474976710656 := by
  unfold rlsn
  have h1 := getB_lt ((l.take i).drop 2)
  have h2 : ((l.take i).drop 2).length ≤ 6 := by rw [List.length_drop, List.length_take]; omega
  exact Nat.lt_of_lt_of_le h1 (Nat.pow_le_pow_right (by decide) h2)
set_option maxRecDepth 100000 in
set_option maxHeartbeats 4000000 in
theorem rdec_any (s : ByteArray) (h240 : s.size = 240) (F : Heaplet) (w : World) (hs : Sat w F) :
    Calls Tryz.prog 62 #[.string s] w (DecRet (rdec s.data.toList) F) := by
  have h0 := hs.new (.cells #[kI 0, .slice none 0 0] 48)
  have HS0 := Lib.hid h0
  obtain ⟨l, hl⟩ : ∃ l, s.data.toList = l := ⟨_, rfl⟩
  have hll : l.length = 240 := by rw [← hl, Array.length_toList]; exact h240
  have hgt : ∀ i b, l[i]? = some b → ∀ (h : i < s.size), (s[i]'h).toNat = b.toNat := fun i b hb h => by
    have : s.data.toList[i]? = some (s[i]'h) := by
      rw [Array.getElem?_toList]
      exact Array.getElem?_eq_getElem (by show i < s.size; omega)
    rw [hl, hb] at this
    rw [← Option.some.inj this]
  obtain ⟨b0, hb0⟩ : ∃ b, l[0]? = some b := ⟨_, List.getElem?_eq_getElem (by omega)⟩
  obtain ⟨b1, hb1⟩ : ∃ b, l[1]? = some b := ⟨_, List.getElem?_eq_getElem (by omega)⟩
  obtain ⟨b8, hb8⟩ : ∃ b, l[8]? = some b := ⟨_, List.getElem?_eq_getElem (by omega)⟩
  have hrd : rdec l = if b0.toNat = 0 ∧ b1.toNat = 0 then rfin (rlsn l 8) (parseS b8.toNat (l.drop 9)) else none := by
    unfold rdec
    rw [List.getD_eq_getElem?_getD, List.getD_eq_getElem?_getD, List.getD_eq_getElem?_getD, hb0, hb1, hb8]
    simp only [Option.getD_some, ← UInt8.toNat_inj]
    rfl
  rw [hl]
  obtain ⟨RD, hRD⟩ : ∃ RD, rdec l = RD := ⟨_, rfl⟩
  rw [hRD] at hrd ⊢
  have HERR : Hid (∀ (W : World) (G : Heaplet) (pb : Nat), RD = none → Sat W (.blk pb (.cells #[kI 0, .slice none 0 0] 48) :: (G ++ F)) →
      (W.cell? ⟨pb, 0, none⟩ = some (kI 0) ∧ W.cell? ⟨pb, 1, none⟩ = some (.slice none 0 0) ∧ ∀ i, W.frozen? ⟨pb, i, none⟩ = false) ∧
      (((W.setCell ⟨pb, 0, none⟩ (kI 0)).setCell ⟨pb, 1, none⟩ (.slice none 0 0)).cell? ⟨pb, 0, none⟩ = some (kI 0) ∧ ((W.setCell ⟨pb, 0, none⟩ (kI 0)).setCell ⟨pb, 1, none⟩ (.slice none 0 0)).cell? ⟨pb, 1, none⟩ = some (.slice none 0 0) ∧
        DecRet RD F (.returned (.tuple #[pgV 0 (.slice none 0 0), .int .i64 4])) ((W.setCell ⟨pb, 0, none⟩ (kI 0)).setCell ⟨pb, 1, none⟩ (.slice none 0 0)))) := Lib.hid (fun W G pb hrd hW => by
    have h2 := (hW.setCell (i := 0) (kI 0)).setCell (i := 1) (.slice none 0 0)
    refine ⟨⟨by rw [cell_of hW.h0]; rfl, by rw [cell_of hW.h0]; rfl, unfrozen_of hW.h0⟩, by rw [cell_of h2.h0]; rfl, by rw [cell_of h2.h0]; rfl, ?_⟩
    rw [hrd]
    exact ⟨.slice none 0 0, G, h2.tail, rfl⟩)
  have HGT := Lib.hid hgt
  have hg0 : ∀ (h : 0 < s.size), (s[0]'h).toNat = b0.toNat := fun h => hgt 0 b0 hb0 h
  have hg1 : ∀ (h : 1 < s.size), (s[1]'h).toNat = b1.toNat := fun h => hgt 1 b1 hb1 h
  have hg8 : ∀ (h : 8 < s.size), (s[8]'h).toNat = b8.toNat := fun h => hgt 8 b8 hb8 h
  have hsz : (s.size : Int) = 240 := by omega
  have hn8 : b8.toNat < 256 := b8.toNat_lt
  have HLL := Lib.hid hll
  obtain ⟨pb, hpb⟩ : ∃ pb, w.heap.size = pb := ⟨_, rfl⟩
  rw [hpb] at HS0
  clear h0 hs hll hgt hb0 hb1 hb8 hRD h240
  generalize b0.toNat = n0 at *
  generalize b1.toNat = n1 at *
  generalize b8.toNat = cnt at *
  by_cases z0 : n0 = 0
  · subst z0
    by_cases z1 : n1 = 0
    · subst z1
      rw [if_pos ⟨rfl, rfl⟩] at hrd
      go_enter Tryz.func62, Tryz.ntmps62
      go_upto_block 0 with (fail)
      have h3 := HS0.out.new (.cells #[kI 0, .slice none 0 0] 48)
      rw [World.size_alloc, hpb] at h3
      have HS3 : Hid (Sat ((w.alloc (.cells #[kI 0, .slice none 0 0] 48)).alloc (.cells #[kI 0, .slice none 0 0] 48)) (.blk (pb + 1) (.cells #[kI 0, .slice none 0 0] 48) :: .blk pb (.cells #[kI 0, .slice none 0 0] 48) :: F)) := Lib.hid h3
      have HRD := Lib.hid hrd
      have HBACK : Hid (∀ (W : World) (x : Value) (n : Int) (h : Heaplet), Sat W (.blk (pb + 1) (.cells #[kI n, x] 48) :: .blk pb (.cells #[kI 0, .slice none 0 0] 48) :: (h ++ F)) → Sat W (.blk pb (.cells #[kI 0, .slice none 0 0] 48) :: ((.blk (pb + 1) (.cells #[kI n, x] 48) :: h) ++ F))) := Lib.hid (fun W x n h hW => hW.part (fun a => by simp only [cnt_cons, cnt_append, List.cons_append]; omega))
      clear h3 hrd HS0 hg0 hg1
      generalize (w.alloc (.cells #[kI 0, .slice none 0 0] 48)).alloc (.cells #[kI 0, .slice none 0 0] 48) = W3 at *
      generalize pb + 1 = pc at *
      go_cut [] (fun wx => Sat wx (.blk pc (.cells #[kI (rlsn l 8 : Int), .slice none 0 0] 48) :: .blk pb (.cells #[kI 0, .slice none 0 0] 48) :: F))
      case first =>
        clear HRD HERR HBACK hg8
        go_wp2_with fail
        go_loopw [5] (fun v5 wr => ∃ i : Nat, 2 ≤ i ∧ i ≤ 8 ∧ v5 = .int .i64 (i : Int) ∧ Sat wr (.blk pc (.cells #[kI (rlsn l i : Int), .slice none 0 0] 48) :: .blk pb (.cells #[kI 0, .slice none 0 0] 48) :: F)) (fun v5 _ => 100 - (intOf v5).toNat)
        case atStart =>
          have e2 : rlsn l 2 = 0 := by unfold rlsn; rw [List.drop_eq_nil_of_le (by rw [List.length_take]; omega)]; rfl
          exact ⟨2, by omega, by omega, rfl, by rw [e2]; exact HS3.out⟩
        case round =>
          clear HS3
          obtain ⟨i, hi2, hi8, rfl, hs⟩ := hrel
          have i0 : (0 : Int) ≤ (i : Int) := by omega
          by_cases hil : i < 8
          · have i1 : (i : Int) < 8 := by omega
            have i2 : (i : Int) < 240 := by omega
            obtain ⟨b, hb⟩ : ∃ b, l[i]? = some b := ⟨_, List.getElem?_eq_getElem (by have := HLL.out; omega)⟩
            have hgi : ∀ (h : i < s.size), (s[i]'h).toNat = b.toNat := fun h => HGT.out i b hb h
            have hst := rlsn_succ hi2 hb
            have hlt := rlsn_lt l i hi8
            have hbn := b.toNat_lt
            have hgs : ((rlsn l (i + 1) : Nat) : Int) = 256 * (rlsn l i : Int) + (b.toNat : Int) := by rw [hst]; omega
            obtain ⟨c0, c1, ff⟩ := two_at hs
            have hs2 := hs.drew.setCell (i := 0) (kI (rlsn l (i + 1) : Int))
            rw [hgs] at hs2
            have HS2 := Lib.hid hs2
            have HGS := Lib.hid hgs
            have HI := Lib.hid (And.intro hi2 hil)
            have f0 := ff 0
            clear hs hs2 hst hgs hb hi2 hi8 hil ff c1
            generalize b.toNat = bn at *
            generalize rlsn l i = ln at *
            have q0 : (0 : Int) ≤ (ln : Int) := by omega
            have q1 : (ln : Int) < 281474976710656 := by omega
            have q2 : (bn : Int) < 256 := by omega
            have q3 : (0 : Int) ≤ (bn : Int) := by omega
            clear hlt hbn
            go_upto_region 7 with (fail)
            go_region_law (fail)
            all_goals
              go_wp2_with fail
              exact ⟨⟨i + 1, by have := HI.out; omega, by have := HI.out; omega, by simp, by rw [HGS.out]; exact HS2.out⟩, by simp only [intOf]; omega⟩
          · obtain rfl : i = 8 := by omega
            have HS2 := Lib.hid hs
            clear hs hi2 hi8 hil
            go_wp2_with fail
            go_meet
            exact HS2.out
      case rest =>
        have HS4 := Lib.hid hcut
        have hln := rlsn_lt l 8 (Nat.le_refl _)
        generalize rlsn l 8 = lsn at *
        clear hcut
        obtain ⟨RP, hRP⟩ : ∃ RP, parseS cnt (l.drop 9) = RP := ⟨_, rfl⟩
        rw [hRP] at HRD
        have HNN : Hid (RP = none → RD = none) := Lib.hid (fun h => by rw [HRD.out, h]; rfl)
        have HR0 : Hid (RP = restS cnt (l.drop 9) []) := Lib.hid (by rw [← hRP]; unfold restS; cases parseS cnt (l.drop 9) <;> simp)
        clear hRP
        have hcn : (cnt : Int) < 256 := by omega
        go_upto_block 2 with (fail)
        go_cut [6] (fun v6 wx => ∃ (at' : Nat) (done : List Sl) (sv : Value) (h : Heaplet), 9 ≤ at' ∧ at' ≤ 240 ∧ v6 = .int .i64 (at' : Int) ∧ SlOwn sv done h ∧ Sat wx (.blk pc (.cells #[kI (lsn : Int), sv] 48) :: .blk pb (.cells #[kI 0, .slice none 0 0] 48) :: (h ++ F)) ∧ RP = some (done, l.drop at') ∧ (done.length ≤ cnt ∧ (∀ x ∈ done, x.2.size ≤ 255)))
        case first =>
          clear HRD
          go_wp2_with fail
          go_loopw [6, 7] (fun v6 v7 wr => ∃ (c at' : Nat) (done : List Sl) (sv : Value) (h : Heaplet), c ≤ cnt ∧ v7 = .int .i64 (c : Int) ∧ 9 ≤ at' ∧ at' ≤ 240 ∧ v6 = .int .i64 (at' : Int) ∧ SlOwn sv done h ∧ Sat wr (.blk pc (.cells #[kI (lsn : Int), sv] 48) :: .blk pb (.cells #[kI 0, .slice none 0 0] 48) :: (h ++ F)) ∧ RP = restS (cnt - c) (l.drop at') done ∧ (done.length ≤ c ∧ (∀ x ∈ done, x.2.size ≤ 255))) (fun _ v7 _ => 1000 - (intOf v7).toNat)
          case atStart => exact ⟨0, 9, [], .slice none 0 0, [], by omega, rfl, by omega, by omega, rfl, SliceIs.nil _ _, HS4.out, HR0.out, by simp, by simp⟩
          case round =>
            clear HS4 HR0
            obtain ⟨c, at', done, sv, h, hc, rfl, ha1, ha2, rfl, hv, hs, hr, hd1, hd2⟩ := hrel
            obtain ⟨va, vc, rfl⟩ := sl_form hv
            have i0 : (0 : Int) ≤ (c : Int) := by omega
            have a0 : (9 : Int) ≤ (at' : Int) := by omega
            have a9 : (at' : Int) ≤ 240 := by omega
            by_cases hlt : c < cnt
            · have i1 : (c : Int) < (cnt : Int) := by omega
              obtain ⟨k, hk⟩ : ∃ k, cnt - c = k + 1 := ⟨cnt - c - 1, by omega⟩
              rw [hk] at hr
              have hll := HLL.out
              by_cases hz : at' = 240
              · subst hz
                rw [List.drop_eq_nil_of_le (by omega), restS_nil] at hr
                have hrn := HNN.out hr
                obtain ⟨⟨e0, e1, ef⟩, r0, r1', hfin⟩ := HERR.out wr _ pb hrn (HBACK.out wr _ _ h hs)
                have HFIN := Lib.hid hfin
                have HR0' := Lib.hid r0
                have HR1' := Lib.hid r1'
                clear r0 r1' hfin hs hv hr hd1 hd2 hk hlt hc ha1 ha2 hrn hll HGT HERR HBACK HNN HLL
                go_wp2_with fail
                exact bodyPost_ret (v := .tuple #[pgV 0 (.slice none 0 0), .int .i64 4]) (rdec_results _ _ pb 0 4 _ rfl rfl HR0'.out HR1'.out) rfl HFIN.out
              · have haz : at' < 240 := by omega
                have a1 : (at' : Int) < 240 := by omega
                obtain ⟨b, hb⟩ : ∃ b, l[at']? = some b := ⟨_, List.getElem?_eq_getElem (by omega)⟩
                have hga : ∀ (h : at' < s.size), (s[at']'h).toNat = b.toNat := fun h => HGT.out at' b hb h
                have hdr : l.drop at' = b :: l.drop (at' + 1) := by
                  obtain ⟨h1, h2⟩ := List.getElem?_eq_some_iff.1 hb
                  rw [List.drop_eq_getElem_cons h1, h2]
                rw [hdr] at hr
                obtain ⟨bn, hbn⟩ : ∃ bn, b.toNat = bn := ⟨_, rfl⟩
                have hb9 : bn < 256 := by rw [← hbn]; exact b.toNat_lt
                have h255 : b = 255 ↔ bn = 255 := by rw [← hbn, ← UInt8.toNat_inj]; rfl
                rw [hbn] at hga
                have g0 : (0 : Int) ≤ (bn : Int) := by omega
                have g1 : (bn : Int) < 256 := by omega
                obtain ⟨c0, c1, ff⟩ := two_at hs
                by_cases he : bn = 255
                · subst he
                  rw [h255.2 rfl, restS_vac] at hr
                  have hsp : Sat wr (h ++ (.blk pc (.cells #[kI (lsn : Int), .slice va done.length vc] 48) :: .blk pb (.cells #[kI 0, .slice none 0 0] 48) :: F)) := hs.part (fun a => by simp only [cnt_cons, cnt_append]; omega)
                  obtain ⟨v7, w7, h7, hap, hv7, hs7⟩ := sl_push1 (false, ⟨#[]⟩) hv (hsp.new (.cells #[.bool false, kS ⟨#[]⟩] 59)) (by omega)
                  obtain ⟨v7a, v7c, e7⟩ := sl_form hv7
                  rw [List.length_append] at e7
                  obtain rfl : v7 = .slice v7a (done.length + 1) v7c := e7
                  have hs8 : Sat w7 (.blk pc (.cells #[kI (lsn : Int), .slice va done.length vc] 48) :: .blk pb (.cells #[kI 0, .slice none 0 0] 48) :: (h7 ++ F)) := hs7.part (fun a => by simp only [cnt_cons, cnt_append]; omega)
                  obtain ⟨d0, d1, df⟩ := two_at hs8
                  have hs9 := hs8.setCell (i := 1) (.slice v7a (done.length + 1) v7c)
                  have HAP := Lib.hid hap
                  have HS9 : Hid (Sat (w7.setCell ⟨pc, 1, none⟩ (.slice v7a (done.length + 1) v7c)) (.blk pc (.cells #[kI (lsn : Int), .slice v7a (done.length + 1) v7c] 48) :: .blk pb (.cells #[kI 0, .slice none 0 0] 48) :: (h7 ++ F))) := Lib.hid hs9
                  have HNX : Hid (RP = restS (cnt - (c + 1)) (l.drop (at' + 1)) (done ++ [(false, ⟨#[]⟩)]) ∧ ((done ++ [((false, ⟨#[]⟩) : Sl)]).length ≤ c + 1 ∧ (∀ x ∈ done ++ [((false, ⟨#[]⟩) : Sl)], x.2.size ≤ 255))) := Lib.hid (by
                    refine ⟨by rw [show cnt - (c + 1) = k from by omega]; exact hr, by simp; omega, fun x hx => ?_⟩
                    rcases List.mem_append.1 hx with h1 | h1
                    · exact hd2 x h1
                    · rw [List.mem_singleton.1 h1]; decide)
                  have HV7 : Hid (SlOwn _ (done ++ [(false, ⟨#[]⟩)]) h7) := Lib.hid hv7
                  have HI := Lib.hid (And.intro hlt haz)
                  have f1 := df 1
                  clear hv hs hap hv7 hs7 hr hd1 hd2 hk hlt hc hsp hs8 hs9 ha1 ha2 hz haz hb hdr hbn hb9 h255 hll HERR HBACK HNN ff df
                  go_wp2_with (at_builtin; refine wpList_append_run rfl _ _ _ _ rfl _ _ _ _ rfl rfl HAP.out ?_)
                  exact ⟨⟨c + 1, at' + 1, _, _, h7, HI.out.1, by simp, by omega, by have := HI.out.2; omega, by simp, HV7.out, HS9.out, HNX.out.1, HNX.out.2⟩, by simp only [intOf]; omega⟩
                · have he1 : ((bn : Int) = 255) = False := eq_false (by omega)
                  have he2 : (bn = 255) = False := eq_false he
                  have he3 : ((bn : Int) == 255) = false := by rw [beq_eq_false_iff_ne]; omega
                  have hne : b ≠ 255 := fun h => he (h255.1 h)
                  have hdl : (l.drop (at' + 1)).length = 240 - (at' + 1) := by rw [List.length_drop, hll]
                  by_cases hsh : 240 < at' + 1 + bn
                  · rw [restS_short hne (by rw [hbn, hdl]; omega)] at hr
                    have hrn := HNN.out hr
                    obtain ⟨⟨e0, e1, ef⟩, r0, r1', hfin⟩ := HERR.out wr _ pb hrn (HBACK.out wr _ _ h hs)
                    have HFIN := Lib.hid hfin
                    have HR0' := Lib.hid r0
                    have HR1' := Lib.hid r1'
                    have hsi : (240 : Int) < (at' : Int) + 1 + (bn : Int) := by omega
                    clear r0 r1' hfin hs hv hr hd1 hd2 hk hlt hc ha1 ha2 hrn hll HGT HERR HBACK HNN HLL hne he hz haz hb hdr hbn hb9 h255 hdl hsh
                    go_wp2_with fail
                    exact bodyPost_ret (v := .tuple #[pgV 0 (.slice none 0 0), .int .i64 4]) (rdec_results _ _ pb 0 4 _ rfl rfl HR0'.out HR1'.out) rfl HFIN.out
                  · rw [restS_used hne (by rw [hbn, hdl]; omega), hbn] at hr
                    have hsi : ((240 : Int) < (at' : Int) + 1 + (bn : Int)) = False := eq_false (by omega)
                    have hy3 : s.extract (at' + 1) (at' + 1 + bn) = ⟨((l.drop (at' + 1)).take bn).toArray⟩ := by
                      apply ba_ext
                      rw [ext_list, hl]
                      show (l.take (at' + 1 + bn)).drop (at' + 1) = ((l.drop (at' + 1)).take bn)
                      rw [List.drop_take, Nat.add_sub_cancel_left]
                    have hdd : (l.drop (at' + 1)).drop bn = l.drop (at' + 1 + bn) := by rw [List.drop_drop]
                    rw [hdd, ← hy3] at hr
                    have hsp : Sat wr.drew (h ++ (.blk pc (.cells #[kI (lsn : Int), .slice va done.length vc] 48) :: .blk pb (.cells #[kI 0, .slice none 0 0] 48) :: F)) := hs.drew.part (fun a => by simp only [cnt_cons, cnt_append]; omega)
                    obtain ⟨v7, w7, h7, hap, hv7, hs7⟩ := sl_push1 (true, s.extract (at' + 1) (at' + 1 + bn)) hv (hsp.new (.cells #[.bool true, kS (s.extract (at' + 1) (at' + 1 + bn))] 59)) (by omega)
                    obtain ⟨v7a, v7c, e7⟩ := sl_form hv7
                    rw [List.length_append] at e7
                    obtain rfl : v7 = .slice v7a (done.length + 1) v7c := e7
                    have hs8 : Sat w7 (.blk pc (.cells #[kI (lsn : Int), .slice va done.length vc] 48) :: .blk pb (.cells #[kI 0, .slice none 0 0] 48) :: (h7 ++ F)) := hs7.part (fun a => by simp only [cnt_cons, cnt_append]; omega)
                    obtain ⟨d0, d1, df⟩ := two_at hs8
                    have hs9 := hs8.setCell (i := 1) (.slice v7a (done.length + 1) v7c)
                    have c1' : (wr.alloc (.cells #[.bool true, kS (s.extract (at' + 1) (at' + 1 + bn))] 59)).cell? ⟨pc, 1, none⟩ = some (.slice va done.length vc) :=
                      (World.cell?_alloc_old wr _ ⟨pc, 1, none⟩ (Nat.ne_of_lt (World.block_lt_of_cell? wr ⟨pc, 1, none⟩ c1))).trans c1
                    have HAP : Hid (∀ ty, (Builtin.append_ #[46, 46] ty #[.slice va done.length vc, .slice (some ⟨wr.heap.size, 0, none⟩) 1 1]).run Tryz.prog (wr.drew.alloc (.cells #[.bool true, kS (s.extract (at' + 1) (at' + 1 + bn))] 59)) = .ok (.slice v7a (done.length + 1) v7c) w7) := Lib.hid hap
                    have HS9 : Hid (Sat (w7.setCell ⟨pc, 1, none⟩ (.slice v7a (done.length + 1) v7c)) (.blk pc (.cells #[kI (lsn : Int), .slice v7a (done.length + 1) v7c] 48) :: .blk pb (.cells #[kI 0, .slice none 0 0] 48) :: (h7 ++ F))) := Lib.hid hs9
                    have HNX : Hid (RP = restS (cnt - (c + 1)) (l.drop (at' + 1 + bn)) (done ++ [(true, s.extract (at' + 1) (at' + 1 + bn))]) ∧ ((done ++ [((true, s.extract (at' + 1) (at' + 1 + bn)) : Sl)]).length ≤ c + 1 ∧ (∀ x ∈ done ++ [((true, s.extract (at' + 1) (at' + 1 + bn)) : Sl)], x.2.size ≤ 255))) := Lib.hid (by
                      refine ⟨by rw [show cnt - (c + 1) = k from by omega]; exact hr, by simp; omega, fun x hx => ?_⟩
                      rcases List.mem_append.1 hx with h1 | h1
                      · exact hd2 x h1
                      · rw [List.mem_singleton.1 h1]
                        show (s.extract (at' + 1) (at' + 1 + bn)).size ≤ 255
                        rw [ByteArray.size_extract]; omega)
                    have HV7 : Hid (SlOwn _ (done ++ [(true, s.extract (at' + 1) (at' + 1 + bn))]) h7) := Lib.hid hv7
                    have HI := Lib.hid (And.intro hlt (show at' + 1 + bn ≤ 240 by omega))
                    have f1 := df 1
                    have t1 : (at' : Int) + 1 ≤ (at' : Int) + 1 + (bn : Int) := by omega
                    have t2 : (at' : Int) + 1 + (bn : Int) ≤ 240 := by omega
                    have hslc : ∀ wx, (Instr.slice 9 (.string s) (some (.int .i64 ((at' : Int) + 1))) (some (.int .i64 ((at' : Int) + 1 + (bn : Int)))) none).run Tryz.prog wx = .ok (.string (s.extract (at' + 1) (at' + 1 + bn))) wx := fun wx => by
                      have h := run_slice_string (P := Tryz.prog) wx 9 s .i64 .i64 ((at' : Int) + 1) ((at' : Int) + 1 + (bn : Int)) Tryz.underlying9 (by omega) (by omega) (by omega)
                      rw [show ((at' : Int) + 1).toNat = at' + 1 by omega, show ((at' : Int) + 1 + (bn : Int)).toNat = at' + 1 + bn by omega] at h
                      exact h
                    have t3 : IntKind.i64.wrap ((at' : Int) + 1 + (bn : Int)) = (at' : Int) + 1 + (bn : Int) := IntWalk.i64_in _ (by omega)
                    clear hv hs hap hv7 hs7 hr hd1 hd2 hk hlt hc hsp hs8 hs9 ha1 ha2 hz haz hb hdr hbn hb9 h255 hll HERR HBACK HNN ff df hdl hsh hy3 hdd hne he
                    go_upto_region 20 with (fail)
                    go_region_law ((refine step_append_run (by rfl) _ _ _ _ (by rfl) _ _ _ w7 (by rfl) (by rfl) HAP.out ?_))
                    all_goals
                      go_wp2_with fail
                      exact ⟨⟨c + 1, at' + 1 + bn, _, _, h7, HI.out.1, by simp, by omega, HI.out.2, by simp, HV7.out, HS9.out, HNX.out.1, HNX.out.2⟩, by simp only [intOf]; omega⟩
            · obtain rfl : c = cnt := by omega
              have i1 : ((c : Int) < (c : Int)) = False := eq_false (by omega)
              rw [Nat.sub_self, restS_zero] at hr
              have HM := Lib.hid (And.intro ha1 (And.intro ha2 (And.intro hv (And.intro hs (And.intro hr (And.intro hd1 hd2))))))
              clear hc hlt ha1 ha2 hv hs hr hd1 hd2
              go_wp2_with fail
              go_meet
              exact ⟨at', done, _, h, HM.out.1, HM.out.2.1, rfl, HM.out.2.2.1, HM.out.2.2.2.1, HM.out.2.2.2.2.1, HM.out.2.2.2.2.2⟩
        case rest =>
          clear HS3 HS4 HR0
          obtain ⟨at0, done, sv, h, ha1, ha2, rfl, hv, hs, hr, hd1, hd2⟩ := hcut
          have HRP := Lib.hid hr
          have HM := Lib.hid (And.intro hd1 (And.intro hd2 (And.intro hv hs)))
          have HA := Lib.hid (And.intro ha1 ha2)
          clear hr hd1 hd2 hv hs ha1 ha2 hg8
          go_upto_block 4 with (fail)
          go_cut [6] (fun v6 wx => wx = wc ∧ (l.drop at0).all (· == 0) = true)
          case first =>
            go_wp2_with fail
            go_loopw [6] (fun v6 wr => ∃ at' : Nat, 9 ≤ at' ∧ at' ≤ 240 ∧ v6 = .int .i64 (at' : Int) ∧ (l.drop at0).all (· == 0) = (l.drop at').all (· == 0) ∧ wr = wc) (fun v6 _ => 1000 - (intOf v6).toNat)
            case atStart => exact ⟨at0, HA.out.1, HA.out.2, rfl, rfl, rfl⟩
            case round =>
              obtain ⟨at', ha1, ha2, rfl, hal, rfl⟩ := hrel
              have a0 : (9 : Int) ≤ (at' : Int) := by omega
              have a9 : (at' : Int) ≤ 240 := by omega
              have hll := HLL.out
              by_cases haz : at' < 240
              · have a1 : (at' : Int) < 240 := by omega
                obtain ⟨b, hb⟩ : ∃ b, l[at']? = some b := ⟨_, List.getElem?_eq_getElem (by omega)⟩
                have hga : ∀ (h : at' < s.size), (s[at']'h).toNat = b.toNat := fun h => HGT.out at' b hb h
                have hdr : l.drop at' = b :: l.drop (at' + 1) := by
                  obtain ⟨h1, h2⟩ := List.getElem?_eq_some_iff.1 hb
                  rw [List.drop_eq_getElem_cons h1, h2]
                rw [hdr, List.all_cons] at hal
                obtain ⟨bn, hbn⟩ : ∃ bn, b.toNat = bn := ⟨_, rfl⟩
                rw [hbn] at hga
                by_cases hz : bn = 0
                · subst hz
                  have hb0 : b = 0 := by rw [← UInt8.toNat_inj]; exact hbn
                  have HAL : Hid ((l.drop at0).all (· == 0) = (l.drop (at' + 1)).all (· == 0)) := Lib.hid (by rw [hal, hb0]; rfl)
                  have HI := Lib.hid (And.intro ha1 haz)
                  clear hal hb0 hbn hdr hb haz hll ha1 ha2
                  go_wp2_with fail
                  exact ⟨⟨at' + 1, by have := HI.out; omega, by have := HI.out; omega, by simp, HAL.out, by first | rfl | trivial⟩, by simp only [intOf]; omega⟩
                · have hb0 : (b == 0) = false := by
                    rw [beq_eq_false_iff_ne]
                    intro e
                    rw [e] at hbn
                    exact hz hbn.symm
                  have hrn : RD = none := by
                    rw [HRD.out, HRP.out]
                    unfold rfin
                    simp only
                    rw [hal, hb0]
                    rfl
                  have hs := HM.out.2.2.2
                  obtain ⟨⟨e0, e1, ef⟩, r0, r1', hfin⟩ := HERR.out wr _ pb hrn (HBACK.out wr _ _ h hs)
                  have HFIN := Lib.hid hfin
                  have HR0' := Lib.hid r0
                  have HR1' := Lib.hid r1'
                  have z2 : ((bn : Int) == 0) = false := by rw [beq_eq_false_iff_ne]; omega
                  have z3 : (bn = 0) = False := eq_false hz
                  clear r0 r1' hfin hs hal hb0 hrn hbn hdr hb haz hll ha1 ha2 hz
                  go_wp2_with fail
                  exact bodyPost_ret (v := .tuple #[pgV 0 (.slice none 0 0), .int .i64 4]) (rdec_results _ _ pb 0 4 _ rfl rfl HR0'.out HR1'.out) rfl HFIN.out
              · obtain rfl : at' = 240 := by omega
                have HAL : Hid ((l.drop at0).all (· == 0) = true) := Lib.hid (by rw [hal, List.drop_eq_nil_of_le (by omega)]; rfl)
                clear hal ha1 ha2 haz hll
                go_wp2_with fail
                go_meet
                exact ⟨rfl, HAL.out⟩
          case rest =>
            obtain ⟨hww, hal⟩ := hcut
            cases hww
            have hrd : RD = if goodP ⟨(lsn : Int), done⟩ = true then some ⟨(lsn : Int), done⟩ else none := by
              rw [HRD.out, HRP.out]
              unfold rfin
              simp only
              rw [hal, Bool.true_and]
            obtain ⟨hd1, hd2, hv, hs⟩ := HM.out
            obtain ⟨va, vc, rfl⟩ := sl_form hv
            have hsl : SlAt (.blk pc (.cells #[kI (lsn : Int), .slice va done.length vc] 48) :: .blk pb (.cells #[kI 0, .slice none 0 0] 48) :: (h ++ F)) (.slice va done.length vc) done := (slAt_own hv F).mono (fun w hw => hw.tail.tail)
            have HGD := Lib.hid (rgood_any (p := ⟨(lsn : Int), done⟩) hsl hs (by show done.length ≤ 1000; omega) (fun x hx => by have := hd2 x hx; omega) (by show -9223372036854775808 ≤ (lsn : Int) ∧ (lsn : Int) ≤ 9223372036854775807; omega))
            have HS := Lib.hid hs
            have HV := Lib.hid hv
            obtain ⟨c0, c1, cf⟩ := two_at hs
            clear hsl hs hv hd1 hd2 hal HM HRP HRD HNN HLL HGT HA
            cases hg : goodP ⟨(lsn : Int), done⟩ with
            | false =>
              rw [hg] at HGD
              have hrn : RD = none := by rw [hrd, hg]; rfl
              go_upto_if 92 with (go_at_call 48; refine (HGD.out).mono ?_; rintro e w5 ⟨rfl, hg5⟩; have HS5 := Lib.hid (HS.out.grown hg5); clear hg5)
              obtain ⟨⟨e0, e1, ef⟩, r0, r1', hfin⟩ := HERR.out w5 _ pb hrn (HBACK.out w5 _ _ h HS5.out)
              have HFIN := Lib.hid hfin
              have HR0' := Lib.hid r0
              have HR1' := Lib.hid r1'
              clear r0 r1' hfin hrn hrd hg HERR HBACK
              go_wp2_with fail
              exact bodyPost_ret (v := .tuple #[pgV 0 (.slice none 0 0), .int .i64 4]) (rdec_results _ _ pb 0 4 _ rfl rfl HR0'.out HR1'.out) rfl HFIN.out
            | true =>
              rw [hg] at HGD
              have hrn : RD = some ⟨(lsn : Int), done⟩ := by rw [hrd, hg]; rfl
              go_upto_if 92 with (go_at_call 48; refine (HGD.out).mono ?_; rintro e w5 ⟨rfl, hg5⟩; have HS5 := Lib.hid (HS.out.grown hg5); clear hg5)
              clear c0 c1 cf
              obtain ⟨c0, c1, cf⟩ := two_at HS5.out
              have hp := HS5.out.swap
              obtain ⟨e0, e1, ef⟩ := two_at hp
              have hp2 := (hp.setCell (i := 0) (kI (lsn : Int))).setCell (i := 1) (.slice va done.length vc)
              have HP2 : Hid (Sat ((w5.setCell ⟨pb, 0, none⟩ (kI (lsn : Int))).setCell ⟨pb, 1, none⟩ (.slice va done.length vc)) (.blk pb (.cells #[kI (lsn : Int), .slice va done.length vc] 48) :: .blk pc (.cells #[kI (lsn : Int), .slice va done.length vc] 48) :: (h ++ F))) := Lib.hid hp2
              have HR0' := Lib.hid (two_at HP2.out).1
              have HR1' := Lib.hid (two_at HP2.out).2.1
              have HFIN : Hid (DecRet RD F (.returned (.tuple #[pgV (lsn : Int) (.slice va done.length vc), .int .i64 0])) ((w5.setCell ⟨pb, 0, none⟩ (kI (lsn : Int))).setCell ⟨pb, 1, none⟩ (.slice va done.length vc))) := Lib.hid (by
                rw [hrn]
                refine ⟨_, h, HP2.out.tail.tail, rfl, ?_⟩
                have := slAt_own HV.out []
                rw [List.append_nil] at this
                exact this)
              clear hp hp2 hrn hrd hg HERR HBACK
              go_wp2_with fail
              exact bodyPost_ret (v := .tuple #[pgV (lsn : Int) (.slice va done.length vc), .int .i64 0]) (rdec_results _ _ pb (lsn : Int) 0 _ rfl rfl HR0'.out HR1'.out) rfl HFIN.out
    · rw [if_neg (fun h => z1 h.2)] at hrd
      obtain ⟨r0, r1', ff⟩ := two_at HS0.out
      have HFIN : Hid (DecRet RD F (.returned (.tuple #[pgV 0 (.slice none 0 0), .int .i64 4])) (w.alloc (.cells #[kI 0, .slice none 0 0] 48))) := Lib.hid (by rw [hrd]; exact ⟨.slice none 0 0, [], HS0.out.tail, rfl⟩)
      have HR0' := Lib.hid r0
      have HR1' := Lib.hid r1'
      have z2 : ((n1 : Int) == 0) = false := by rw [beq_eq_false_iff_ne]; omega
      have z3 : (n1 = 0) = False := eq_false z1
      clear r0 r1' hrd HERR z1
      go_enter Tryz.func62, Tryz.ntmps62
      go_wp2_with fail
      exact bodyPost_ret (v := .tuple #[pgV 0 (.slice none 0 0), .int .i64 4]) (rdec_results _ _ pb 0 4 _ rfl rfl HR0'.out HR1'.out) rfl HFIN.out
  · rw [if_neg (fun h => z0 h.1)] at hrd
    obtain ⟨r0, r1', ff⟩ := two_at HS0.out
    have HFIN : Hid (DecRet RD F (.returned (.tuple #[pgV 0 (.slice none 0 0), .int .i64 4])) (w.alloc (.cells #[kI 0, .slice none 0 0] 48))) := Lib.hid (by rw [hrd]; exact ⟨.slice none 0 0, [], HS0.out.tail, rfl⟩)
    have HR0' := Lib.hid r0
    have HR1' := Lib.hid r1'
    have z2 : ((n0 : Int) == 0) = false := by rw [beq_eq_false_iff_ne]; omega
    have z3 : (n0 = 0) = False := eq_false z0
    clear r0 r1' hrd HERR z0
    go_enter Tryz.func62, Tryz.ntmps62
    go_wp2_with fail
    exact bodyPost_ret (v := .tuple #[pgV 0 (.slice none 0 0), .int .i64 4]) (rdec_results _ _ pb 0 4 _ rfl rfl HR0'.out HR1'.out) rfl HFIN.out
end Go.Proofs.YtgocmnejlbfplaaGreatDoor
