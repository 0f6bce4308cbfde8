/- PastReads walked: what every list tells is what the document says. Conditions: none. -/
import Derived.Test.YtceegnfjdgjomaaPaR4
import Derived.Test.YtceegnfjdgjomaaPaParts
namespace Go.Proofs.Ytceegnfjdgjomaa
open Go Go.MapKept Go.RowKit Go.Proofs Go.Sort Go.Shelf

set_option maxRecDepth 100000 in
set_option maxHeartbeats 4000000 in
theorem neq_en (x : En) (w : World) : (binOp .neq 43 (eV x) (eV x)).run Try.prog w = .ok (.bool false) w := by
  simp [go_sem]
theorem readM_bd {l : List En} (h : l.length ≤ 80) (first : Int) : (readM l first).losers.length ≤ 1000 ∧ (readM l first).done.length ≤ 1000 ∧ (readM l first).pages.length ≤ 1000 := by
  unfold readM
  split
  · have h1 := losers_le l
    have h2 := doneM_len l
    have h3 := pages_le l first
    exact ⟨by simp only; omega, by simp only; omega, by simp only; omega⟩
  · exact ⟨by simp, by simp, by simp⟩
theorem ensl_at {v : Value} {l : List En} {h F : Heaplet} {a : Option Addr} {n cap : Nat} (hv : EnSl v l h) (e : v = .slice a n cap) {w : World} (s : Sat w (h ++ F)) {i : Nat} {x : En} (hx : l[i]? = some x) : ∃ g off, a = some ⟨g, off, none⟩ ∧ EnO w g (off + i * 13) x := by
  obtain ⟨a', cap', e2, hc⟩ := ens_in hv F
  rw [e] at e2
  cases e2
  exact hc w s i x hx
set_option maxRecDepth 100000 in
set_option maxHeartbeats 16000000 in
theorem reads_walk (a0 : Option Addr) (cap0 : Nat) (l : List En) (x1 : Int) (t : Tx) (W : World) (_ : l.length ≤ cap0) (h : EnsAt W a0 l) (_ : -9223372036854775808 ≤ x1) (_ : x1 ≤ 9223372036854775807) :
    Calls Try.prog 7 #[.slice a0 l.length cap0, .int .i64 x1, tV t] W (Ret (.bool true) (RowKit.Below W.heap.size W)) := by
  have hE := h.ens cap0
  have hs0 := (sat_all W).new (.cells #[kI t.c, kI t.e, kI t.n] 23)
  have HAW := Lib.hid (awake_any _ _ hs0)
  have mixed : Try.prog.follows .mixedOrders = true := by kernel_rfl
  have HF := Lib.hid h.2.1
  obtain ⟨F, hF⟩ : ∃ F, HItem.blk W.heap.size (.cells #[kI t.c, kI t.e, kI t.n] 23) :: allOf W = F := ⟨_, rfl⟩
  have hE2 := hE.cons (.blk W.heap.size (.cells #[kI t.c, kI t.e, kI t.n] 23))
  have HT : Hid (∀ w, Sat w F → w.cell? ⟨W.heap.size, 0, none⟩ = some (kI t.c) ∧ w.cell? ⟨W.heap.size, 1, none⟩ = some (kI t.e) ∧ w.cell? ⟨W.heap.size, 2, none⟩ = some (kI t.n)) := Lib.hid (fun w hw => by
    rw [← hF] at hw
    exact ⟨by rw [cell_of hw.h0]; rfl, by rw [cell_of hw.h0]; rfl, by rw [cell_of hw.h0]; rfl⟩)
  have HB : Hid (∀ w, Sat w F → Sat w (allOf W)) := Lib.hid (fun w hw => by rw [← hF] at hw; exact hw.tail)
  rw [hF] at hE2 HAW
  have HE := Lib.hid hE2
  clear hE hE2 h hF hs0
  cases hgr : greatM l with
  | true =>
    have HGR := Lib.hid hgr
    clear hgr HF
    go_enter Try.func7, Try.ntmps7
    go_wp2_with fail
    refine HAW.out.mono ?_
    rintro e w1 ⟨rfl, hs1⟩
    have hG := great_any _ l _ w1 hs1 HE.out
    rw [HGR.out] at hG
    have HG := Lib.hid hG
    have HS1 := Lib.hid hs1
    clear hs1 HAW hG
    go_wp2_with fail
    refine HG.out.mono ?_
    rintro e w2 ⟨rfl, rfl⟩
    go_wp2_with fail
    go_ret
    exact ⟨rfl, (HB.out _ HS1.out).below⟩
  | false =>
    have HGR := Lib.hid hgr
    have HL80 := Lib.hid (great_len hgr)
    clear hgr
    go_enter Try.func7, Try.ntmps7
    go_wp2_with fail
    refine HAW.out.mono ?_
    rintro e w1 ⟨rfl, hs1⟩
    have hG := great_any _ l _ w1 hs1 HE.out
    rw [HGR.out] at hG
    have HG := Lib.hid hG
    have HOf := Lib.hid (Of_any _ l t _ w1 hs1 HE.out (by have := HL80.out; omega) HF.out)
    obtain ⟨t0, t1, t2⟩ := HT.out _ hs1
    clear hs1 HAW hG
    generalize W.heap.size = tb at HT t0 t1 t2 ⊢
    go_wp2_with fail
    refine HG.out.mono ?_
    rintro e w2 ⟨rfl, rfl⟩
    go_wp2_with fail
    refine HOf.out.mono ?_
    rintro e w2 ⟨v2, h2, rfl, hv2, hs2⟩
    have HOR := Lib.hid (OfR_any _ l t _ w2 hs2 (HE.out.right h2) (by have := HL80.out; omega))
    obtain ⟨p2, q2, rfl⟩ := sl_form hv2
    have HV2 := Lib.hid hv2
    clear t0 t1 t2 HG HOf hv2
    obtain ⟨t0, t1, t2⟩ := HT.out _ hs2.right
    clear hs2
    go_wp2_with fail
    refine HOR.out.mono ?_
    rintro e w3 ⟨v3, h3, rfl, hv3, hs3⟩
    obtain ⟨p3, q3, rfl⟩ := sl_form hv3
    have HV3 := Lib.hid hv3
    have HS3 := Lib.hid hs3
    have HOL : Hid ((ofM l t).length ≤ 80) := Lib.hid (by have := ofM_len l t; have := HL80.out; omega)
    clear t0 t1 t2 HOR hv3 hs3
    obtain ⟨O, hO⟩ : ∃ O, ofM l t = O := ⟨_, rfl⟩
    rw [hO] at HV2 HV3 HOL ⊢
    clear hO
    have e0 : ((O.length : Int) != (O.length : Int)) = false := by simp
    go_wp2_with fail
    clear e0
    go_loopw [9] (fun v9 wr => ∃ k : Nat, k ≤ O.length ∧ v9 = .int .i64 k ∧ Sat wr (h3 ++ (h2 ++ F))) (fun v9 _ => 200000 - (RowKit.intOf v9).toNat)
    case atStart => exact ⟨0, by omega, rfl, HS3.out⟩
    case round =>
      clear HS3
      obtain ⟨k, hk, rfl, hg⟩ := hrel
      have k0 : (0 : Int) ≤ (k : Int) := by omega
      have k9 : (k : Int) ≤ 80 := by have := HOL.out; omega
      have HG := Lib.hid hg
      by_cases hkl : k < O.length
      · have k1 : (k : Int) < (O.length : Int) := by omega
        obtain ⟨x, hx⟩ : ∃ x, O[k]? = some x := ⟨_, List.getElem?_eq_getElem hkl⟩
        obtain ⟨g2, o2, rfl, a0', a1', a2', a3', a4', a5', a6', a7', a8', a9', a10', a11', a12'⟩ := ensl_at HV2.out rfl hg.right hx
        obtain ⟨g3, o3, rfl, b0', b1', b2', b3', b4', b5', b6', b7', b8', b9', b10', b11', b12'⟩ := ensl_at HV3.out rfl hg hx
        have hne := fun w => neq_en x w
        clear hx hg
        go_upto_region 12 with (fail)
        go_quiet (fail)
        have HG9 := Lib.hid (HG.out.grown (Grown.drewN _ nq))
        clear HG hne a0' a1' a2' a3' a4' a5' a6' a7' a8' a9' a10' a11' a12' b0' b1' b2' b3' b4' b5' b6' b7' b8' b9' b10' b11' b12'
        go_wp2_with fail
        exact ⟨⟨k + 1, by omega, by simp, HG9.out⟩, by simp only [RowKit.intOf]; omega⟩
      · obtain rfl : k = O.length := by omega
        have HRd := Lib.hid (Read_any _ l x1 F wr hg.right.right HE.out (by have := HL80.out; omega) HF.out)
        clear hg hkl k0 k9 hk HG HV2 HV3
        obtain ⟨V, hV⟩ : ∃ V, readM l x1 = V := ⟨_, rfl⟩
        have HVB : Hid (V.losers.length ≤ 1000 ∧ V.done.length ≤ 1000 ∧ V.pages.length ≤ 1000) := Lib.hid (by rw [← hV]; exact readM_bd HL80.out x1)
        have HRR : Hid (∀ w F', Sat w F' → EnsIn F' (.slice a0 l.length cap0) l → Calls Try.prog 17 #[.slice a0 l.length cap0, .int .i64 x1] w fun e w' => ∃ v' h, e = .returned v' ∧ ViewIs v' V h ∧ Sat w' (h ++ F')) := Lib.hid (fun w F' hs hE => by
          have := ReadR_any _ l x1 F' w hs hE (by have := HL80.out; omega)
          rw [hV] at this; exact this)
        rw [hV] at HRd
        clear hV
        obtain ⟨n, hn⟩ : ∃ n, neededM l x1 = n := ⟨_, rfl⟩
        have HND : Hid (∀ w, Sat w F → Calls Try.prog 14 #[.slice a0 l.length cap0, .int .i64 x1] w (Ret (.int .i64 n) (fun w' => Sat w' F))) := Lib.hid (fun w hs => by
          have := Needed_any _ l x1 F w hs HE.out (by have := HL80.out; omega) HF.out
          rw [hn] at this; exact this)
        have HNR : Hid (∀ w, Sat w F → Calls Try.prog 18 #[.slice a0 l.length cap0, .int .i64 x1] w (Ret (.int .i64 n) (fun w' => Sat w' F))) := Lib.hid (fun w hs => by
          have := NeededR_any _ l x1 F w hs HE.out (by have := HL80.out; omega)
          rw [hn] at this; exact this)
        clear hn
        go_wp2_with fail
        refine HRd.out.mono ?_
        rintro e w4 ⟨v4, h4, rfl, hv4, hs4⟩
        have HR5 := Lib.hid (HRR.out w4 _ hs4 (HE.out.right h4))
        have HV4 := Lib.hid hv4
        clear hv4 hs4 HRd HRR
        go_wp2_with fail
        refine HR5.out.mono ?_
        rintro e w5 ⟨v5, h5, rfl, hv5, hs5⟩
        have HSM := Lib.hid (SameR_any v4 v5 V h4 h5 F w5 HV4.out hv5 hs5 HVB.out.1 HVB.out.2.1 HVB.out.2.2)
        clear hv5 hs5 HR5 HV4
        go_wp2_with fail
        refine HSM.out.mono ?_
        rintro e w6 ⟨rfl, hs6⟩
        have HN6 := Lib.hid (HND.out w6 hs6)
        clear hs6 HSM HND
        go_wp2_with fail
        refine HN6.out.mono ?_
        rintro e w7 ⟨rfl, hs7⟩
        have HN7 := Lib.hid (HNR.out w7 hs7)
        clear hs7 HN6 HNR
        go_wp2_with fail
        refine HN7.out.mono ?_
        rintro e w8 ⟨rfl, hs8⟩
        have HS8 := Lib.hid hs8
        clear hs8 HN7
        go_wp2_with fail
        go_ret
        exact ⟨by simp, (HB.out _ HS8.out).below⟩
end Go.Proofs.Ytceegnfjdgjomaa
