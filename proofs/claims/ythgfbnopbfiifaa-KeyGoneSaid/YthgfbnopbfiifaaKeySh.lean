/- KeyShares walked: who asks for shared locks alone is granted each at once. Conditions: none. -/
import Derived.Test.YthgfbnopbfiifaaKey16
import Derived.Test.YthgfbnopbfiifaaKeyS
import Derived.Test.YthgfbnopbfiifaaArgs14
namespace Go.Proofs.Ythgfbnopbfiifaa
open Go Go.MapKept Go.RowKit Go.Proofs Go.Sort

/-- All locks are shared ones, and nobody waits. -/
def ShK (T : TabM) : Prop := ∀ p l, getL p T = some l → Fit8 l ∧ l.queue = [] ∧ ∀ c d, getL c l.holds = some d → d.x = false
theorem ShK.put {T : TabM} (h : ShK T) {p : Int} {l : LkM} (hf : Fit8 l) (hq : l.queue = []) (hx : ∀ c d, getL c l.holds = some d → d.x = false) : ShK (putL p l T) := by
  intro p' l' hl
  rw [getL_putL] at hl
  by_cases e : p' = p
  · rw [if_pos e] at hl
    have e2 := Option.some.inj hl
    rw [← e2]
    exact ⟨hf, hq, hx⟩
  · rw [if_neg e] at hl
    exact h p' l' hl
theorem ShK.lock {T : TabM} (h : ShK T) (p : Int) : Fit8 (lockOf T p) ∧ (lockOf T p).queue = [] ∧ ∀ c d, getL c (lockOf T p).holds = some d → d.x = false := by
  unfold lockOf
  cases e : getL p T with
  | none => exact ⟨fit8_nil, rfl, fun c d hd => by cases hd⟩
  | some l => exact h p l e
theorem sh_ask {T : TabM} (h : ShK T) {c p : Int} (hc : 1 ≤ c ∧ c ≤ 8) (hp : 0 ≤ p ∧ p < 1024) : ∃ T', askM ⟨T, []⟩ c p false = (0, ⟨T', [⟨false, c, p, false⟩]⟩) ∧ ShK T' ∧ holdsM T' c p = 1 := by
  obtain ⟨hf, hq, hx⟩ := h.lock p
  have hv : (decide (1 ≤ c) && decide (c ≤ 8) && decide (0 ≤ p) && decide (p < 1024)) = true := by simp; omega
  unfold askM
  rw [if_pos hv]
  simp only
  rw [hq]
  rw [if_neg (by simp)]
  cases e : getL c (lockOf T p).holds with
  | some d =>
    have hdx := hx c d e
    refine ⟨putL p (lockOf T p) T, by simp [hdx], h.put hf hq hx, ?_⟩
    unfold holdsM holdOf
    rw [getL_putL, if_pos rfl]
    simp [e, hdx]
  | none =>
    have hway : wayM (lockOf T p).holds ⟨c, false⟩ = [] := by
      unfold wayM
      rw [List.filter_eq_nil_iff]
      intro k hk
      have : hasX (lockOf T p).holds k = false := by
        unfold hasX
        cases e2 : getL k (lockOf T p).holds with
        | none => rfl
        | some d => exact hx k d e2
      simp [this]
    have hno : hasX (lockOf T p).holds c = false := by unfold hasX; rw [e]; rfl
    have hset : settleM p [⟨c, false⟩] (lockOf T p).holds [] = (⟨putL c ⟨false, false, 0⟩ (lockOf T p).holds, []⟩, [⟨false, c, p, false⟩]) := by
      unfold settleM
      rw [if_pos hway, hno]
      rfl
    refine ⟨putL p ⟨putL c ⟨false, false, 0⟩ (lockOf T p).holds, []⟩ T, ?_, h.put ?_ rfl ?_, ?_⟩
    · unfold settled
      simp only [List.nil_append, hset]
    · have := Fit8.put (l := lockOf T p) hf ⟨false, false, 0⟩ hc.1 hc.2
      rw [hq] at this
      exact this
    · intro k d hd
      rw [getL_putL] at hd
      by_cases ek : k = c
      · rw [if_pos ek] at hd
        rw [← Option.some.inj hd]
      · rw [if_neg ek] at hd
        exact hx k d hd
    · unfold holdsM holdOf
      rw [getL_putL, if_pos rfl]
      simp [getL_putL]
theorem sh_free {T : TabM} (h : ShK T) (c p : Int) (k : Bool) : ∃ T', (freeM ⟨T, []⟩ c p k).2 = ⟨T', []⟩ ∧ ShK T' := by
  unfold freeM
  cases e : getL p T with
  | none => exact ⟨T, rfl, h⟩
  | some l =>
    obtain ⟨hf, hq, hx⟩ := h p l e
    simp only
    cases e2 : getL c l.holds with
    | none => exact ⟨T, rfl, h⟩
    | some d =>
      have hc := hf.1 (c, d) (getL_mem e2)
      simp only
      rw [hq]
      have hdx : ∀ k d, getL k (delL c l.holds) = some d → d.x = false := by
        intro k d hd
        rw [getL_delL _ _ _ hf.2.1] at hd
        split at hd
        · cases hd
        · exact hx k d hd
      have hfd := hf.del c
      rw [hq] at hfd
      cases k with
      | false => exact ⟨putL p ⟨delL c l.holds, []⟩ T, rfl, h.put hfd rfl hdx⟩
      | true =>
        refine ⟨putL p ⟨putL c ⟨false, false, 0⟩ (delL c l.holds), []⟩ T, rfl, h.put (hfd.put _ hc.1 hc.2) rfl ?_⟩
        intro k d hd
        rw [getL_putL] at hd
        by_cases ek : k = c
        · rw [if_pos ek] at hd
          rw [← Option.some.inj hd]
        · rw [if_neg ek] at hd
          exact hdx k d hd
theorem uone_bd (x : Int) : 1 ≤ wrap64 (1 + wrap64 ((IntKind.u64.wrap x).tmod 8)) ∧ wrap64 (1 + wrap64 ((IntKind.u64.wrap x).tmod 8)) ≤ 8 := by
  have h := umod_bd x 8 (by omega) (by omega)
  unfold umod at h
  generalize wrap64 ((IntKind.u64.wrap x).tmod 8) = u at *
  unfold wrap64
  omega
set_option maxRecDepth 100000 in
set_option maxHeartbeats 16000000 in
theorem shares_walk (p : Option Addr) (len cap : Nat) (V0 V1 V2 : Nat → Int) (V3 : Nat → Bool) (W : World) (ha : Acts14 W p len V0 V1 V2 V3) :
    Calls Try.prog 5 #[.slice p len cap] W fun e W' => e = .returned (.bool true) ∧ Below W.heap.size W W' := by
  have Ha := Lib.hid ha
  have hlen := ha.1
  clear ha
  go_enter Try.func5, Try.ntmps5
  go_wp2_with fail
  refine (awake14 (allOf W) W (sat_all W)).mono ?_
  rintro e w0 ⟨rfl, hs⟩
  have HS0 := Lib.hid hs
  clear hs
  go_wp2_with fail
  refine (key_new (allOf W) w0 HS0.out).mono ?_
  rintro e w1 ⟨b, rfl, hL⟩
  have H0 := Lib.hid hL
  clear hL HS0
  go_wp2_with fail
  go_loopw [4] (fun v4 wr => ∃ (k : Nat) (T : TabM), k ≤ len ∧ k ≤ 150 ∧ v4 = .int .i64 k ∧ ShK T ∧ KtIs b ⟨T, []⟩ (allOf W) wr) (fun v4 _ => 200 - (RowKit.intOf v4).toNat)
  case atStart => exact ⟨0, [], by omega, by omega, rfl, fun p l hl => by simp [getL] at hl, H0.out⟩
  case round =>
    obtain ⟨k, T, hk1, hk2, rfl, hok, hK⟩ := hrel
    clear H0
    have j0 : (0 : Int) ≤ (k : Int) := by omega
    by_cases hlt : k < len ∧ k < 150
    · obtain ⟨hlt1, hlt2⟩ := hlt
      obtain ⟨ba, off, rfl, hba, ⟨hA, hA0, hA1⟩, ⟨hB, hB0, hB1⟩, ⟨hC, hC0, hC1⟩, hD⟩ := (Ha.out).2 k hlt1
      have c0 : wr.cell? ⟨ba, off + k * 4, none⟩ = some (kI (V0 k)) := (hK.frame.cellOld (a := ⟨ba, off + k * 4, none⟩) hba).trans hA
      have c1 : wr.cell? ⟨ba, off + k * 4 + 1, none⟩ = some (kI (V1 k)) := (hK.frame.cellOld (a := ⟨ba, off + k * 4 + 1, none⟩) hba).trans hB
      have c2 : wr.cell? ⟨ba, off + k * 4 + 2, none⟩ = some (kI (V2 k)) := (hK.frame.cellOld (a := ⟨ba, off + k * 4 + 2, none⟩) hba).trans hC
      have c3 : wr.cell? ⟨ba, off + k * 4 + 3, none⟩ = some (.bool (V3 k)) := (hK.frame.cellOld (a := ⟨ba, off + k * 4 + 3, none⟩) hba).trans hD
      generalize V0 k = kind at *
      generalize V1 k = v1 at *
      generalize V2 k = v2 at *
      generalize V3 k = x at *
      obtain ⟨cl, hcl, l0, l1⟩ : ∃ cl, wrap64 (1 + wrap64 ((IntKind.u64.wrap v1).tmod 8)) = cl ∧ 1 ≤ cl ∧ cl ≤ 8 := ⟨_, rfl, (uone_bd v1).1, (uone_bd v1).2⟩
      obtain ⟨q, hq, q0, q1⟩ : ∃ q, wrap64 ((IntKind.u64.wrap v2).tmod 1024) = q ∧ 0 ≤ q ∧ q < 1024 := ⟨_, rfl, umod_bd v2 1024 (by omega) (by omega)⟩
      have HOK := Lib.hid hok
      have HQ := Lib.hid (And.intro hcl hq)
      have HK := Lib.hid hK
      clear hA hB hC hD hok hK hcl hq
      go_upto_region 9 with (fail)
      rw [HQ.out.1, HQ.out.2]
      clear HQ
      by_cases hk : kind = 2
      · have b2 : (kind == 2) = true := by simpa using hk
        obtain ⟨T', hT, hok'⟩ := sh_free HOK.out cl q x
        have hfr := free_any HK.out cl q x (fun l hl => (HOK.out q l hl).1) (by simp)
        rw [hT] at hfr
        have HFR := Lib.hid hfr
        have HOK2 := Lib.hid hok'
        clear hk hT hok' hfr HK HOK
        go_wp2_with fail
        refine (HFR.out).mono ?_
        rintro e w2 ⟨rfl, h2⟩
        have FIN := Lib.hid h2
        clear h2 HFR c0 c1 c2 c3
        go_wp2_with fail
        exact ⟨⟨k + 1, T', by omega, by omega, by simp, HOK2.out, FIN.out⟩, by simp only [RowKit.intOf]; omega⟩
      · have b2 : (kind == 2) = false := by simpa using hk
        obtain ⟨T', hT, hok', hh1⟩ := sh_ask HOK.out (c := cl) (p := q) ⟨l0, l1⟩ ⟨q0, q1⟩
        have hask := ask_any HK.out cl q false (fun l hl => (HOK.out q l hl).1) (by simp)
        rw [hT] at hask
        have HASK := Lib.hid hask
        have HOK2 := Lib.hid (And.intro hok' hh1)
        clear hk hT hok' hask HK HOK hh1
        go_wp2_with fail
        refine (HASK.out).mono ?_
        rintro e w2 ⟨rfl, h2⟩
        have H2 := Lib.hid h2
        clear h2 HASK c0 c1 c2 c3
        go_wp2_with fail
        refine (take_any H2.out).mono ?_
        rintro e w3 ⟨v7, hh, rfl, hv7, h3⟩
        obtain ⟨a7, c7, rfl⟩ := sl_form hv7
        obtain ⟨g, rfl, u0, u1, u2, u3⟩ := wd_at hv7 h3.frame (i := 0) rfl rfl
        have e1 := holds_any h3 cl q
        rw [show holdsM (KtM.mk T' []).tab cl q = 1 from HOK2.out.2] at e1
        have e2 := waits_none h3 (fun p l hl => (HOK2.out.1 p l hl).2.1)
        have E1 := Lib.hid e1
        have E2 := Lib.hid e2
        clear hv7 h3 e1 e2 H2
        simp only [List.length_cons, List.length_nil, Nat.zero_mul, Nat.zero_add] at *
        go_wp2_with fail
        refine (E1.out).mono ?_
        rintro e w4 ⟨rfl, rfl⟩
        go_wp2_with fail
        refine (E2.out).mono ?_
        rintro e w4 ⟨rfl, h4⟩
        have FIN := Lib.hid h4.weaken
        clear h4 E1 E2 u0 u1 u2 u3
        go_wp2_with fail
        exact ⟨⟨k + 1, T', by omega, by omega, by simp, HOK2.out.1, FIN.out⟩, by simp only [RowKit.intOf]; omega⟩
    · have HK := Lib.hid hK
      clear hok hK
      have hfin : ∀ w' hh, KtIs b ⟨T, []⟩ (hh ++ allOf W) w' → RowKit.Below W.heap.size W w' := fun w' hh h => h.frame.right.below
      have HFIN := Lib.hid hfin
      clear hfin
      rcases Nat.lt_or_ge k len with h1 | h1
      · obtain rfl : k = 150 := by omega
        clear hlt
        go_wp2_with fail
        refine (take_any HK.out).mono ?_
        rintro e w2 ⟨v, hh, rfl, hv, h2⟩
        obtain ⟨a, cp, rfl⟩ := sl_form hv
        have FIN := Lib.hid (HFIN.out w2 hh h2)
        clear hv h2
        simp only [List.length_nil]
        go_wp2_with fail
        go_ret
        exact ⟨rfl, FIN.out⟩
      · obtain rfl : k = len := by omega
        clear hlt h1
        go_wp2_with fail
        refine (take_any HK.out).mono ?_
        rintro e w2 ⟨v, hh, rfl, hv, h2⟩
        obtain ⟨a, cp, rfl⟩ := sl_form hv
        have FIN := Lib.hid (HFIN.out w2 hh h2)
        clear hv h2
        simp only [List.length_nil]
        go_wp2_with fail
        go_ret
        exact ⟨rfl, FIN.out⟩
end Go.Proofs.Ythgfbnopbfiifaa
