/- PastJoins: what it calls, and more than is asked. Conditions: none. -/
import Derived.Test.YtceegnfjdgjomaaPaParts
import Derived.Test.YtceegnfjdgjomaaPaJM
import Derived.Test.YtceegnfjdgjomaaSlA
namespace Go.Proofs.Ytceegnfjdgjomaa
open Go Go.MapKept Go.RowKit Go.Proofs Go.Sort Go.Shelf

theorem src_of {F : Heaplet} {a : Option Addr} {n cap : Nat} {l : List En} {w : World} (h : EnsIn F (.slice a n cap) l) (hs : Sat w F) : SrcAt eC 13 w a l := by
  intro i q hq
  obtain ⟨a', cap', e, hc⟩ := h
  cases e
  obtain ⟨g, off, rfl, h0, h1, h2, h3, h4, h5, h6, h7, h8, h9, h10, h11, h12⟩ := hc w hs i q hq
  refine ⟨g, off, rfl, fun j u hu => ?_⟩
  have hj : j < 13 := (List.getElem?_eq_some_iff.1 hu).1
  match j, hj with
  | 0, _ => cases hu; exact h0
  | 1, _ => cases hu; exact h1
  | 2, _ => cases hu; exact h2
  | 3, _ => cases hu; exact h3
  | 4, _ => cases hu; exact h4
  | 5, _ => cases hu; exact h5
  | 6, _ => cases hu; exact h6
  | 7, _ => cases hu; exact h7
  | 8, _ => cases hu; exact h8
  | 9, _ => cases hu; exact h9
  | 10, _ => cases hu; exact h10
  | 11, _ => cases hu; exact h11
  | 12, _ => cases hu; exact h12
theorem en_app {R R2 : List En} {v : Value} {h F : Heaplet} {w : World} {a : Option Addr} {c : Nat} (hv : EnSl v R h) (s : Sat w (h ++ F)) (hs : SrcAt eC 13 w a R2) (hlen : R.length + R2.length ≤ 200000) :
    ∃ a' c' w' h', (∀ ty, (Builtin.append_ #[27, 27] ty #[v, .slice a R2.length c]).run Try.prog w = .ok (.slice a' (R.length + R2.length) c') w') ∧ EnSl (.slice a' (R.length + R2.length) c') (R ++ R2) h' ∧ Sat w' (h' ++ F) := by
  obtain ⟨i0, hi, hz, hsize, hby⟩ := info_parts infoEn
  obtain ⟨v', w', h', k1, k2, k3⟩ := sl_app (P := Try.prog) eC_len Try.underlying27 hi hz hsize hby rfl (by decide) hv s hs one_e (by unfold maxLen; omega) (by omega)
  obtain ⟨a', c', rfl⟩ := sl_form k2
  have e : (R ++ R2).length = R.length + R2.length := List.length_append
  rw [e] at k1
  exact ⟨a', c', w', h', k1, by rw [← e]; exact k2, k3⟩
theorem tx_app {R R2 : List Tx} {v : Value} {h F : Heaplet} {w : World} {a : Option Addr} {c : Nat} (hv : TSl v R h) (s : Sat w (h ++ F)) (hs : SrcAt tC 3 w a R2) (hlen : R.length + R2.length ≤ 200000) :
    ∃ a' c' w' h', (∀ ty, (Builtin.append_ #[30, 30] ty #[v, .slice a R2.length c]).run Try.prog w = .ok (.slice a' (R.length + R2.length) c') w') ∧ TSl (.slice a' (R.length + R2.length) c') (R ++ R2) h' ∧ Sat w' (h' ++ F) := by
  obtain ⟨i0, hi, hz, hsize, hby⟩ := info_parts infoTx
  obtain ⟨v', w', h', k1, k2, k3⟩ := sl_app (P := Try.prog) tC_len Try.underlying30 hi hz hsize hby rfl (by decide) hv s hs one_t (by unfold maxLen; omega) (by omega)
  obtain ⟨a', c', rfl⟩ := sl_form k2
  have e : (R ++ R2).length = R.length + R2.length := List.length_append
  rw [e] at k1
  exact ⟨a', c', w', h', k1, by rw [← e]; exact k2, k3⟩
theorem VwAt.src {F : Heaplet} {vb : Nat} {V : VM} {a0 a1 a2 : Option Addr} {c0 c1 c2 : Nat} (h : VwAt F vb V a0 c0 a1 c1 a2 c2) {w : World} (hs : Sat w F) : SrcAt tC 3 w a1 V.done := by
  intro i q hq
  obtain ⟨_, _, hd, _⟩ := h w hs
  obtain ⟨g, rfl, h0, h1, h2⟩ := hd i q hq
  refine ⟨g, 0, rfl, fun j u hu => ?_⟩
  rw [Nat.zero_add]
  have hj : j < 3 := (List.getElem?_eq_some_iff.1 hu).1
  match j, hj with
  | 0, _ => cases hu; exact h0
  | 1, _ => cases hu; exact h1
  | 2, _ => cases hu; exact h2
theorem VwAt.mono {F F' : Heaplet} {vb : Nat} {V : VM} {a0 a1 a2 : Option Addr} {c0 c1 c2 : Nat} (h : VwAt F vb V a0 c0 a1 c1 a2 c2) (hs : ∀ w, Sat w F' → Sat w F) : VwAt F' vb V a0 c0 a1 c1 a2 c2 := fun W hW => h W (hs W hW)
theorem tsl_at {v : Value} {R : List Tx} {h F : Heaplet} {a : Option Addr} {n cap : Nat} (hv : TSl v R h) (e : v = .slice a n cap) {w : World} (s : Sat w (h ++ F)) {i : Nat} {t : Tx} (ht : R[i]? = some t) : ∃ g, a = some ⟨g, 0, none⟩ ∧ w.cell? ⟨g, i * 3, none⟩ = some (kI t.c) ∧ w.cell? ⟨g, i * 3 + 1, none⟩ = some (kI t.e) ∧ w.cell? ⟨g, i * 3 + 2, none⟩ = some (kI t.n) := by
  obtain ⟨a', cap', e2, hc⟩ := sl_cells tC_len hv s
  rw [e] at e2
  cases e2
  obtain ⟨g, e, _, k⟩ := hc i t ht
  exact ⟨g, e, k 0 _ rfl, k 1 _ rfl, k 2 _ rfl⟩
theorem neq_tx (a : Tx) (w : World) : (binOp .neq 23 (tV a) (tV a)).run Try.prog w = .ok (.bool false) w := by
  obtain ⟨a1, a2, a3⟩ := a
  simp [go_sem]
theorem great_no {l : List En} (h : greatM l = false) (w : World) (F : Heaplet) (hs : Sat w F) (v : Value) (hE : EnsIn F v l) : Calls Try.prog 10 #[v] w (Ret (.bool false) (Same w)) := by
  have := great_any v l F w hs hE
  rw [h] at this; exact this
theorem great_yes {l : List En} (h : greatM l = true) (w : World) (F : Heaplet) (hs : Sat w F) (v : Value) (hE : EnsIn F v l) : Calls Try.prog 10 #[v] w (Ret (.bool true) (Same w)) := by
  have := great_any v l F w hs hE
  rw [h] at this; exact this
set_option maxRecDepth 100000 in
set_option maxHeartbeats 16000000 in
/-- More than is asked. -/
theorem joins_big (a0 : Option Addr) (cap0 : Nat) (l : List En) (a1 : Option Addr) (cap1 : Nat) (m : List En) (W : World) (h : EnsAt W a0 l) (h2 : EnsAt W a1 m) (hb : 40 < l.length ∨ 40 < m.length ∨ greatM l = true ∨ greatM m = true) :
    Calls Try.prog 6 #[.slice a0 l.length cap0, .slice a1 m.length cap1] W (Ret (.bool true) (RowKit.Below W.heap.size W)) := by
  have HE := Lib.hid (h.ens cap0)
  have HE2 := Lib.hid (h2.ens cap1)
  have HAW := Lib.hid (awake_any (allOf W) W (sat_all W))
  clear h h2
  by_cases k1 : 40 < (l.length : Int)
  · clear hb
    go_enter Try.func6, Try.ntmps6
    go_wp2_with fail
    refine HAW.out.mono ?_
    rintro e w1 ⟨rfl, hs1⟩
    have HS1 := Lib.hid hs1
    clear hs1
    go_wp2_with fail
    go_ret
    exact ⟨rfl, HS1.out.below⟩
  · by_cases k2 : 40 < (m.length : Int)
    · clear hb
      go_enter Try.func6, Try.ntmps6
      go_wp2_with fail
      refine HAW.out.mono ?_
      rintro e w1 ⟨rfl, hs1⟩
      have HS1 := Lib.hid hs1
      clear hs1
      go_wp2_with fail
      go_ret
      exact ⟨rfl, HS1.out.below⟩
    · cases k3 : greatM l with
      | true =>
        have HG := Lib.hid (fun w hs => great_yes k3 w _ hs _ HE.out)
        clear hb k3
        go_enter Try.func6, Try.ntmps6
        go_wp2_with fail
        refine HAW.out.mono ?_
        rintro e w1 ⟨rfl, hs1⟩
        have HS1 := Lib.hid hs1
        have HG1 := Lib.hid (HG.out _ hs1)
        clear hs1
        go_wp2_with fail
        refine HG1.out.mono ?_
        rintro e w2 ⟨rfl, rfl⟩
        go_wp2_with fail
        go_ret
        exact ⟨rfl, HS1.out.below⟩
      | false =>
        have k4 : greatM m = true := by
          rcases hb with h | h | h | h
          · omega
          · omega
          · rw [h] at k3; cases k3
          · exact h
        have HG := Lib.hid (fun w hs => great_no k3 w _ hs _ HE.out)
        have HG2 := Lib.hid (fun w hs => great_yes k4 w _ hs _ HE2.out)
        clear hb k3 k4
        go_enter Try.func6, Try.ntmps6
        go_wp2_with fail
        refine HAW.out.mono ?_
        rintro e w1 ⟨rfl, hs1⟩
        have HS1 := Lib.hid hs1
        have HG1 := Lib.hid (HG.out _ hs1)
        have HG3 := Lib.hid (HG2.out _ hs1)
        clear hs1
        go_wp2_with fail
        refine HG1.out.mono ?_
        rintro e w2 ⟨rfl, rfl⟩
        go_wp2_with fail
        refine HG3.out.mono ?_
        rintro e w2 ⟨rfl, rfl⟩
        go_wp2_with fail
        go_ret
        exact ⟨rfl, HS1.out.below⟩
/-- Read, its lists named beforehand. -/
theorem read_at (v : Value) (l : List En) (first : Int) (F : Heaplet) (w : World) (hs : Sat w F) (hE : EnsIn F v l) (hl : l.length ≤ 100000) (hf : FitL l) (h1 : 1 ≤ first) (h2 : first ≤ 1099511627776) {LV : List (Tx × Int)} {DV : List Tx} {PV : List (Int × Int)} (e1 : losersM l = LV) (e2 : doneM l = DV) (e3 : pagesM l first = PV) :
    Calls Try.prog 11 #[v, .int .i64 first] w fun e w' => ∃ b0 c0 b1 c1 b2 c2 h, e = .returned (.agg #[.slice b0 LV.length c0, .slice b1 DV.length c1, .slice b2 PV.length c2]) ∧ (∀ vb F, VwAt (.blk vb (vwO (.slice b0 LV.length c0) (.slice b1 DV.length c1) (.slice b2 PV.length c2)) :: (h ++ F)) vb ⟨LV, DV, PV⟩ b0 c0 b1 c1 b2 c2) ∧ Sat w' (h ++ F) := by
  refine (Read_any v l first F w hs hE hl hf).mono ?_
  rintro e w' ⟨v', h, rfl, hv, hs'⟩
  rw [readM_yes l h1 h2, e1, e2, e3] at hv
  obtain ⟨b0, c0, b1, c1, b2, c2, rfl, hV⟩ := vw_open hv
  exact ⟨b0, c0, b1, c1, b2, c2, h, rfl, hV, hs'⟩
end Go.Proofs.Ytceegnfjdgjomaa
