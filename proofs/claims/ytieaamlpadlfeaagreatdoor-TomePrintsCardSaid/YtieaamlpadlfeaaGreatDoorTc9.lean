/- The document's Parse walked. Conditions: none. -/
import Derived.Test.YtieaamlpadlfeaaGreatDoorTc8
namespace Go.Proofs.YtieaamlpadlfeaaGreatDoor
open Go Go.MapKept Go.RowKit Go.Proofs

attribute [local go_sem] Oper.semAt_some

/-- A row of words without its first. -/
theorem run_tail {F : Heaplet} {a : Option Addr} {cap : Nat} {y : Bs} {t : List Bs} {n : Nat} (hn : n = (y :: t).length) (hv : WsAt F (.slice a n cap) (y :: t)) : ∃ a' cap', WsAt F (.slice a' t.length cap') t ∧ ∀ W, (Instr.slice 40 (.slice a n cap) (some (.int .i64 1)) none none).run Tryz.prog W = .ok (.slice a' t.length cap') W := by
  subst hn
  obtain ⟨a', cap', e, hcap, hu⟩ := hv
  simp only [Value.slice.injEq] at e
  obtain ⟨rfl, _, rfl⟩ := e
  obtain ⟨g, off, rfl, hx⟩ := hu 0 y rfl
  simp only [List.length_cons] at hcap ⊢
  have n1 : (1 : Int) ≤ ((t.length + 1 : Nat) : Int) := by omega
  have n2 : ((t.length + 1 : Nat) : Int) ≤ (cap : Int) := by omega
  have hrest : ∀ (i : Nat) x, t[i]? = some x → ∀ w, Sat w F → w.cell? ⟨g, off + 1 + i, none⟩ = some (kL x) := fun i x hi w hw => by
    obtain ⟨g2, off2, e2, hw2⟩ := hu (i + 1) x (by rw [List.getElem?_cons_succ]; exact hi)
    cases e2
    have := hw2 w hw
    rw [show off + (i + 1) = off + 1 + i by omega] at this
    exact this
  by_cases e1 : cap = 1
  · have h0 : t.length = 0 := by omega
    obtain rfl := List.eq_nil_of_length_eq_zero h0
    subst e1
    refine ⟨some ⟨g, off, none⟩, 0, ⟨_, 0, rfl, Nat.le_refl _, fun i x hi => by simp at hi⟩, fun W => ?_⟩
    go_simp
  · refine ⟨some ⟨g, off + 1, none⟩, cap - 1, ⟨_, cap - 1, rfl, by omega, fun i x hi => ⟨g, off + 1, rfl, hrest i x hi⟩⟩, fun W => ?_⟩
    go_simp
    intro h
    omega
theorem names_at (g : Nat) (names : List Bs) (z : Nat × Nat) : WsAt [.blk g (.cells (([] :: names : List Bs).flatMap fS).toArray 9 z)] (.slice (some ⟨g, 0, none⟩) (names.length + 1) (names.length + 1)) ([] :: names) := by
  refine ⟨_, names.length + 1, rfl, Nat.le_refl _, fun i x hi => ⟨g, 0, rfl, fun w hw => ?_⟩⟩
  rw [cell_of hw.h0, Nat.zero_add]
  have e : (([] :: names : List Bs).flatMap fS) = ([] :: names : List Bs).map kL := by rw [← List.map_eq_flatMap]
  rw [e]
  simp only [List.getElem?_toArray, List.getElem?_map, hi]
  rfl
/-- Numbers that are one at least, and without their first two. -/
theorem ns_one {v : Value} {c : Int} {t : List Int} {h : Heaplet} (hv : IOwn v (c :: t) h) : ∃ g cap, v = .slice (some ⟨g, 0, none⟩) (c :: t).length cap ∧ ∀ w, Sat w h → w.cell? ⟨g, 0, none⟩ = some (kI c) := by
  have hf := FtAt.of hv
  obtain ⟨hlen, h1 | ⟨g, cap, cur, e, hnc, _, _, _, _⟩⟩ := id hv
  · have := h1.2.1
    simp at this
  refine ⟨g, cap, e, fun w hw => ?_⟩
  obtain ⟨a', cap2, e2, hu⟩ := hf
  rw [e2] at e
  simp only [Value.slice.injEq] at e
  obtain ⟨rfl, _, rfl⟩ := e
  obtain ⟨g2, off2, e3, hw2⟩ := hu 0 c rfl
  cases e3
  exact hw2 w hw
set_option maxRecDepth 100000 in
theorem ns_two {v : Value} {c n : Int} {fs : List Int} {h : Heaplet} (hv : IOwn v (c :: n :: fs) h) : ∃ g cap, v = .slice (some ⟨g, 0, none⟩) (c :: n :: fs).length cap ∧ (∀ w, Sat w h → w.cell? ⟨g, 0, none⟩ = some (kI c) ∧ w.cell? ⟨g, 1, none⟩ = some (kI n)) ∧ ∃ a' cap', FtAt h (.slice a' fs.length cap') fs ∧ ∀ W, (Instr.slice 22 (.slice (some ⟨g, 0, none⟩) (c :: n :: fs).length cap) (some (.int .i64 2)) none none).run Tryz.prog W = .ok (.slice a' fs.length cap') W := by
  have hf := FtAt.of hv
  obtain ⟨hlen, h1 | ⟨g, cap, cur, e, hnc, _, _, _, _⟩⟩ := id hv
  · have := h1.2.1
    simp at this
  simp only [List.length_cons] at e hnc ⊢
  obtain ⟨a', cap2, e2, hu⟩ := hf
  rw [e2] at e
  simp only [List.length_cons, Value.slice.injEq] at e
  obtain ⟨rfl, _, rfl⟩ := e
  have hrest : ∀ (i : Nat) x, (c :: n :: fs)[i]? = some x → ∀ w, Sat w h → w.cell? ⟨g, i, none⟩ = some (kI x) := fun i x hi w hw => by
    obtain ⟨g2, off2, e3, hw2⟩ := hu i x hi
    cases e3
    have := hw2 w hw
    rwa [Nat.zero_add] at this
  refine ⟨g, cap2, e2, fun w hw => ⟨hrest 0 c rfl w hw, hrest 1 n rfl w hw⟩, ?_⟩
  have n1 : (2 : Int) ≤ ((fs.length + 1 + 1 : Nat) : Int) := by omega
  have n2 : ((fs.length + 1 + 1 : Nat) : Int) ≤ (cap2 : Int) := by omega
  by_cases e1 : cap2 = 2
  · have h0 : fs.length = 0 := by omega
    obtain rfl := List.eq_nil_of_length_eq_zero h0
    subst e1
    refine ⟨some ⟨g, 0, none⟩, 0, FtAt.nil _ _ _, fun W => ?_⟩
    go_simp
  · refine ⟨some ⟨g, 2, none⟩, cap2 - 2, ⟨_, cap2 - 2, rfl, fun i x hi => ⟨g, 2, rfl, fun w hw => ?_⟩⟩, fun W => ?_⟩
    · rw [Nat.add_comm]
      exact hrest (i + 2) x (by rw [List.getElem?_cons_succ, List.getElem?_cons_succ]; exact hi) w hw
    go_simp
    intro h
    omega
theorem parse_k0 {y : Bs} {t : List Bs} (hk : kindOf stepNames y = 0) : parseR (y :: t) = none := by
  unfold parseR
  simp only [hk, if_pos]
theorem parse_mv {y u : Bs} {t : List Bs} {k : Nat} (hk : kindOf stepNames y = k) (h : 1 < k ∧ k < 5) : parseR [y] = none ∧ parseR (y :: u :: t) = if u = upW ∨ u = downW then tailR k (decide (u = upW)) t else none := by
  unfold parseR
  simp only [hk]
  rw [if_neg (by omega), if_pos h]
  exact ⟨rfl, by rw [if_neg (by omega), if_pos h]⟩
theorem parse_cl {y c : Bs} {t : List Bs} (hk : kindOf stepNames y = 1) : parseR [y] = none ∧ parseR (y :: c :: t) = (numS c).bind fun n => (callR t).map fun x => ⟨1, n, false, 0, [], x⟩ := by
  unfold parseR
  simp only [hk]
  exact ⟨rfl, rfl⟩
theorem parse_ot {y : Bs} {t : List Bs} {k : Nat} (hk : kindOf stepNames y = k) (h0 : k ≠ 0) (h1 : k ≠ 1) (h : ¬ (1 < k ∧ k < 5)) : parseR (y :: t) = tailR k false t := by
  unfold parseR
  simp only [hk]
  rw [if_neg h0, if_neg h, if_neg h1]
set_option maxRecDepth 100000 in
theorem rp_results (tm : Array Value) (W9 : World) (g : Nat) (c : Int) (a0 a1 a2 a3 a4 a5 a6 a7 a8 : Value) (h1 : (tm[2]?).getD undef = .pointer (some ⟨g, 0, none⟩)) (h2 : (tm[3]?).getD undef = .int .i64 c)
    (h : W9.cell? ⟨g, 0, none⟩ = some a0 ∧ W9.cell? ⟨g, 1, none⟩ = some a1 ∧ W9.cell? ⟨g, 2, none⟩ = some a2 ∧ W9.cell? ⟨g, 3, none⟩ = some a3 ∧ W9.cell? ⟨g, 4, none⟩ = some a4 ∧ W9.cell? ⟨g, 5, none⟩ = some a5 ∧ W9.cell? ⟨g, 6, none⟩ = some a6 ∧ W9.cell? ⟨g, 7, none⟩ = some a7 ∧ W9.cell? ⟨g, 8, none⟩ = some a8) :
    (results Tryz.f16 tm).run Tryz.prog W9 = .ok (.tuple #[.agg #[a0, a1, a2, a3, a4, a5, a6, a7, a8], .int .i64 c]) W9 := by
  obtain ⟨r0, r1, r2, r3, r4, r5, r6, r7, r8⟩ := h
  simp [results, Tryz.results16, go_sem, h1, h2, r0, r1, r2, r3, r4, r5, r6, r7, r8]
theorem rp_end {PB : Ending → World → Prop} {A : Nat} {c : Int} {y : StepM} {fv : Value} {K : Heaplet} {W : World} {a : Act} (hd : a.defers = []) (h1 : (a.tmps[2]?).getD undef = .pointer (some ⟨A, 0, none⟩)) (h2 : (a.tmps[3]?).getD undef = .int .i64 c)
    (hs : Sat W (.blk A (stepO y.kind y.client y.up y.n fv y.call.kind y.call.page y.call.slot y.call.data) :: K)) (hfin : PB (.returned (.tuple #[stepV y fv, .int .i64 c])) W) : bodyPost Tryz.prog Tryz.f16 PB Exit.ret a W :=
  bodyPost_ret (rp_results _ _ A c _ _ _ _ _ _ _ _ _ h1 h2 (nine_of hs)) hd hfin
set_option maxRecDepth 100000 in
set_option maxHeartbeats 16000000 in
theorem refparse_any {F : Heaplet} {w : World} (s : Sat w F) (x : Bs) (hx : x.length ≤ 900000) : Calls Tryz.prog 16 #[kL x] w (ParseRet F (parseR (wordsL x))) := by
  obtain ⟨A, hA⟩ : ∃ A, w.heap.size = A := ⟨_, rfl⟩
  have h2 := (s.new zeroO).new zeroO
  rw [World.size_alloc, hA] at h2
  have H2 := Lib.hid h2
  have HW := Lib.hid (rwords_any h2 x hx)
  have hshort : ∀ y ∈ wordsL x, y.length ≤ 900000 := fun y hy => Nat.le_trans (cut_len 32 x y hy) hx
  have hcnt : (wordsL x).length ≤ 1000000 := by
    have := cut_count 32 x
    show (cutL 32 x).length ≤ _
    omega
  have hne := cutL_ne 32 x
  have hne2 : wordsL x ≠ [] := hne
  obtain ⟨PB, hPB⟩ : ∃ PB : Ending → World → Prop, ParseRet F (parseR (wordsL x)) = PB := ⟨_, rfl⟩
  rw [hPB]
  generalize wordsL x = ws at *
  obtain ⟨y, t, rfl⟩ : ∃ y t, ws = y :: t := by
    cases ws with
    | nil => exact absurd rfl hne2
    | cons y t => exact ⟨y, t, rfl⟩
  have HPB := Lib.hid hPB
  have HSH := Lib.hid (And.intro hshort hcnt)
  clear hPB s h2 hshort hcnt hne hne2 hx
  go_enter Tryz.func16, Tryz.ntmps16
  go_upto_region 3 with (go_at_call 37; refine (HW.out).mono ?_; rintro e w3 ⟨v3, h3, rfl, hv3, hs3⟩; have V3 := Lib.hid hv3.ws; have S3 := Lib.hid hs3; clear hv3 hs3)
  obtain ⟨a3, c3, rfl, -⟩ := id V3.out
  have s4 := S3.out.new (.cells (([] :: stepNames : List Bs).flatMap fS).toArray 9)
  have hlk : ∀ W, Sat W h3 → ∃ g off, a3 = some ⟨g, off, none⟩ ∧ W.cell? ⟨g, off, none⟩ = some (kL y) := fun W hW => by
    obtain ⟨a', c', e, _, hu⟩ := V3.out
    cases e
    obtain ⟨g, off, e2, hc⟩ := hu 0 y rfl
    exact ⟨g, off, e2, hc W hW⟩
  obtain ⟨g, off, rfl, c0⟩ := hlk _ s4.tail.lft
  have hpl := rplace_any s4 ((names_at w3.heap.size stepNames (0, 0)).mono (fun W hW => Sat.lft (h := [_]) hW)) (by decide) y
  obtain ⟨k, hk⟩ : ∃ k, kindOf stepNames y = k := ⟨_, rfl⟩
  rw [hk] at hpl
  have hk9 : k ≤ 10 := by rw [← hk]; exact kindOf_le stepNames y
  have HPL : Hid (Calls Tryz.prog 38 #[.slice (some ⟨w3.heap.size, 0, none⟩) 11 11, kL y] (w3.alloc (.cells #[kL [], kL [99, 108, 105, 101, 110, 116], kL [109, 111, 118, 101], kL [100, 114, 111, 112], kL [116, 119, 105, 99, 101], kL [116, 105, 99, 107], kL [99, 114, 97, 115, 104], kL [115, 116, 97, 114, 116], kL [110, 111, 116, 105, 99, 101], kL [99, 104, 101, 99, 107], kL [99, 97, 108, 109]] 9)) _) := Lib.hid hpl
  have c0' : (w3.alloc (.cells #[kL [], kL [99, 108, 105, 101, 110, 116], kL [109, 111, 118, 101], kL [100, 114, 111, 112], kL [116, 119, 105, 99, 101], kL [116, 105, 99, 107], kL [99, 114, 97, 115, 104], kL [115, 116, 97, 114, 116], kL [110, 111, 116, 105, 99, 101], kL [99, 104, 101, 99, 107], kL [99, 97, 108, 109]] 9)).cell? ⟨g, off, none⟩ = some (kL y) := c0
  have l2 : (0 : Int) < ((y :: t : List Bs).length : Int) := by simp only [List.length_cons]; omega
  have l3 : 0 < (y :: t : List Bs).length := by simp only [List.length_cons]; omega
  obtain ⟨at', ct', hvt, hst⟩ := run_tail rfl V3.out
  generalize hln : (y :: t : List Bs).length = ln at *
  have VT := Lib.hid hvt
  have HLN := Lib.hid hln
  have HK := Lib.hid hk
  have HK9 := Lib.hid hk9
  clear hln hvt hlk hpl hk hk9 c0 s4
  go_upto_region 4 with (go_at_call 38; refine (HPL.out).mono ?_; rintro e w4 ⟨rfl, h4⟩; have S4 := Lib.hid (h4.new (stepO k 0 false 0 (.slice none 0 0) 0 0 0 [])); clear h4)
  clear c0' HPL
  obtain ⟨G, hG⟩ : ∃ G, h3 ++ (.blk (A + 1) zeroO :: .blk A zeroO :: F) = G := ⟨_, rfl⟩
  have HGH : Hid (∀ W, Sat W G → Sat W h3) := Lib.hid (fun W hW => by rw [← hG] at hW; exact hW.lft)
  have HGA : Hid (∀ W B o, Sat W (.blk B o :: G) → Sat W (.blk A zeroO :: .blk (A + 1) zeroO :: .blk B o :: (h3 ++ F))) := Lib.hid (fun W B o hW => by
    rw [← hG] at hW
    (refine Sat.part hW ?_; intro a; simp only [cnt_cons, cnt_append]; omega))
  have HGS : Hid (∀ W (L : Heaplet), Sat W (L ++ G) → Sat W (.blk A zeroO :: .blk (A + 1) zeroO :: (L ++ F))) := Lib.hid (fun W L hW => by
    rw [← hG] at hW
    (refine Sat.part hW ?_; intro a; simp only [cnt_cons, cnt_append]; omega))
  have S5 : Hid (Sat (w4.alloc (stepO k 0 false 0 (.slice none 0 0) 0 0 0 [])) (.blk w4.heap.size (stepO k 0 false 0 (.slice none 0 0) 0 0 0 []) :: G)) := Lib.hid (by
    rw [← hG]
    (refine Sat.part S4.out ?_; intro a; simp only [cnt_cons, cnt_append]; omega))
  clear hG S4 S3 H2 HW V3 hA
  generalize w4.alloc (stepO k 0 false 0 (.slice none 0 0) 0 0 0 []) = W4 at *
  generalize w4.heap.size = B at *
  have HNO : Hid (parseR (y :: t) = none → ∀ W (a : Act) K, Sat W (.blk A zeroO :: K) → (Sat W K → Sat W F) → a.defers = [] → (a.tmps[2]?).getD undef = .pointer (some ⟨A, 0, none⟩) → (a.tmps[3]?).getD undef = .int .i64 50 → bodyPost Tryz.prog Tryz.f16 PB Exit.ret a W) := Lib.hid (fun hno W a K hW hKF hd h1 h2 => by
    refine rp_end (A := A) (c := 50) (y := StepM.zero) (fv := .slice none 0 0) hd h1 h2 hW ?_
    rw [← HPB.out, hno]
    exact ⟨rfl, hKF hW.tail⟩)
  have k0 : (0 : Int) ≤ (k : Int) := by omega
  obtain ⟨x0, x1, x2, x3, x4, x5, x6, x7, x8⟩ := nine_of S5.out
  by_cases h0 : k = 0
  · have m0 : ((k : Int) == 0) = true := by rw [h0]; rfl
    have hno := parse_k0 (t := t) (h0 ▸ HK.out)
    have HN := Lib.hid hno
    have hs := HGA.out _ _ _ S5.out
    obtain ⟨e0, e1, e2, e3, e4, e5, e6, e7, e8⟩ := nine_of hs.tail
    obtain ⟨d0, d1, d2, d3, d4, d5, d6, d7, d8⟩ := nine_of hs
    have ez := fun i => unfrozen_of hs.h0 i
    have HS := Lib.hid hs
    clear h0 hno hs
    go_wp2_with fail
    have hn := HNO.out HN.out
    exact hn _ _ _ (put9 HS.out _ _ _ _ _ _ _ _ _) (fun h => h.tail.tail.right) rfl rfl rfl
  have m0 : ((k : Int) == 0) = false := by rw [beq_eq_false_iff_ne]; omega
  have hkn : (1 < (k : Int) ∧ (k : Int) < 5) ∨ (k = 1) ∨ (5 ≤ k) := by omega
  have HTS : Hid ((∀ z ∈ t, z.length ≤ 900000) ∧ t.length ≤ 1000000) := Lib.hid ⟨fun z hz => HSH.out.1 z (.tail _ hz), by have := HSH.out.2; have := HLN.out; simp only [List.length_cons] at this; omega⟩
  obtain ⟨q, hq⟩ : ∃ q, decide (1 < k ∧ k < 5) = q := ⟨_, rfl⟩
  have HQ := Lib.hid hq
  clear hq
  go_upto_region 7 with (fail)
  go_cut [36] (fun v wx => v = .bool q ∧ wx = W4)
  case first =>
    rcases hkn with ⟨k1, k2⟩ | h1 | h5
    · obtain rfl : q = true := by rw [← HQ.out]; exact decide_eq_true (by omega)
      clear h0
      go_wp2_with fail
      go_meet
      exact ⟨rfl, rfl⟩
    · obtain rfl : q = false := by rw [← HQ.out]; exact decide_eq_false (by omega)
      have k1 : ((1 : Int) < (k : Int)) = False := eq_false (by omega)
      clear h0 h1
      go_wp2_with fail
      go_meet
      exact ⟨rfl, rfl⟩
    · obtain rfl : q = false := by rw [← HQ.out]; exact decide_eq_false (by omega)
      have k1 : (1 : Int) < (k : Int) := by omega
      have k2 : ((k : Int) < 5) = False := eq_false (by omega)
      clear h0 h5
      go_wp2_with fail
      go_meet
      exact ⟨rfl, rfl⟩
  case rest =>
    obtain ⟨rfl, hww⟩ := hcut
    cases hww
    have H0 := Lib.hid h0
    clear hkn h0
    go_upto_if 36 with (fail)
    go_cut [5] (fun v5 wx => ∃ up l' a5 c5, v5 = .slice a5 l'.length c5 ∧ WsAt h3 (.slice a5 l'.length c5) l' ∧ ((∀ z ∈ l', z.length ≤ 900000) ∧ l'.length ≤ 1000000) ∧ (k = 1 → up = false ∧ l' = t) ∧ (k ≠ 1 → parseR (y :: t) = tailR k up l') ∧ Sat wx (.blk B (stepO k 0 up 0 (.slice none 0 0) 0 0 0 []) :: G))
    case first =>
      cases q with
      | false =>
        have hq := of_decide_eq_false HQ.out
        have FIN := Lib.hid (show k ≠ 1 → parseR (y :: t) = tailR k false t from fun h1 => parse_ot HK.out H0.out h1 hq)
        clear hq
        go_wp2_with fail
        go_meet
        exact ⟨false, t, at', ct', rfl, VT.out, HTS.out, fun _ => ⟨rfl, rfl⟩, FIN.out, S5.out⟩
      | true =>
        have hq := of_decide_eq_true HQ.out
        have H1 := Lib.hid (show k ≠ 1 by omega)
        have HMV := Lib.hid (fun u t2 => parse_mv (u := u) (t := t2) HK.out hq)
        clear hq
        cases t with
        | nil =>
          have HN := Lib.hid (HMV.out [] []).1
          have l4 : ((([] : List Bs).length : Int) < 1) := by simp
          have hs := HGA.out _ _ _ S5.out
          obtain ⟨e0, e1, e2, e3, e4, e5, e6, e7, e8⟩ := nine_of hs.tail
          obtain ⟨d0, d1, d2, d3, d4, d5, d6, d7, d8⟩ := nine_of hs
          have ez := fun i => unfrozen_of hs.h0 i
          have HS := Lib.hid hs
          clear hs 
          go_wp2_with fail
          have hn := HNO.out HN.out
          exact hn _ _ _ (put9 HS.out _ _ _ _ _ _ _ _ _) (fun h => h.tail.tail.right) rfl rfl rfl
        | cons u t2 =>
          have l4 : ((((u :: t2 : List Bs).length : Int) < 1)) = False := eq_false (by simp only [List.length_cons]; omega)
          have l5 : 0 < (u :: t2 : List Bs).length := by simp only [List.length_cons]; omega
          obtain ⟨au, cu, hvu, hsu⟩ := run_tail rfl VT.out
          have hlk : ∀ W, Sat W h3 → ∃ g off, at' = some ⟨g, off, none⟩ ∧ W.cell? ⟨g, off, none⟩ = some (kL u) := fun W hW => by
            obtain ⟨a', c', e, _, hu⟩ := VT.out
            cases e
            obtain ⟨g, off, e2, hc⟩ := hu 0 u rfl
            exact ⟨g, off, e2, hc W hW⟩
          obtain ⟨g5, off5, rfl, c0⟩ := hlk _ (HGH.out _ S5.out.tail)
          have HVU := Lib.hid hvu
          have HRU := Lib.hid (HMV.out u t2).2
          have bz := fun i => unfrozen_of S5.out.h0 i
          generalize hlu : (u :: t2 : List Bs).length = lu at *
          have HTS2 : Hid ((∀ z ∈ t2, z.length ≤ 900000) ∧ t2.length ≤ 1000000) := Lib.hid ⟨fun z hz => HTS.out.1 z (.tail _ hz), by have := HTS.out.2; simp only [List.length_cons] at hlu; omega⟩
          clear hlk hvu HMV hlu
          by_cases hup : u = upW
          · have m1 : (u != [117, 112]) = false := by rw [hup]; rfl
            have m2 : (u == [117, 112]) = true := by rw [hup]; rfl
            have HR := Lib.hid (show parseR (y :: u :: t2) = tailR k true t2 by rw [HRU.out, if_pos (.inl hup), decide_eq_true hup])
            clear hup
            go_wp2_with fail
            go_meet
            exact ⟨true, t2, au, cu, rfl, HVU.out, HTS2.out, fun h => absurd h H1.out, fun _ => HR.out, S5.out.setCell (i := 2) (.bool true)⟩
          have m1 : (u != [117, 112]) = true := by rw [bne_iff_ne]; exact hup
          have m2 : (u == [117, 112]) = false := beq_eq_false_iff_ne.2 hup
          by_cases hdn : u = downW
          · have m3 : (u != [100, 111, 119, 110]) = false := by rw [hdn]; rfl
            have m4 : (u == [100, 111, 119, 110]) = true := by rw [hdn]; rfl
            have HR := Lib.hid (show parseR (y :: u :: t2) = tailR k false t2 by rw [HRU.out, if_pos (.inr hdn), decide_eq_false hup])
            clear hup hdn
            go_wp2_with fail
            go_meet
            exact ⟨false, t2, au, cu, rfl, HVU.out, HTS2.out, fun h => absurd h H1.out, fun _ => HR.out, S5.out.setCell (i := 2) (.bool false)⟩
          · have m3 : (u != [100, 111, 119, 110]) = true := by rw [bne_iff_ne]; exact hdn
            have m4 : (u == [100, 111, 119, 110]) = false := beq_eq_false_iff_ne.2 hdn
            have HN := Lib.hid (show parseR (y :: u :: t2) = none by rw [HRU.out, if_neg (fun h => h.elim hup hdn)])
            clear hup hdn
            have hs := HGA.out _ _ _ S5.out
            obtain ⟨e0, e1, e2, e3, e4, e5, e6, e7, e8⟩ := nine_of hs.tail
            obtain ⟨d0, d1, d2, d3, d4, d5, d6, d7, d8⟩ := nine_of hs
            have ez := fun i => unfrozen_of hs.h0 i
            have HS := Lib.hid hs
            clear hs 
            go_wp2_with fail
            have hn := HNO.out HN.out
            exact hn _ _ _ (put9 HS.out _ _ _ _ _ _ _ _ _) (fun h => h.tail.tail.right) rfl rfl rfl
    case rest =>
      obtain ⟨up, l', a5, c5, rfl, hv5, hls, h1l, hnl, hs5⟩ := hcut
      have V5 := Lib.hid hv5
      have S6 := Lib.hid hs5
      have HLS := Lib.hid hls
      have HNL := Lib.hid hnl
      clear x0 x1 x2 x3 x4 x5 x6 x7 x8 hst l2 l3 hv5 hls hnl S5
      obtain ⟨x0, x1, x2, x3, x4, x5, x6, x7, x8⟩ := nine_of hs5
      clear hs5
      by_cases h1 : k = 1
      · obtain ⟨rfl, rfl⟩ := h1l h1
        have m1 : ((k : Int) == 1) = true := by rw [h1]; rfl
        have HCL := Lib.hid (fun c t2 => parse_cl (c := c) (t := t2) (h1 ▸ HK.out))
        have K1 := Lib.hid h1
        clear h1l h1 HNL
        cases l' with
        | nil =>
          have HN := Lib.hid (HCL.out [] []).1
          have l4 : ((([] : List Bs).length : Int) < 1) := by simp
          have hs := HGA.out _ _ _ S6.out
          obtain ⟨e0, e1, e2, e3, e4, e5, e6, e7, e8⟩ := nine_of hs.tail
          obtain ⟨d0, d1, d2, d3, d4, d5, d6, d7, d8⟩ := nine_of hs
          have ez := fun i => unfrozen_of hs.h0 i
          have HS := Lib.hid hs
          clear hs 
          go_wp2_with fail
          have hn := HNO.out HN.out
          exact hn _ _ _ (put9 HS.out _ _ _ _ _ _ _ _ _) (fun h => h.tail.tail.right) rfl rfl rfl
        | cons c0 t2 =>
          have l4 : ((((c0 :: t2 : List Bs).length : Int) < 1)) = False := eq_false (by simp only [List.length_cons]; omega)
          have l5 : 0 < (c0 :: t2 : List Bs).length := by simp only [List.length_cons]; omega
          obtain ⟨au, cu, hvu, hsu⟩ := run_tail rfl V5.out
          have hlk : ∀ W, Sat W h3 → ∃ g off, a5 = some ⟨g, off, none⟩ ∧ W.cell? ⟨g, off, none⟩ = some (kL c0) := fun W hW => by
            obtain ⟨a', c', e, _, hu⟩ := V5.out
            cases e
            obtain ⟨g, off, e2, hc⟩ := hu 0 c0 rfl
            exact ⟨g, off, e2, hc W hW⟩
          obtain ⟨g5, off5, rfl, q0⟩ := hlk _ (HGH.out _ S6.out.tail)
          have HPR := Lib.hid (HCL.out c0 t2).2
          have HNU := Lib.hid (refnum_any S6.out c0 (HLS.out.1 c0 (.head _)))
          have HCA : Hid (∀ W, Sat W (.blk B (stepO k 0 false 0 (.slice none 0 0) 0 0 0 []) :: G) → Calls Tryz.prog 40 #[.slice au t2.length cu] W (CallRet (.blk B (stepO k 0 false 0 (.slice none 0 0) 0 0 0 []) :: G) (callR t2))) := Lib.hid (fun W hW => refcall_any hW (hvu.mono (fun W hW => HGH.out _ hW.tail)) (by have := HLS.out.2; simp only [List.length_cons] at this; omega) (fun z hz => HLS.out.1 z (.tail _ hz)))
          obtain ⟨on, hon⟩ : ∃ on, numS c0 = on := ⟨_, rfl⟩
          obtain ⟨ox, hox⟩ : ∃ ox, callR t2 = ox := ⟨_, rfl⟩
          rw [hox] at HCA HPR
          rw [hon] at HPR
          have HON := Lib.hid hon
          generalize hlu : (c0 :: t2 : List Bs).length = lu at *
          clear hlk hvu HCL hlu hon hox
          go_upto_region 17 with (first
            | (go_at_call 40; refine (HCA.out _ S7.out).mono ?_; intro e w8 h8; obtain ⟨⟨y8, rfl, hy8⟩, h8⟩ := h8; have S8 := Lib.hid (h8.new (callO y8.kind y8.page y8.slot y8.data)); have HY8 := Lib.hid hy8; clear h8 hy8)
            | (go_at_call 39; refine (HNU.out).mono ?_; intro e w7 h7; obtain ⟨v7, rfl, hv7, h7⟩ := h7; rw [HON.out]; have HV7 := Lib.hid hv7; have S7 := Lib.hid h7; clear h7 hv7))
          generalize w8.alloc (callO y8.kind y8.page y8.slot y8.data) = W8 at *
          generalize w8.heap.size = b8 at *
          clear x0 x1 x2 x3 x4 x5 x6 x7 x8 q0 l4 l5 hsu
          cases on with
          | none =>
            have HN := Lib.hid (show parseR (y :: c0 :: t2) = none from HPR.out)
            have hs := HGS.out _ [.blk b8 (callO y8.kind y8.page y8.slot y8.data), .blk B (stepO k 0 false 0 (.slice none 0 0) 0 0 0 [])] S8.out
            obtain ⟨e0, e1, e2, e3, e4, e5, e6, e7, e8⟩ := nine_of hs.tail
            obtain ⟨d0, d1, d2, d3, d4, d5, d6, d7, d8⟩ := nine_of hs
            have ez := fun i => unfrozen_of hs.h0 i
            have HS := Lib.hid hs
            clear hs 
            go_wp2_with fail
            have hn := HNO.out HN.out
            exact hn _ _ _ (put9 HS.out _ _ _ _ _ _ _ _ _) (fun h => h.tail.right) rfl rfl rfl
          | some n =>
            cases ox with
            | none =>
              have HN := Lib.hid (show parseR (y :: c0 :: t2) = none from HPR.out)
              have hs := HGS.out _ [.blk b8 (callO y8.kind y8.page y8.slot y8.data), .blk B (stepO k 0 false 0 (.slice none 0 0) 0 0 0 [])] S8.out
              obtain ⟨e0, e1, e2, e3, e4, e5, e6, e7, e8⟩ := nine_of hs.tail
              obtain ⟨d0, d1, d2, d3, d4, d5, d6, d7, d8⟩ := nine_of hs
              have ez := fun i => unfrozen_of hs.h0 i
              have HS := Lib.hid hs
              clear hs 
              go_wp2_with fail
              have hn := HNO.out HN.out
              exact hn _ _ _ (put9 HS.out _ _ _ _ _ _ _ _ _) (fun h => h.tail.right) rfl rfl rfl
            | some z =>
              obtain rfl : y8 = z := HY8.out z rfl
              obtain rfl : v7 = n := HV7.out n HON.out
              have a1 := (S8.out.swap).setCell (i := 1) (kI v7)
              have a8 : Sat (((((W8.setCell ⟨B, 1, none⟩ (kI v7)).setCell ⟨B, 5, none⟩ (kI y8.kind)).setCell ⟨B, 6, none⟩ (kI y8.page)).setCell ⟨B, 7, none⟩ (kI y8.slot)).setCell ⟨B, 8, none⟩ (kL y8.data)) (.blk B (stepO k v7 false 0 (.slice none 0 0) y8.kind y8.page y8.slot y8.data) :: .blk b8 (callO y8.kind y8.page y8.slot y8.data) :: G) := (((a1.setCell (i := 5) (kI y8.kind)).setCell (i := 6) (kI y8.page)).setCell (i := 7) (kI y8.slot)).setCell (i := 8) (kL y8.data)
              obtain ⟨x0, x1, x2, x3, x4, x5, x6, x7, x8⟩ := nine_of S8.out.tail
              have xz := fun i => unfrozen_of S8.out.tail.h0 i
              obtain ⟨f0, f1, f2, f3, _⟩ := four_at a1.swap
              have A8 := Lib.hid a8
              have HP := Lib.hid (show parseR (y :: c0 :: t2) = some ⟨1, v7, false, 0, [], y8⟩ from HPR.out)
              clear a1 a8 HPR
              go_upto_region 21 with (fail)
              generalize ((((W8.setCell ⟨B, 1, none⟩ (kI v7)).setCell ⟨B, 5, none⟩ (kI y8.kind)).setCell ⟨B, 6, none⟩ (kI y8.page)).setCell ⟨B, 7, none⟩ (kI y8.slot)).setCell ⟨B, 8, none⟩ (kL y8.data) = W9 at *
              clear x0 x1 x2 x3 x4 x5 x6 x7 x8 xz f0 f1 f2 f3
              obtain ⟨x0, x1, x2, x3, x4, x5, x6, x7, x8⟩ := nine_of A8.out
              have hs := HGS.out _ [.blk B (stepO k v7 false 0 (.slice none 0 0) y8.kind y8.page y8.slot y8.data), .blk b8 (callO y8.kind y8.page y8.slot y8.data)] A8.out
              obtain ⟨d0, d1, d2, d3, d4, d5, d6, d7, d8⟩ := nine_of hs
              have ez := fun i => unfrozen_of hs.h0 i
              have HS := Lib.hid hs
              clear hs
              go_wp2_with fail
              refine rp_end (A := A) (c := 0) (y := ⟨k, v7, false, 0, [], y8⟩) (fv := .slice none 0 0) rfl rfl rfl (put9 HS.out _ _ _ _ _ _ _ _ _) ?_
              rw [← HPB.out, HP.out, K1.out]
              exact ⟨.slice none 0 0, [], rfl, FtAt.nil _ _ _, (put9 HS.out _ _ _ _ _ _ _ _ _).tail.tail.right⟩
      · have m1 : ((k : Int) == 1) = false := by rw [beq_eq_false_iff_ne]; omega
        have H1 := Lib.hid h1
        have hp := HNL.out h1
        unfold tailR at hp
        have hns := rnums_any S6.out (V5.out.mono (fun W hW => HGH.out _ hW.tail)) HLS.out.2 HLS.out.1
        obtain ⟨o, ho⟩ : ∃ o, numsS l' = o := ⟨_, rfl⟩
        rw [ho] at hp hns
        have HNS := Lib.hid hns
        obtain ⟨wq, hwq⟩ : ∃ wq, wantR k = wq := ⟨_, rfl⟩
        rw [hwq] at hp
        have HP0 := Lib.hid hp
        have hk9 := HK9.out
        have k11 : (k : Int) < 11 := by omega
        have HW2 : Hid (∀ W : World, (W.alloc (.cells #[kI 0, kI 0, kI 2, kI 2, kI 2, kI 1, kI 2, kI 2, kI 1, kI 0, kI 0] 3)).cell? ⟨W.heap.size, k, none⟩ = some (kI (wq : Int))) := Lib.hid (fun W => by
          rw [cell_of (World.alloc_heap_new W _), ← hwq]
          have h2 : k = 0 ∨ k = 1 ∨ k = 2 ∨ k = 3 ∨ k = 4 ∨ k = 5 ∨ k = 6 ∨ k = 7 ∨ k = 8 ∨ k = 9 ∨ k = 10 := by omega
          rcases h2 with rfl | rfl | rfl | rfl | rfl | rfl | rfl | rfl | rfl | rfl | rfl <;> rfl)
        have HWQ : Hid ((wq = 0 ∧ k ≠ 7) ∨ (wq = 1 ∧ k ≠ 7) ∨ wq = 2) := Lib.hid (by
          rw [← hwq]
          have h2 : k = 2 ∨ k = 3 ∨ k = 4 ∨ k = 5 ∨ k = 6 ∨ k = 7 ∨ k = 8 ∨ k = 9 ∨ k = 10 := by have := H0.out; omega
          rcases h2 with rfl | rfl | rfl | rfl | rfl | rfl | rfl | rfl | rfl <;> decide)
        have HW7 : Hid (k = 7 → wq = 2) := Lib.hid (fun h => by rw [← hwq, h]; rfl)
        have w0 : (0 : Int) ≤ (wq : Int) := by omega
        clear hp hns ho hwq hk9 h1l h1 HNL
        cases o with
        | none =>
          have HN := Lib.hid (show parseR (y :: t) = none from HP0.out)
          go_upto_region 24 with (go_at_call 41; refine (HNS.out).mono ?_; intro e w7 h7; obtain ⟨rfl, h7⟩ := h7; have cw := HW2.out w7; have S7 := Lib.hid (h7.new (.cells #[kI 0, kI 0, kI 2, kI 2, kI 2, kI 1, kI 2, kI 2, kI 1, kI 0, kI 0] 3)); have z0 := (nine_of S7.out.tail).1; clear h7)
          clear x0 x1 x2 x3 x4 x5 x6 x7 x8
          have hs := HGS.out _ [.blk w7.heap.size (.cells #[kI 0, kI 0, kI 2, kI 2, kI 2, kI 1, kI 2, kI 2, kI 1, kI 0, kI 0] 3), .blk B (stepO k 0 up 0 (.slice none 0 0) 0 0 0 [])] S7.out
          obtain ⟨e0, e1, e2, e3, e4, e5, e6, e7, e8⟩ := nine_of hs.tail
          obtain ⟨d0, d1, d2, d3, d4, d5, d6, d7, d8⟩ := nine_of hs
          have ez := fun i => unfrozen_of hs.h0 i
          have HS := Lib.hid hs
          clear hs 
          go_wp2_with fail
          have hn := HNO.out HN.out
          exact hn _ _ _ (put9 HS.out _ _ _ _ _ _ _ _ _) (fun h => h.tail.right) rfl rfl rfl
        | some ns =>
          have hp : parseR (y :: t) = if ns.length < wq ∨ (wq < ns.length ∧ k ≠ 7) then none else some ⟨k, if 0 < wq then ns.getD 0 0 else 0, up, if 1 < wq then ns.getD 1 0 else 0, if k = 7 then ns.drop 2 else [], CallM.zero⟩ := HP0.out
          have HP1 := Lib.hid hp
          clear hp HP0
          go_upto_region 24 with (go_at_call 41; refine (HNS.out).mono ?_; intro e w7 h7'; obtain ⟨v7, h7, rfl, hv7, hs7⟩ := h7'; obtain ⟨va, vc, rfl⟩ := sl_form hv7; have cw := HW2.out w7; have HV7 := Lib.hid hv7; have S7 := Lib.hid (show Sat (w7.alloc (.cells #[kI 0, kI 0, kI 2, kI 2, kI 2, kI 1, kI 2, kI 2, kI 1, kI 0, kI 0] 3)) (.blk w7.heap.size (.cells #[kI 0, kI 0, kI 2, kI 2, kI 2, kI 1, kI 2, kI 2, kI 1, kI 0, kI 0] 3) :: (h7 ++ (.blk B (stepO k 0 up 0 (.slice none 0 0) 0 0 0 []) :: G))) from hs7.new (.cells #[kI 0, kI 0, kI 2, kI 2, kI 2, kI 1, kI 2, kI 2, kI 1, kI 0, kI 0] 3)); have z0 := (nine_of S7.out.tail.right).1; clear hv7 hs7)
          clear x0 x1 x2 x3 x4 x5 x6 x7 x8 cw HNS HW2
          generalize w7.alloc (.cells #[kI 0, kI 0, kI 2, kI 2, kI 2, kI 1, kI 2, kI 2, kI 1, kI 0, kI 0] 3) = W7 at *
          generalize w7.heap.size = wn at *
          have S8 : Hid (Sat W7 ((.blk wn (.cells #[kI 0, kI 0, kI 2, kI 2, kI 2, kI 1, kI 2, kI 2, kI 1, kI 0, kI 0] 3) :: (h7 ++ [.blk B (stepO k 0 up 0 (.slice none 0 0) 0 0 0 [])])) ++ G)) := Lib.hid (by (refine Sat.part S7.out ?_; intro a; simp only [cnt_cons, cnt_append, cnt_nil, List.cons_append]; omega))
          by_cases hb1 : ns.length < wq
          · have m2 : (ns.length : Int) < (wq : Int) := by omega
            have HN := Lib.hid (show parseR (y :: t) = none by rw [HP1.out, if_pos (.inl hb1)])
            clear hb1
            have hs := HGS.out _ (.blk wn (.cells #[kI 0, kI 0, kI 2, kI 2, kI 2, kI 1, kI 2, kI 2, kI 1, kI 0, kI 0] 3) :: (h7 ++ [.blk B (stepO k 0 up 0 (.slice none 0 0) 0 0 0 [])])) S8.out
            obtain ⟨e0, e1, e2, e3, e4, e5, e6, e7, e8⟩ := nine_of hs.tail
            obtain ⟨d0, d1, d2, d3, d4, d5, d6, d7, d8⟩ := nine_of hs
            have ez := fun i => unfrozen_of hs.h0 i
            have HS := Lib.hid hs
            clear hs 
            go_wp2_with fail
            have hn := HNO.out HN.out
            exact hn _ _ _ (put9 HS.out _ _ _ _ _ _ _ _ _) (fun h => h.tail.right) rfl rfl rfl
          have m2 : ((ns.length : Int) < (wq : Int)) = False := eq_false (by omega)
          by_cases hb2 : wq < ns.length ∧ k ≠ 7
          · have m3 : (wq : Int) < (ns.length : Int) := by omega
            have m4 : ((k : Int) != 7) = true := by rw [bne_iff_ne]; omega
            have HN := Lib.hid (show parseR (y :: t) = none by rw [HP1.out, if_pos (.inr hb2)])
            clear hb1 hb2
            have hs := HGS.out _ (.blk wn (.cells #[kI 0, kI 0, kI 2, kI 2, kI 2, kI 1, kI 2, kI 2, kI 1, kI 0, kI 0] 3) :: (h7 ++ [.blk B (stepO k 0 up 0 (.slice none 0 0) 0 0 0 [])])) S8.out
            obtain ⟨e0, e1, e2, e3, e4, e5, e6, e7, e8⟩ := nine_of hs.tail
            obtain ⟨d0, d1, d2, d3, d4, d5, d6, d7, d8⟩ := nine_of hs
            have ez := fun i => unfrozen_of hs.h0 i
            have HS := Lib.hid hs
            clear hs 
            go_wp2_with fail
            have hn := HNO.out HN.out
            exact hn _ _ _ (put9 HS.out _ _ _ _ _ _ _ _ _) (fun h => h.tail.right) rfl rfl rfl
          have HOK : Hid (parseR (y :: t) = some ⟨k, if 0 < wq then ns.getD 0 0 else 0, up, if 1 < wq then ns.getD 1 0 else 0, if k = 7 then ns.drop 2 else [], CallM.zero⟩) := Lib.hid (by rw [HP1.out, if_neg (fun h => h.elim hb1 hb2)])
          have SB : Hid (Sat W7 (.blk B (stepO k 0 up 0 (.slice none 0 0) 0 0 0 []) :: .blk wn (.cells #[kI 0, kI 0, kI 2, kI 2, kI 2, kI 1, kI 2, kI 2, kI 1, kI 0, kI 0] 3) :: (h7 ++ G))) := Lib.hid (by (refine Sat.part S8.out ?_; intro a; simp only [cnt_cons, cnt_append, cnt_nil, List.cons_append]; omega))
          have xz := fun i => unfrozen_of SB.out.h0 i
          obtain ⟨x0, x1, x2, x3, x4, x5, x6, x7, x8⟩ := nine_of SB.out
          clear S7 S8 z0 HP1
          have hwk := HWQ.out
          have hw7 := HW7.out
          rcases hwk with ⟨hw, h7⟩ | ⟨hw, h7⟩ | hw
          · obtain rfl : ns = [] := List.eq_nil_of_length_eq_zero (by omega)
            have HP2 : Hid (parseR (y :: t) = some ⟨k, 0, up, 0, [], CallM.zero⟩) := Lib.hid (by rw [HOK.out, if_neg (by omega), if_neg (by omega), if_neg h7])
            generalize hl7 : ([] : List Int).length = l7 at *
            have m3 : ((wq : Int) < (l7 : Int)) = False := eq_false (by rw [← hl7]; simp)
            have m4 : ((k : Int) == 7) = false := by rw [beq_eq_false_iff_ne]; omega
            have m5 : ((0 : Int) < (wq : Int)) = False := eq_false (by omega)
            have m6 : ((1 : Int) < (wq : Int)) = False := eq_false (by omega)
            have m7 : (0 < wq) = False := eq_false (by omega)
            have m8 : (1 < wq) = False := eq_false (by omega)
            clear hl7 hw hw7 h7 hb1 hb2 HOK
            have hs := HGS.out W7 (.blk B (stepO k 0 up 0 (.slice none 0 0) 0 0 0 []) :: .blk wn (.cells #[kI 0, kI 0, kI 2, kI 2, kI 2, kI 1, kI 2, kI 2, kI 1, kI 0, kI 0] 3) :: h7) SB.out
            obtain ⟨e0, e1, e2, e3, e4, e5, e6, e7, e8⟩ := nine_of hs.tail
            obtain ⟨d0, d1, d2, d3, d4, d5, d6, d7, d8⟩ := nine_of hs
            have ez := fun i => unfrozen_of hs.h0 i
            have HS := Lib.hid hs
            clear hs
            go_wp2_with fail
            refine rp_end (A := A) (c := 0) (y := ⟨k, 0, up, 0, [], CallM.zero⟩) (fv := (.slice none 0 0)) rfl rfl rfl (put9 HS.out _ _ _ _ _ _ _ _ _) ?_
            rw [← HPB.out, HP2.out]
            exact ⟨(.slice none 0 0), [], rfl, FtAt.nil _ _ _, (put9 HS.out _ _ _ _ _ _ _ _ _).tail.tail.right⟩
          · obtain ⟨c, rfl⟩ : ∃ c, ns = [c] := List.length_eq_one_iff.1 (by omega)
            have HP2 : Hid (parseR (y :: t) = some ⟨k, c, up, 0, [], CallM.zero⟩) := Lib.hid (by rw [HOK.out, if_pos (by omega), if_neg (by omega), if_neg h7]; rfl)
            obtain ⟨g, cap, e, hc⟩ := ns_one HV7.out
            simp only [Value.slice.injEq] at e
            obtain ⟨rfl, _, rfl⟩ := e
            have c0 := hc _ SB.out.tail.tail.lft
            generalize hl7 : ([c] : List Int).length = l7 at *
            have m3 : ((wq : Int) < (l7 : Int)) = False := eq_false (by rw [← hl7, hw]; simp)
            have m4 : ((k : Int) == 7) = false := by rw [beq_eq_false_iff_ne]; omega
            have m9 : 0 < l7 := by rw [← hl7]; simp
            have m5 : ((0 : Int) < (wq : Int)) = True := eq_true (by omega)
            have m6 : ((1 : Int) < (wq : Int)) = False := eq_false (by omega)
            have m7 : (0 < wq) = True := eq_true (by omega)
            have m8 : (1 < wq) = False := eq_false (by omega)
            clear hl7 hw hw7 h7 hb1 hb2 HOK hc
            have SC : Hid (Sat (W7.setCell ⟨B, 1, none⟩ (kI c)) (.blk B (stepO k c up 0 (.slice none 0 0) 0 0 0 []) :: .blk wn (.cells #[kI 0, kI 0, kI 2, kI 2, kI 2, kI 1, kI 2, kI 2, kI 1, kI 0, kI 0] 3) :: (h7 ++ G))) := Lib.hid (SB.out.setCell (i := 1) (kI c))
            go_upto_region 28 with (fail)
            generalize W7.setCell ⟨B, 1, none⟩ (kI c) = W8 at *
            clear x0 x1 x2 x3 x4 x5 x6 x7 x8 xz
            have xz := fun i => unfrozen_of SC.out.h0 i
            obtain ⟨x0, x1, x2, x3, x4, x5, x6, x7, x8⟩ := nine_of SC.out
            have hs := HGS.out W8 (.blk B (stepO k c up 0 (.slice none 0 0) 0 0 0 []) :: .blk wn (.cells #[kI 0, kI 0, kI 2, kI 2, kI 2, kI 1, kI 2, kI 2, kI 1, kI 0, kI 0] 3) :: h7) SC.out
            obtain ⟨e0, e1, e2, e3, e4, e5, e6, e7, e8⟩ := nine_of hs.tail
            obtain ⟨d0, d1, d2, d3, d4, d5, d6, d7, d8⟩ := nine_of hs
            have ez := fun i => unfrozen_of hs.h0 i
            have HS := Lib.hid hs
            clear hs
            go_wp2_with fail
            refine rp_end (A := A) (c := 0) (y := ⟨k, c, up, 0, [], CallM.zero⟩) (fv := (.slice none 0 0)) rfl rfl rfl (put9 HS.out _ _ _ _ _ _ _ _ _) ?_
            rw [← HPB.out, HP2.out]
            exact ⟨(.slice none 0 0), [], rfl, FtAt.nil _ _ _, (put9 HS.out _ _ _ _ _ _ _ _ _).tail.tail.right⟩
          obtain ⟨c, n, fs, rfl⟩ : ∃ c n fs, ns = c :: n :: fs := by
            match ns, hb1 with
            | [], h => exact absurd (show ([] : List Int).length < wq by rw [hw]; decide) h
            | [_], h => exact absurd (show 1 < wq by omega) h
            | c :: n :: fs, _ => exact ⟨c, n, fs, rfl⟩
          obtain ⟨g, cap, e, hc, av, ac, hft, hrun⟩ := ns_two HV7.out
          simp only [Value.slice.injEq] at e
          obtain ⟨rfl, _, rfl⟩ := e
          have c0 := (hc _ SB.out.tail.tail.lft).1
          have HC := Lib.hid hc
          have HFT := Lib.hid hft
          have HRUN := Lib.hid hrun
          have hl9 : (c :: n :: fs).length = fs.length + 2 := rfl
          have m5 : ((0 : Int) < (wq : Int)) = True := eq_true (by omega)
          have m6 : ((1 : Int) < (wq : Int)) = True := eq_true (by omega)
          have m7 : (0 < wq) = True := eq_true (by omega)
          have m8 : (1 < wq) = True := eq_true (by omega)
          by_cases h7 : k = 7
          · have HP2 : Hid (parseR (y :: t) = some ⟨k, c, up, n, fs, CallM.zero⟩) := Lib.hid (by rw [HOK.out, if_pos (by omega), if_pos (by omega), if_pos h7]; rfl)
            generalize hl7 : (c :: n :: fs : List Int).length = l7 at *
            have m4 : ((k : Int) == 7) = true := by rw [h7]; rfl
            have m9 : 0 < l7 := by omega
            have m10 : 1 < l7 := by omega
            by_cases m3 : (wq : Int) < (l7 : Int)
            · have m3' : ((wq : Int) < (l7 : Int)) = True := eq_true m3
              clear hl7 hw hw7 h7 hb1 hb2 HOK hc hft hrun hl9 m3
              have SC : Hid (Sat (W7.setCell ⟨B, 1, none⟩ (kI c)) (.blk B (stepO k c up 0 (.slice none 0 0) 0 0 0 []) :: .blk wn (.cells #[kI 0, kI 0, kI 2, kI 2, kI 2, kI 1, kI 2, kI 2, kI 1, kI 0, kI 0] 3) :: (h7 ++ G))) := Lib.hid (SB.out.setCell (i := 1) (kI c))
              go_upto_region 28 with (fail)
              generalize W7.setCell ⟨B, 1, none⟩ (kI c) = W8 at *
              clear x0 x1 x2 x3 x4 x5 x6 x7 x8 xz
              have xz := fun i => unfrozen_of SC.out.h0 i
              obtain ⟨x0, x1, x2, x3, x4, x5, x6, x7, x8⟩ := nine_of SC.out
              have c1 := (HC.out _ SC.out.tail.tail.lft).2
              have SD : Hid (Sat (W8.setCell ⟨B, 3, none⟩ (kI n)) (.blk B (stepO k c up n (.slice none 0 0) 0 0 0 []) :: .blk wn (.cells #[kI 0, kI 0, kI 2, kI 2, kI 2, kI 1, kI 2, kI 2, kI 1, kI 0, kI 0] 3) :: (h7 ++ G))) := Lib.hid (SC.out.setCell (i := 3) (kI n))
              go_upto_region 30 with (fail)
              generalize W8.setCell ⟨B, 3, none⟩ (kI n) = W9 at *
              clear x0 x1 x2 x3 x4 x5 x6 x7 x8 xz
              have xz := fun i => unfrozen_of SD.out.h0 i
              obtain ⟨x0, x1, x2, x3, x4, x5, x6, x7, x8⟩ := nine_of SD.out
              have hrun := HRUN.out
              have SE : Hid (Sat (W9.setCell ⟨B, 4, none⟩ (.slice av fs.length ac)) (.blk B (stepO k c up n (.slice av fs.length ac) 0 0 0 []) :: .blk wn (.cells #[kI 0, kI 0, kI 2, kI 2, kI 2, kI 1, kI 2, kI 2, kI 1, kI 0, kI 0] 3) :: (h7 ++ G))) := Lib.hid (SD.out.setCell (i := 4) (.slice av fs.length ac))
              go_upto_region 32 with (fail)
              generalize W9.setCell ⟨B, 4, none⟩ (.slice av fs.length ac) = W10 at *
              clear x0 x1 x2 x3 x4 x5 x6 x7 x8 xz
              have xz := fun i => unfrozen_of SE.out.h0 i
              obtain ⟨x0, x1, x2, x3, x4, x5, x6, x7, x8⟩ := nine_of SE.out
              have hs := HGS.out W10 (.blk B (stepO k c up n (.slice av fs.length ac) 0 0 0 []) :: .blk wn (.cells #[kI 0, kI 0, kI 2, kI 2, kI 2, kI 1, kI 2, kI 2, kI 1, kI 0, kI 0] 3) :: h7) SE.out
              obtain ⟨e0, e1, e2, e3, e4, e5, e6, e7, e8⟩ := nine_of hs.tail
              obtain ⟨d0, d1, d2, d3, d4, d5, d6, d7, d8⟩ := nine_of hs
              have ez := fun i => unfrozen_of hs.h0 i
              have HS := Lib.hid hs
              clear hs
              go_wp2_with fail
              refine rp_end (A := A) (c := 0) (y := ⟨k, c, up, n, fs, CallM.zero⟩) (fv := (.slice av fs.length ac)) rfl rfl rfl (put9 HS.out _ _ _ _ _ _ _ _ _) ?_
              rw [← HPB.out, HP2.out]
              exact ⟨(.slice av fs.length ac), h7, rfl, HFT.out, (put9 HS.out _ _ _ _ _ _ _ _ _).tail.tail.tail.tail⟩
            · have m3' : ((wq : Int) < (l7 : Int)) = False := eq_false m3
              clear hl7 hw hw7 h7 hb1 hb2 HOK hc hft hrun hl9 m3
              have SC : Hid (Sat (W7.setCell ⟨B, 1, none⟩ (kI c)) (.blk B (stepO k c up 0 (.slice none 0 0) 0 0 0 []) :: .blk wn (.cells #[kI 0, kI 0, kI 2, kI 2, kI 2, kI 1, kI 2, kI 2, kI 1, kI 0, kI 0] 3) :: (h7 ++ G))) := Lib.hid (SB.out.setCell (i := 1) (kI c))
              go_upto_region 28 with (fail)
              generalize W7.setCell ⟨B, 1, none⟩ (kI c) = W8 at *
              clear x0 x1 x2 x3 x4 x5 x6 x7 x8 xz
              have xz := fun i => unfrozen_of SC.out.h0 i
              obtain ⟨x0, x1, x2, x3, x4, x5, x6, x7, x8⟩ := nine_of SC.out
              have c1 := (HC.out _ SC.out.tail.tail.lft).2
              have SD : Hid (Sat (W8.setCell ⟨B, 3, none⟩ (kI n)) (.blk B (stepO k c up n (.slice none 0 0) 0 0 0 []) :: .blk wn (.cells #[kI 0, kI 0, kI 2, kI 2, kI 2, kI 1, kI 2, kI 2, kI 1, kI 0, kI 0] 3) :: (h7 ++ G))) := Lib.hid (SC.out.setCell (i := 3) (kI n))
              go_upto_region 30 with (fail)
              generalize W8.setCell ⟨B, 3, none⟩ (kI n) = W9 at *
              clear x0 x1 x2 x3 x4 x5 x6 x7 x8 xz
              have xz := fun i => unfrozen_of SD.out.h0 i
              obtain ⟨x0, x1, x2, x3, x4, x5, x6, x7, x8⟩ := nine_of SD.out
              have hrun := HRUN.out
              have SE : Hid (Sat (W9.setCell ⟨B, 4, none⟩ (.slice av fs.length ac)) (.blk B (stepO k c up n (.slice av fs.length ac) 0 0 0 []) :: .blk wn (.cells #[kI 0, kI 0, kI 2, kI 2, kI 2, kI 1, kI 2, kI 2, kI 1, kI 0, kI 0] 3) :: (h7 ++ G))) := Lib.hid (SD.out.setCell (i := 4) (.slice av fs.length ac))
              go_upto_region 32 with (fail)
              generalize W9.setCell ⟨B, 4, none⟩ (.slice av fs.length ac) = W10 at *
              clear x0 x1 x2 x3 x4 x5 x6 x7 x8 xz
              have xz := fun i => unfrozen_of SE.out.h0 i
              obtain ⟨x0, x1, x2, x3, x4, x5, x6, x7, x8⟩ := nine_of SE.out
              have hs := HGS.out W10 (.blk B (stepO k c up n (.slice av fs.length ac) 0 0 0 []) :: .blk wn (.cells #[kI 0, kI 0, kI 2, kI 2, kI 2, kI 1, kI 2, kI 2, kI 1, kI 0, kI 0] 3) :: h7) SE.out
              obtain ⟨e0, e1, e2, e3, e4, e5, e6, e7, e8⟩ := nine_of hs.tail
              obtain ⟨d0, d1, d2, d3, d4, d5, d6, d7, d8⟩ := nine_of hs
              have ez := fun i => unfrozen_of hs.h0 i
              have HS := Lib.hid hs
              clear hs
              go_wp2_with fail
              refine rp_end (A := A) (c := 0) (y := ⟨k, c, up, n, fs, CallM.zero⟩) (fv := (.slice av fs.length ac)) rfl rfl rfl (put9 HS.out _ _ _ _ _ _ _ _ _) ?_
              rw [← HPB.out, HP2.out]
              exact ⟨(.slice av fs.length ac), h7, rfl, HFT.out, (put9 HS.out _ _ _ _ _ _ _ _ _).tail.tail.tail.tail⟩
          · obtain rfl : fs = [] := List.eq_nil_of_length_eq_zero (by omega)
            have HP2 : Hid (parseR (y :: t) = some ⟨k, c, up, n, [], CallM.zero⟩) := Lib.hid (by rw [HOK.out, if_pos (by omega), if_pos (by omega), if_neg h7]; rfl)
            generalize hl7 : ([c, n] : List Int).length = l7 at *
            have m4 : ((k : Int) == 7) = false := by rw [beq_eq_false_iff_ne]; omega
            have m9 : 0 < l7 := by rw [← hl7]; simp
            have m10 : 1 < l7 := by rw [← hl7]; simp
            have m3 : ((wq : Int) < (l7 : Int)) = False := eq_false (by rw [← hl7, hw]; simp)
            clear hl7 hw hw7 h7 hb1 hb2 HOK hc hft hrun hl9
            have SC : Hid (Sat (W7.setCell ⟨B, 1, none⟩ (kI c)) (.blk B (stepO k c up 0 (.slice none 0 0) 0 0 0 []) :: .blk wn (.cells #[kI 0, kI 0, kI 2, kI 2, kI 2, kI 1, kI 2, kI 2, kI 1, kI 0, kI 0] 3) :: (h7 ++ G))) := Lib.hid (SB.out.setCell (i := 1) (kI c))
            go_upto_region 28 with (fail)
            generalize W7.setCell ⟨B, 1, none⟩ (kI c) = W8 at *
            clear x0 x1 x2 x3 x4 x5 x6 x7 x8 xz
            have xz := fun i => unfrozen_of SC.out.h0 i
            obtain ⟨x0, x1, x2, x3, x4, x5, x6, x7, x8⟩ := nine_of SC.out
            have c1 := (HC.out _ SC.out.tail.tail.lft).2
            have SD : Hid (Sat (W8.setCell ⟨B, 3, none⟩ (kI n)) (.blk B (stepO k c up n (.slice none 0 0) 0 0 0 []) :: .blk wn (.cells #[kI 0, kI 0, kI 2, kI 2, kI 2, kI 1, kI 2, kI 2, kI 1, kI 0, kI 0] 3) :: (h7 ++ G))) := Lib.hid (SC.out.setCell (i := 3) (kI n))
            go_upto_region 30 with (fail)
            generalize W8.setCell ⟨B, 3, none⟩ (kI n) = W9 at *
            clear x0 x1 x2 x3 x4 x5 x6 x7 x8 xz
            have xz := fun i => unfrozen_of SD.out.h0 i
            obtain ⟨x0, x1, x2, x3, x4, x5, x6, x7, x8⟩ := nine_of SD.out
            have hs := HGS.out W9 (.blk B (stepO k c up n (.slice none 0 0) 0 0 0 []) :: .blk wn (.cells #[kI 0, kI 0, kI 2, kI 2, kI 2, kI 1, kI 2, kI 2, kI 1, kI 0, kI 0] 3) :: h7) SD.out
            obtain ⟨e0, e1, e2, e3, e4, e5, e6, e7, e8⟩ := nine_of hs.tail
            obtain ⟨d0, d1, d2, d3, d4, d5, d6, d7, d8⟩ := nine_of hs
            have ez := fun i => unfrozen_of hs.h0 i
            have HS := Lib.hid hs
            clear hs
            go_wp2_with fail
            refine rp_end (A := A) (c := 0) (y := ⟨k, c, up, n, [], CallM.zero⟩) (fv := (.slice none 0 0)) rfl rfl rfl (put9 HS.out _ _ _ _ _ _ _ _ _) ?_
            rw [← HPB.out, HP2.out]
            exact ⟨(.slice none 0 0), [], rfl, FtAt.nil _ _ _, (put9 HS.out _ _ _ _ _ _ _ _ _).tail.tail.right⟩
end Go.Proofs.YtieaamlpadlfeaaGreatDoor
