/- A call's words are read: tome's call walked. Conditions: none. -/
import Derived.Test.YtieaamlpadlfeaaGreatDoorTb7
namespace Go.Proofs.YtieaamlpadlfeaaGreatDoor
open Go Go.MapKept Go.RowKit Go.Proofs

attribute [local go_sem] Oper.semAt_some

abbrev callO (k p s : Int) (d : Bs) : Obj := .cells #[kI k, kI p, kI s, kL d] 24
abbrev callV (x : CallM) : Value := .agg #[kI x.kind, kI x.page, kI x.slot, kL x.data]
theorem four_at {w : World} {g : Nat} {a b c d : Value} {T : TypeId} {F : Heaplet} (s : Sat w (.blk g (.cells #[a, b, c, d] T) :: F)) :
    w.cell? ⟨g, 0, none⟩ = some a ∧ w.cell? ⟨g, 1, none⟩ = some b ∧ w.cell? ⟨g, 2, none⟩ = some c ∧ w.cell? ⟨g, 3, none⟩ = some d ∧ ∀ i, w.frozen? ⟨g, i, none⟩ = false := by
  refine ⟨?_, ?_, ?_, ?_, fun i => unfrozen_of s.h0 i⟩ <;> (rw [cell_of s.h0]; rfl)
theorem put4 {w : World} {g : Nat} {a b c d : Value} {T : TypeId} {F : Heaplet} (s : Sat w (.blk g (.cells #[a, b, c, d] T) :: F)) (a' b' c' d' : Value) :
    Sat ((((w.setCell ⟨g, 0, none⟩ a').setCell ⟨g, 1, none⟩ b').setCell ⟨g, 2, none⟩ c').setCell ⟨g, 3, none⟩ d') (.blk g (.cells #[a', b', c', d'] T) :: F) :=
  (((s.setCell (i := 0) a').setCell (i := 1) b').setCell (i := 2) c').setCell (i := 3) d'
theorem RdIs.setF {b C i : Nat} {r : Rd} {K F' : Heaplet} {w : World} {c : Array Value} {t : TypeId} {z : Nat × Nat} (hF : ∀ W, Sat W F' → Sat W K) (h : RdIs b r K (.blk C (.cells c t z) :: F') w) (v : Value) : RdIs b r K (.blk C (.cells (c.setIfInBounds i v) t z) :: F') (w.setCell ⟨C, i, none⟩ v) :=
  h.move (fun W hW => hF W hW.tail) (fun _ s => (s.swap.setCell v).swap)
theorem calls_fields : Lib.fields (⟨#[98, 101, 103, 105, 110, 32, 114, 101, 97, 100, 32, 105, 110, 115, 101, 114, 116, 32, 117, 112, 100, 97, 116, 101, 32, 100, 101, 108, 101, 116, 101, 32, 115, 97, 118, 101, 32, 98, 97, 99, 107, 32, 99, 111, 109, 109, 105, 116, 32, 114, 111, 108, 108, 98, 97, 99, 107]⟩ : ByteArray).data.toList = callNames := by decide +kernel
theorem calls_ascii : ∀ (j : Nat) (b : UInt8), (⟨#[98, 101, 103, 105, 110, 32, 114, 101, 97, 100, 32, 105, 110, 115, 101, 114, 116, 32, 117, 112, 100, 97, 116, 101, 32, 100, 101, 108, 101, 116, 101, 32, 115, 97, 118, 101, 32, 98, 97, 99, 107, 32, 99, 111, 109, 109, 105, 116, 32, 114, 111, 108, 108, 98, 97, 99, 107]⟩ : ByteArray).data.toList[j]? = some b → b.toNat < 128 := by
  intro j b h
  have := List.mem_of_getElem? h
  revert this
  generalize b = c
  revert c
  decide +kernel
/-- The call so far, the result's place beside it. -/
abbrev CF (C A : Nat) (k p s : Int) (d : Bs) (F : Heaplet) : Heaplet := .blk C (callO k p s d) :: .blk A (callO 0 0 0 []) :: F
theorem call_fin {b C A : Nat} {r : Rd} {K F : Heaplet} {w : World} {k p s : Int} {d : Bs} (hF : ∀ W, Sat W F → Sat W K) (h : RdIs b r K (CF C A k p s d F) w) :
    RdIs b r K F ((((w.setCell ⟨A, 0, none⟩ (kI k)).setCell ⟨A, 1, none⟩ (kI p)).setCell ⟨A, 2, none⟩ (kI s)).setCell ⟨A, 3, none⟩ (kL d)) ∧
      ∀ a b c e, a = kI k → b = kI p → c = kI s → e = kL d → ((((w.setCell ⟨A, 0, none⟩ a).setCell ⟨A, 1, none⟩ b).setCell ⟨A, 2, none⟩ c).setCell ⟨A, 3, none⟩ e).cell? ⟨A, 0, none⟩ = some a ∧ ((((w.setCell ⟨A, 0, none⟩ a).setCell ⟨A, 1, none⟩ b).setCell ⟨A, 2, none⟩ c).setCell ⟨A, 3, none⟩ e).cell? ⟨A, 1, none⟩ = some b ∧ ((((w.setCell ⟨A, 0, none⟩ a).setCell ⟨A, 1, none⟩ b).setCell ⟨A, 2, none⟩ c).setCell ⟨A, 3, none⟩ e).cell? ⟨A, 2, none⟩ = some c ∧ ((((w.setCell ⟨A, 0, none⟩ a).setCell ⟨A, 1, none⟩ b).setCell ⟨A, 2, none⟩ c).setCell ⟨A, 3, none⟩ e).cell? ⟨A, 3, none⟩ = some e := by
  refine ⟨h.move hF (fun x hs => ?_), ?_⟩
  · have s1 : Sat w (.blk A (callO 0 0 0 []) :: .blk C (callO k p s d) :: x :: F) := hs.perm (by
      refine (List.Perm.swap _ _ _).trans ?_
      refine (List.Perm.cons _ (List.Perm.swap _ _ _)).trans ?_
      exact List.Perm.swap _ _ _)
    exact (put4 s1 _ _ _ _).tail.tail
  · intro a b c e _ _ _ _
    have s1 : Sat w (.blk A (callO 0 0 0 []) :: .blk C (callO k p s d) :: F) := h.frame.swap
    obtain ⟨x0, x1, x2, x3, _⟩ := four_at (put4 s1 a b c e)
    exact ⟨x0, x1, x2, x3⟩
set_option maxRecDepth 100000 in
set_option maxHeartbeats 4000000 in
theorem rcall_any {b : Nat} {r : Rd} {K F : Heaplet} {w : World} (hL : LibF F) (h : RdIs b r K F w) (hr : Short r) :
    Calls Tryz.prog 27 #[.pointer (some ⟨b, 0, none⟩)] w (Ret (callV r.call.1) (RdIs b r.call.2 K F)) := by
  have HF := Lib.hid h.down
  have HL := Lib.hid hL
  have h0 := h.new (callO 0 0 0 [])
  have HWD := Lib.hid (rword_any h0)
  have HR := Lib.hid hr.word.2
  obtain ⟨k, hk⟩ : ∃ k, kindOf callNames r.word.1 = k := ⟨_, rfl⟩
  have hk9 : k ≤ 9 := by rw [← hk]; exact kindOf_le callNames _
  obtain ⟨⟨ws, bad⟩, hr1⟩ : ∃ q, r.word.2 = q := ⟨_, rfl⟩
  obtain ⟨RC, hRC⟩ : ∃ RC, r.call = RC := ⟨_, rfl⟩
  rw [hRC]
  unfold Rd.call at hRC
  simp only [hk, hr1] at hRC
  rw [hr1] at HWD HR
  have HKD : Hid (∀ W, RdIs b ⟨ws, bad⟩ K (.blk w.heap.size (callO 0 0 0 []) :: F) W → Calls Tryz.prog 24 #[.string ⟨#[98, 101, 103, 105, 110, 32, 114, 101, 97, 100, 32, 105, 110, 115, 101, 114, 116, 32, 117, 112, 100, 97, 116, 101, 32, 100, 101, 108, 101, 116, 101, 32, 115, 97, 118, 101, 32, 98, 97, 99, 107, 32, 99, 111, 109, 109, 105, 116, 32, 114, 111, 108, 108, 98, 97, 99, 107]⟩, kL r.word.1] W (Ret (.int .i64 (k : Int)) (RdIs b ⟨ws, bad⟩ K (.blk w.heap.size (callO 0 0 0 []) :: F)))) := Lib.hid (fun W hW => hW.beside (fun G hG s => by
    have := kind_any (HL.out.mono (fun W hW => (hG W hW).tail)) s _ callNames calls_fields (by decide) (by decide) calls_ascii r.word.1
    rw [hk] at this
    exact this))
  generalize r.word.1 = x at *
  obtain ⟨kz, hkz⟩ : ∃ kz : Int, (k : Int) = kz := ⟨_, rfl⟩
  rw [hkz] at HKD
  have kz0 : 0 ≤ kz := by omega
  have kz9 : kz ≤ 9 := by omega
  clear h h0 hr hk hr1 hL
  go_enter Tryz.func27, Tryz.ntmps27
  go_upto_region 2 with (first
    | (go_at_call 25; refine (HWD.out).mono ?_; rintro e w1 ⟨rfl, h1⟩; have H1 := Lib.hid h1; clear h1)
    | (go_at_call 24; refine (HKD.out _ H1.out).mono ?_; rintro e w2 ⟨rfl, h2⟩; have H2 := Lib.hid (h2.new (callO kz 0 0 [])); clear h2))
  clear HWD HKD H1
  generalize w2.alloc (callO kz 0 0 []) = W3 at *
  obtain ⟨A, hA⟩ : ∃ A, w.heap.size = A := ⟨_, rfl⟩
  obtain ⟨C, hC⟩ : ∃ C, w2.heap.size = C := ⟨_, rfl⟩
  rw [hA, hC] at H2 ⊢
  clear hA hC
  have HNUM : Hid (∀ r' k p s d W, RdIs b r' K (CF C A k p s d F) W → Calls Tryz.prog 26 #[.pointer (some ⟨b, 0, none⟩)] W (Ret (.int .i64 r'.num.1) (RdIs b r'.num.2 K (CF C A k p s d F)))) := Lib.hid (fun r' k p s d W hW => rnum_any (HL.out.mono (fun W hW => hW.tail.tail)) hW)
  have HTXT : Hid (∀ r' k p s d W, Short r' → RdIs b r' K (CF C A k p s d F) W → Calls Tryz.prog 47 #[.pointer (some ⟨b, 0, none⟩)] W (Ret (kL r'.text.1) (RdIs b r'.text.2 K (CF C A k p s d F)))) := Lib.hid (fun r' k p s d W hs hW => rtext_any (HL.out.mono (fun W hW => hW.tail.tail)) hW hs)
  have HFT : Hid (∀ W, Sat W (.blk A (callO 0 0 0 []) :: F) → Sat W K) := Lib.hid (fun W hW => HF.out W hW.tail)
  obtain ⟨d0, d1, d2, d3, fz⟩ := four_at H2.out.frame
  obtain ⟨_, _, _, _, c1, _, f1⟩ := H2.out.cells
  by_cases k3 : k = 3
  · subst k3
    have HRC : Hid (RC = _) := Lib.hid (hRC.symm.trans (if_pos rfl))
    obtain rfl : kz = 3 := by omega
    clear hRC hkz hk9 kz0 kz9
    cases bad with
    | true =>
      have H3 := Lib.hid (H2.out.bad true)
      obtain ⟨e0, e1, e2, e3, fe⟩ := four_at H3.out.frame
      go_wp2_with (first | (go_at_call 47; refine (HTXT.out _ _ _ _ _ _ (Short.num (show Short (Rd.mk ws true) from HR.out)) H4.out).mono ?_; rintro e w5 ⟨rfl, h5⟩; obtain ⟨x0, x1, x2, x3, fx5⟩ := four_at h5.frame; have H5 := Lib.hid (RdIs.setF (i := 3) HFT.out h5 (kL (Rd.mk ws true).num.2.text.1)); obtain ⟨y0, y1, y2, y3, fy5⟩ := four_at H5.out.frame; obtain ⟨z0, z1, z2, z3, fz5⟩ := four_at H5.out.frame.tail; clear h5) | (go_at_call 26; refine (HNUM.out _ _ _ _ _ _ H3.out).mono ?_; rintro e w4 ⟨rfl, h4⟩; obtain ⟨x0, x1, x2, x3, fx4⟩ := four_at h4.frame; have H4 := Lib.hid (RdIs.setF (i := 1) HFT.out h4 (kI (Rd.mk ws true).num.1)); obtain ⟨y0, y1, y2, y3, fy4⟩ := four_at H4.out.frame; obtain ⟨z0, z1, z2, z3, fz4⟩ := four_at H4.out.frame.tail; clear h4))
      obtain ⟨q1, q2⟩ := call_fin HF.out (H5.out : RdIs b _ K (CF C A _ _ _ _ F) _)
      obtain ⟨r0, r1, r2, r3⟩ := q2 _ _ _ _ rfl rfl rfl rfl
      refine bodyPost_ret (v := callV RC.1) ?_ rfl ⟨rfl, ?_⟩
      · rw [HRC.out]
        simp [results, Tryz.results27, go_sem, r0, r1, r2, r3]
      · rw [HRC.out]
        exact q1
    | false =>
      have H3 := Lib.hid (H2.out.bad false)
      obtain ⟨e0, e1, e2, e3, fe⟩ := four_at H3.out.frame
      go_wp2_with (first | (go_at_call 47; refine (HTXT.out _ _ _ _ _ _ (Short.num (show Short (Rd.mk ws false) from HR.out)) H4.out).mono ?_; rintro e w5 ⟨rfl, h5⟩; obtain ⟨x0, x1, x2, x3, fx5⟩ := four_at h5.frame; have H5 := Lib.hid (RdIs.setF (i := 3) HFT.out h5 (kL (Rd.mk ws false).num.2.text.1)); obtain ⟨y0, y1, y2, y3, fy5⟩ := four_at H5.out.frame; obtain ⟨z0, z1, z2, z3, fz5⟩ := four_at H5.out.frame.tail; clear h5) | (go_at_call 26; refine (HNUM.out _ _ _ _ _ _ H3.out).mono ?_; rintro e w4 ⟨rfl, h4⟩; obtain ⟨x0, x1, x2, x3, fx4⟩ := four_at h4.frame; have H4 := Lib.hid (RdIs.setF (i := 1) HFT.out h4 (kI (Rd.mk ws false).num.1)); obtain ⟨y0, y1, y2, y3, fy4⟩ := four_at H4.out.frame; obtain ⟨z0, z1, z2, z3, fz4⟩ := four_at H4.out.frame.tail; clear h4))
      obtain ⟨q1, q2⟩ := call_fin HF.out (H5.out : RdIs b _ K (CF C A _ _ _ _ F) _)
      obtain ⟨r0, r1, r2, r3⟩ := q2 _ _ _ _ rfl rfl rfl rfl
      refine bodyPost_ret (v := callV RC.1) ?_ rfl ⟨rfl, ?_⟩
      · rw [HRC.out]
        simp [results, Tryz.results27, go_sem, r0, r1, r2, r3]
      · rw [HRC.out]
        exact q1
  rw [if_neg k3] at hRC
  by_cases k4 : k = 4
  · subst k4
    have HRC : Hid (RC = _) := Lib.hid (hRC.symm.trans (if_pos rfl))
    obtain rfl : kz = 4 := by omega
    clear hRC hkz hk9 kz0 kz9 k3
    cases bad with
    | true =>
      have H3 := Lib.hid (H2.out.bad true)
      obtain ⟨e0, e1, e2, e3, fe⟩ := four_at H3.out.frame
      go_wp2_with (first | (go_at_call 47; refine (HTXT.out _ _ _ _ _ _ (Short.num (Short.num (show Short (Rd.mk ws true) from HR.out))) H5.out).mono ?_; rintro e w6 ⟨rfl, h6⟩; obtain ⟨x0, x1, x2, x3, fx6⟩ := four_at h6.frame; have H6 := Lib.hid (RdIs.setF (i := 3) HFT.out h6 (kL (Rd.mk ws true).num.2.num.2.text.1)); obtain ⟨y0, y1, y2, y3, fy6⟩ := four_at H6.out.frame; obtain ⟨z0, z1, z2, z3, fz6⟩ := four_at H6.out.frame.tail; clear h6) | (go_at_call 26; refine (HNUM.out _ _ _ _ _ _ H4.out).mono ?_; rintro e w5 ⟨rfl, h5⟩; obtain ⟨x0, x1, x2, x3, fx5⟩ := four_at h5.frame; have H5 := Lib.hid (RdIs.setF (i := 2) HFT.out h5 (kI (Rd.mk ws true).num.2.num.1)); obtain ⟨y0, y1, y2, y3, fy5⟩ := four_at H5.out.frame; obtain ⟨z0, z1, z2, z3, fz5⟩ := four_at H5.out.frame.tail; clear h5) | (go_at_call 26; refine (HNUM.out _ _ _ _ _ _ H3.out).mono ?_; rintro e w4 ⟨rfl, h4⟩; obtain ⟨x0, x1, x2, x3, fx4⟩ := four_at h4.frame; have H4 := Lib.hid (RdIs.setF (i := 1) HFT.out h4 (kI (Rd.mk ws true).num.1)); obtain ⟨y0, y1, y2, y3, fy4⟩ := four_at H4.out.frame; obtain ⟨z0, z1, z2, z3, fz4⟩ := four_at H4.out.frame.tail; clear h4))
      obtain ⟨q1, q2⟩ := call_fin HF.out (H6.out : RdIs b _ K (CF C A _ _ _ _ F) _)
      obtain ⟨r0, r1, r2, r3⟩ := q2 _ _ _ _ rfl rfl rfl rfl
      refine bodyPost_ret (v := callV RC.1) ?_ rfl ⟨rfl, ?_⟩
      · rw [HRC.out]
        simp [results, Tryz.results27, go_sem, r0, r1, r2, r3]
      · rw [HRC.out]
        exact q1
    | false =>
      have H3 := Lib.hid (H2.out.bad false)
      obtain ⟨e0, e1, e2, e3, fe⟩ := four_at H3.out.frame
      go_wp2_with (first | (go_at_call 47; refine (HTXT.out _ _ _ _ _ _ (Short.num (Short.num (show Short (Rd.mk ws false) from HR.out))) H5.out).mono ?_; rintro e w6 ⟨rfl, h6⟩; obtain ⟨x0, x1, x2, x3, fx6⟩ := four_at h6.frame; have H6 := Lib.hid (RdIs.setF (i := 3) HFT.out h6 (kL (Rd.mk ws false).num.2.num.2.text.1)); obtain ⟨y0, y1, y2, y3, fy6⟩ := four_at H6.out.frame; obtain ⟨z0, z1, z2, z3, fz6⟩ := four_at H6.out.frame.tail; clear h6) | (go_at_call 26; refine (HNUM.out _ _ _ _ _ _ H4.out).mono ?_; rintro e w5 ⟨rfl, h5⟩; obtain ⟨x0, x1, x2, x3, fx5⟩ := four_at h5.frame; have H5 := Lib.hid (RdIs.setF (i := 2) HFT.out h5 (kI (Rd.mk ws false).num.2.num.1)); obtain ⟨y0, y1, y2, y3, fy5⟩ := four_at H5.out.frame; obtain ⟨z0, z1, z2, z3, fz5⟩ := four_at H5.out.frame.tail; clear h5) | (go_at_call 26; refine (HNUM.out _ _ _ _ _ _ H3.out).mono ?_; rintro e w4 ⟨rfl, h4⟩; obtain ⟨x0, x1, x2, x3, fx4⟩ := four_at h4.frame; have H4 := Lib.hid (RdIs.setF (i := 1) HFT.out h4 (kI (Rd.mk ws false).num.1)); obtain ⟨y0, y1, y2, y3, fy4⟩ := four_at H4.out.frame; obtain ⟨z0, z1, z2, z3, fz4⟩ := four_at H4.out.frame.tail; clear h4))
      obtain ⟨q1, q2⟩ := call_fin HF.out (H6.out : RdIs b _ K (CF C A _ _ _ _ F) _)
      obtain ⟨r0, r1, r2, r3⟩ := q2 _ _ _ _ rfl rfl rfl rfl
      refine bodyPost_ret (v := callV RC.1) ?_ rfl ⟨rfl, ?_⟩
      · rw [HRC.out]
        simp [results, Tryz.results27, go_sem, r0, r1, r2, r3]
      · rw [HRC.out]
        exact q1
  rw [if_neg k4] at hRC
  by_cases k2 : k = 2
  · subst k2
    have HRC : Hid (RC = _) := Lib.hid (hRC.symm.trans (if_pos (.inl rfl)))
    obtain rfl : kz = 2 := by omega
    clear hRC hkz hk9 kz0 kz9 k3 k4
    cases bad with
    | true =>
      have H3 := Lib.hid (H2.out.bad true)
      obtain ⟨e0, e1, e2, e3, fe⟩ := four_at H3.out.frame
      go_wp2_with (first | (go_at_call 26; refine (HNUM.out _ _ _ _ _ _ H4.out).mono ?_; rintro e w5 ⟨rfl, h5⟩; obtain ⟨x0, x1, x2, x3, fx5⟩ := four_at h5.frame; have H5 := Lib.hid (RdIs.setF (i := 2) HFT.out h5 (kI (Rd.mk ws true).num.2.num.1)); obtain ⟨y0, y1, y2, y3, fy5⟩ := four_at H5.out.frame; obtain ⟨z0, z1, z2, z3, fz5⟩ := four_at H5.out.frame.tail; clear h5) | (go_at_call 26; refine (HNUM.out _ _ _ _ _ _ H3.out).mono ?_; rintro e w4 ⟨rfl, h4⟩; obtain ⟨x0, x1, x2, x3, fx4⟩ := four_at h4.frame; have H4 := Lib.hid (RdIs.setF (i := 1) HFT.out h4 (kI (Rd.mk ws true).num.1)); obtain ⟨y0, y1, y2, y3, fy4⟩ := four_at H4.out.frame; obtain ⟨z0, z1, z2, z3, fz4⟩ := four_at H4.out.frame.tail; clear h4))
      obtain ⟨q1, q2⟩ := call_fin HF.out (H5.out : RdIs b _ K (CF C A _ _ _ _ F) _)
      obtain ⟨r0, r1, r2, r3⟩ := q2 _ _ _ _ rfl rfl rfl rfl
      refine bodyPost_ret (v := callV RC.1) ?_ rfl ⟨rfl, ?_⟩
      · rw [HRC.out]
        simp [results, Tryz.results27, go_sem, r0, r1, r2, r3]
      · rw [HRC.out]
        exact q1
    | false =>
      have H3 := Lib.hid (H2.out.bad false)
      obtain ⟨e0, e1, e2, e3, fe⟩ := four_at H3.out.frame
      go_wp2_with (first | (go_at_call 26; refine (HNUM.out _ _ _ _ _ _ H4.out).mono ?_; rintro e w5 ⟨rfl, h5⟩; obtain ⟨x0, x1, x2, x3, fx5⟩ := four_at h5.frame; have H5 := Lib.hid (RdIs.setF (i := 2) HFT.out h5 (kI (Rd.mk ws false).num.2.num.1)); obtain ⟨y0, y1, y2, y3, fy5⟩ := four_at H5.out.frame; obtain ⟨z0, z1, z2, z3, fz5⟩ := four_at H5.out.frame.tail; clear h5) | (go_at_call 26; refine (HNUM.out _ _ _ _ _ _ H3.out).mono ?_; rintro e w4 ⟨rfl, h4⟩; obtain ⟨x0, x1, x2, x3, fx4⟩ := four_at h4.frame; have H4 := Lib.hid (RdIs.setF (i := 1) HFT.out h4 (kI (Rd.mk ws false).num.1)); obtain ⟨y0, y1, y2, y3, fy4⟩ := four_at H4.out.frame; obtain ⟨z0, z1, z2, z3, fz4⟩ := four_at H4.out.frame.tail; clear h4))
      obtain ⟨q1, q2⟩ := call_fin HF.out (H5.out : RdIs b _ K (CF C A _ _ _ _ F) _)
      obtain ⟨r0, r1, r2, r3⟩ := q2 _ _ _ _ rfl rfl rfl rfl
      refine bodyPost_ret (v := callV RC.1) ?_ rfl ⟨rfl, ?_⟩
      · rw [HRC.out]
        simp [results, Tryz.results27, go_sem, r0, r1, r2, r3]
      · rw [HRC.out]
        exact q1
  by_cases k5 : k = 5
  · subst k5
    have HRC : Hid (RC = _) := Lib.hid (hRC.symm.trans (if_pos (.inr rfl)))
    obtain rfl : kz = 5 := by omega
    clear hRC hkz hk9 kz0 kz9 k3 k4 k2
    cases bad with
    | true =>
      have H3 := Lib.hid (H2.out.bad true)
      obtain ⟨e0, e1, e2, e3, fe⟩ := four_at H3.out.frame
      go_wp2_with (first | (go_at_call 26; refine (HNUM.out _ _ _ _ _ _ H4.out).mono ?_; rintro e w5 ⟨rfl, h5⟩; obtain ⟨x0, x1, x2, x3, fx5⟩ := four_at h5.frame; have H5 := Lib.hid (RdIs.setF (i := 2) HFT.out h5 (kI (Rd.mk ws true).num.2.num.1)); obtain ⟨y0, y1, y2, y3, fy5⟩ := four_at H5.out.frame; obtain ⟨z0, z1, z2, z3, fz5⟩ := four_at H5.out.frame.tail; clear h5) | (go_at_call 26; refine (HNUM.out _ _ _ _ _ _ H3.out).mono ?_; rintro e w4 ⟨rfl, h4⟩; obtain ⟨x0, x1, x2, x3, fx4⟩ := four_at h4.frame; have H4 := Lib.hid (RdIs.setF (i := 1) HFT.out h4 (kI (Rd.mk ws true).num.1)); obtain ⟨y0, y1, y2, y3, fy4⟩ := four_at H4.out.frame; obtain ⟨z0, z1, z2, z3, fz4⟩ := four_at H4.out.frame.tail; clear h4))
      obtain ⟨q1, q2⟩ := call_fin HF.out (H5.out : RdIs b _ K (CF C A _ _ _ _ F) _)
      obtain ⟨r0, r1, r2, r3⟩ := q2 _ _ _ _ rfl rfl rfl rfl
      refine bodyPost_ret (v := callV RC.1) ?_ rfl ⟨rfl, ?_⟩
      · rw [HRC.out]
        simp [results, Tryz.results27, go_sem, r0, r1, r2, r3]
      · rw [HRC.out]
        exact q1
    | false =>
      have H3 := Lib.hid (H2.out.bad false)
      obtain ⟨e0, e1, e2, e3, fe⟩ := four_at H3.out.frame
      go_wp2_with (first | (go_at_call 26; refine (HNUM.out _ _ _ _ _ _ H4.out).mono ?_; rintro e w5 ⟨rfl, h5⟩; obtain ⟨x0, x1, x2, x3, fx5⟩ := four_at h5.frame; have H5 := Lib.hid (RdIs.setF (i := 2) HFT.out h5 (kI (Rd.mk ws false).num.2.num.1)); obtain ⟨y0, y1, y2, y3, fy5⟩ := four_at H5.out.frame; obtain ⟨z0, z1, z2, z3, fz5⟩ := four_at H5.out.frame.tail; clear h5) | (go_at_call 26; refine (HNUM.out _ _ _ _ _ _ H3.out).mono ?_; rintro e w4 ⟨rfl, h4⟩; obtain ⟨x0, x1, x2, x3, fx4⟩ := four_at h4.frame; have H4 := Lib.hid (RdIs.setF (i := 1) HFT.out h4 (kI (Rd.mk ws false).num.1)); obtain ⟨y0, y1, y2, y3, fy4⟩ := four_at H4.out.frame; obtain ⟨z0, z1, z2, z3, fz4⟩ := four_at H4.out.frame.tail; clear h4))
      obtain ⟨q1, q2⟩ := call_fin HF.out (H5.out : RdIs b _ K (CF C A _ _ _ _ F) _)
      obtain ⟨r0, r1, r2, r3⟩ := q2 _ _ _ _ rfl rfl rfl rfl
      refine bodyPost_ret (v := callV RC.1) ?_ rfl ⟨rfl, ?_⟩
      · rw [HRC.out]
        simp [results, Tryz.results27, go_sem, r0, r1, r2, r3]
      · rw [HRC.out]
        exact q1
  rw [if_neg (by omega)] at hRC
  by_cases k7 : k = 7
  · subst k7
    have HRC : Hid (RC = _) := Lib.hid (hRC.symm.trans (if_pos rfl))
    obtain rfl : kz = 7 := by omega
    clear hRC hkz hk9 kz0 kz9 k3 k4 k2 k5
    cases bad with
    | true =>
      have H3 := Lib.hid (H2.out.bad true)
      obtain ⟨e0, e1, e2, e3, fe⟩ := four_at H3.out.frame
      go_wp2_with (first | (go_at_call 26; refine (HNUM.out _ _ _ _ _ _ H3.out).mono ?_; rintro e w4 ⟨rfl, h4⟩; obtain ⟨x0, x1, x2, x3, fx4⟩ := four_at h4.frame; have H4 := Lib.hid (RdIs.setF (i := 2) HFT.out h4 (kI (Rd.mk ws true).num.1)); obtain ⟨y0, y1, y2, y3, fy4⟩ := four_at H4.out.frame; obtain ⟨z0, z1, z2, z3, fz4⟩ := four_at H4.out.frame.tail; clear h4))
      obtain ⟨q1, q2⟩ := call_fin HF.out (H4.out : RdIs b _ K (CF C A _ _ _ _ F) _)
      obtain ⟨r0, r1, r2, r3⟩ := q2 _ _ _ _ rfl rfl rfl rfl
      refine bodyPost_ret (v := callV RC.1) ?_ rfl ⟨rfl, ?_⟩
      · rw [HRC.out]
        simp [results, Tryz.results27, go_sem, r0, r1, r2, r3]
      · rw [HRC.out]
        exact q1
    | false =>
      have H3 := Lib.hid (H2.out.bad false)
      obtain ⟨e0, e1, e2, e3, fe⟩ := four_at H3.out.frame
      go_wp2_with (first | (go_at_call 26; refine (HNUM.out _ _ _ _ _ _ H3.out).mono ?_; rintro e w4 ⟨rfl, h4⟩; obtain ⟨x0, x1, x2, x3, fx4⟩ := four_at h4.frame; have H4 := Lib.hid (RdIs.setF (i := 2) HFT.out h4 (kI (Rd.mk ws false).num.1)); obtain ⟨y0, y1, y2, y3, fy4⟩ := four_at H4.out.frame; obtain ⟨z0, z1, z2, z3, fz4⟩ := four_at H4.out.frame.tail; clear h4))
      obtain ⟨q1, q2⟩ := call_fin HF.out (H4.out : RdIs b _ K (CF C A _ _ _ _ F) _)
      obtain ⟨r0, r1, r2, r3⟩ := q2 _ _ _ _ rfl rfl rfl rfl
      refine bodyPost_ret (v := callV RC.1) ?_ rfl ⟨rfl, ?_⟩
      · rw [HRC.out]
        simp [results, Tryz.results27, go_sem, r0, r1, r2, r3]
      · rw [HRC.out]
        exact q1
  rw [if_neg k7, hkz] at hRC
  have HRC : Hid (RC = _) := Lib.hid hRC.symm
  have m3 : (kz == 3) = false := by rw [beq_eq_false_iff_ne]; omega
  have m3' : (kz = 3) = False := eq_false (by omega)
  have m4 : (kz == 4) = false := by rw [beq_eq_false_iff_ne]; omega
  have m7 : (kz == 7) = false := by rw [beq_eq_false_iff_ne]; omega
  by_cases kl : k < 2
  · have k1 : ((2 : Int) ≤ kz) = False := eq_false (by omega)
    by_cases kk : k = 0
    · have m0 : (kz == 0) = true := by rw [beq_iff_eq]; omega
      have ed : decide (k = 0) = true := decide_eq_true kk
      rw [ed, Bool.or_true] at HRC
      clear hRC hkz hk9 kz0 kz9 k2 k3 k4 k5 k7 kl kk ed
      cases bad with
      | true =>
        have H3 := Lib.hid (H2.out.bad true)
        obtain ⟨e0, e1, e2, e3, fe⟩ := four_at H3.out.frame
        obtain ⟨z0, z1, z2, z3, fz3⟩ := four_at H3.out.frame.tail
        go_wp2_with fail
        obtain ⟨q1, q2⟩ := call_fin HF.out (H3.out : RdIs b _ K (CF C A _ _ _ _ F) _)
        obtain ⟨r0, r1, r2, r3⟩ := q2 _ _ _ _ rfl rfl rfl rfl
        refine bodyPost_ret (v := callV RC.1) ?_ rfl ⟨rfl, ?_⟩
        · rw [HRC.out]
          simp [results, Tryz.results27, go_sem, r0, r1, r2, r3]
        · rw [HRC.out]
          exact q1
      | false =>
        have H3 := Lib.hid (H2.out.bad true)
        obtain ⟨e0, e1, e2, e3, fe⟩ := four_at H3.out.frame
        obtain ⟨z0, z1, z2, z3, fz3⟩ := four_at H3.out.frame.tail
        go_wp2_with fail
        obtain ⟨q1, q2⟩ := call_fin HF.out (H3.out : RdIs b _ K (CF C A _ _ _ _ F) _)
        obtain ⟨r0, r1, r2, r3⟩ := q2 _ _ _ _ rfl rfl rfl rfl
        refine bodyPost_ret (v := callV RC.1) ?_ rfl ⟨rfl, ?_⟩
        · rw [HRC.out]
          simp [results, Tryz.results27, go_sem, r0, r1, r2, r3]
        · rw [HRC.out]
          exact q1
    · have m0 : (kz == 0) = false := by rw [beq_eq_false_iff_ne]; omega
      have ed : decide (k = 0) = false := decide_eq_false kk
      rw [ed, Bool.or_false] at HRC
      clear hRC hkz hk9 kz0 kz9 k2 k3 k4 k5 k7 kl kk ed
      cases bad with
      | true =>
        have H3 := Lib.hid (H2.out.bad true)
        obtain ⟨e0, e1, e2, e3, fe⟩ := four_at H3.out.frame
        obtain ⟨z0, z1, z2, z3, fz3⟩ := four_at H3.out.frame.tail
        go_wp2_with fail
        obtain ⟨q1, q2⟩ := call_fin HF.out (H3.out : RdIs b _ K (CF C A _ _ _ _ F) _)
        obtain ⟨r0, r1, r2, r3⟩ := q2 _ _ _ _ rfl rfl rfl rfl
        refine bodyPost_ret (v := callV RC.1) ?_ rfl ⟨rfl, ?_⟩
        · rw [HRC.out]
          simp [results, Tryz.results27, go_sem, r0, r1, r2, r3]
        · rw [HRC.out]
          exact q1
      | false =>
        have H3 := Lib.hid (H2.out.bad false)
        obtain ⟨e0, e1, e2, e3, fe⟩ := four_at H3.out.frame
        obtain ⟨z0, z1, z2, z3, fz3⟩ := four_at H3.out.frame.tail
        go_wp2_with fail
        obtain ⟨q1, q2⟩ := call_fin HF.out (H3.out : RdIs b _ K (CF C A _ _ _ _ F) _)
        obtain ⟨r0, r1, r2, r3⟩ := q2 _ _ _ _ rfl rfl rfl rfl
        refine bodyPost_ret (v := callV RC.1) ?_ rfl ⟨rfl, ?_⟩
        · rw [HRC.out]
          simp [results, Tryz.results27, go_sem, r0, r1, r2, r3]
        · rw [HRC.out]
          exact q1
  · have k1 : (2 : Int) ≤ kz := by omega
    have k6 : (kz ≤ 5) = False := eq_false (by omega)
    have m0 : (kz == 0) = false := by rw [beq_eq_false_iff_ne]; omega
    have ed : decide (k = 0) = false := decide_eq_false (by omega)
    rw [ed, Bool.or_false] at HRC
    clear hRC hkz hk9 kz0 k2 k3 k4 k5 k7 kl ed
    cases bad with
    | true =>
      have H3 := Lib.hid (H2.out.bad true)
      obtain ⟨e0, e1, e2, e3, fe⟩ := four_at H3.out.frame
      obtain ⟨z0, z1, z2, z3, fz3⟩ := four_at H3.out.frame.tail
      go_wp2_with fail
      obtain ⟨q1, q2⟩ := call_fin HF.out (H3.out : RdIs b _ K (CF C A _ _ _ _ F) _)
      obtain ⟨r0, r1, r2, r3⟩ := q2 _ _ _ _ rfl rfl rfl rfl
      refine bodyPost_ret (v := callV RC.1) ?_ rfl ⟨rfl, ?_⟩
      · rw [HRC.out]
        simp [results, Tryz.results27, go_sem, r0, r1, r2, r3]
      · rw [HRC.out]
        exact q1
    | false =>
      have H3 := Lib.hid (H2.out.bad false)
      obtain ⟨e0, e1, e2, e3, fe⟩ := four_at H3.out.frame
      obtain ⟨z0, z1, z2, z3, fz3⟩ := four_at H3.out.frame.tail
      go_wp2_with fail
      obtain ⟨q1, q2⟩ := call_fin HF.out (H3.out : RdIs b _ K (CF C A _ _ _ _ F) _)
      obtain ⟨r0, r1, r2, r3⟩ := q2 _ _ _ _ rfl rfl rfl rfl
      refine bodyPost_ret (v := callV RC.1) ?_ rfl ⟨rfl, ?_⟩
      · rw [HRC.out]
        simp [results, Tryz.results27, go_sem, r0, r1, r2, r3]
      · rw [HRC.out]
        exact q1
end Go.Proofs.YtieaamlpadlfeaaGreatDoor
