/- Texts put together: Tx13, Tx14. Conditions: none. -/
import Derived.Test.YtgocmnejlbfplaaGreatDoorTy13
import Derived.Test.YtgocmnejlbfplaaGreatDoorTy20
namespace Go.Proofs.YtgocmnejlbfplaaGreatDoor
open Go Go.MapKept Go.RowKit Go.Proofs

attribute [local go_sem] Oper.semAt_some
variable {E : Heaplet}

theorem rpage_results (tm : Array Value) (W9 : World) (g : Nat) (n : Int) (c : Bool) (sv : Value) (h1 : (tm[4]?).getD undef = .pointer (some ⟨g, 0, none⟩)) (h2 : (tm[5]?).getD undef = .bool c) (r0 : W9.cell? ⟨g, 0, none⟩ = some (kI n)) (r1 : W9.cell? ⟨g, 1, none⟩ = some sv) :
    (results Tryz.f36 tm).run Tryz.prog W9 = .ok (.tuple #[pgV n sv, .bool c]) W9 := by
  simp [results, Tryz.results36, go_sem, h1, h2, r0, r1]
set_option maxRecDepth 100000 in
theorem rpage_any (n : Nat) (hn : n < 4294967296) (s : ByteArray) (h256 : s.size = 256) (F : Heaplet) (w : World) (hs : Sat w F) :
    Calls Tryz.prog 36 #[.int .i64 (n : Int), .string s] w (PageRet (pageM n s) F) := by
  have h0 := hs.new (.cells #[kI 0, .slice none 0 0] 48)
  have hx : (s.extract 0 240).size = 240 := by rw [ByteArray.size_extract]; omega
  have hdl : (s.extract 0 240).data.toList = s.data.toList.take 240 := by rw [ext_list]; rfl
  have HD := Lib.hid (rdec_any (s.extract 0 240) hx _ _ h0)
  rw [hdl] at HD
  obtain ⟨pb, hpb⟩ : ∃ pb, w.heap.size = pb := ⟨_, rfl⟩
  rw [hpb] at HD
  have HSE : Hid (∀ (W : World) (G : Heaplet) (sv : Value) (q : Pg), goodP q = true → SlAt G sv q.slots → Sat W G → Calls Tryz.prog 38 #[.int .i64 (n : Int), pgV q.lsn sv] W (Ret (.string (secM n q)) (Below W.heap.size W))) := Lib.hid (fun W G sv q h1 h2 h3 => rsector_any n hn h1 h2 h3)
  have hsz : (240 : Int) ≤ (s.size : Int) := by omega
  clear h0 hx hdl hs hn
  cases hd : rdec (s.data.toList.take 240) with
  | none =>
    rw [hd] at HD
    have hpm : pageM n s = none := by unfold pageM; rw [rdec_page, hd]
    rw [hpm]
    clear hpm HSE hd
    go_enter Tryz.func36, Tryz.ntmps36
    go_upto_if 22 with (go_at_call 62; refine (HD.out).mono ?_; rintro e w2 ⟨sv, h, hs2, rfl⟩; have HS2 := Lib.hid (hs2.perm (List.perm_middle (l₁ := h))); clear hs2)
    have HS3 := Lib.hid ((HS2.out.new (.cells #[kI 0, .slice none 0 0] 48)).swap)
    obtain ⟨c0, c1, ff⟩ := two_at HS3.out
    have h9 := two_set HS3.out (kI 0) (.slice none 0 0)
    have R9 := Lib.hid (two_at h9)
    have FIN := Lib.hid h9.tail.tail
    clear h9 HS2 HS3
    go_wp2_with fail
    exact bodyPost_ret (v := .tuple #[pgV 0 (.slice none 0 0), .bool false]) (rpage_results _ _ pb 0 false _ rfl rfl R9.out.1 R9.out.2.1) rfl ⟨.slice none 0 0, h, FIN.out, rfl⟩
  | some p =>
    rw [hd] at HD
    have hg : goodP p = true := rdec_good hd
    have hsz2 := secM_size (n := n) hg
    have hpm : pageM n s = if secM n p = s then some p else none := by
      unfold pageM
      rw [rdec_page, hd]
      by_cases h : secM n p = s
      · rw [if_pos h]
        show (if secB n p = s.data.toList then some p else none) = _
        rw [if_pos (by rw [← h]; rfl)]
      · rw [if_neg h]
        show (if secB n p = s.data.toList then some p else none) = _
        rw [if_neg (show ¬ secB n p = s.data.toList from fun e => h (ba_ext (a := secM n p) (b := s) e))]
    obtain ⟨O, hO⟩ : ∃ O, pageM n s = O := ⟨_, rfl⟩
    rw [hO] at hpm ⊢
    have HO := Lib.hid hpm
    clear hpm hd hO
    go_enter Tryz.func36, Tryz.ntmps36
    go_upto_region 2 with (go_at_call 62; refine (HD.out).mono ?_; rintro e w2 ⟨sv, h4, hs2, rfl, hsl⟩; obtain ⟨sa, sc, rfl, _⟩ := id hsl; have HS2 := Lib.hid (hs2.perm (List.perm_middle (l₁ := h4))); have HSL := Lib.hid hsl; clear hs2 hsl)
    have HS3 := Lib.hid ((HS2.out.new (.cells #[kI p.lsn, .slice sa p.slots.length sc] 48)))
    obtain ⟨g0, g1, _⟩ := two_at HS3.out
    have HSE2 := Lib.hid (HSE.out _ _ _ p hg (HSL.out.mono (F' := .blk w2.heap.size (.cells #[kI p.lsn, .slice sa p.slots.length sc] 48) :: .blk pb (.cells #[kI 0, .slice none 0 0] 48) :: (h4 ++ F)) (fun w hw => Sat.lft (F := F) hw.tail.tail)) HS3.out)
    clear HSE HD HS2
    obtain ⟨sm, hsm⟩ : ∃ sm, secM n p = sm := ⟨_, rfl⟩
    rw [hsm] at HSE2 hsz2 HO
    clear hsm
    by_cases heq : sm = s
    · obtain rfl : O = some p := by rw [HO.out, if_pos heq]
      subst heq
      go_upto_if 22 with (go_at_call 38; refine (HSE2.out).mono ?_; rintro e w4 ⟨rfl, hb⟩; have HS4 := Lib.hid (HS3.out.monoB hb); clear hb)
      clear g0 g1
      obtain ⟨g0, g1, _⟩ := two_at HS4.out
      have hp := HS4.out.swap
      obtain ⟨c0, c1, ff⟩ := two_at hp
      have h9 := two_set hp (kI p.lsn) (.slice sa p.slots.length sc)
      have R9 := Lib.hid (two_at h9)
      have FIN := Lib.hid h9.tail.tail
      clear h9 hp HS3
      go_wp2_with fail
      exact bodyPost_ret (v := .tuple #[pgV p.lsn (.slice sa p.slots.length sc), .bool true]) (rpage_results _ _ pb p.lsn true _ rfl rfl R9.out.1 R9.out.2.1) rfl ⟨_, h4, FIN.out, rfl, HSL.out⟩
    · obtain rfl : O = none := by rw [HO.out, if_neg heq]
      have hq : (sm.toList == s.toList) = false := by rw [ba_cmp]; exact decide_eq_false heq
      have hq2 : (sm = s) = False := eq_false heq
      go_upto_if 22 with (go_at_call 38; refine (HSE2.out).mono ?_; rintro e w4 ⟨rfl, hb⟩; have HS4 := Lib.hid (HS3.out.monoB hb); clear hb)
      have hp := HS4.out.swap
      obtain ⟨c0, c1, ff⟩ := two_at hp
      have h9 := two_set hp (kI 0) (.slice none 0 0)
      have R9 := Lib.hid (two_at h9)
      have FIN := Lib.hid h9.tail.tail
      clear h9 hp HS3 g0 g1
      go_wp2_with fail
      exact bodyPost_ret (v := .tuple #[pgV 0 (.slice none 0 0), .bool false]) (rpage_results _ _ pb 0 false _ rfl rfl R9.out.1 R9.out.2.1) rfl ⟨.slice none 0 0, h4, FIN.out, rfl⟩

theorem rrdy_nil (w : World) : Calls Tryz.prog 47 #[.pointer none] w (Ret (.int .i64 2) (Same w)) := by
  go_enter Tryz.func47, Tryz.ntmps47
  go_wp2
  go_ret
  exact ⟨rfl, rfl⟩
set_option maxRecDepth 100000 in
theorem rrdy_any {tb pb : Nat} {S : TS} {M : PM} {G : Heaplet} {w : World} (h : RSt E tb pb S M G w) :
    Calls Tryz.prog 47 #[.pointer (some ⟨tb, 0, none⟩)] w (Qt (.int .i64 (rdyT S M)) w) := by
  obtain ⟨H, hp⟩ := h.plate
  have HDN : Hid (∀ k, Calls Tryz.prog 33 #[.pointer (some ⟨pb, 0, none⟩)] (w.drewN k) (fun e w' => e = .returned (.bool M.down) ∧ w' = w.drewN k)) := Lib.hid (fun k => (rp_down (hp.1.below (below_drewN w k))).mono (fun e w' ⟨h1, h2⟩ => ⟨h1, h2.symm⟩))
  have HLF : Hid (∀ k, Calls Tryz.prog 34 #[.pointer (some ⟨pb, 0, none⟩)] (w.drewN k) (fun e w' => e = .returned (.int .i64 M.life) ∧ w' = w.drewN k)) := Lib.hid (fun k => (rp_life (hp.1.below (below_drewN w k))).mono (fun e w' ⟨h1, h2⟩ => ⟨h1, h2.symm⟩))
  obtain ⟨pv, a, cap, rfl, c0, c1, c2, c3, c4, c5, _⟩ := h.cells
  unfold Qt
  obtain ⟨rv, hrv⟩ : ∃ rv, rdyT S M = rv := ⟨_, rfl⟩
  rw [hrv]
  have HRV := Lib.hid hrv
  clear h hp hrv
  obtain ⟨frm, twins, pages, life, dead⟩ := S
  obtain ⟨cnt, secs, queue, down, acts, armed, mlife⟩ := M
  simp only at *
  go_enter Tryz.func47, Tryz.ntmps47
  go_upto_region 3 with (fail)
  cases dead with
  | true =>
    go_quiet (first | (go_at_call 33; exact Calls.quiet_of_same (HDN.out _)) | (trace_state; fail))
    go_wp2_with fail
    go_ret
    exact ⟨by rw [← HRV.out]; simp [rdyT], _, rfl⟩
  | false =>
    cases down with
    | true =>
      go_quiet (first | (go_at_call 33; exact Calls.quiet_of_same (HDN.out _)))
      go_wp2_with fail
      go_ret
      exact ⟨by rw [← HRV.out]; simp [rdyT], _, rfl⟩
    | false =>
      have hd : (mlife != life) = decide (mlife ≠ life) := by by_cases h : mlife = life <;> simp [h]
      by_cases hl : mlife = life
      · subst hl
        go_quiet (first | (go_at_call 33; exact Calls.quiet_of_same (HDN.out _)) | (go_at_call 34; exact Calls.quiet_of_same (HLF.out _)))
        go_wp2_with fail
        go_ret
        exact ⟨by rw [← HRV.out]; simp [rdyT], _, rfl⟩
      · have h2 : (mlife == life) = false := by rw [beq_eq_false_iff_ne]; exact hl
        have h3 : (mlife != life) = true := by rw [bne, h2]; rfl
        go_quiet (first | (go_at_call 33; exact Calls.quiet_of_same (HDN.out _)) | (go_at_call 34; exact Calls.quiet_of_same (HLF.out _)))
        go_wp2_with fail
        go_ret
        exact ⟨by rw [← HRV.out]; simp [rdyT, hl], _, rfl⟩
def RTRet (E : Heaplet) (q : Pg) (c : Int) (tb pb : Nat) (S : TS) (M : PM) (G : Heaplet) (e : Ending) (w' : World) : Prop := ∃ sv Z, e = .returned (.tuple #[pgV q.lsn sv, .int .i64 c]) ∧ RSt E tb pb S M G w' ∧ Sat w' Z ∧ SlAt Z sv q.slots ∧ ∀ W, Sat W Z → RSt E tb pb S M G W
theorem rread_results (tm : Array Value) (W9 : World) (g : Nat) (n c : Int) (sv : Value) (h1 : (tm[4]?).getD undef = .pointer (some ⟨g, 0, none⟩)) (h2 : (tm[5]?).getD undef = .int .i64 c) (r0 : W9.cell? ⟨g, 0, none⟩ = some (kI n)) (r1 : W9.cell? ⟨g, 1, none⟩ = some sv) :
    (results Tryz.f24 tm).run Tryz.prog W9 = .ok (.tuple #[pgV n sv, .int .i64 c]) W9 := by
  simp [results, Tryz.results24, go_sem, h1, h2, r0, r1]
set_option maxRecDepth 100000 in
theorem rtread_any {tb pb : Nat} {S : TS} {M : PM} {G : Heaplet} {w : World} (h : RSt E tb pb S M G w) (n : Int) (hl : S.pages.length ≤ 100000) :
    Calls Tryz.prog 24 #[.pointer (some ⟨tb, 0, none⟩), .int .i64 n] w (RTRet E (readT S M n).1 (readT S M n).2 tb pb S M G) := by
  obtain ⟨Z, a, cap, hz, hmk, hcl, hrw⟩ := h.view
  have h1 := hz.new (.cells #[kI 0, .slice none 0 0] 48)
  have HRD := Lib.hid (rrdy_any (hmk _ [.blk w.heap.size (.cells #[kI 0, .slice none 0 0] 48)] h1))
  have HS1 := Lib.hid h1
  have HMK := Lib.hid hmk
  have HCL := Lib.hid hcl
  have HRW := Lib.hid hrw
  have hli : (S.pages.length : Int) ≤ 100000 := by omega
  obtain ⟨rd, hrd⟩ : ∃ rd, rdyT S M = rd := ⟨_, rfl⟩
  rw [hrd] at HRD
  obtain ⟨rp, hrp⟩ : ∃ rp, readT S M n = rp := ⟨_, rfl⟩
  rw [hrp]
  have HRP : Hid ((if rd ≠ 0 then (emptyP, rd) else match (if n < 0 then none else S.pages[n.toNat]?) with
    | some p => (p, 0)
    | none => (emptyP, 1)) = rp) := Lib.hid (by rw [← hrp, ← hrd]; rfl)
  clear h hz h1 hmk hcl hrw hl hrd hrp
  obtain ⟨pb4, hpb⟩ : ∃ pb4, w.heap.size = pb4 := ⟨_, rfl⟩
  rw [hpb] at HS1
  go_enter Tryz.func24, Tryz.ntmps24
  go_upto_if 10 with (go_at_call 47; refine (HRD.out).mono ?_; rintro e w2 ⟨rfl, nd, hw2⟩; have HS2 := Lib.hid (HS1.out.grown (Grown.drewN _ nd)); rw [← hw2] at HS2; clear hw2)
  by_cases hz : rd = 0
  · subst hz
    by_cases hn : n < 0
    · obtain rfl : rp = (emptyP, 1) := by rw [← HRP.out, if_neg (by simp), if_pos hn]
      clear HRD HRP
      obtain ⟨c0, c1, ff⟩ := two_at HS2.out
      have h9 := two_set HS2.out (kI 0) (.slice none 0 0)
      have R9 := Lib.hid (two_at h9)
      have FIN := Lib.hid h9.tail
      clear h9 HS2 HS1
      go_wp2_with fail
      exact bodyPost_ret (v := .tuple #[pgV 0 (.slice none 0 0), .int .i64 1]) (rread_results _ _ pb4 0 1 _ rfl rfl R9.out.1 R9.out.2.1) rfl ⟨.slice none 0 0, Z, rfl, HMK.out _ [] FIN.out, FIN.out, SlAt.nil _ _ _, fun W hW => HMK.out W [] hW⟩
    · obtain ⟨k, rfl⟩ : ∃ k : Nat, n = (k : Int) := ⟨n.toNat, by omega⟩
      have k0 : (0 : Int) ≤ (k : Int) := by omega
      have k9 : ((k : Int) < 0) = False := eq_false (by omega)
      by_cases hk : k < S.pages.length
      · have k1 : (k : Int) < (S.pages.length : Int) := by omega
        obtain ⟨p, hp⟩ : ∃ p, S.pages[k]? = some p := ⟨_, List.getElem?_eq_getElem hk⟩
        obtain rfl : rp = (p, 0) := by rw [← HRP.out, if_neg (by simp), if_neg hn, Int.toNat_natCast, hp]
        obtain ⟨g, sa, sc, rfl, hsl, hu⟩ := HRW.out k p hp
        obtain ⟨u0, u1⟩ := hu w2 HS2.out.tail
        obtain ⟨_, _, _, t3, _, _⟩ := HCL.out w2 HS2.out.tail
        obtain ⟨c0, c1, ff⟩ := two_at HS2.out
        have h9 := two_set HS2.out (kI p.lsn) (.slice sa p.slots.length sc)
        have R9 := Lib.hid (two_at h9)
        have FIN := Lib.hid h9.tail
        have HSL := Lib.hid hsl
        clear HRD HRP HRW hsl hu hp hk hn h9
        go_wp2_with fail
        exact bodyPost_ret (v := .tuple #[pgV p.lsn (.slice sa p.slots.length sc), .int .i64 0]) (rread_results _ _ pb4 p.lsn 0 _ rfl rfl R9.out.1 R9.out.2.1) rfl ⟨_, Z, rfl, HMK.out _ [] FIN.out, FIN.out, HSL.out, fun W hW => HMK.out W [] hW⟩
      · have k1 : ((k : Int) < (S.pages.length : Int)) = False := eq_false (by omega)
        have k2 : (S.pages.length : Int) ≤ (k : Int) := by omega
        have k3 : (S.pages.length ≤ k) = True := eq_true (by omega)
        obtain rfl : rp = (emptyP, 1) := by rw [← HRP.out, if_neg (by simp), if_neg hn, Int.toNat_natCast, List.getElem?_eq_none (by omega)]
        obtain ⟨_, _, _, t3, _, _⟩ := HCL.out w2 HS2.out.tail
        clear HRD HRP
        obtain ⟨c0, c1, ff⟩ := two_at HS2.out
        have h9 := two_set HS2.out (kI 0) (.slice none 0 0)
        have R9 := Lib.hid (two_at h9)
        have FIN := Lib.hid h9.tail
        clear h9 HS2 HS1
        go_wp2_with fail
        exact bodyPost_ret (v := .tuple #[pgV 0 (.slice none 0 0), .int .i64 1]) (rread_results _ _ pb4 0 1 _ rfl rfl R9.out.1 R9.out.2.1) rfl ⟨.slice none 0 0, Z, rfl, HMK.out _ [] FIN.out, FIN.out, SlAt.nil _ _ _, fun W hW => HMK.out W [] hW⟩
  · have hb : (rd == 0) = false := by rw [beq_eq_false_iff_ne]; exact hz
    have hb2 : (rd != 0) = true := by rw [bne, hb]; rfl
    obtain rfl : rp = (emptyP, rd) := by rw [← HRP.out, if_pos hz]
    clear HRD HRP
    obtain ⟨c0, c1, ff⟩ := two_at HS2.out
    have h9 := two_set HS2.out (kI 0) (.slice none 0 0)
    have R9 := Lib.hid (two_at h9)
    have FIN := Lib.hid h9.tail
    clear h9 HS2 HS1
    go_wp2_with fail
    exact bodyPost_ret (v := .tuple #[pgV 0 (.slice none 0 0), .int .i64 rd]) (rread_results _ _ pb4 0 rd _ rfl rfl R9.out.1 R9.out.2.1) rfl ⟨.slice none 0 0, Z, rfl, HMK.out _ [] FIN.out, FIN.out, SlAt.nil _ _ _, fun W hW => HMK.out W [] hW⟩

theorem rdone_any {tb pb : Nat} {S : TS} {M : PM} {G : Heaplet} {w : World} (h : RSt E tb pb S M G w) (c : Int) :
    Calls Tryz.prog 49 #[.pointer (some ⟨tb, 0, none⟩), .int .i64 c] w (Ret (.int .i64 c) (RSt E tb pb (if c = 0 then S else S.die true) M G)) := by
  obtain ⟨pv, a, cap, rfl, c0, c1, c2, c3, c4, c5, u⟩ := h.cells
  by_cases hc : c = 0
  · subst hc
    rw [if_pos rfl]
    have H := Lib.hid h
    clear h c0 c1 c2 c3 c4 c5 u
    go_enter Tryz.func49, Tryz.ntmps49
    go_wp2_with fail
    go_ret
    exact ⟨rfl, H.out⟩
  · rw [if_neg hc]
    have H := Lib.hid (h.setDead true)
    have u5 := u 5
    have hb : (c == 0) = false := by rw [beq_eq_false_iff_ne]; exact hc
    clear h c0 c1 c2 c3 c4 u hc
    go_enter Tryz.func49, Tryz.ntmps49
    go_wp2_with fail
    go_ret
    exact ⟨rfl, H.out⟩
end Go.Proofs.YtgocmnejlbfplaaGreatDoor
namespace Go.Proofs.YtgocmnejlbfplaaGreatDoor
open Go Go.MapKept Go.RowKit Go.Proofs

attribute [local go_sem] Oper.semAt_some
variable {E : Heaplet}

/-- The image, whether there is one. -/
def RCpRet (E : Heaplet) (b : Option Pg) (tb pb : Nat) (S : TS) (M : PM) (G : Heaplet) (e : Ending) (w' : World) : Prop := ∃ sv h, e = .returned (.tuple #[pgV (bestP b).lsn sv, .bool b.isSome]) ∧ RSt E tb pb S M (h ++ G) w' ∧ SlAt h sv (bestP b).slots
theorem rcopy_results (tm : Array Value) (W9 : World) (g : Nat) (n : Int) (c : Bool) (sv : Value) (h1 : (tm[4]?).getD undef = .pointer (some ⟨g, 0, none⟩)) (h2 : (tm[5]?).getD undef = .bool c) (r0 : W9.cell? ⟨g, 0, none⟩ = some (kI n)) (r1 : W9.cell? ⟨g, 1, none⟩ = some sv) :
    (results Tryz.f37 tm).run Tryz.prog W9 = .ok (.tuple #[pgV n sv, .bool c]) W9 := by
  simp [results, Tryz.results37, go_sem, h1, h2, r0, r1]
set_option maxRecDepth 100000 in
set_option maxHeartbeats 4000000 in
theorem rcopy_any {tb pb : Nat} {S : TS} {M : PM} {G : Heaplet} {w : World} (h : RSt E tb pb S M G w) {bd : Nat} (hk : PlOk bd M) (n : Nat) (hn : n < 1000000) (hf : 0 ≤ S.frm ∧ S.frm ≤ 1000000) (ht : 0 ≤ S.twins ∧ S.twins ≤ 64) :
    Calls Tryz.prog 37 #[.pointer (some ⟨tb, 0, none⟩), .int .i64 (n : Int)] w (RCpRet E (copiedN M S.frm n S.twins.toNat) tb pb S M G) := by
  obtain ⟨tw, htw⟩ : ∃ tw : Nat, S.twins = (tw : Int) := ⟨S.twins.toNat, by omega⟩
  obtain ⟨Z, a, cap, hz, hmk, hcl, hrw⟩ := h.view
  obtain ⟨bb, hbb⟩ : ∃ bb, w.heap.size = bb := ⟨_, rfl⟩
  have h1 := (hz.new (.cells #[kI 0, .slice none 0 0] 48)).new (.cells #[kI 0, .slice none 0 0] 48)
  rw [World.size_alloc, hbb] at h1
  have HS1 : Hid (RSt E tb pb S M (.blk (bb + 1) (.cells #[kI 0, .slice none 0 0] 48) :: (.blk bb (.cells #[kI 0, .slice none 0 0] 48) :: ([] ++ G))) ((w.alloc (.cells #[kI 0, .slice none 0 0] 48)).alloc (.cells #[kI 0, .slice none 0 0] 48))) := Lib.hid (hmk _ [.blk (bb + 1) (.cells #[kI 0, .slice none 0 0] 48), .blk bb (.cells #[kI 0, .slice none 0 0] 48)] h1)
  rw [htw, Int.toNat_natCast]
  have tw64 : (tw : Int) ≤ 64 := by omega
  have tw0 : (0 : Int) ≤ (tw : Int) := by omega
  have HFR : Hid (∀ W Q, RSt E tb pb S M Q W → W.cell? ⟨tb, 2, none⟩ = some (kI (tw : Int))) := Lib.hid (fun W Q hW => by
    obtain ⟨_, _, _, _, _, _, e2, _⟩ := hW.cells
    rw [e2, htw])
  have HK := Lib.hid hk
  obtain ⟨f0, f1⟩ := hf
  clear h hz hmk hcl hrw h1 hk ht
  go_enter Tryz.func37, Tryz.ntmps37
  go_upto_block 0 with (fail)
  generalize (w.alloc (.cells #[kI 0, .slice none 0 0] 48)).alloc (.cells #[kI 0, .slice none 0 0] 48) = W1 at *
  generalize bb + 1 = bc at *
  go_wp2_with fail
  go_loopw [7, 8] (fun v5 v15 wr => ∃ (k : Nat) (sv : Value) (hb : Heaplet), k ≤ tw ∧ v15 = .int .i64 k ∧ v5 = .bool (copiedN M S.frm n k).isSome ∧ SlAt hb sv (bestP (copiedN M S.frm n k)).slots ∧ RSt E tb pb S M (.blk bc (.cells #[kI (bestP (copiedN M S.frm n k)).lsn, sv] 48) :: (.blk bb (.cells #[kI 0, .slice none 0 0] 48) :: (hb ++ G))) wr) (fun _ v15 _ => 1000 - (intOf v15).toNat)
  case atStart => exact ⟨0, .slice none 0 0, [], by omega, rfl, rfl, SlAt.nil _ _ _, HS1.out⟩
  case round =>
    clear HS1
    obtain ⟨k, sv, hb, hkt, rfl, rfl, hsl, hs⟩ := hrel
    have c2 := HFR.out _ _ hs
    have k0 : (0 : Int) ≤ (k : Int) := by omega
    obtain ⟨bs, hbs⟩ : ∃ bs, copiedN M S.frm n k = bs := ⟨_, rfl⟩
    rw [hbs] at hsl hs ⊢
    by_cases hlt : k < tw
    · have k1 : (k : Int) < (tw : Int) := by omega
      have hsum : IntKind.i64.wrap (S.frm + (k : Int)) = S.frm + (k : Int) := IntWalk.i64_in _ (by omega)
      have HST := Lib.hid (copiedN_succ M S.frm n k)
      rw [hbs] at HST
      obtain ⟨rd, hrd⟩ : ∃ rd, readM M (S.frm + (k : Int)) = rd := ⟨_, rfl⟩
      have hcell : ∀ W, RSt E tb pb S M (.blk bc (.cells #[kI (bestP bs).lsn, sv] 48) :: (.blk bb (.cells #[kI 0, .slice none 0 0] 48) :: (hb ++ G))) W → W.cell? ⟨tb, 0, none⟩ = some (.pointer (some ⟨pb, 0, none⟩)) ∧ W.cell? ⟨tb, 1, none⟩ = some (kI S.frm) := fun W hW => by
        obtain ⟨_, _, _, _, e0, e1, _⟩ := hW.cells
        exact ⟨e0, e1⟩
      have HC := Lib.hid hcell
      have hs' : RSt E tb pb S M (.blk bc (.cells #[kI (bestP bs).lsn, sv] 48) :: (.blk bb (.cells #[kI 0, .slice none 0 0] 48) :: (hb ++ G))) wr.drew := hs.below (Grown.drewN wr 1).below
      have K1 := Lib.hid (hcell _ hs)
      have K2 : Hid (wr.drew.cell? ⟨tb, 0, none⟩ = some (.pointer (some ⟨pb, 0, none⟩)) ∧ wr.drew.cell? ⟨tb, 1, none⟩ = some (kI S.frm)) := Lib.hid (hcell _ hs')
      have HRD := Lib.hid (RSt.read hs' HK.out (S.frm + (k : Int)))
      rw [hrd] at HRD
      have HR2 := Lib.hid hrd
      have HSL := Lib.hid hsl
      clear hcell hs hs' hrd hsl
      go_upto_region 6 with (fail)
      obtain ⟨rs, re⟩ := rd
      go_cut [9, 10] (fun v7 v8 wx => v7 = .string rs ∧ v8 = .int .i64 re ∧ RSt E tb pb S M (.blk bc (.cells #[kI (bestP bs).lsn, sv] 48) :: (.blk bb (.cells #[kI 0, .slice none 0 0] 48) :: (hb ++ G))) wx)
      case first =>
        go_region_held3 (fun w' => w'.cell? ⟨tb, 0, none⟩ = some (.pointer (some ⟨pb, 0, none⟩)) ∧ w'.cell? ⟨tb, 1, none⟩ = some (kI S.frm))
          (with_reducible first | exact K1.out | exact K2.out | exact K3.out)
          (first
            | (go_at_call 35
               with_reducible refine (HRD.out).mono ?_
               rintro e w3 ⟨rfl, hs3⟩
               have HS3 := Lib.hid hs3
               have K3 := Lib.hid (HC.out _ hs3)))
        all_goals
          clear K1 K2 K3 HC HRD hsum hs3
          go_wp2_with fail
          go_meet
          exact ⟨rfl, rfl, HS3.out⟩
      case rest =>
        obtain ⟨rfl, rfl, hs⟩ := hcut
        clear K1 K2 HC HRD hsum
        by_cases hre : re = 0
        · subst hre
          have hsz : rs.size = 256 := by
            have := HK.out.read (n := S.frm + (k : Int)) (by rw [HR2.out])
            rw [HR2.out] at this
            exact this
          obtain ⟨Z, _, _, hz, hmk, _⟩ := hs.view
          have HPG := Lib.hid (rpage_any n (by omega) rs hsz Z wc hz)
          have HMK := Lib.hid hmk
          have hst : copiedN M S.frm n (k + 1) = took bs (pageM n rs) := by rw [HST.out, HR2.out]; unfold copyStep; rw [if_neg (by simp)]
          have HS0 := Lib.hid hs
          clear hz hmk hs hsz HST HR2
          cases hpm : pageM n rs with
          | none =>
            rw [hpm] at HPG hst
            have HNX : Hid (copiedN M S.frm n (k + 1) = bs) := Lib.hid hst
            clear hst hpm
            go_upto_region 9 with (go_at_call 36; refine (HPG.out).mono ?_; rintro e w3 ⟨sv3, h3, hs3, rfl⟩; have HS3 := Lib.hid ((HMK.out w3 [] hs3.right).new (.cells #[kI 0, .slice none 0 0] 48)); clear hs3)
            have FIN := Lib.hid (HS3.out.part (G' := .blk bc (.cells #[kI (bestP bs).lsn, sv] 48) :: (.blk bb (.cells #[kI 0, .slice none 0 0] 48) :: (hb ++ G))) (fun a => by simp only [cnt_cons, cnt_append, List.nil_append]; omega))
            clear HS3 HS0
            go_wp2_with fail
            exact ⟨⟨k + 1, sv, hb, by omega, by simp, by rw [HNX.out], by rw [HNX.out]; exact HSL.out, by rw [HNX.out]; exact FIN.out⟩, by simp only [intOf]; omega⟩
          | some p =>
            rw [hpm] at HPG hst
            have HNX : Hid (copiedN M S.frm n (k + 1) = better bs p) := Lib.hid hst
            clear hst hpm
            go_upto_region 9 with (go_at_call 36; refine (HPG.out).mono ?_; rintro e w3 ⟨sv3, h3, hs3, rfl, hsl3⟩; obtain ⟨sa3, sc3, rfl, _⟩ := id hsl3; have HSL3 := Lib.hid hsl3; have HS3 := Lib.hid ((HMK.out w3 h3 hs3).new (.cells #[kI p.lsn, .slice sa3 p.slots.length sc3] 48)); clear hs3 hsl3)
            have HS4 := Lib.hid (HS3.out.part (G' := .blk bc (.cells #[kI (bestP bs).lsn, sv] 48) :: .blk w3.heap.size (.cells #[kI p.lsn, .slice sa3 p.slots.length sc3] 48) :: (h3 ++ (.blk bb (.cells #[kI 0, .slice none 0 0] 48) :: (hb ++ G)))) (fun a => by simp only [cnt_cons, cnt_append]; omega))
            have g0 := (two_at HS3.out.frame).1
            have g1 := (two_at HS3.out.frame).2.1
            obtain ⟨e0, e1, ef⟩ := two_at HS4.out.frame
            generalize w3.alloc (.cells #[kI p.lsn, .slice sa3 p.slots.length sc3] 48) = W5 at *
            generalize w3.heap.size = gb at *
            have h9 := (HS4.out.setF (i := 0) (kI p.lsn)).setF (i := 1) (.slice sa3 p.slots.length sc3)
            have HSET : Hid (RSt E tb pb S M (.blk bc (.cells #[kI p.lsn, .slice sa3 p.slots.length sc3] 48) :: (.blk bb (.cells #[kI 0, .slice none 0 0] 48) :: (h3 ++ G))) ((W5.setCell ⟨bc, 0, none⟩ (kI p.lsn)).setCell ⟨bc, 1, none⟩ (.slice sa3 p.slots.length sc3))) := Lib.hid (RSt.part (show RSt E tb pb S M (.blk bc (.cells #[kI p.lsn, .slice sa3 p.slots.length sc3] 48) :: .blk gb (.cells #[kI p.lsn, .slice sa3 p.slots.length sc3] 48) :: (h3 ++ (.blk bb (.cells #[kI 0, .slice none 0 0] 48) :: (hb ++ G)))) _ from h9) (fun a => by simp only [cnt_cons, cnt_append]; omega))
            have HKEEP := Lib.hid (HS4.out.part (G' := .blk bc (.cells #[kI (bestP bs).lsn, sv] 48) :: (.blk bb (.cells #[kI 0, .slice none 0 0] 48) :: (hb ++ G))) (fun a => by simp only [cnt_cons, cnt_append]; omega))
            clear HS3 HS4 HS0 h9 HPG HMK
            cases bs with
            | none =>
              go_wp2_with fail
              exact ⟨⟨k + 1, .slice sa3 p.slots.length sc3, h3, by omega, by simp, by rw [HNX.out]; rfl, by rw [HNX.out]; exact HSL3.out, by rw [HNX.out]; exact HSET.out⟩, by simp only [intOf]; omega⟩
            | some q =>
              have eq1 : (bestP (some q)) = q := rfl
              rw [eq1] at e0 HKEEP HSL
              by_cases hq : q.lsn < p.lsn
              · have hbt : better (some q) p = some p := by show (if q.lsn < p.lsn then some p else some q) = _; rw [if_pos hq]
                go_wp2_with fail
                exact ⟨⟨k + 1, .slice sa3 p.slots.length sc3, h3, by omega, by simp, by rw [HNX.out, hbt]; rfl, by rw [HNX.out, hbt]; exact HSL3.out, by rw [HNX.out, hbt]; exact HSET.out⟩, by simp only [intOf]; omega⟩
              · have hbt : better (some q) p = some q := by show (if q.lsn < p.lsn then some p else some q) = _; rw [if_neg hq]
                have hq2 : (q.lsn < p.lsn) = False := eq_false hq
                clear hq
                go_wp2_with fail
                exact ⟨⟨k + 1, sv, hb, by omega, by simp, by rw [HNX.out, hbt], by rw [HNX.out, hbt]; exact HSL.out, by rw [HNX.out, hbt]; exact HKEEP.out⟩, by simp only [intOf]; omega⟩
        · have hr1 : (re == 0) = false := by rw [beq_eq_false_iff_ne]; exact hre
          have hr2 : (re != 0) = true := by rw [bne, hr1]; rfl
          have HNX : Hid (copiedN M S.frm n (k + 1) = bs) := Lib.hid (by rw [HST.out, HR2.out]; unfold copyStep; rw [if_pos hre])
          have FIN := Lib.hid hs
          clear hs HST
          go_wp2_with fail
          exact ⟨⟨k + 1, sv, hb, by omega, by simp, by rw [HNX.out], by rw [HNX.out]; exact HSL.out, by rw [HNX.out]; exact FIN.out⟩, by simp only [intOf]; omega⟩
    · obtain rfl : k = tw := by omega
      have k1 : ((k : Int) < (k : Int)) = False := eq_false (by omega)
      rw [hbs]
      obtain ⟨sa, sc, rfl, _⟩ := id hsl
      obtain ⟨c0, c1, ff⟩ := two_at hs.frame
      obtain ⟨d0, d1, df⟩ := two_at hs.frame.tail
      have hs' : RSt E tb pb S M (.blk bb (.cells #[kI 0, .slice none 0 0] 48) :: (.blk bc (.cells #[kI (bestP bs).lsn, .slice sa (bestP bs).slots.length sc] 48) :: (hb ++ G))) wr := hs.part (fun a => by simp only [cnt_cons, cnt_append]; omega)
      have h9 := (hs'.setF (i := 0) (kI (bestP bs).lsn)).setF (i := 1) (.slice sa (bestP bs).slots.length sc)
      have h10 : RSt E tb pb S M (.blk bb (.cells #[kI (bestP bs).lsn, .slice sa (bestP bs).slots.length sc] 48) :: (.blk bc (.cells #[kI (bestP bs).lsn, .slice sa (bestP bs).slots.length sc] 48) :: (hb ++ G))) ((wr.setCell ⟨bb, 0, none⟩ (kI (bestP bs).lsn)).setCell ⟨bb, 1, none⟩ (.slice sa (bestP bs).slots.length sc)) := h9
      have R9 := Lib.hid (two_at h10.frame)
      have FIN := Lib.hid (h10.part (G' := hb ++ G) (fun a => by simp only [cnt_cons, cnt_append]; omega))
      have HSL := Lib.hid hsl
      obtain ⟨bi, hbi⟩ : ∃ bi, bs.isSome = bi := ⟨_, rfl⟩
      have HBI := Lib.hid hbi
      rw [hbi]
      have HBS := Lib.hid hbs
      clear h9 h10 hs hs' hsl hbi hkt hlt hbs
      go_wp2_with fail
      exact bodyPost_ret (v := .tuple #[pgV (bestP bs).lsn (.slice sa (bestP bs).slots.length sc), .bool bi]) (rcopy_results _ _ bb (bestP bs).lsn bi _ rfl rfl R9.out.1 R9.out.2.1) rfl ⟨.slice sa (bestP bs).slots.length sc, hb, by rw [HBS.out, HBI.out], FIN.out, by rw [HBS.out]; exact HSL.out⟩
end Go.Proofs.YtgocmnejlbfplaaGreatDoor
