/- A call's words are written: tome.wordOf, tome.called walked. Conditions: none. -/
import Derived.Test.YtieaamlpadlfeaaGreatDoorTb9
namespace Go.Proofs.YtieaamlpadlfeaaGreatDoor
open Go Go.MapKept Go.RowKit Go.Proofs

attribute [local go_sem] Oper.semAt_some

set_option maxRecDepth 100000 in
theorem wordOf_any {F : Heaplet} {w : World} (hL : LibF F) (s : Sat w F) (d : ByteArray) (names : List Bs) (hd : Lib.fields d.data.toList = names) (hsz : d.size ≤ 1000) (hn : names.length ≤ 100) (hascii : ∀ (j : Nat) b, d.data.toList[j]? = some b → b.toNat < 128) (k : Int) (hk : I64 k) :
    Calls Tryz.prog 31 #[.string d, .int .i64 k] w (Ret (kL (wordOf names k)) (fun W => Sat W F)) := by
  have hF := Any.strings_Fields_laid Tryz.laysFields d w (by omega) hascii (hL w s).spc
  rw [hd] at hF
  have s1 := s.new (.cells (names.map fun l => Value.string ⟨l.toArray⟩).toArray 9)
  have HF : Hid (Calls Tryz.prog 45 #[.string d] w _) := Lib.hid hF
  have HS := Lib.hid s1.tail
  have hn9 : (names.length : Int) ≤ 100 := by omega
  by_cases h1 : k < 1
  · have e : wordOf names k = [] := by unfold wordOf; rw [if_pos (.inl h1)]
    rw [e]
    clear hF s1 hd hascii hsz hk e
    go_enter Tryz.func31, Tryz.ntmps31
    go_wp2_with (go_at_call 45; refine (HF.out).mono ?_; rintro e w1 ⟨rfl, rfl⟩)
    go_ret
    exact ⟨rfl, HS.out⟩
  · by_cases h2 : (names.length : Int) < k
    · have e : wordOf names k = [] := by unfold wordOf; rw [if_pos (.inr h2)]
      rw [e]
      have k1 : (k < 1) = False := eq_false h1
      clear hF s1 hd hascii hsz hk e h1
      go_enter Tryz.func31, Tryz.ntmps31
      go_wp2_with (go_at_call 45; refine (HF.out).mono ?_; rintro e w1 ⟨rfl, rfl⟩)
      go_ret
      exact ⟨rfl, HS.out⟩
    · obtain ⟨j, hj⟩ : ∃ j : Nat, k = (j : Int) + 1 := ⟨(k - 1).toNat, by omega⟩
      have hjl : j < names.length := by omega
      have e : wordOf names k = names[j] := by
        unfold wordOf
        rw [if_neg (by omega), show k.toNat - 1 = j by omega, List.getD_eq_getElem?_getD, List.getElem?_eq_getElem hjl]
        rfl
      rw [e]
      have c0 : (w.alloc (.cells (names.map fun l => Value.string ⟨l.toArray⟩).toArray 9)).cell? ⟨w.heap.size, j, none⟩ = some (kL names[j]) := by
        rw [cell_of s1.h0]
        simp [hjl]
      have k1 : (k < 1) = False := eq_false h1
      have k2 : ((names.length : Int) < k) = False := eq_false h2
      have k3 : k - 1 = (j : Int) := by omega
      have j0 : (0 : Int) ≤ (j : Int) := by omega
      have j1 : (j : Int) < (names.length : Int) := by omega
      have hk1 : -9223372036854775808 ≤ k := hk.1
      have hk2 : k ≤ 9223372036854775807 := hk.2
      clear hF s1 hd hascii hsz hk e h1 h2 hj
      go_enter Tryz.func31, Tryz.ntmps31
      go_wp2_with (go_at_call 45; refine (HF.out).mono ?_; rintro e w1 ⟨rfl, rfl⟩)
      go_ret
      exact ⟨rfl, HS.out⟩
abbrev fS (x : Bs) : List Value := [kL x]
theorem infoS : (Tryz.prog.info? 9).map (fun i => (i.zero, i.size, i.bytes)) = some (some (.string ByteArray.empty), 1, 16) := by kernel_rfl
/-- A row of strings of the call's own. -/
def WOwn (v : Value) (ws : List Bs) (h : Heaplet) : Prop := SliceIs 9 1 v ws.length (ws.flatMap fS) h
theorem WOwn.one (g : Nat) (x : Bs) : WOwn (.slice (some ⟨g, 0, none⟩) 1 1) [x] [.blk g (.cells #[kL x] 9)] :=
  ⟨rfl, .inr ⟨g, 1, #[kL x], rfl, Nat.le_refl _, by simp [maxLen], rfl, rfl, rfl⟩⟩
theorem WOwn.push {v : Value} {ws : List Bs} {h G : Heaplet} {w : World} (x : Bs) (hv : WOwn v ws h) (s : Sat w (h ++ G)) (hl : ws.length ≤ 1000000) :
    ∃ a' cap' w' h', (∀ ty, (Builtin.append_ #[40, 40] ty #[v, .slice (some ⟨w.heap.size, 0, none⟩) 1 1]).run Tryz.prog (w.alloc (.cells #[kL x] 9)) = .ok (.slice a' (ws.length + 1) cap') w') ∧ WOwn (.slice a' (ws.length + 1) cap') (ws ++ [x]) h' ∧ Sat w' (h' ++ G) := by
  obtain ⟨i, hi, hz, hsize, hby⟩ := info_parts infoS
  obtain ⟨v', w', k', hap, hv', s'⟩ := sl_push (P := Tryz.prog) (fl := fS) (fun _ => rfl) Tryz.underlying40 hi hz hsize hby rfl (by decide) hv (A := []) (B := G) x (s.new (.cells #[kL x] 9)) (fun u hu => by rw [List.mem_singleton.1 hu]; rfl) (by unfold maxLen; omega) (by omega)
  obtain ⟨a', cap', e⟩ := sl_form hv'
  rw [show (ws ++ [x]).length = ws.length + 1 by simp] at e
  subst e
  exact ⟨a', cap', w', k', hap, hv', s'⟩
theorem callsW_of (k : Int) (hk : I64 k) {F : Heaplet} {w : World} (hL : LibF F) (s : Sat w F) : Calls Tryz.prog 31 #[.string ⟨#[98, 101, 103, 105, 110, 32, 114, 101, 97, 100, 32, 105, 110, 115, 101, 114, 116, 32, 117, 112, 100, 97, 116, 101, 32, 100, 101, 108, 101, 116, 101, 32, 115, 97, 118, 101, 32, 98, 97, 99, 107, 32, 99, 111, 109, 109, 105, 116, 32, 114, 111, 108, 108, 98, 97, 99, 107]⟩, .int .i64 k] w (Ret (kL (wordOf callNames k)) (fun W => Sat W F)) :=
  wordOf_any hL s _ callNames calls_fields (by decide) (by decide) calls_ascii k hk
set_option maxRecDepth 100000 in
set_option maxHeartbeats 4000000 in
theorem called_any {F : Heaplet} {w : World} (hL : LibF F) (s : Sat w F) (x : CallM) (hk : I64 x.kind) (hp : I64 x.page) (hs : I64 x.slot) (hd : x.data.length ≤ 1000000) :
    Calls Tryz.prog 33 #[callV x] w (fun e w' => ∃ v h, e = .returned v ∧ WOwn v (calledP x) h ∧ Sat w' (h ++ F)) := by
  obtain ⟨k, p, sl, d⟩ := x
  simp only at hk hp hs hd
  have s1 := s.new (callO k p sl d)
  obtain ⟨A, hA⟩ : ∃ A, w.heap.size = A := ⟨_, rfl⟩
  rw [hA] at s1
  obtain ⟨G, hG⟩ : ∃ G, HItem.blk A (callO k p sl d) :: F = G := ⟨_, rfl⟩
  rw [hG] at s1
  have HGF : Hid (∀ h W, Sat W (h ++ G) → Sat W (h ++ F)) := Lib.hid (fun h W hW => by
    rw [← hG] at hW
    exact (hW.perm List.perm_middle).tail)
  have HLG : Hid (LibF G) := Lib.hid (hL.mono (fun W hW => by rw [← hG] at hW; exact hW.tail))
  have HX : Hid (∀ W, Sat W G → W.cell? ⟨A, 0, none⟩ = some (kI k) ∧ W.cell? ⟨A, 1, none⟩ = some (kI p) ∧ W.cell? ⟨A, 2, none⟩ = some (kI sl) ∧ W.cell? ⟨A, 3, none⟩ = some (kL d)) := Lib.hid (fun W hW => by
    rw [← hG] at hW
    obtain ⟨h0, h1, h2, h3, _⟩ := four_at hW
    exact ⟨h0, h1, h2, h3⟩)
  have HWO := Lib.hid (callsW_of k hk HLG.out s1)
  have HIT : Hid (∀ n (h : Heaplet) W, I64 n → Sat W (h ++ G) → Calls Tryz.prog 32 #[.int .i64 n] W (Ret (kL (Lib.itoa n)) (fun W => Sat W (h ++ G)))) := Lib.hid (fun n h W hn hW => itoa_at (HLG.out.mono (fun W hW => hW.right)) hW n hn)
  have HWD : Hid (∀ (h : Heaplet) W, Sat W (h ++ G) → Calls Tryz.prog 8 #[kL d] W (Ret (kL (wordL d)) (fun W => Sat W (h ++ G)))) := Lib.hid (fun h W hW => word_at hW d hd)
  have HP := Lib.hid hp
  have HS := Lib.hid hs
  obtain ⟨x0, x1, x2, x3⟩ := HX.out _ s1
  have eq0 : calledP ⟨k, p, sl, d⟩ = wordOf callNames k :: ((if pagedP k then [Lib.itoa p] else []) ++ ((if slotP k then [Lib.itoa sl] else []) ++ (if dataP k then [wordL d] else []))) := rfl
  rw [eq0]
  generalize wordOf callNames k = nm at *
  have hk1 : -9223372036854775808 ≤ k := hk.1
  have hk2 : k ≤ 9223372036854775807 := hk.2
  clear hL s s1 hk hp hs hd hG eq0
  by_cases k3 : k = 3
  · subst k3
    rw [show (nm :: ((if pagedP 3 then [Lib.itoa p] else []) ++ ((if slotP 3 then [Lib.itoa sl] else []) ++ (if dataP 3 then [wordL d] else [])))) = nm :: ([Lib.itoa p, wordL d]) from rfl]
    clear hk1 hk2
    go_enter Tryz.func33, Tryz.ntmps33
    go_wp2_with (first | (at_builtin; refine wpList_append_run rfl _ _ _ _ rfl _ _ _ _ rfl rfl P3.out ?_) | (go_at_call 8; refine (HWD.out _ _ H2.out).mono ?_; rintro e v3 ⟨rfl, h3⟩; obtain ⟨a3, c3, w3, g3, hap, hv, hs⟩ := WOwn.push (wordL d) V2.out h3 (by simp); have P3 := Lib.hid hap; have V3 := Lib.hid hv; have H3 := Lib.hid hs; obtain ⟨x0, x1, x2, x3⟩ := HX.out _ hs.right; clear hap hv hs h3) | (at_builtin; refine wpList_append_run rfl _ _ _ _ rfl _ _ _ _ rfl rfl P2.out ?_) | (go_at_call 32; refine (HIT.out _ _ _ HP.out H1.out).mono ?_; rintro e v2 ⟨rfl, h2⟩; obtain ⟨a2, c2, w2, g2, hap, hv, hs⟩ := WOwn.push (Lib.itoa p) V1.out h2 (by simp); have P2 := Lib.hid hap; have V2 := Lib.hid hv; have H2 := Lib.hid hs; obtain ⟨x0, x1, x2, x3⟩ := HX.out _ hs.right; clear hap hv hs h2) | (go_at_call 31; refine (HWO.out).mono ?_; rintro e w1 ⟨rfl, h1⟩; obtain ⟨x0, x1, x2, x3⟩ := HX.out _ h1; have H1 := Lib.hid (show Sat (w1.alloc (.cells #[kL nm] 9)) ([HItem.blk w1.heap.size (.cells #[kL nm] 9)] ++ G) from h1.new _); have V1 := Lib.hid (WOwn.one w1.heap.size nm); obtain ⟨x0, x1, x2, x3⟩ := HX.out _ H1.out.right; clear h1))
    go_ret
    exact ⟨_, _, rfl, V3.out, HGF.out _ _ H3.out⟩
  by_cases k4 : k = 4
  · subst k4
    rw [show (nm :: ((if pagedP 4 then [Lib.itoa p] else []) ++ ((if slotP 4 then [Lib.itoa sl] else []) ++ (if dataP 4 then [wordL d] else [])))) = nm :: ([Lib.itoa p, Lib.itoa sl, wordL d]) from rfl]
    clear hk1 hk2
    go_enter Tryz.func33, Tryz.ntmps33
    go_wp2_with (first | (at_builtin; refine wpList_append_run rfl _ _ _ _ rfl _ _ _ _ rfl rfl P4.out ?_) | (go_at_call 8; refine (HWD.out _ _ H3.out).mono ?_; rintro e v4 ⟨rfl, h4⟩; obtain ⟨a4, c4, w4, g4, hap, hv, hs⟩ := WOwn.push (wordL d) V3.out h4 (by simp); have P4 := Lib.hid hap; have V4 := Lib.hid hv; have H4 := Lib.hid hs; obtain ⟨x0, x1, x2, x3⟩ := HX.out _ hs.right; clear hap hv hs h4) | (at_builtin; refine wpList_append_run rfl _ _ _ _ rfl _ _ _ _ rfl rfl P3.out ?_) | (go_at_call 32; refine (HIT.out _ _ _ HS.out H2.out).mono ?_; rintro e v3 ⟨rfl, h3⟩; obtain ⟨a3, c3, w3, g3, hap, hv, hs⟩ := WOwn.push (Lib.itoa sl) V2.out h3 (by simp); have P3 := Lib.hid hap; have V3 := Lib.hid hv; have H3 := Lib.hid hs; obtain ⟨x0, x1, x2, x3⟩ := HX.out _ hs.right; clear hap hv hs h3) | (at_builtin; refine wpList_append_run rfl _ _ _ _ rfl _ _ _ _ rfl rfl P2.out ?_) | (go_at_call 32; refine (HIT.out _ _ _ HP.out H1.out).mono ?_; rintro e v2 ⟨rfl, h2⟩; obtain ⟨a2, c2, w2, g2, hap, hv, hs⟩ := WOwn.push (Lib.itoa p) V1.out h2 (by simp); have P2 := Lib.hid hap; have V2 := Lib.hid hv; have H2 := Lib.hid hs; obtain ⟨x0, x1, x2, x3⟩ := HX.out _ hs.right; clear hap hv hs h2) | (go_at_call 31; refine (HWO.out).mono ?_; rintro e w1 ⟨rfl, h1⟩; obtain ⟨x0, x1, x2, x3⟩ := HX.out _ h1; have H1 := Lib.hid (show Sat (w1.alloc (.cells #[kL nm] 9)) ([HItem.blk w1.heap.size (.cells #[kL nm] 9)] ++ G) from h1.new _); have V1 := Lib.hid (WOwn.one w1.heap.size nm); obtain ⟨x0, x1, x2, x3⟩ := HX.out _ H1.out.right; clear h1))
    go_ret
    exact ⟨_, _, rfl, V4.out, HGF.out _ _ H4.out⟩
  by_cases k2 : k = 2
  · subst k2
    rw [show (nm :: ((if pagedP 2 then [Lib.itoa p] else []) ++ ((if slotP 2 then [Lib.itoa sl] else []) ++ (if dataP 2 then [wordL d] else [])))) = nm :: ([Lib.itoa p, Lib.itoa sl]) from rfl]
    clear hk1 hk2
    go_enter Tryz.func33, Tryz.ntmps33
    go_wp2_with (first | (at_builtin; refine wpList_append_run rfl _ _ _ _ rfl _ _ _ _ rfl rfl P3.out ?_) | (go_at_call 32; refine (HIT.out _ _ _ HS.out H2.out).mono ?_; rintro e v3 ⟨rfl, h3⟩; obtain ⟨a3, c3, w3, g3, hap, hv, hs⟩ := WOwn.push (Lib.itoa sl) V2.out h3 (by simp); have P3 := Lib.hid hap; have V3 := Lib.hid hv; have H3 := Lib.hid hs; obtain ⟨x0, x1, x2, x3⟩ := HX.out _ hs.right; clear hap hv hs h3) | (at_builtin; refine wpList_append_run rfl _ _ _ _ rfl _ _ _ _ rfl rfl P2.out ?_) | (go_at_call 32; refine (HIT.out _ _ _ HP.out H1.out).mono ?_; rintro e v2 ⟨rfl, h2⟩; obtain ⟨a2, c2, w2, g2, hap, hv, hs⟩ := WOwn.push (Lib.itoa p) V1.out h2 (by simp); have P2 := Lib.hid hap; have V2 := Lib.hid hv; have H2 := Lib.hid hs; obtain ⟨x0, x1, x2, x3⟩ := HX.out _ hs.right; clear hap hv hs h2) | (go_at_call 31; refine (HWO.out).mono ?_; rintro e w1 ⟨rfl, h1⟩; obtain ⟨x0, x1, x2, x3⟩ := HX.out _ h1; have H1 := Lib.hid (show Sat (w1.alloc (.cells #[kL nm] 9)) ([HItem.blk w1.heap.size (.cells #[kL nm] 9)] ++ G) from h1.new _); have V1 := Lib.hid (WOwn.one w1.heap.size nm); obtain ⟨x0, x1, x2, x3⟩ := HX.out _ H1.out.right; clear h1))
    go_ret
    exact ⟨_, _, rfl, V3.out, HGF.out _ _ H3.out⟩
  by_cases k5 : k = 5
  · subst k5
    rw [show (nm :: ((if pagedP 5 then [Lib.itoa p] else []) ++ ((if slotP 5 then [Lib.itoa sl] else []) ++ (if dataP 5 then [wordL d] else [])))) = nm :: ([Lib.itoa p, Lib.itoa sl]) from rfl]
    clear hk1 hk2
    go_enter Tryz.func33, Tryz.ntmps33
    go_wp2_with (first | (at_builtin; refine wpList_append_run rfl _ _ _ _ rfl _ _ _ _ rfl rfl P3.out ?_) | (go_at_call 32; refine (HIT.out _ _ _ HS.out H2.out).mono ?_; rintro e v3 ⟨rfl, h3⟩; obtain ⟨a3, c3, w3, g3, hap, hv, hs⟩ := WOwn.push (Lib.itoa sl) V2.out h3 (by simp); have P3 := Lib.hid hap; have V3 := Lib.hid hv; have H3 := Lib.hid hs; obtain ⟨x0, x1, x2, x3⟩ := HX.out _ hs.right; clear hap hv hs h3) | (at_builtin; refine wpList_append_run rfl _ _ _ _ rfl _ _ _ _ rfl rfl P2.out ?_) | (go_at_call 32; refine (HIT.out _ _ _ HP.out H1.out).mono ?_; rintro e v2 ⟨rfl, h2⟩; obtain ⟨a2, c2, w2, g2, hap, hv, hs⟩ := WOwn.push (Lib.itoa p) V1.out h2 (by simp); have P2 := Lib.hid hap; have V2 := Lib.hid hv; have H2 := Lib.hid hs; obtain ⟨x0, x1, x2, x3⟩ := HX.out _ hs.right; clear hap hv hs h2) | (go_at_call 31; refine (HWO.out).mono ?_; rintro e w1 ⟨rfl, h1⟩; obtain ⟨x0, x1, x2, x3⟩ := HX.out _ h1; have H1 := Lib.hid (show Sat (w1.alloc (.cells #[kL nm] 9)) ([HItem.blk w1.heap.size (.cells #[kL nm] 9)] ++ G) from h1.new _); have V1 := Lib.hid (WOwn.one w1.heap.size nm); obtain ⟨x0, x1, x2, x3⟩ := HX.out _ H1.out.right; clear h1))
    go_ret
    exact ⟨_, _, rfl, V3.out, HGF.out _ _ H3.out⟩
  by_cases k7 : k = 7
  · subst k7
    rw [show (nm :: ((if pagedP 7 then [Lib.itoa p] else []) ++ ((if slotP 7 then [Lib.itoa sl] else []) ++ (if dataP 7 then [wordL d] else [])))) = nm :: ([Lib.itoa sl]) from rfl]
    clear hk1 hk2
    go_enter Tryz.func33, Tryz.ntmps33
    go_wp2_with (first | (at_builtin; refine wpList_append_run rfl _ _ _ _ rfl _ _ _ _ rfl rfl P2.out ?_) | (go_at_call 32; refine (HIT.out _ _ _ HS.out H1.out).mono ?_; rintro e v2 ⟨rfl, h2⟩; obtain ⟨a2, c2, w2, g2, hap, hv, hs⟩ := WOwn.push (Lib.itoa sl) V1.out h2 (by simp); have P2 := Lib.hid hap; have V2 := Lib.hid hv; have H2 := Lib.hid hs; obtain ⟨x0, x1, x2, x3⟩ := HX.out _ hs.right; clear hap hv hs h2) | (go_at_call 31; refine (HWO.out).mono ?_; rintro e w1 ⟨rfl, h1⟩; obtain ⟨x0, x1, x2, x3⟩ := HX.out _ h1; have H1 := Lib.hid (show Sat (w1.alloc (.cells #[kL nm] 9)) ([HItem.blk w1.heap.size (.cells #[kL nm] 9)] ++ G) from h1.new _); have V1 := Lib.hid (WOwn.one w1.heap.size nm); obtain ⟨x0, x1, x2, x3⟩ := HX.out _ H1.out.right; clear h1))
    go_ret
    exact ⟨_, _, rfl, V2.out, HGF.out _ _ H2.out⟩
  have m3 : (k == 3) = false := by rw [beq_eq_false_iff_ne]; omega
  have m4 : (k == 4) = false := by rw [beq_eq_false_iff_ne]; omega
  have m7 : (k == 7) = false := by rw [beq_eq_false_iff_ne]; omega
  have ep : pagedP k = false := by
    unfold pagedP
    rw [Bool.and_eq_false_iff, decide_eq_false_iff_not, decide_eq_false_iff_not]
    omega
  have es : slotP k = false := by unfold slotP; rw [ep]; simp [k7]
  have ed : dataP k = false := by unfold dataP; simp [k3, k4]
  rw [ep, es, ed]
  by_cases kl : k < 2
  · have q1 : ((2 : Int) ≤ k) = False := eq_false (by omega)
    clear ep es ed kl k2 k3 k4 k5 k7 hk1 hk2
    rw [show (nm :: ((if false then [Lib.itoa p] else []) ++ ((if false then [Lib.itoa sl] else []) ++ (if false then [wordL d] else [])))) = [nm] from rfl]
    go_enter Tryz.func33, Tryz.ntmps33
    go_wp2_with (first | (go_at_call 31; refine (HWO.out).mono ?_; rintro e w1 ⟨rfl, h1⟩; obtain ⟨x0, x1, x2, x3⟩ := HX.out _ h1; have H1 := Lib.hid (show Sat (w1.alloc (.cells #[kL nm] 9)) ([HItem.blk w1.heap.size (.cells #[kL nm] 9)] ++ G) from h1.new _); have V1 := Lib.hid (WOwn.one w1.heap.size nm); obtain ⟨x0, x1, x2, x3⟩ := HX.out _ H1.out.right; clear h1))
    go_ret
    exact ⟨_, _, rfl, V1.out, HGF.out _ _ H1.out⟩
  · have q1 : (2 : Int) ≤ k := by omega
    have q2 : (k ≤ 5) = False := eq_false (by omega)
    clear ep es ed kl k2 k3 k4 k5 k7 hk1 hk2
    rw [show (nm :: ((if false then [Lib.itoa p] else []) ++ ((if false then [Lib.itoa sl] else []) ++ (if false then [wordL d] else [])))) = [nm] from rfl]
    go_enter Tryz.func33, Tryz.ntmps33
    go_wp2_with (first | (go_at_call 31; refine (HWO.out).mono ?_; rintro e w1 ⟨rfl, h1⟩; obtain ⟨x0, x1, x2, x3⟩ := HX.out _ h1; have H1 := Lib.hid (show Sat (w1.alloc (.cells #[kL nm] 9)) ([HItem.blk w1.heap.size (.cells #[kL nm] 9)] ++ G) from h1.new _); have V1 := Lib.hid (WOwn.one w1.heap.size nm); obtain ⟨x0, x1, x2, x3⟩ := HX.out _ H1.out.right; clear h1))
    go_ret
    exact ⟨_, _, rfl, V1.out, HGF.out _ _ H1.out⟩
end Go.Proofs.YtieaamlpadlfeaaGreatDoor
