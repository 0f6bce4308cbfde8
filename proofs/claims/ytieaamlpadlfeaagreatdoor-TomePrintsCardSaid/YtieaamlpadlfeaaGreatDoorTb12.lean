/- A step's line: tome.Print walked. Conditions: none. -/
import Derived.Test.YtieaamlpadlfeaaGreatDoorTb11
import Derived.Test.YtieaamlpadlfeaaGreatDoorTbE
namespace Go.Proofs.YtieaamlpadlfeaaGreatDoor
open Go Go.MapKept Go.RowKit Go.Proofs

attribute [local go_sem] Oper.semAt_some

theorem join_at {h F : Heaplet} {w : World} {v : Value} {ws : List Bs} (hv : WOwn v ws h) (s : Sat w (h ++ F)) (hne : 0 < ws.length) (hl : ws.length ≤ 1000000) (hll : (lineL ws).length ≤ 1000000) :
    Calls Tryz.prog 12 #[v, .string ⟨#[32]⟩] w (Ret (kL (lineL ws)) (fun W => Sat W F)) := by
  obtain ⟨hlen, h1 | ⟨g, cap, cur, rfl, hnc, hcm, hcur, htake, rfl⟩⟩ := id hv
  · omega
  have hg : g < w.heap.size := s.lt (o := .cells cur 9) (List.mem_append.2 (.inl (.head _)))
  have hm : (ws.map (fun l => (⟨l.toArray⟩ : ByteArray))).map (·.data.toList) = ws := by simp [Function.comp_def]
  have hlm : (ws.map (fun l => (⟨l.toArray⟩ : ByteArray))).length = ws.length := by simp
  have hj := Any.strings_Join Tryz.laysJoin Tryz.extra_laysJoin g 0 cap (ws.map (fun l => (⟨l.toArray⟩ : ByteArray))) ⟨#[32]⟩ w (fun j x hx => by
    rw [List.getElem?_map] at hx
    obtain ⟨l, hl, rfl⟩ := Option.map_eq_some_iff.1 hx
    have hu : (ws.flatMap fS)[j]? = some (kL l) := by
      have hj := (List.getElem?_eq_some_iff.1 hl).1
      have e : ws.flatMap fS = ws.map kL := by rw [← List.map_eq_flatMap]
      rw [e, List.getElem?_map, hl]
      rfl
    have := (hv.cell s rfl hu).2.2
    simpa using this) hg (by rw [hlm]; omega) (by rw [hlm]; exact hnc) (by
      rw [hm]
      show (lineL ws).length ≤ _
      omega)
  rw [hlm, hm] at hj
  refine hj.mono ?_
  rintro e w' ⟨rfl, hb⟩
  exact ⟨rfl, (s.monoB hb).right⟩
/-- What Print answers. -/
def PrintRet (F : Heaplet) (o : Option Bs) (e : Ending) (w' : World) : Prop := e = .returned (.tuple #[kL (o.getD []), .int .i64 (if o.isSome then 0 else 1)]) ∧ Sat w' F
/-- What Parse answers, in one form. -/
theorem parse_one {F : Heaplet} {o : Option StepM} {e : Ending} {w' : World} (hb : ∀ y, o = some y → y.fates.length ≤ 1000000) (h : ParseRet F o e w') :
    ∃ y c v h, e = .returned (.tuple #[stepV y v, .int .i64 c]) ∧ FtAt h v y.fates ∧ Sat w' (h ++ F) ∧ ((c = 0 ∧ o = some y) ∨ (c = 50 ∧ o = none ∧ y = StepM.zero)) ∧ y.fates.length ≤ 1000000 := by
  cases o with
  | some y =>
    obtain ⟨v, h, rfl, hf, hs⟩ := h
    exact ⟨y, 0, v, h, rfl, hf, hs, .inl ⟨rfl, rfl⟩, hb y rfl⟩
  | none =>
    obtain ⟨rfl, hs⟩ := h
    exact ⟨StepM.zero, 50, _, [], rfl, FtAt.nil _ _ _, hs, .inr ⟨rfl, rfl, rfl⟩, by decide⟩
/-- A line's step has no more fates than the line has words. -/
theorem parse_fates {l : Bs} {y : StepM} (h : parseR (wordsL l) = some y) : y.fates.length ≤ l.length + 1 := by
  have h2 := cut_count 32 l
  have h1 := parseR_iff.1 h
  revert h1
  show StepW y (cutL 32 l) → _
  generalize cutL 32 l = ws at *
  intro h1
  cases h1 with
  | start c n fs hc hn hf =>
    simp only [List.length_cons, List.length_map] at h2 ⊢
    omega
  | _ => exact Nat.zero_le _
/-- A line's step has no more data than the line is long. -/
theorem wordC_len1 (c : UInt8) : 1 ≤ (wordC c).length := by unfold wordC; split <;> simp
theorem wordL_ge (d : Bs) : d.length ≤ (wordL d).length := by
  unfold wordL
  split
  · rename_i h; subst h; simp
  · induction d with
    | nil => simp
    | cons c t ih =>
      rw [List.flatMap_cons, List.length_append, List.length_cons]
      have := wordC_len1 c
      by_cases ht : t = []
      · subst ht; simp; omega
      · have := ih ht
        omega
theorem parse_data {l : Bs} {y : StepM} (h : parseR (wordsL l) = some y) : y.call.data.length ≤ l.length := by
  have h2 : ∀ x ∈ cutL 32 l, x.length ≤ l.length := cut_len 32 l
  have h1 := parseR_iff.1 h
  revert h1
  show StepW y (cutL 32 l) → _
  generalize cutL 32 l = ws at *
  intro h1
  cases h1 with
  | call c x ws hc hx =>
    cases hx with
    | insert p d hp =>
      have := h2 (wordL d) (by simp)
      have := wordL_ge d
      simp only
      omega
    | update p s d hp hs =>
      have := h2 (wordL d) (by simp)
      have := wordL_ge d
      simp only
      omega
    | _ => exact Nat.zero_le _
  | _ => exact Nat.zero_le _
set_option maxRecDepth 100000 in
set_option maxHeartbeats 16000000 in
theorem print_any {F : Heaplet} {w : World} {fv : Value} (hL : LibF F) (s : Sat w F) (x : StepM) (hft : FtAt F fv x.fates) (hk : I64 x.kind) (hc : I64 x.client) (hn : I64 x.n) (hfs : (∀ f ∈ x.fates, I64 f) ∧ x.fates.length ≤ 10000) (hxk : I64 x.call.kind) (hxp : I64 x.call.page) (hxs : I64 x.call.slot) (hd : x.call.data.length ≤ 10000) :
    Calls Tryz.prog 6 #[stepV x fv] w (PrintRet F (if parseR (wordsL (lineL (wrP x))) = some x then some (lineL (wrP x)) else none)) := by
  obtain ⟨L, hLL⟩ : ∃ L, lineL (wrP x) = L := ⟨_, rfl⟩
  have hline : L.length ≤ 900000 := by
    have := line_len hc hn hfs.1 hxp hxs
    rw [← hLL]
    have := hfs.2
    omega
  have hwl : 0 < (wrP x).length := by unfold wrP; simp
  have hwl2 : (wrP x).length ≤ 1000000 := by
    unfold wrP
    have := midP_len x
    have := hfs.2
    simp only [List.length_cons, List.length_append, List.length_map]
    omega
  obtain ⟨PO, hPO⟩ : ∃ PO, parseR (wordsL L) = PO := ⟨_, rfl⟩
  rw [hLL, hPO]
  have HBD : Hid (∀ y, PO = some y → y.fates.length ≤ 1000000) := Lib.hid (fun y hy => by rw [← hPO] at hy; have := parse_fates hy; omega)
  obtain ⟨PB, hPB⟩ : ∃ PB : Ending → World → Prop, PrintRet F (if PO = some x then some L else none) = PB := ⟨_, rfl⟩
  rw [hPB]
  have HPB := Lib.hid hPB
  clear hPB
  obtain ⟨k, c, u, n, fs, ⟨ck, cp, cs, d⟩⟩ := x
  simp only at hft hk hc hn hfs hxk hxp hxs hd
  have s1 := s.new (stepO k c u n fv ck cp cs d)
  obtain ⟨A, hA⟩ : ∃ A, w.heap.size = A := ⟨_, rfl⟩
  rw [hA] at s1
  obtain ⟨G, hG⟩ : ∃ G, HItem.blk A (stepO k c u n fv ck cp cs d) :: F = G := ⟨_, rfl⟩
  rw [hG] at s1
  have hGF : ∀ W, Sat W G → Sat W F := fun W hW => by rw [← hG] at hW; exact hW.tail
  have HGF : Hid (∀ (o : Obj) (b : Nat) h W, Sat W (.blk b o :: (h ++ G)) → Sat W F) := Lib.hid (fun o b h W hW => hGF W hW.tail.right)
  have HG1 := Lib.hid hGF
  have HLG : Hid (LibF G) := Lib.hid (hL.mono hGF)
  have hftG : FtAt G fv fs := hft.mono hGF
  have HFT := Lib.hid hftG
  have HFL := Lib.hid hfs.2
  have HX : Hid (∀ W, Sat W G → W.cell? ⟨A, 0, none⟩ = some (kI k) ∧ W.cell? ⟨A, 1, none⟩ = some (kI c) ∧ W.cell? ⟨A, 2, none⟩ = some (.bool u) ∧ W.cell? ⟨A, 3, none⟩ = some (kI n) ∧ W.cell? ⟨A, 4, none⟩ = some fv ∧ W.cell? ⟨A, 5, none⟩ = some (kI ck) ∧ W.cell? ⟨A, 6, none⟩ = some (kI cp) ∧ W.cell? ⟨A, 7, none⟩ = some (kI cs) ∧ W.cell? ⟨A, 8, none⟩ = some (kL d)) := Lib.hid (fun W hW => by
    rw [← hG] at hW
    exact nine_of hW)
  have HWR := Lib.hid (written_any HLG.out s1 ⟨k, c, u, n, fs, ⟨ck, cp, cs, d⟩⟩ hftG hk hc hn ⟨hfs.1, by have := hfs.2; simp only; omega⟩ hxk hxp hxs (by simp only; omega))
  have HJ : Hid (∀ v h W, WOwn v (wrP ⟨k, c, u, n, fs, ⟨ck, cp, cs, d⟩⟩) h → Sat W (h ++ G) → Calls Tryz.prog 12 #[v, .string ⟨#[32]⟩] W (Ret (kL L) (fun W => Sat W G))) := Lib.hid (fun v h W hv hW => by
    rw [← hLL]
    exact join_at hv hW hwl hwl2 (by rw [hLL]; omega))
  have HPA : Hid (∀ W, Sat W G → Calls Tryz.prog 10 #[kL L] W (ParseRet G PO)) := Lib.hid (fun W hW => by
    rw [← hPO]
    exact parse_any HLG.out hW L hline)
  obtain ⟨x0, x1, x2, x3, x4, x5, x6, x7, x8⟩ := HX.out _ s1
  generalize wrP ⟨k, c, u, n, fs, ⟨ck, cp, cs, d⟩⟩ = WS at *
  clear hL s s1 hk hc hn hfs hxk hxp hxs hd hG hft hftG hGF hline hwl hwl2 hPO hLL
  go_enter Tryz.func6, Tryz.ntmps6
  go_upto_region 3 with (first
    | (go_at_call 10; refine (HPA.out _ H3.out).mono ?_; rintro e w4 h4; obtain ⟨y, yc, yv, yh, rfl, hyf, hs4, hyc0, hyl⟩ := parse_one HBD.out h4; have hyc : (yc = 0 ∧ PO = some y) ∨ (yc = 50 ∧ PO = none) := hyc0.imp id (fun h => ⟨h.1, h.2.1⟩); clear hyc0; have HYL := Lib.hid hyl; obtain ⟨ya, yca, rfl, -⟩ := id hyf; have HYF := Lib.hid hyf; have HYC := Lib.hid hyc; obtain ⟨yk, ycl, yu, yn, yfs, ⟨yck, ycp, ycs, yd⟩⟩ := y; have H4 := Lib.hid (hs4.new (stepO yk ycl yu yn (.slice ya yfs.length yca) yck ycp ycs yd)); have N4 := Lib.hid (nine_of (hs4.new zeroO)); obtain ⟨y0, y1, y2, y3, y4, y5, y6, y7, y8⟩ := N4.out; clear h4 hs4 hyf hyc hyl)
    | (go_at_call 12; refine (HJ.out _ _ _ V2.out H2.out).mono ?_; rintro e w3 ⟨rfl, h3⟩; have H3 := Lib.hid h3; clear h3)
    | (go_at_call 13; refine (HWR.out).mono ?_; rintro e w2 ⟨v2, h2, rfl, hv2, hs2⟩; have V2 := Lib.hid hv2; have H2 := Lib.hid hs2; clear hv2 hs2))
  generalize w4.alloc (.cells #[kI yk, kI ycl, .bool yu, kI yn, .slice ya yfs.length yca, kI yck, kI ycp, kI ycs, kL yd] 26) = W5 at *
  obtain ⟨y0, y1, y2, y3, y4, y5, y6, y7, y8⟩ := nine_of H4.out
  obtain ⟨x0, x1, x2, x3, x4, x5, x6, x7, x8⟩ := HX.out _ H4.out.tail.right
  have HEQ := Lib.hid (equal_at H4.out.tail (HYF.out.mono (fun W hW => hW.lft)) (HFT.out.mono (fun W hW => hW.right)) HYL.out (by have := HFL.out; omega))
  have HG2 : Hid (∀ W, Sat W (yh ++ G) → Sat W F) := Lib.hid (fun W hW => HG1.out W hW.right)
  have HFIN := Lib.hid (HGF.out _ _ _ _ H4.out)
  clear N4 HX HLG HPA HJ HWR H2 H3 V2
  have hgd : ∀ (o1 o2 : Operand) (a b : CallM) W, (eqGuard .eql 24 o1 o2 (callV a) (callV b)).run Tryz.prog W = .ok () W := fun _ _ a b W => guard_call a b W _ _
  rcases HYC.out with ⟨rfl, hpo⟩ | ⟨rfl, hpo⟩
  · by_cases qk : ¬ yk = k
    · have mk : (yk == k) = false := beq_eq_false_iff_ne.2 qk
      have HN : Hid (¬ PO = some ⟨k, c, u, n, fs, ⟨ck, cp, cs, d⟩⟩) := Lib.hid (by rw [hpo]; intro h; simp only [Option.some.injEq, StepM.mk.injEq, CallM.mk.injEq] at h; exact qk h.1)
      clear hpo HYC HEQ hgd HYF HFT
      go_wp2_with fail
      rw [← HPB.out, if_neg HN.out]
      exact ⟨rfl, HFIN.out⟩
    obtain rfl : k = yk := (Decidable.not_not.1 qk).symm
    by_cases qc : ¬ ycl = c
    · have mc : (ycl == c) = false := beq_eq_false_iff_ne.2 qc
      have HN : Hid (¬ PO = some ⟨k, c, u, n, fs, ⟨ck, cp, cs, d⟩⟩) := Lib.hid (by rw [hpo]; intro h; simp only [Option.some.injEq, StepM.mk.injEq, CallM.mk.injEq] at h; exact qc h.2.1)
      clear hpo HYC HEQ hgd HYF HFT
      go_wp2_with fail
      rw [← HPB.out, if_neg HN.out]
      exact ⟨rfl, HFIN.out⟩
    obtain rfl : c = ycl := (Decidable.not_not.1 qc).symm
    by_cases qu : ¬ yu = u
    · have mu : (yu == u) = false := beq_eq_false_iff_ne.2 qu
      have HN : Hid (¬ PO = some ⟨k, c, u, n, fs, ⟨ck, cp, cs, d⟩⟩) := Lib.hid (by rw [hpo]; intro h; simp only [Option.some.injEq, StepM.mk.injEq, CallM.mk.injEq] at h; exact qu h.2.2.1)
      clear hpo HYC HEQ hgd HYF HFT
      go_wp2_with fail
      rw [← HPB.out, if_neg HN.out]
      exact ⟨rfl, HFIN.out⟩
    obtain rfl : u = yu := (Decidable.not_not.1 qu).symm
    by_cases qn : ¬ yn = n
    · have mn : (yn == n) = false := beq_eq_false_iff_ne.2 qn
      have HN : Hid (¬ PO = some ⟨k, c, u, n, fs, ⟨ck, cp, cs, d⟩⟩) := Lib.hid (by rw [hpo]; intro h; simp only [Option.some.injEq, StepM.mk.injEq, CallM.mk.injEq] at h; exact qn h.2.2.2.1)
      clear hpo HYC HEQ hgd HYF HFT
      go_wp2_with fail
      rw [← HPB.out, if_neg HN.out]
      exact ⟨rfl, HFIN.out⟩
    obtain rfl : n = yn := (Decidable.not_not.1 qn).symm
    by_cases qx : ¬ (⟨yck, ycp, ycs, yd⟩ : CallM) = ⟨ck, cp, cs, d⟩
    · have hec : ∀ W, (binOp .eql 24 (callV ⟨yck, ycp, ycs, yd⟩) (callV ⟨ck, cp, cs, d⟩)).run Tryz.prog W = .ok (.bool false) W := fun W => by rw [eq_call, decide_eq_false qx]
      have hgd2 : ∀ W, (eqGuard .eql 24 (.tmp 44) (.tmp 46) (callV ⟨yck, ycp, ycs, yd⟩) (callV ⟨ck, cp, cs, d⟩)).run Tryz.prog W = .ok () W := fun W => hgd _ _ _ _ W
      have HN : Hid (¬ PO = some ⟨k, c, u, n, fs, ⟨ck, cp, cs, d⟩⟩) := Lib.hid (by rw [hpo]; intro h; simp only [Option.some.injEq, StepM.mk.injEq, CallM.mk.injEq] at h; exact qx (by simp only [CallM.mk.injEq]; exact h.2.2.2.2.2))
      clear hpo HYC HEQ hgd HYF HFT
      go_wp2_with fail
      rw [← HPB.out, if_neg HN.out]
      exact ⟨rfl, HFIN.out⟩
    obtain ⟨rfl, rfl, rfl, rfl⟩ : ck = yck ∧ cp = ycp ∧ cs = ycs ∧ d = yd := by have := Decidable.not_not.1 qx; simp only [CallM.mk.injEq] at this; exact ⟨this.1.symm, this.2.1.symm, this.2.2.1.symm, this.2.2.2.symm⟩
    have hec : ∀ W, (binOp .eql 24 (callV ⟨ck, cp, cs, d⟩) (callV ⟨ck, cp, cs, d⟩)).run Tryz.prog W = .ok (.bool true) W := fun W => by rw [eq_call, decide_eq_true rfl]
    have hgd2 : ∀ W, (eqGuard .eql 24 (.tmp 44) (.tmp 46) (callV ⟨ck, cp, cs, d⟩) (callV ⟨ck, cp, cs, d⟩)).run Tryz.prog W = .ok () W := fun W => hgd _ _ _ _ W
    by_cases qf : ¬ yfs = fs
    · rw [decide_eq_false qf] at HEQ
      have HN : Hid (¬ PO = some ⟨k, c, u, n, fs, ⟨ck, cp, cs, d⟩⟩) := Lib.hid (by rw [hpo]; intro h; simp only [Option.some.injEq, StepM.mk.injEq] at h; exact qf h.2.2.2.2.1)
      clear hpo HYC hgd HYF HFT
      go_wp2_with (go_at_call 14; refine (HEQ.out).mono ?_; rintro e w6 ⟨rfl, h6⟩; have H6 := Lib.hid (HG2.out _ h6); clear h6)
      rw [← HPB.out, if_neg HN.out]
      exact ⟨rfl, H6.out⟩
    have qf := Decidable.not_not.1 qf
    rw [decide_eq_true qf] at HEQ
    subst qf
    have HN := Lib.hid hpo
    clear hpo HYC hgd HYF HFT
    go_wp2_with (go_at_call 14; refine (HEQ.out).mono ?_; rintro e w6 ⟨rfl, h6⟩; have H6 := Lib.hid (HG2.out _ h6); clear h6)
    rw [← HPB.out, if_pos HN.out]
    exact ⟨rfl, H6.out⟩
  · have HN : Hid (¬ PO = some ⟨k, c, u, n, fs, ⟨ck, cp, cs, d⟩⟩) := Lib.hid (by rw [hpo]; exact fun h => nomatch h)
    by_cases qk : ¬ yk = k
    · have mk : (yk == k) = false := beq_eq_false_iff_ne.2 qk
      clear hpo HYC HEQ hgd HYF HFT
      go_wp2_with fail
      rw [← HPB.out, if_neg HN.out]
      exact ⟨rfl, HFIN.out⟩
    obtain rfl : k = yk := (Decidable.not_not.1 qk).symm
    by_cases qc : ¬ ycl = c
    · have mc : (ycl == c) = false := beq_eq_false_iff_ne.2 qc
      clear hpo HYC HEQ hgd HYF HFT
      go_wp2_with fail
      rw [← HPB.out, if_neg HN.out]
      exact ⟨rfl, HFIN.out⟩
    obtain rfl : c = ycl := (Decidable.not_not.1 qc).symm
    by_cases qu : ¬ yu = u
    · have mu : (yu == u) = false := beq_eq_false_iff_ne.2 qu
      clear hpo HYC HEQ hgd HYF HFT
      go_wp2_with fail
      rw [← HPB.out, if_neg HN.out]
      exact ⟨rfl, HFIN.out⟩
    obtain rfl : u = yu := (Decidable.not_not.1 qu).symm
    by_cases qn : ¬ yn = n
    · have mn : (yn == n) = false := beq_eq_false_iff_ne.2 qn
      clear hpo HYC HEQ hgd HYF HFT
      go_wp2_with fail
      rw [← HPB.out, if_neg HN.out]
      exact ⟨rfl, HFIN.out⟩
    obtain rfl : n = yn := (Decidable.not_not.1 qn).symm
    by_cases qx : ¬ (⟨yck, ycp, ycs, yd⟩ : CallM) = ⟨ck, cp, cs, d⟩
    · have hec : ∀ W, (binOp .eql 24 (callV ⟨yck, ycp, ycs, yd⟩) (callV ⟨ck, cp, cs, d⟩)).run Tryz.prog W = .ok (.bool false) W := fun W => by rw [eq_call, decide_eq_false qx]
      have hgd2 : ∀ W, (eqGuard .eql 24 (.tmp 44) (.tmp 46) (callV ⟨yck, ycp, ycs, yd⟩) (callV ⟨ck, cp, cs, d⟩)).run Tryz.prog W = .ok () W := fun W => hgd _ _ _ _ W
      clear hpo HYC HEQ hgd HYF HFT
      go_wp2_with fail
      rw [← HPB.out, if_neg HN.out]
      exact ⟨rfl, HFIN.out⟩
    obtain ⟨rfl, rfl, rfl, rfl⟩ : ck = yck ∧ cp = ycp ∧ cs = ycs ∧ d = yd := by have := Decidable.not_not.1 qx; simp only [CallM.mk.injEq] at this; exact ⟨this.1.symm, this.2.1.symm, this.2.2.1.symm, this.2.2.2.symm⟩
    have hec : ∀ W, (binOp .eql 24 (callV ⟨ck, cp, cs, d⟩) (callV ⟨ck, cp, cs, d⟩)).run Tryz.prog W = .ok (.bool true) W := fun W => by rw [eq_call, decide_eq_true rfl]
    have hgd2 : ∀ W, (eqGuard .eql 24 (.tmp 44) (.tmp 46) (callV ⟨ck, cp, cs, d⟩) (callV ⟨ck, cp, cs, d⟩)).run Tryz.prog W = .ok () W := fun W => hgd _ _ _ _ W
    by_cases qf : ¬ yfs = fs
    · rw [decide_eq_false qf] at HEQ
      clear hpo HYC hgd HYF HFT
      go_wp2_with (go_at_call 14; refine (HEQ.out).mono ?_; rintro e w6 ⟨rfl, h6⟩; have H6 := Lib.hid (HG2.out _ h6); clear h6)
      rw [← HPB.out, if_neg HN.out]
      exact ⟨rfl, H6.out⟩
    have qf := Decidable.not_not.1 qf
    rw [decide_eq_true qf] at HEQ
    clear hpo HYC hgd HYF HFT qf
    go_wp2_with (go_at_call 14; refine (HEQ.out).mono ?_; rintro e w6 ⟨rfl, h6⟩; have H6 := Lib.hid (HG2.out _ h6); clear h6)
    rw [← HPB.out, if_neg HN.out]
    exact ⟨rfl, H6.out⟩
end Go.Proofs.YtieaamlpadlfeaaGreatDoor
