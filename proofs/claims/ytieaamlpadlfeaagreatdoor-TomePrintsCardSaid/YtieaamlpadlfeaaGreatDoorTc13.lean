/- The document's Print walked. Conditions: none. -/
import Derived.Test.YtieaamlpadlfeaaGreatDoorTc12
import Derived.Test.YtieaamlpadlfeaaGreatDoorTb18a
namespace Go.Proofs.YtieaamlpadlfeaaGreatDoor
open Go Go.MapKept Go.RowKit Go.Proofs

attribute [local go_sem] Oper.semAt_some

theorem wrR_len {x : StepM} (ho : StepOk x) (hf : x.fates.length ≤ 10000) (hd : x.call.data.length ≤ 10000) : (wrR x).length ≤ 900000 := by
  obtain ⟨k, c, u, n, fs, ⟨ck, cp, cs, d⟩⟩ := x
  obtain ⟨h1, h2, h3, h4, h5, h6, h7⟩ := ho
  simp only at h1 h2 h3 h4 h5 h6 h7 hf hd
  have a1 := name_len k.toNat
  have a2 := cname_len ck.toNat
  have a3 := itoa_len h2
  have a4 := itoa_len h3
  have a5 : ∀ (f : Bs), (fillW f ⟨ck, cp, cs, d⟩).length ≤ f.length * 40000 := by
    intro f
    have b1 := itoa_len h5
    have b2 := itoa_len h6
    have b3 := wordL_len d
    induction f with
    | nil => simp [fillW]
    | cons b t ih =>
      simp only [fillW, List.length_append, List.length_cons]
      have : (if b = 112 then (32 : UInt8) :: Lib.itoa cp else if b = 115 then 32 :: Lib.itoa cs else 32 :: wordL d).length ≤ 30010 := by
        split
        · simp only [List.length_cons]; omega
        · split <;> simp only [List.length_cons] <;> omega
      omega
  have a6 := a5 (formR ck.toNat)
  have a7 := form_len ck.toNat
  have a8 : (fs.map fun f => (32 : UInt8) :: Lib.itoa f).flatten.length ≤ fs.length * 22 := by
    clear hf a5 a6
    induction fs with
    | nil => simp
    | cons f t ih =>
      have b := itoa_len (h7 f (.head _))
      have := ih (fun g hg => h7 g (.tail _ hg))
      simp only [List.map_cons, List.flatten_cons, List.length_append, List.length_cons]
      omega
  have a9 : (wayW u).length ≤ 4 := by cases u <;> decide
  unfold wrR
  simp only
  have t1 : (nameOf stepNames k.toNat ++ (if 1 < k ∧ k < 5 then (32 : UInt8) :: wayW u else [])).length ≤ 20 := by
    split <;> simp only [List.length_append, List.length_cons, List.length_nil] <;> omega
  split
  · omega
  · split
    · split
      · simp
      · simp only [List.length_append, List.length_cons] at t1 ⊢
        omega
    · have t2 : (if k ≠ 5 ∧ k ≠ 8 then (32 : UInt8) :: Lib.itoa n else []).length ≤ 22 := by
        split <;> simp only [List.length_cons, List.length_nil] <;> omega
      simp only [List.length_append, List.length_cons] at t1 t2 ⊢
      omega
set_option maxRecDepth 100000 in
set_option maxHeartbeats 4000000 in
theorem rprint_any {F : Heaplet} {w : World} {fv : Value} (s : Sat w F) (x : StepM) (hft : FtAt F fv x.fates) (ho : StepOk x) (hf : x.fates.length ≤ 10000) (hd : x.call.data.length ≤ 10000) : Calls Tryz.prog 7 #[stepV x fv] w (PrintRet F (printS x)) := by
  have HWL := Lib.hid (wrR_len ho hf hd)
  rw [printR_res]
  obtain ⟨PO, hPO⟩ : ∃ PO, parseR (wordsL (wrR x)) = PO := ⟨_, rfl⟩
  rw [hPO]
  have HBD : Hid (∀ y, PO = some y → y.fates.length ≤ 1000000) := Lib.hid (fun y hy => by
    have := parse_fates (hPO.trans hy)
    have := HWL.out
    omega)
  obtain ⟨L, hLL⟩ : ∃ L, wrR x = L := ⟨_, rfl⟩
  rw [hLL]
  obtain ⟨k, c, u, n, fs, ⟨ck, cp, cs, d⟩⟩ := x
  obtain ⟨hk, hc, hn, hxk, hxp, hxs, hfs⟩ := ho
  simp only at hft hf hd hk hc hn hxk hxp hxs hfs
  obtain ⟨fa, fc, rfl, -⟩ := id hft
  have s1 := s.new (stepO k c u n (.slice fa fs.length fc) ck cp cs d)
  obtain ⟨A, hA⟩ : ∃ A, w.heap.size = A := ⟨_, rfl⟩
  rw [hA] at s1
  obtain ⟨x0, x1, x2, x3, x4, x5, x6, x7, x8⟩ := nine_of s1
  by_cases h1 : 1 ≤ k ∧ k ≤ 10
  · have m1 : (k < 1) = False := eq_false (by omega)
    have m2 : ((10 : Int) < k) = False := eq_false (by omega)
    have HWR : Hid (Calls Tryz.prog 15 #[.agg #[.int .i64 k, .int .i64 c, .bool u, .int .i64 n, .slice fa fs.length fc, .int .i64 ck, .int .i64 cp, .int .i64 cs, .string ⟨d.toArray⟩]] (w.alloc (stepO k c u n (.slice fa fs.length fc) ck cp cs d)) (Ret (kL L) (fun W => Sat W (.blk A (stepO k c u n (.slice fa fs.length fc) ck cp cs d) :: F)))) := Lib.hid (by
      have h := rwritten_any s1 ⟨k, c, u, n, fs, ⟨ck, cp, cs, d⟩⟩ (hft.mono (fun W hW => hW.tail)) h1 hc hn ⟨hfs, hf⟩ hxk hxp hxs (by simp only; omega)
      rw [hLL] at h
      exact h)
    have HPA : Hid (∀ W K, Sat W K → Calls Tryz.prog 16 #[kL L] W (ParseRet K PO)) := Lib.hid (fun W K hW => by
      have h := refparse_any hW L (by rw [← hLL]; exact HWL.out)
      rw [← hLL, hPO] at h
      rw [← hLL]
      exact h)
    have HSA : Hid (∀ W K y v, Sat W K → FtAt K v y.fates → FtAt K (.slice fa fs.length fc) fs → PO = some y → Calls Tryz.prog 17 #[stepV y v, stepV ⟨k, c, u, n, fs, ⟨ck, cp, cs, d⟩⟩ (.slice fa fs.length fc)] W (Ret (.bool (decide (y = ⟨k, c, u, n, fs, ⟨ck, cp, cs, d⟩⟩))) (fun W => Sat W K))) := Lib.hid (fun W K y v hW h1 h2 hy => same_any hW y ⟨k, c, u, n, fs, ⟨ck, cp, cs, d⟩⟩ h1 h2 (HBD.out y hy) (by simp only; omega))
    have HFT := Lib.hid hft
    cases PO with
    | none =>
      rw [if_neg (fun h => by cases h.2)]
      clear hPO hLL hft hk hc hn hxk hxp hxs hfs h1 HBD hf hd s s1 HWL HSA HFT
      go_enter Tryz.func7, Tryz.ntmps7
      go_wp2_with (first
        | (go_at_call 16; refine (HPA.out _ _ S2.out).mono ?_; rintro e w3 ⟨rfl, h3⟩; have S3 := Lib.hid (h3.new zeroO); clear h3)
        | (go_at_call 15; refine (HWR.out).mono ?_; rintro e w2 ⟨rfl, h2⟩; have S2 := Lib.hid h2; clear h2))
      go_ret2
      exact ⟨rfl, S3.out.tail.tail⟩
    | some y =>
      obtain ⟨q, hq⟩ : ∃ q, decide (y = (⟨k, c, u, n, fs, ⟨ck, cp, cs, d⟩⟩ : StepM)) = q := ⟨_, rfl⟩
      have e : (if (1 ≤ k ∧ k ≤ 10) ∧ some y = some (⟨k, c, u, n, fs, ⟨ck, cp, cs, d⟩⟩ : StepM) then some L else none) = if q = true then some L else none := by
        rw [← hq]
        by_cases h : y = ⟨k, c, u, n, fs, ⟨ck, cp, cs, d⟩⟩
        · rw [if_pos ⟨h1, congrArg some h⟩, if_pos (decide_eq_true h)]
        · rw [if_neg (fun h9 => h (Option.some.inj h9.2)), if_neg (by rw [decide_eq_false h]; decide)]
      have e' : PrintRet F (if (1 ≤ k ∧ k ≤ 10) ∧ some y = some (⟨k, c, u, n, fs, ⟨ck, cp, cs, d⟩⟩ : StepM) then some L else none) = PrintRet F (if q = true then some L else none) := by rw [e]
      rw [e']
      have HSB : Hid (∀ W K v, Sat W K → FtAt K v y.fates → FtAt K (.slice fa fs.length fc) fs → Calls Tryz.prog 17 #[stepV y v, stepV ⟨k, c, u, n, fs, ⟨ck, cp, cs, d⟩⟩ (.slice fa fs.length fc)] W (Ret (.bool q) (fun W => Sat W K))) := Lib.hid (fun W K v hW h1 h2 => by
        have h := HSA.out W K y v hW h1 h2 rfl
        rw [hq] at h
        exact h)
      clear hPO hLL hft hk hc hn hxk hxp hxs hfs h1 HBD hf hd s s1 HWL HSA e e' hq
      go_enter Tryz.func7, Tryz.ntmps7
      go_upto_region 5 with (first
        | (go_at_call 16; refine (HPA.out _ _ S2.out).mono ?_; rintro e w3 ⟨v3, p3, rfl, hf3, hs3⟩; obtain ⟨a3, n3, rfl, -⟩ := id hf3; have S3 := Lib.hid (hs3.new (stepO y.kind y.client y.up y.n (.slice a3 y.fates.length n3) y.call.kind y.call.page y.call.slot y.call.data)); have F3 := Lib.hid hf3; clear hf3 hs3)
        | (go_at_call 15; refine (HWR.out).mono ?_; rintro e w2 ⟨rfl, h2⟩; have S2 := Lib.hid h2; clear h2))
      clear x0 x1 x2 x3 x4 x5 x6 x7 x8 HPA HWR S2
      have HSC := Lib.hid (HSB.out _ _ _ S3.out (F3.out.mono (fun W hW => hW.tail.lft)) (HFT.out.mono (fun W hW => hW.tail.right.tail)))
      obtain ⟨x0, x1, x2, x3, x4, x5, x6, x7, x8⟩ := nine_of S3.out
      obtain ⟨y0, y1, y2, y3, y4, y5, y6, y7, y8⟩ := nine_of S3.out.tail.right
      clear HSB F3 HFT
      cases q with
      | false =>
        go_wp2_with (go_at_call 17; refine (HSC.out).mono ?_; rintro e w4 ⟨rfl, h4⟩; have S4 := Lib.hid h4; clear h4)
        go_ret2
        exact ⟨rfl, S4.out.tail.right.tail⟩
      | true =>
        go_wp2_with (go_at_call 17; refine (HSC.out).mono ?_; rintro e w4 ⟨rfl, h4⟩; have S4 := Lib.hid h4; clear h4)
        go_ret2
        exact ⟨rfl, S4.out.tail.right.tail⟩
  · rw [if_neg (fun h => h1 h.1)]
    have S1 := Lib.hid s1.tail
    have h2 : k < 1 ∨ 10 < k := by omega
    clear hPO hLL hft hk hc hn hxk hxp hxs hfs h1 HBD hf hd s s1 HWL
    rcases h2 with h2 | h2
    · go_enter Tryz.func7, Tryz.ntmps7
      go_wp2_with fail
      go_ret2
      exact ⟨rfl, S1.out⟩
    · have m1 : (k < 1) = False := eq_false (by omega)
      go_enter Tryz.func7, Tryz.ntmps7
      go_wp2_with fail
      go_ret2
      exact ⟨rfl, S1.out⟩
end Go.Proofs.YtieaamlpadlfeaaGreatDoor
