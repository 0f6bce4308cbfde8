/- Whether two steps are the same: the document's Same walked. Conditions: none. (printed by tbs.gen.py) -/
import Derived.Test.YtieaamlpadlfeaaGreatDoorTbE
import Derived.Deep.QuietTactic
import Derived.Deep.DeepCutAuto
namespace Go.Proofs.YtieaamlpadlfeaaGreatDoor
open Go Go.MapKept Go.RowKit Go.Proofs

attribute [local go_sem] Oper.semAt_some

theorem ne_call (x y : CallM) (w : World) : (binOp .neq 24 (callV x) (callV y)).run Tryz.prog w = .ok (.bool (!decide (x = y))) w := by
  obtain ⟨a, b, c, d⟩ := x
  obtain ⟨a', b', c', d'⟩ := y
  have e : decide ((⟨a, b, c, d⟩ : CallM) = ⟨a', b', c', d'⟩) = ((a == a') && ((b == b') && ((c == c') && (d == d')))) := by
    by_cases h1 : a = a' <;> by_cases h2 : b = b' <;> by_cases h3 : c = c' <;> by_cases h4 : d = d' <;> simp [h1, h2, h3, h4]
  rw [e]
  simp [go_sem]
  repeat' split
  all_goals
    simp_all
theorem guard_ne (x y : CallM) (w : World) (o1 o2 : Operand) : (eqGuard .neq 24 o1 o2 (callV x) (callV y)).run Tryz.prog w = .ok () w := by
  simp [go_sem, eqGuard]
set_option maxRecDepth 100000 in
set_option maxHeartbeats 8000000 in
theorem same_any {F : Heaplet} {w : World} {v1 v2 : Value} (s : Sat w F) (x y : StepM) (h1 : FtAt F v1 x.fates) (h2 : FtAt F v2 y.fates) (hl1 : x.fates.length ≤ 1000000) (hl2 : y.fates.length ≤ 1000000) :
    Calls Tryz.prog 17 #[stepV x v1, stepV y v2] w (Ret (.bool (decide (x = y))) (fun W => Sat W F)) := by
  obtain ⟨k, c, u, n, fs, ⟨ck, cp, cs, d⟩⟩ := x
  obtain ⟨yk, ycl, yu, yn, yfs, ⟨yck, ycp, ycs, yd⟩⟩ := y
  simp only at h1 h2 hl1 hl2
  obtain ⟨a1, c1, rfl, -⟩ := id h1
  obtain ⟨a2, c2, rfl, -⟩ := id h2
  obtain ⟨res, hres⟩ : ∃ res, decide ((⟨k, c, u, n, fs, ⟨ck, cp, cs, d⟩⟩ : StepM) = ⟨yk, ycl, yu, yn, yfs, ⟨yck, ycp, ycs, yd⟩⟩) = res := ⟨_, rfl⟩
  rw [hres]
  have s2 := (s.new (stepO k c u n (.slice a1 fs.length c1) ck cp cs d)).new (stepO yk ycl yu yn (.slice a2 yfs.length c2) yck ycp ycs yd)
  rw [World.size_alloc] at s2
  obtain ⟨x0, x1, x2, x3, x4, x5, x6, x7, x8⟩ := nine_of s2.tail
  obtain ⟨y0, y1, y2, y3, y4, y5, y6, y7, y8⟩ := nine_of s2
  have H1 := Lib.hid h1
  have H2 := Lib.hid h2
  have S2 := Lib.hid s2
  have HRES := Lib.hid hres
  have n1 : (fs.length : Int) ≤ 1000000 := by omega
  have n2 : (yfs.length : Int) ≤ 1000000 := by omega
  clear s h1 h2 hl1 hl2 s2 hres
  have hgd : ∀ (o1 o2 : Operand) (a b : CallM) W, (eqGuard .neq 24 o1 o2 (callV a) (callV b)).run Tryz.prog W = .ok () W := fun o1 o2 a b W => guard_ne a b W o1 o2
  go_enter Tryz.func17, Tryz.ntmps17
  go_upto_region 1 with (fail)
  generalize (w.alloc (stepO k c u n (.slice a1 fs.length c1) ck cp cs d)).alloc (stepO yk ycl yu yn (.slice a2 yfs.length c2) yck ycp ycs yd) = W2 at *
  generalize w.heap.size = A at *
  by_cases qk : ¬ k = yk
  · have mk : (k != yk) = true := by rw [bne_iff_ne]; exact qk
    obtain rfl : res = false := by rw [← HRES.out]; exact decide_eq_false (fun h => by simp only [StepM.mk.injEq, CallM.mk.injEq] at h; exact qk h.1)
    clear HRES qk H1 H2 n1 n2
    go_wp2_with fail
    go_ret
    exact ⟨rfl, S2.out.tail.tail⟩
  have qk := Decidable.not_not.1 qk
  have mk : (k != yk) = false := by rw [qk, bne_self_eq_false]
  by_cases qc : ¬ c = ycl
  · have mc : (c != ycl) = true := by rw [bne_iff_ne]; exact qc
    obtain rfl : res = false := by rw [← HRES.out]; exact decide_eq_false (fun h => by simp only [StepM.mk.injEq, CallM.mk.injEq] at h; exact qc h.2.1)
    clear HRES qc H1 H2 n1 n2
    go_wp2_with fail
    go_ret
    exact ⟨rfl, S2.out.tail.tail⟩
  have qc := Decidable.not_not.1 qc
  have mc : (c != ycl) = false := by rw [qc, bne_self_eq_false]
  by_cases qu : ¬ u = yu
  · have mu : (u != yu) = true := by rw [bne_iff_ne]; exact qu
    have mu2 : (u == yu) = false := beq_eq_false_iff_ne.2 qu
    have mu3 : (u = yu) = False := eq_false qu
    obtain rfl : res = false := by rw [← HRES.out]; exact decide_eq_false (fun h => by simp only [StepM.mk.injEq, CallM.mk.injEq] at h; exact qu h.2.2.1)
    clear HRES qu H1 H2 n1 n2
    go_wp2_with fail
    go_ret
    exact ⟨rfl, S2.out.tail.tail⟩
  have qu := Decidable.not_not.1 qu
  have mu : (u != yu) = false := by rw [qu, bne_self_eq_false]
  have mu2 : (u == yu) = true := beq_iff_eq.2 qu
  have mu3 : (u = yu) = True := eq_true qu
  by_cases qn : ¬ n = yn
  · have mn : (n != yn) = true := by rw [bne_iff_ne]; exact qn
    obtain rfl : res = false := by rw [← HRES.out]; exact decide_eq_false (fun h => by simp only [StepM.mk.injEq, CallM.mk.injEq] at h; exact qn h.2.2.2.1)
    clear HRES qn H1 H2 n1 n2
    go_wp2_with fail
    go_ret
    exact ⟨rfl, S2.out.tail.tail⟩
  have qn := Decidable.not_not.1 qn
  have mn : (n != yn) = false := by rw [qn, bne_self_eq_false]
  have Q0 := Lib.hid (And.intro qk (And.intro qc (And.intro qu qn)))
  clear qk qc qu qn
  by_cases qx : ¬ (⟨ck, cp, cs, d⟩ : CallM) = ⟨yck, ycp, ycs, yd⟩
  · have hec : ∀ W, (binOp .neq 24 (callV ⟨ck, cp, cs, d⟩) (callV ⟨yck, ycp, ycs, yd⟩)).run Tryz.prog W = .ok (.bool true) W := fun W => by rw [ne_call, decide_eq_false qx]; rfl
    obtain rfl : res = false := by rw [← HRES.out]; exact decide_eq_false (fun h => by simp only [StepM.mk.injEq] at h; exact qx h.2.2.2.2.2)
    have hg2 : ∀ o1 o2 W, (eqGuard .neq 24 o1 o2 (callV ⟨ck, cp, cs, d⟩) (callV ⟨yck, ycp, ycs, yd⟩)).run Tryz.prog W = .ok () W := fun o1 o2 W => hgd o1 o2 _ _ W
    clear HRES qx H1 H2 n1 n2 hgd
    go_wp2_with fail
    go_ret
    exact ⟨rfl, S2.out.tail.tail⟩
  have qx := Decidable.not_not.1 qx
  have hec : ∀ W, (binOp .neq 24 (callV ⟨ck, cp, cs, d⟩) (callV ⟨yck, ycp, ycs, yd⟩)).run Tryz.prog W = .ok (.bool false) W := fun W => by rw [ne_call, decide_eq_true qx]; rfl
  have hg2 : ∀ o1 o2 W, (eqGuard .neq 24 o1 o2 (callV ⟨ck, cp, cs, d⟩) (callV ⟨yck, ycp, ycs, yd⟩)).run Tryz.prog W = .ok () W := fun o1 o2 W => hgd o1 o2 _ _ W
  have QX := Lib.hid qx
  clear qx hgd
  by_cases ql : ¬ fs.length = yfs.length
  · have ml : ((fs.length : Int) != (yfs.length : Int)) = true := by rw [bne_iff_ne]; omega
    obtain rfl : res = false := by rw [← HRES.out]; exact decide_eq_false (fun h => by simp only [StepM.mk.injEq] at h; exact ql (by rw [h.2.2.2.2.1]))
    clear HRES ql H1 H2 n1 n2
    go_wp2_with fail
    go_ret
    exact ⟨rfl, S2.out.tail.tail⟩
  have ql := Decidable.not_not.1 ql
  have ml : ((fs.length : Int) != (yfs.length : Int)) = false := by rw [ql, bne_self_eq_false]
  have QL2 := Lib.hid ql
  have hdec : res = decide (fs = yfs) := by
    rw [← HRES.out]
    obtain ⟨e1, e2, e3, e4⟩ := Q0.out
    have e5 := QX.out
    by_cases e : fs = yfs
    · rw [decide_eq_true e, decide_eq_true]
      rw [e1, e2, e3, e4, e5, e]
    · rw [decide_eq_false e, decide_eq_false]
      intro h
      simp only [StepM.mk.injEq] at h
      exact e h.2.2.2.2.1
  have HD := Lib.hid hdec
  clear ql HRES hdec
  go_upto_block 0 with (fail)
  clear x0 x1 x2 x3 x5 x6 x7 x8 y0 y1 y2 y3 y5 y6 y7 y8 mk mc mu mu2 mu3 mn hec hg2 ml
  go_wp2_with fail
  go_loopw [5] (fun v5 wr => ∃ i : Nat, i ≤ fs.length ∧ v5 = .int .i64 (i : Int) ∧ fs.take i = yfs.take i ∧ Sat wr (.blk (A + 1) (stepO yk ycl yu yn (.slice a2 yfs.length c2) yck ycp ycs yd) :: .blk A (stepO k c u n (.slice a1 fs.length c1) ck cp cs d) :: F)) (fun v5 _ => 2000000 - (RowKit.intOf v5).toNat)
  case atStart => exact ⟨0, by omega, rfl, by simp, S2.out⟩
  case round =>
    clear S2 x4 y4
    obtain ⟨i, hi, rfl, htk, hs⟩ := hrel
    have i0 : (0 : Int) ≤ (i : Int) := by omega
    by_cases hil : i < fs.length
    · have i1 : (i : Int) < (fs.length : Int) := by omega
      have i2 : (i : Int) < (yfs.length : Int) := by have := QL2.out; omega
      have i9 : i < 2000000 := by omega
      obtain ⟨f, hf⟩ : ∃ f, fs[i]? = some f := ⟨_, List.getElem?_eq_getElem hil⟩
      obtain ⟨f2, hf2⟩ : ∃ f, yfs[i]? = some f := ⟨_, List.getElem?_eq_getElem (by have := QL2.out; omega)⟩
      obtain ⟨a1', c1', e1, hu1⟩ := H1.out
      obtain ⟨a2', c2', e2, hu2⟩ := H2.out
      cases e1
      cases e2
      obtain ⟨g1, o1, rfl, hc1⟩ := hu1 i f hf
      obtain ⟨g2, o2, rfl, hc2⟩ := hu2 i f2 hf2
      have x4 := (nine_of hs.tail).2.2.2.2.1
      have y4 := (nine_of hs).2.2.2.2.1
      have u1 := hc1 wr hs.tail.tail
      have u2 := hc2 wr hs.tail.tail
      have HS := Lib.hid hs
      have HT := Lib.hid (And.intro htk (And.intro hf hf2))
      have HI := Lib.hid hil
      clear hu1 hu2 hc1 hc2 hs htk hf hf2 hil hi H1 H2
      by_cases hff : f = f2
      · have m1 : (f != f2) = false := by rw [hff, bne_self_eq_false]
        have HF := Lib.hid hff
        clear hff
        go_upto_region 6 with (fail)
        go_quiet (fail)
        go_wp2_with fail
        refine ⟨⟨i + 1, HI.out, by simp, ?_, HS.out.drew⟩, by simp only [RowKit.intOf]; omega⟩
        rw [List.take_add_one, List.take_add_one, HT.out.1, HT.out.2.1, HT.out.2.2, HF.out]
      · have m1 : (f != f2) = true := by rw [bne_iff_ne]; exact hff
        obtain rfl : res = false := by
          rw [HD.out]
          refine decide_eq_false (fun h => hff ?_)
          have h1 := HT.out.2.1
          rw [h, HT.out.2.2] at h1
          exact (Option.some.inj h1).symm
        clear hff HD
        go_upto_region 6 with (fail)
        go_quiet (fail)
        go_wp2_with fail
        go_ret
        exact ⟨rfl, HS.out.drew.tail.tail⟩
    · obtain rfl : i = fs.length := by omega
      have x4 := (nine_of hs.tail).2.2.2.2.1
      obtain rfl : res = true := by
        rw [HD.out]
        refine decide_eq_true ?_
        rw [List.take_length, QL2.out, List.take_length] at htk
        exact htk
      have HS := Lib.hid hs.tail.tail
      clear hs htk hil hi HD H1 H2
      go_wp2_with fail
      go_ret
      exact ⟨rfl, HS.out⟩
end Go.Proofs.YtieaamlpadlfeaaGreatDoor
