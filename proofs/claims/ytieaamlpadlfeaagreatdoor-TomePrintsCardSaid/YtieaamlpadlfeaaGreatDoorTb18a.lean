/- A step printed, a great step; what both TomeBack and TomePrints need. Conditions: none. -/
import Derived.Test.YtieaamlpadlfeaaGreatDoorTb16
import Derived.Test.YtieaamlpadlfeaaGreatDoorTbS
import Derived.Test.YtieaamlpadlfeaaGreatDoorTmL
import Derived.Test.YtieaamlpadlfeaaGreatDoorTmArg
import Derived.Deep.DeepCutAuto
namespace Go.Proofs.YtieaamlpadlfeaaGreatDoor
open Go Go.MapKept Go.RowKit Go.Proofs

attribute [local go_sem] Oper.semAt_some

theorem print_at {F : Heaplet} {w : World} {fv : Value} (hL : LibF F) (s : Sat w F) (x : StepM) (hft : FtAt F fv x.fates) (ho : StepOk x) (hf : x.fates.length ≤ 10000) (hd : x.call.data.length ≤ 10000) : Calls Tryz.prog 6 #[stepV x fv] w (PrintRet F (printS x)) := by
  obtain ⟨h1, h2, h3, h4, h5, h6, h7⟩ := ho
  have h := print_any hL s x hft h1 h2 h3 ⟨h7, hf⟩ h4 h5 h6 hd
  rw [← printP_res] at h
  exact h
theorem print_len {x : StepM} {l : Bs} (ho : StepOk x) (h : printS x = some l) : l.length ≤ 100 + 3 * x.call.data.length + 22 * x.fates.length := by
  rw [printP_res] at h
  split at h
  · cases h
    exact line_len ho.2.1 ho.2.2.1 ho.2.2.2.2.2.2 ho.2.2.2.2.1 ho.2.2.2.2.2.1
  · cases h
theorem parse_print {x : StepM} {l : Bs} (h : printS x = some l) : parseR (wordsL l) = some x := parseR_iff.2 (printS_iff.1 h)
theorem print_parse {x : StepM} {l : Bs} (h : parseR (wordsL l) = some x) : printS x = some l := printS_iff.2 (parseR_iff.1 h)
theorem lines_eq {x y : StepM} {l m : Bs} (h : printS x = some l) (k : printS y = some m) : (l == m) = decide (x = y) := by
  by_cases e : x = y
  · subst e
    rw [h] at k
    cases k
    simp
  · rw [decide_eq_false e, beq_eq_false_iff_ne]
    rintro rfl
    exact e (StepL.only (printS_iff.1 h) (printS_iff.1 k)).symm
theorem parse_ok {x : StepM} {l : Bs} (h : parseR (wordsL l) = some x) : StepOk x := by
  have h1 := parseR_iff.1 h
  revert h1
  generalize wordsL l = ws
  intro h1
  have z : I64 0 := by decide
  have i1 : I64 1 := by decide
  have i3 : I64 3 := by decide
  have i4 : I64 4 := by decide
  have i6 : I64 6 := by decide
  have i7 : I64 7 := by decide
  have sm : ∀ k : Nat, k ≤ 10 → I64 (k : Int) := fun k hk => ⟨by omega, by omega⟩
  have nf : ∀ f ∈ ([] : List Int), I64 f := fun f hf => by cases hf
  cases h1 with
  | call c x ws hc hx =>
    cases hx with
    | alone k hk => exact ⟨i1, hc, z, sm k (by omega), z, z, nf⟩
    | paged k p s hk hp hs => exact ⟨i1, hc, z, sm k (by omega), hp, hs, nf⟩
    | insert p d hp => exact ⟨i1, hc, z, i3, hp, z, nf⟩
    | update p s d hp hs => exact ⟨i1, hc, z, i4, hp, hs, nf⟩
    | back s hs => exact ⟨i1, hc, z, i7, z, hs, nf⟩
  | move k up c n hk hc hn => exact ⟨sm k (by omega), hc, hn, z, z, z, nf⟩
  | tick k c hk hc => exact ⟨sm k (by omega), hc, z, z, z, z, nf⟩
  | crash c n hc hn => exact ⟨i6, hc, hn, z, z, z, nf⟩
  | start c n fs hc hn hf => exact ⟨i7, hc, hn, z, z, z, hf⟩
  | bare k hk => exact ⟨sm k (by omega), z, z, z, z, z, nf⟩
set_option maxRecDepth 100000 in
theorem great_any {F : Heaplet} {w : World} {v : Value} (s : Sat w F) (x : StepM) (h : FtAt F v x.fates) : Calls Tryz.prog 5 #[stepV x v] w (Ret (.bool (decide (4096 < x.call.data.length ∨ 100 < x.fates.length))) (fun W => Sat W F)) := by
  obtain ⟨k, c, u, n, fs, ⟨ck, cp, cs, d⟩⟩ := x
  obtain ⟨a, cp', rfl, -⟩ := id h
  have s1 := s.new (stepO k c u n (.slice a fs.length cp') ck cp cs d)
  obtain ⟨x0, x1, x2, x3, x4, x5, x6, x7, x8⟩ := nine_of s1
  have HS := Lib.hid s1.tail
  clear s h s1
  by_cases h1 : 4096 < d.length
  · have k1 : (4096 : Int) < (d.length : Int) := by omega
    rw [decide_eq_true (.inl h1)]
    clear h1
    go_enter Tryz.func5, Tryz.ntmps5
    go_wp2_with fail
    go_ret
    exact ⟨rfl, HS.out⟩
  have k1 : ((4096 : Int) < (d.length : Int)) = False := eq_false (by omega)
  by_cases h2 : 100 < fs.length
  · have k2 : (100 : Int) < (fs.length : Int) := by omega
    rw [decide_eq_true (.inr h2)]
    clear h1 h2
    go_enter Tryz.func5, Tryz.ntmps5
    go_wp2_with fail
    go_ret
    exact ⟨rfl, HS.out⟩
  have k2 : ((100 : Int) < (fs.length : Int)) = False := eq_false (by omega)
  rw [decide_eq_false (fun h => h.elim h1 h2)]
  clear h1 h2
  go_enter Tryz.func5, Tryz.ntmps5
  go_wp2_with fail
  go_ret
  exact ⟨rfl, HS.out⟩
end Go.Proofs.YtieaamlpadlfeaaGreatDoor
