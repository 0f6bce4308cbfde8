/- TomeScripts walked. Conditions: none. -/
import Derived.Test.YtieaamlpadlfeaaDoorTb15
import Derived.Test.YtieaamlpadlfeaaDoorTb16
import Derived.Test.YtieaamlpadlfeaaDoorTbS
import Derived.Test.YtieaamlpadlfeaaDoorTc10
import Derived.Test.YtieaamlpadlfeaaDoorTmL
import Derived.StillTailTactics
namespace Go.Proofs.YtieaamlpadlfeaaDoor
open Go Go.MapKept Go.RowKit Go.Proofs

attribute [local go_sem] Oper.semAt_some

theorem script_mem {ls : List Bs} {z : StepM} (h : z ∈ (scriptS ls).1) : ∃ l ∈ ls, parseR (wordsL l) = some z := by
  induction ls with
  | nil => cases h
  | cons a t ih =>
    simp only [scriptS] at h
    by_cases hm : mute a = true
    · rw [if_pos hm] at h
      obtain ⟨l, h1, h2⟩ := ih h
      exact ⟨l, .tail _ h1, h2⟩
    · rw [if_neg hm] at h
      cases hp : parseR (wordsL a) with
      | none =>
        rw [hp] at h
        obtain ⟨l, h1, h2⟩ := ih h
        exact ⟨l, .tail _ h1, h2⟩
      | some y =>
        rw [hp] at h
        rcases List.mem_cons.1 h with rfl | h
        · exact ⟨a, .head _, hp⟩
        · obtain ⟨l, h1, h2⟩ := ih h
          exact ⟨l, .tail _ h1, h2⟩
/-- A step in a row, cell by cell. -/
theorem StAt.row {F : Heaplet} {v : Value} {L : List StepM} (h : StAt F v L) {i : Nat} {z : StepM} (hi : L[i]? = some z) : ∃ g off cap a c, v = .slice (some ⟨g, off, none⟩) L.length cap ∧ FtAt F (.slice a z.fates.length c) z.fates ∧ ∀ w, Sat w F →
    w.cell? ⟨g, off + i * 9, none⟩ = some (kI z.kind) ∧ w.cell? ⟨g, off + i * 9 + 1, none⟩ = some (kI z.client) ∧ w.cell? ⟨g, off + i * 9 + 2, none⟩ = some (.bool z.up) ∧ w.cell? ⟨g, off + i * 9 + 3, none⟩ = some (kI z.n) ∧ w.cell? ⟨g, off + i * 9 + 4, none⟩ = some (.slice a z.fates.length c) ∧ w.cell? ⟨g, off + i * 9 + 5, none⟩ = some (kI z.call.kind) ∧ w.cell? ⟨g, off + i * 9 + 6, none⟩ = some (kI z.call.page) ∧ w.cell? ⟨g, off + i * 9 + 7, none⟩ = some (kI z.call.slot) ∧ w.cell? ⟨g, off + i * 9 + 8, none⟩ = some (kL z.call.data) := by
  obtain ⟨a, cap, rfl, hu⟩ := h
  obtain ⟨g, off, fv, rfl, h1, h2⟩ := hu i z hi
  obtain ⟨fa, fc, rfl, -⟩ := id h1
  exact ⟨g, off, cap, fa, fc, rfl, h1, fun w hw => ⟨h2 w hw 0 _ rfl, h2 w hw 1 _ rfl, h2 w hw 2 _ rfl, h2 w hw 3 _ rfl, h2 w hw 4 _ rfl, h2 w hw 5 _ rfl, h2 w hw 6 _ rfl, h2 w hw 7 _ rfl, h2 w hw 8 _ rfl⟩⟩
set_option maxRecDepth 100000 in
set_option maxHeartbeats 4000000 in
theorem scripts_walk {F : Heaplet} {w : World} (hL : LibF F) (s : Sat w F) (x : Bs) : Calls Tryd.prog 4 #[kL x] w (Ret (.bool true) (fun W => Sat W F)) := by
  have HA := Lib.hid (awake_any hL s)
  have HL := Lib.hid hL
  clear s hL
  by_cases hx : 8192 < x.length ∧ x.length ≤ 131072
  · have k1 : (8192 : Int) < (x.length : Int) := by omega
    have k2 : (x.length : Int) ≤ 131072 := by omega
    clear hx
    go_enter Tryd.func4, Tryd.ntmps4
    go_wp2_with (go_at_call 7; refine (HA.out).mono ?_; rintro e w1 ⟨rfl, h1⟩; have T1 := Lib.hid h1; clear h1)
    go_ret
    exact ⟨rfl, T1.out⟩
  obtain ⟨c, L, n, hL6, hLf, h1, h2⟩ : ∃ (c : Int) (L : List StepM) (n : Int), L.length ≤ 600 ∧ (∀ z ∈ L, z.fates.length ≤ 1000000) ∧ (∀ W, Sat W F → Calls Tryd.prog 13 #[kL x] W (ScriptRet F c L n)) ∧ (∀ W K, Sat W K → Calls Tryd.prog 14 #[kL x] W (ScriptRet K c L n)) := by
    by_cases hx2 : x.length ≤ 8192
    · have h1 : ∀ W, Sat W F → _ := fun W hW => script_any HL.out hW x (by omega)
      have h2 : ∀ W K, Sat W K → _ := fun W K hW => rscript_any hW x (by omega)
      by_cases h6 : (scriptS (cutL 10 x)).1.length ≤ 600
      · simp only [if_pos h6] at h1 h2
        refine ⟨0, _, _, h6, fun z hz => ?_, h1, h2⟩
        obtain ⟨l, hl, hp⟩ := script_mem hz
        have := parse_fates hp
        have := cut_len 10 x l hl
        omega
      · simp only [if_neg h6] at h1 h2
        exact ⟨51, [], 0, by decide, (fun z hz => by cases hz), h1, h2⟩
    · exact ⟨5, [], 0, by decide, (fun z hz => by cases hz), fun W hW => script_long hW x (by omega), fun W K hW => rscript_long hW x (by omega)⟩
  have H1 := Lib.hid h1
  have H2 := Lib.hid h2
  have HLF := Lib.hid hLf
  have hg : ((8192 : Int) < (x.length : Int)) ∧ (((x.length : Int) ≤ 131072) = False) ∨ (((8192 : Int) < (x.length : Int)) = False) := by
    by_cases h : (8192 : Int) < (x.length : Int)
    · exact .inl ⟨h, eq_false (by omega)⟩
    · exact .inr (eq_false h)
  clear hx h1 h2 hLf
  go_enter Tryd.func4, Tryd.ntmps4
  go_upto_region 3 with (go_at_call 7; refine (HA.out).mono ?_; rintro e w1 ⟨rfl, h1⟩; have T1 := Lib.hid h1; clear h1)
  clear HA
  go_cut [19] (fun v wx => v = .bool false ∧ wx = w1)
  case first =>
    rcases hg with ⟨k1, k2⟩ | k1
    · go_wp2_with fail
      go_meet
      exact ⟨rfl, rfl⟩
    · go_wp2_with fail
      go_meet
      exact ⟨rfl, rfl⟩
  case rest =>
    obtain ⟨rfl, hww⟩ := hcut
    cases hww
    clear hg
    go_upto_region 7 with (first
      | (go_at_call 14; refine (H2.out _ _ S2.out).mono ?_; intro e w3 h3; obtain ⟨v3, p3, rfl, hst3, hs3⟩ := h3; have S3 := Lib.hid hs3; have V3 := Lib.hid hst3; obtain ⟨a3, c3, rfl, -⟩ := id hst3; clear hs3 hst3)
      | (go_at_call 13; refine (H1.out _ T1.out).mono ?_; intro e w2 h2; obtain ⟨v2, p2, rfl, hst2, hs2⟩ := h2; have S2 := Lib.hid hs2; have V2 := Lib.hid hst2; obtain ⟨a2, c2, rfl, -⟩ := id hst2; clear hs2 hst2))
    obtain ⟨K, hK⟩ : ∃ K, p3 ++ (p2 ++ F) = K := ⟨_, rfl⟩
    have V2' : Hid (StAt K (.slice a2 L.length c2) L) := Lib.hid (V2.out.mono (fun W hW => by rw [← hK] at hW; exact hW.right.lft))
    have V3' : Hid (StAt K (.slice a3 L.length c3) L) := Lib.hid (V3.out.mono (fun W hW => by rw [← hK] at hW; exact hW.lft))
    have HKF : Hid (∀ W, Sat W K → Sat W F) := Lib.hid (fun W hW => by rw [← hK] at hW; exact hW.right.right)
    have S4 : Hid (Sat w3 K) := Lib.hid (by rw [← hK]; exact S3.out)
    clear hK V2 V3 S2 S3 T1 H1 H2
    go_upto_block 0 with (fail)
    go_wp2_with fail
    go_loopw [9] (fun v9 wr => ∃ i : Nat, i ≤ L.length ∧ v9 = .int .i64 (i : Int) ∧ Sat wr K) (fun v9 _ => 10000 - (RowKit.intOf v9).toNat)
    case atStart => exact ⟨0, by omega, rfl, S4.out⟩
    case round =>
      clear S4
      obtain ⟨i, hi, rfl, hs⟩ := hrel
      have HS := Lib.hid hs
      have i0 : (0 : Int) ≤ (i : Int) := by omega
      have l9 : (L.length : Int) ≤ 600 := by omega
      by_cases hil : i < L.length
      · have i1 : (i : Int) < (L.length : Int) := by omega
        have i9 : i < 10000 := by omega
        obtain ⟨z, hz⟩ : ∃ z, L[i]? = some z := ⟨_, List.getElem?_eq_getElem hil⟩
        obtain ⟨g2, o2, b2, fa2, fc2, e2, hf2, hc2⟩ := V2'.out.row hz
        obtain ⟨g3, o3, b3, fa3, fc3, e3, hf3, hc3⟩ := V3'.out.row hz
        simp only [Value.slice.injEq] at e2 e3
        obtain ⟨rfl, _, rfl⟩ := e2
        obtain ⟨rfl, _, rfl⟩ := e3
        obtain ⟨x0, x1, x2, x3, x4, x5, x6, x7, x8⟩ := hc2 _ hs
        obtain ⟨y0, y1, y2, y3, y4, y5, y6, y7, y8⟩ := hc3 _ hs
        have HSM : Hid (∀ W, Sat W K → Calls Tryd.prog 12 #[stepV z (.slice fa2 z.fates.length fc2), stepV z (.slice fa3 z.fates.length fc3)] W (Ret (.bool true) (fun W => Sat W K))) := Lib.hid (fun W hW => by
          have hb := HLF.out z (List.mem_of_getElem? hz)
          have h := same_any hW z z hf2 hf3 hb hb
          rw [decide_eq_true rfl] at h
          exact h)
        have HI := Lib.hid hil
        clear hi hil hz hs hf2 hf3 hc2 hc3
        go_upto_region 12 with (fail)
        go_still_tail 8, (by kernel_rfl)
        go_wp2_with (go_at_call 12; refine (HSM.out _ HS.out.drew).mono ?_; rintro e w7 ⟨rfl, h7⟩; have S7 := Lib.hid h7; clear h7)
        exact ⟨⟨i + 1, HI.out, by simp, S7.out⟩, by simp only [RowKit.intOf]; omega⟩
      · obtain rfl : i = L.length := by omega
        clear hi hil hs
        go_wp2_with fail
        go_ret
        exact ⟨rfl, HKF.out _ HS.out⟩
theorem scripts_law {W : World} (hv : VarsAt W) (a : ByteArray) : Calls Tryd.prog 4 #[.string a] W (Ret (.bool true) (Below W.heap.size W)) := by
  have h : Calls Tryd.prog 4 #[.string ⟨a.data.toList.toArray⟩] W (Ret (.bool true) (fun W' => Sat W' (allOf W))) := scripts_walk (libF_all hv) (sat_all W) a.data.toList
  rw [ba_mk a] at h
  exact h.mono (fun e w' h => ⟨h.1, h.2.below⟩)
end Go.Proofs.YtieaamlpadlfeaaDoor
