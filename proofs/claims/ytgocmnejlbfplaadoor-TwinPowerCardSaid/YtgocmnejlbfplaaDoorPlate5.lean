/- The plate's power comes back: On. Conditions: none. -/
import Derived.Test.YtgocmnejlbfplaaDoorPlate4
import Derived.Test.YtgocmnejlbfplaaDoorArgs
import Derived.Deep.DeepCutAuto
import Derived.StillTailTactics
namespace Go.Proofs.YtgocmnejlbfplaaDoor
open Go Go.MapKept Go.RowKit Go.Proofs

/-- What becomes of the i-th write that waits: the list's own word. -/
def fateM (len : Nat) (A : Nat → Int) (i : Nat) : Int := if len = 0 then 0 else A (i % len) % 3
theorem tmod3 (a : Int) : a.tmod 3 = if 0 ≤ a ∨ a % 3 = 0 then a % 3 else a % 3 - 3 := by
  have h := Int.tmod_eq_emod (a := a) (b := 3)
  by_cases h1 : 0 ≤ a ∨ (3 : Int) ∣ a
  · rw [if_pos h1] at h
    rw [if_pos (by omega), h]; simp
  · rw [if_neg h1] at h
    rw [if_neg (by omega), h]; rfl
theorem fate_any (p : Option Addr) (len cap : Nat) (A : Nat → Int) (i : Nat) (W w : World) (hW : IntSlice W p len A) (hb : Below W.heap.size W w) (hi : (i : Int) ≤ 9223372036854775807) :
    Calls Tryd.prog 31 #[.slice p len cap, .int .i64 i] w (Ret (.int .i64 (fateM len A i)) (Same w)) := by
  unfold fateM
  by_cases h0 : len = 0
  · subst h0
    rw [if_pos rfl]
    go_enter Tryd.func31, Tryd.ntmps31
    go_wp2_with fail
    go_ret
    exact ⟨rfl, rfl⟩
  · rw [if_neg h0]
    obtain ⟨hlen, hc⟩ := hW
    have hm : i % len < len := Nat.mod_lt _ (by omega)
    obtain ⟨b, off, rfl, hbl, hc1, hlo, hhi⟩ := hc _ hm
    have hcell : w.cell? ⟨b, off + i % len, none⟩ = some (.int .i64 (A (i % len))) := by rw [← hc1]; exact hb.cell hbl
    generalize hj : i % len = j at *
    have hrem : ((i : Int).tmod (len : Int)) = (j : Int) := by
      rw [← hj, Int.tmod_eq_emod_of_nonneg (by omega)]; rfl
    have hne : ¬ ((len : Int) = 0) := by omega
    have hne2 : ((len : Int) == 0) = false := by simpa using hne
    have hj1 : (j : Int) < (len : Int) := by omega
    have hj0 : (0 : Int) ≤ (j : Int) := by omega
    have hlen' : (len : Int) ≤ 9223372036854775807 := by omega
    generalize A j = a at *
    clear hc hb hc1 hj h0 hm
    by_cases hs : a.tmod 3 < 0
    · have e : a % 3 = a.tmod 3 + 3 := by rw [tmod3] at hs ⊢; split at hs <;> omega
      rw [e]
      go_enter Tryd.func31, Tryd.ntmps31
      go_wp2_with fail
      go_ret
      exact ⟨rfl, rfl⟩
    · have e : a % 3 = a.tmod 3 := by rw [tmod3] at hs ⊢; split at hs <;> omega
      rw [e]
      go_enter Tryd.func31, Tryd.ntmps31
      go_wp2_with fail
      go_ret
      exact ⟨rfl, rfl⟩
/-- What a waiting write leaves behind it when the power comes back. -/
def stepF (f : Int) (x : Int × ByteArray) (D : List (Int × ByteArray)) : List (Int × ByteArray) :=
  if f = 1 then putL x.1 x.2 D else if f = 2 then putL x.1 ⟨#[]⟩ D else D
def fateTo (f : Nat → Int) (q D : List (Int × ByteArray)) : Nat → List (Int × ByteArray)
  | 0 => D
  | k + 1 => match q[k]? with
    | some x => stepF (f k) x (fateTo f q D k)
    | none => fateTo f q D k
def onM (M : PM) (f : Nat → Int) : PM := if M.down then { M with down := false, secs := fateTo f M.queue M.secs M.queue.length, queue := [] } else M
theorem on_nil (lv : Value) (w : World) : Calls Tryd.prog 16 #[.pointer none, lv] w (Ret (.tuple #[]) (Same w)) := by
  go_enter Tryd.func16, Tryd.ntmps16
  go_wp2
  refine bodyPost_end (results_none rfl _ _ _) rfl ?_
  exact ⟨rfl, rfl⟩
set_option maxRecDepth 100000 in
set_option maxHeartbeats 1600000 in
theorem on_any (b : Nat) (M : PM) (F : Heaplet) (lv : Value) (f : Nat → Int) (w : World) (h : PlateIs b M F w) (hq : M.queue.length ≤ 1000000)
    (hf : ∀ (i : Nat) (w' : World), i < 1000000 → Sat w' F → Calls Tryd.prog 31 #[lv, .int .i64 i] w' (Ret (.int .i64 (f i)) (Same w'))) :
    Calls Tryd.prog 16 #[.pointer (some ⟨b, 0, none⟩), lv] w (Ret (.tuple #[]) (PlateIs b (onM M f) F)) := by
  unfold onM
  obtain ⟨m0, qv0, c0, c1, c2, c3, c4, c5, c6, u⟩ := h.cells
  cases hd : M.down with
  | false =>
    rw [hd] at c3
    have H := Lib.hid h
    clear h hd c0 c1 c2 c4 c5 c6 u hf hq
    go_enter Tryd.func16, Tryd.ntmps16
    go_wp2_with fail
    refine bodyPost_ret (results_none rfl _ _ _) rfl ?_
    exact ⟨rfl, H.out⟩
  | true =>
    rw [hd] at c3
    have hr := h.setField (M' := { M with down := false }) 3 (.bool false) rfl rfl (fun _ _ => by rw [hd]; rfl)
    have u3 := u 3
    obtain ⟨m, qv, qh, hv⟩ := hr.v
    obtain ⟨p, cap, rfl, hel⟩ := hv.slice
    obtain ⟨d1, d2, _⟩ := hv.cell
    have HV := Lib.hid hv
    have HE := Lib.hid hel
    have HF := Lib.hid hf
    clear h hr hd hv hel hf c0 c1 c2 c4 c5 c6 u
    simp only [if_true] at HV HE d1 d2 ⊢
    go_enter Tryd.func16, Tryd.ntmps16
    go_wp2_with fail
    go_loopw [23] (fun c wr => ∃ k : Nat, k ≤ M.queue.length ∧ c = .int .i64 k ∧ PlateV b { M with down := false, secs := fateTo f M.queue M.secs k } m (.slice p M.queue.length cap) qh F wr) (fun c _ => 1000000 - (intOf c).toNat)
    case atStart => exact ⟨0, by omega, rfl, HV.out⟩
    case round =>
      obtain ⟨k, hk, rfl, hvk⟩ := hrel
      clear d1 d2
      obtain ⟨c1, c2, u⟩ := hvk.cell
      have u2 := u 2
      by_cases hlt : k < M.queue.length
      · obtain ⟨x, hx⟩ : ∃ x, M.queue[k]? = some x := ⟨_, List.getElem?_eq_getElem hlt⟩
        obtain ⟨g, rfl, hgc⟩ := HE.out k x hx
        obtain ⟨g0, g1⟩ := hgc hvk
        have hk0 : (0 : Int) ≤ (k : Int) := by omega
        have hk1 : (k : Int) < (M.queue.length : Int) := by omega
        have hvn := hvk.new (.cells #[kI x.1, kS x.2] 76)
        have hfk := HF.out k _ (by omega) hvn.frame.tail
        have HVN := Lib.hid hvn
        have HX := Lib.hid hx
        have HK := Lib.hid hfk
        clear hvk hx hgc u hvn hfk
        go_wp2_with fail
        generalize wr.alloc _ = W1 at *
        generalize wr.heap.size = ob at *
        have hb0 : Sat W1 _ := HVN.out.frame
        have b0 : W1.cell? ⟨ob, 0, none⟩ = some (kI x.1) := by rw [cell_of hb0.h0]; rfl
        have b1 : W1.cell? ⟨ob, 1, none⟩ = some (kS x.2) := by rw [cell_of hb0.h0]; rfl
        obtain ⟨d1, d2, _⟩ := HVN.out.cell
        clear hb0
        refine (HK.out).mono ?_
        rintro e w' ⟨rfl, rfl⟩
        have est : fateTo f M.queue M.secs (k + 1) = stepF (f k) x (fateTo f M.queue M.secs k) := by
          rw [fateTo, HX.out]
        clear HK
        generalize f k = fk at *
        by_cases h1 : fk = 1
        · subst h1
          obtain ⟨w3, hu, hput⟩ := HVN.out.drew.put x.1 x.2
          have HP := Lib.hid hput
          have EST := Lib.hid est
          clear hput est
          go_upto_region 7 with (fail)
          go_still_tail 8, (by kernel_rfl)
          change wpList _ _ _ _ _ (World.drew _)
          generalize World.drew _ = wd at *
          go_wp2_with fail
          refine ⟨⟨k + 1, by omega, by simp, ?_⟩, by simp only [intOf]; omega⟩
          have := HP.out.unF
          simp only [putS] at this
          rw [EST.out]
          exact this
        · by_cases h2 : fk = 2
          · subst h2
            obtain ⟨w3, hu, hput⟩ := HVN.out.drew.put x.1 ⟨#[]⟩
            have HP := Lib.hid hput
            have EST := Lib.hid est
            clear hput est
            go_upto_region 9 with (fail)
            go_still_tail 6, (by kernel_rfl)
            change wpList _ _ _ _ _ (World.drew _)
            generalize World.drew _ = wd at *
            go_wp2_with fail
            refine ⟨⟨k + 1, by omega, by simp, ?_⟩, by simp only [intOf]; omega⟩
            have := HP.out.unF
            simp only [putS] at this
            rw [EST.out]
            exact this
          · have e1 : (fk == 1) = false := by simpa using h1
            have e2 : (fk == 2) = false := by simpa using h2
            have EST := Lib.hid est
            clear est
            go_wp2_with fail
            refine ⟨⟨k + 1, by omega, by simp, ?_⟩, by simp only [intOf]; omega⟩
            have := HVN.out.unF
            rw [EST.out, stepF, if_neg h1, if_neg h2]
            exact this
      · have hke : k = M.queue.length := by omega
        subst hke
        obtain ⟨h2, es, clk, h1, hs⟩ := hvk
        have hfin : PlateIs b { M with down := false, secs := fateTo f M.queue M.secs M.queue.length, queue := [] } F (wr.setCell ⟨b, 2, none⟩ (.slice none 0 0)) :=
          ⟨m, es, clk, .slice none 0 0, [], h1, SliceIs.nil _ _, (by
            exact ((hs.setCell (i := 2) (.slice none 0 0)).perm (List.perm_append_comm_assoc (l₁ := [HItem.blk b _, .blk m (.map es clk)]) (l₂ := qh) (l₃ := F))).right)⟩
        have Fin := Lib.hid hfin
        have hkf : ¬ ((M.queue.length : Int) < (M.queue.length : Int)) := by omega
        clear hfin hs h1 h2 HV HE
        go_wp2_with fail
        refine bodyPost_end (results_none rfl _ _ _) rfl ?_
        exact ⟨rfl, Fin.out⟩
end Go.Proofs.YtgocmnejlbfplaaDoor
