/- The document's ring walked: Put. Conditions: none. -/
import Derived.Test.YtbjomkbiljpjmaaEx9R2
import Derived.Deep.LoopGhost
namespace Go.Proofs.Ytbjomkbiljpjmaa
open Go Go.MapKept Go.RowKit Go.Proofs

abbrev zF : Obj := .cells #[.bool false, kI 0, kS ⟨#[]⟩, kI 0, .bool false] 64
def outR : Option (Fr ByteArray) → Value
  | none => .agg #[.bool false, kI 0, kS ⟨#[]⟩, kI 0, .bool false]
  | some f => .agg #[.bool true, kI f.key, kS f.val, kI f.pins, .bool f.fresh]
section
variable {ub g : Nat} {fr : FrsS} {hand : Nat} {F : Heaplet} {w : World} {b : Nat} {T : TypeId} {z0 z1 z2 z3 z4 : Value}
theorem out5 (h : RefF ub g fr hand (.blk b (.cells #[z0, z1, z2, z3, z4] T) :: F) w) :
    w.cell? ⟨b, 0, none⟩ = some z0 ∧ w.cell? ⟨b, 1, none⟩ = some z1 ∧ w.cell? ⟨b, 2, none⟩ = some z2 ∧ w.cell? ⟨b, 3, none⟩ = some z3 ∧ w.cell? ⟨b, 4, none⟩ = some z4 ∧
    w.frozen? ⟨b, 0, none⟩ = false ∧ w.frozen? ⟨b, 1, none⟩ = false ∧ w.frozen? ⟨b, 2, none⟩ = false ∧ w.frozen? ⟨b, 3, none⟩ = false ∧ w.frozen? ⟨b, 4, none⟩ = false := by
  have hb := h.frame.h0
  refine ⟨?_, ?_, ?_, ?_, ?_, unfrozen_of hb 0, unfrozen_of hb 1, unfrozen_of hb 2, unfrozen_of hb 3, unfrozen_of hb 4⟩
  all_goals
    rw [cell_of hb]; rfl
theorem RefF.fr5 (h : RefF ub g fr hand (.blk b (.cells #[z0, z1, z2, z3, z4] T) :: F) w) (y0 y1 y2 y3 y4 : Value) :
    RefF ub g fr hand (.blk b (.cells #[y0, y1, y2, y3, y4] T) :: F) (((((w.setCell ⟨b, 0, none⟩ y0).setCell ⟨b, 1, none⟩ y1).setCell ⟨b, 2, none⟩ y2).setCell ⟨b, 3, none⟩ y3).setCell ⟨b, 4, none⟩ y4) :=
  ⟨h.1, (((((h.2.rot3.setCell (i := 0) y0).setCell (i := 1) y1).setCell (i := 2) y2).setCell (i := 3) y3).setCell (i := 4) y4).unrot3⟩
theorem RefF.swapF {x y : HItem} (h : RefF ub g fr hand (x :: y :: F) w) : RefF ub g fr hand (y :: x :: F) w :=
  ⟨h.1, h.2.perm (((List.Perm.swap _ _ _).cons _).cons _)⟩
theorem results_rput {ob : Nat} {o : Option (Fr ByteArray)} {r : Bool} {a : Act} (h6 : a.tmps.getD 6 undef = .pointer (some ⟨ob, 0, none⟩)) (h7 : a.tmps.getD 7 undef = .bool r)
    (hb : ∃ z0 z1 z2 z3 z4, outR o = .agg #[z0, z1, z2, z3, z4] ∧ w.heap[ob]? = some (.cells #[z0, z1, z2, z3, z4] 64)) :
    (results Try.f33 a.tmps).run Try.prog w = .ok (.tuple #[outR o, .bool r]) w := by
  obtain ⟨z0, z1, z2, z3, z4, ho, hb⟩ := hb
  have c0 : w.cell? ⟨ob, 0, none⟩ = some z0 := by rw [cell_of hb]; rfl
  have c1 : w.cell? ⟨ob, 1, none⟩ = some z1 := by rw [cell_of hb]; rfl
  have c2 : w.cell? ⟨ob, 2, none⟩ = some z2 := by rw [cell_of hb]; rfl
  have c3 : w.cell? ⟨ob, 3, none⟩ = some z3 := by rw [cell_of hb]; rfl
  have c4 : w.cell? ⟨ob, 4, none⟩ = some z4 := by rw [cell_of hb]; rfl
  rw [ho]
  simp only [Array.getD_eq_getD_getElem?] at h6 h7
  simp [results, Try.results33, go_sem, h6, h7, c0, c1, c2, c3, c4]
end
section
variable (ub g : Nat) (fr : FrsS) (hand : Nat) (F : Heaplet) (w : World)
set_option maxRecDepth 100000 in
set_option maxHeartbeats 1600000 in
theorem rput_found (h : RefF ub g fr hand F w) (k : Int) (v : ByteArray) (i : Nat) (f : Fr ByteArray) (hk : findF fr k = some (i, f)) :
    Calls Try.prog 33 #[.pointer (some ⟨ub, 0, none⟩), .int .i64 k, kS v] w (Ret (.tuple #[outR none, .bool true]) (RefF ub g (fr.set i (some { f with val := v, fresh := true })) hand F)) := by
  obtain ⟨e1, e2⟩ := idx_of_find hk
  have hil := (List.getElem?_eq_some_iff.1 e2).1
  have h64 := h.1.2.1
  have h1 := h.new zF
  have hp := place_any ub g fr hand _ _ h1 k
  rw [e1] at hp
  have HP := Lib.hid hp
  have H1 := Lib.hid h1
  have HE := Lib.hid e2
  clear h hk e1 e2 h1 hp
  go_enter Try.func33, Try.ntmps33
  go_upto_region 1 with (fail)
  generalize w.alloc (.cells #[.bool false, kI 0, kS ⟨#[]⟩, kI 0, .bool false] 64) = W1 at *
  generalize w.heap.size = ob at *
  obtain ⟨h0, _, _⟩ := H1.out.head
  have c2 : W1.cell? ⟨g, i * 5 + 2, none⟩ = some (kS f.val) := H1.out.cell HE.out rfl
  have u2 := H1.out.unfrozen (i * 5 + 2)
  have h2 := H1.out.set (j := 2) (u := kS v) (some { f with val := v }) HE.out (by omega) rfl
  have hg2 : (fr.set i (some { f with val := v }))[i]? = some (some { f with val := v }) := by simp [hil]
  have d4 : (W1.setCell ⟨g, i * 5 + 2, none⟩ (kS v)).cell? ⟨g, i * 5 + 4, none⟩ = some (.bool f.fresh) := h2.cell hg2 rfl
  have e4 := h2.unfrozen (i * 5 + 4)
  obtain ⟨d0, _, _⟩ := h2.head
  rw [List.length_set] at d0
  have h3 := h2.set (j := 4) (u := .bool true) (some { f with val := v, fresh := true }) hg2 (by omega) rfl
  rw [List.set_set] at h3
  have H3 := Lib.hid h3
  have i0 : (0 : Int) ≤ (i : Int) := by omega
  have i1 : (i : Int) < (fr.length : Int) := by omega
  clear h2 hg2 h3
  go_wp2_with fail
  refine (HP.out).mono ?_
  rintro e w' ⟨rfl, rfl⟩
  rw [show placeV (some i) = (i : Int) from rfl]
  go_upto_region 5 with (fail)
  clear h0 c2 u2 d4 e4 d0
  generalize (W1.setCell ⟨g, i * 5 + 2, none⟩ (kS v)).setCell ⟨g, i * 5 + 4, none⟩ (.bool true) = W3 at *
  obtain ⟨o0, o1, o2, o3, o4, v0, v1, v2, v3, v4⟩ := out5 H3.out
  have Fin := Lib.hid (H3.out.fr5 (.bool false) (kI 0) (kS ⟨#[]⟩) (kI 0) (.bool false))
  go_wp2_with fail
  exact bodyPost_ret (results_rput (ob := ob) (o := none) rfl rfl ⟨_, _, _, _, _, rfl, Fin.out.frame.h0⟩) rfl ⟨rfl, Fin.out.unF⟩
set_option maxRecDepth 100000 in
set_option maxHeartbeats 1600000 in
theorem rput_vacant (h : RefF ub g fr hand F w) (k : Int) (v : ByteArray) (i : Nat) (hk : findF fr k = none) (hv : vacM fr = some i) :
    Calls Try.prog 33 #[.pointer (some ⟨ub, 0, none⟩), .int .i64 k, kS v] w (Ret (.tuple #[outR none, .bool true]) (RefF ub g (fr.set i (some ⟨k, v, 0, true⟩)) hand F)) := by
  have e2 := (vacM_some hv).1
  have hil := (List.getElem?_eq_some_iff.1 e2).1
  have h64 := h.1.2.1
  have h1 := h.new zF
  have hp := place_any ub g fr hand _ _ h1 k
  rw [findF_none hk] at hp
  have h2 := h1.new zF
  have hva := vacant_ref ub g fr hand _ _ h2
  rw [hv] at hva
  have HP := Lib.hid hp
  have HV := Lib.hid hva
  have H2 := Lib.hid h2
  have HE := Lib.hid e2
  clear h hk hv e2 h1 hp h2 hva
  go_enter Try.func33, Try.ntmps33
  go_upto_region 1 with (fail)
  generalize w.alloc (.cells #[.bool false, kI 0, kS ⟨#[]⟩, kI 0, .bool false] 64) = W1 at *
  generalize w.heap.size = ob at *
  go_wp2_with fail
  refine (HP.out).mono ?_
  rintro e w' ⟨rfl, rfl⟩
  rw [show placeV none = -1 from rfl]
  go_upto_region 7 with (fail)
  generalize W1.alloc (.cells #[.bool false, kI 0, kS ⟨#[]⟩, kI 0, .bool false] 64) = W2 at *
  generalize W1.heap.size = o9 at *
  obtain ⟨h0, _, _⟩ := H2.out.head
  have c0 : W2.cell? ⟨g, i * 5, none⟩ = some (.bool false) := H2.out.cell (j := 0) HE.out rfl
  have c1 : W2.cell? ⟨g, i * 5 + 1, none⟩ = some (kI 0) := H2.out.cell HE.out rfl
  have c2 : W2.cell? ⟨g, i * 5 + 2, none⟩ = some (kS ⟨#[]⟩) := H2.out.cell HE.out rfl
  have c3 : W2.cell? ⟨g, i * 5 + 3, none⟩ = some (kI 0) := H2.out.cell HE.out rfl
  have c4 : W2.cell? ⟨g, i * 5 + 4, none⟩ = some (.bool false) := H2.out.cell HE.out rfl
  have u0 := H2.out.unfrozen (i * 5)
  have u1 := H2.out.unfrozen (i * 5 + 1)
  have u2 := H2.out.unfrozen (i * 5 + 2)
  have u3 := H2.out.unfrozen (i * 5 + 3)
  have u4 := H2.out.unfrozen (i * 5 + 4)
  have H3 := Lib.hid (H2.out.set5 (some ⟨k, v, 0, true⟩) hil rfl)
  have i0 : (0 : Int) ≤ (i : Int) := by omega
  have i1 : (i : Int) < (fr.length : Int) := by omega
  go_wp2_with fail
  refine (HV.out).mono ?_
  rintro e w'' ⟨rfl, rfl⟩
  rw [show placeV (some i) = (i : Int) from rfl]
  go_upto_region 25 with (fail)
  clear h0 c0 c1 c2 c3 c4 u0 u1 u2 u3 u4
  generalize ((((W2.setCell ⟨g, i * 5, none⟩ (.bool true)).setCell ⟨g, i * 5 + 1, none⟩ (kI k)).setCell ⟨g, i * 5 + 2, none⟩ (kS v)).setCell ⟨g, i * 5 + 3, none⟩ (kI 0)).setCell ⟨g, i * 5 + 4, none⟩ (.bool true) = W3 at *
  obtain ⟨p0, p1, p2, p3, p4, _, _, _, _, _⟩ := out5 H3.out
  obtain ⟨o0, o1, o2, o3, o4, v0, v1, v2, v3, v4⟩ := out5 H3.out.swapF
  have Fin := Lib.hid (H3.out.swapF.fr5 (.bool false) (kI 0) (kS ⟨#[]⟩) (kI 0) (.bool false))
  go_wp2_with fail
  exact bodyPost_ret (results_rput (ob := ob) (o := none) rfl rfl ⟨_, _, _, _, _, rfl, Fin.out.frame.h0⟩) rfl ⟨rfl, Fin.out.unF.unF⟩
/-- No pin count lies below zero. -/
def PinsNN (fr : FrsS) : Prop := ∀ (i : Nat) (f : Fr ByteArray), fr[i]? = some (some f) → 0 ≤ f.pins
theorem PinsNN.set {fr : FrsS} (h : PinsNN fr) {i : Nat} {f : Fr ByteArray} (hf : 0 ≤ f.pins) : PinsNN (fr.set i (some f)) := by
  intro j g hg
  rw [List.getElem?_set] at hg
  split at hg
  · split at hg
    · simp only [Option.some.injEq] at hg; subst hg; exact hf
    · cases hg
  · exact h j g hg
def pinsO : Option (Fr ByteArray) → Int
  | some f => f.pins
  | none => 0
theorem pinB_iff (o : Option (Fr ByteArray)) : pinB o = decide (0 < pinsO o) := by cases o <;> rfl
theorem fR_pins (o : Option (Fr ByteArray)) : (fR o)[3]? = some (kI (pinsO o)) := by cases o <;> rfl
set_option maxRecDepth 100000 in
set_option maxHeartbeats 1600000 in
theorem rput_full (h : RefF ub g fr hand F w) (k : Int) (v : ByteArray) (hk : findF fr k = none) (hv : vacM fr = none) (hp : pinnedM fr = true) (hnn : PinsNN fr) :
    Calls Try.prog 33 #[.pointer (some ⟨ub, 0, none⟩), .int .i64 k, kS v] w (Ret (.tuple #[outR none, .bool false]) (RefF ub g fr hand F)) := by
  have h64 := h.1.2.1
  have hheld : heldM fr = fr.length := (held_pinned hnn).2 hp
  have h1 := h.new zF
  have hp := place_any ub g fr hand _ _ h1 k
  rw [findF_none hk] at hp
  have h2 := h1.new zF
  have hva := vacant_ref ub g fr hand _ _ h2
  rw [hv] at hva
  have HP := Lib.hid hp
  have HV := Lib.hid hva
  have H2 := Lib.hid h2
  have HD := Lib.hid hheld
  clear h hk hv h1 hp h2 hva hnn hheld
  go_enter Try.func33, Try.ntmps33
  go_upto_region 1 with (fail)
  generalize w.alloc (.cells #[.bool false, kI 0, kS ⟨#[]⟩, kI 0, .bool false] 64) = W1 at *
  generalize w.heap.size = ob at *
  go_wp2_with fail
  refine (HP.out).mono ?_
  rintro e w' ⟨rfl, rfl⟩
  rw [show placeV none = -1 from rfl]
  go_upto_region 7 with (fail)
  generalize W1.alloc (.cells #[.bool false, kI 0, kS ⟨#[]⟩, kI 0, .bool false] 64) = W2 at *
  generalize W1.heap.size = o9 at *
  obtain ⟨h0, _, _⟩ := H2.out.head
  have HC : Hid (∀ (i : Nat) o, fr[i]? = some o → W2.cell? ⟨g, i * 5 + 3, none⟩ = some (kI (pinsO o))) := Lib.hid fun i o ho => H2.out.cell ho (fR_pins o)
  go_wp2_with fail
  refine (HV.out).mono ?_
  rintro e w'' ⟨rfl, rfl⟩
  rw [show placeV none = -1 from rfl]
  go_upto_block 0 with (fail)
  go_cut [11] from 11 to 59 (fun v11 wx => v11 = .int .i64 (heldM fr) ∧ wx = W2)
  case first =>
    go_wp2_with fail
    go_loopw [11, 12] (fun v11 v12 wx => ∃ r : Nat, r ≤ fr.length ∧ v12 = .int .i64 r ∧ v11 = .int .i64 (heldM (fr.take r)) ∧ wx = W2) (fun _ v _ => 1000 - (RowKit.intOf v).toNat)
    case atStart => exact ⟨0, by omega, rfl, rfl, rfl⟩
    case round =>
      obtain ⟨r, hr, rfl, rfl, rfl⟩ := hrel
      have r0 : (0 : Int) ≤ (r : Int) := by omega
      have hL : (fr.length : Int) ≤ 64 := by omega
      by_cases hlr : r < fr.length
      · have r1 : (r : Int) < (fr.length : Int) := by omega
        obtain ⟨o, ho⟩ : ∃ o, fr[r]? = some o := ⟨_, List.getElem?_eq_getElem hlr⟩
        have c3 := HC.out r o ho
        have hst := heldM_step ho
        have hle := heldM_le (fr.take r)
        rw [List.length_take] at hle
        have hq0 : (0 : Int) ≤ (heldM (fr.take r) : Int) := by omega
        have hq1 : (heldM (fr.take r) : Int) ≤ 64 := by omega
        clear ho hle
        cases hpb : pinB o with
        | true =>
          have hd : 0 < pinsO o := by rw [pinB_iff] at hpb; simpa using hpb
          rw [hpb] at hst
          simp only [if_true] at hst
          have HST := Lib.hid hst
          generalize heldM (fr.take r) = q at *
          generalize pinsO o = pz at *
          clear hst hpb
          go_wp2_with fail
          exact ⟨⟨r + 1, by omega, by simp, by rw [HST.out]; simp, by first | rfl | trivial⟩, by simp only [RowKit.intOf]; omega⟩
        | false =>
          have hd : ¬ 0 < pinsO o := by rw [pinB_iff] at hpb; simpa using hpb
          rw [hpb] at hst
          simp only [Bool.false_eq_true, if_false, Nat.add_zero] at hst
          have HST := Lib.hid hst
          generalize heldM (fr.take r) = q at *
          generalize pinsO o = pz at *
          clear hst hpb
          go_wp2_with fail
          exact ⟨⟨r + 1, by omega, by simp, by rw [HST.out], by first | rfl | trivial⟩, by simp only [RowKit.intOf]; omega⟩
      · obtain rfl : r = fr.length := by omega
        have et : Hid (heldM (fr.take fr.length) = heldM fr) := Lib.hid (by rw [List.take_length])
        generalize heldM (fr.take fr.length) = q at *
        go_wp2_with fail
        go_meet
        exact ⟨by rw [et.out], by first | rfl | trivial⟩
  case rest =>
    obtain ⟨rfl, rfl⟩ := hcut
    obtain ⟨o0, o1, o2, o3, o4, v0, v1, v2, v3, v4⟩ := out5 H2.out.swapF
    have Fin := Lib.hid (H2.out.swapF.fr5 (.bool false) (kI 0) (kS ⟨#[]⟩) (kI 0) (.bool false))
    rw [HD.out]
    go_wp2_with fail
    exact bodyPost_ret (results_rput (ob := ob) (o := none) rfl rfl ⟨_, _, _, _, _, rfl, Fin.out.frame.h0⟩) rfl ⟨rfl, Fin.out.unF.unF⟩
end
end Go.Proofs.Ytbjomkbiljpjmaa
