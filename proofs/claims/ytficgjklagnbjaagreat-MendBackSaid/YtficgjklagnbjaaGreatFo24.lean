/- Texts put together: Md17, Md18, Mp1, Mp2, Mp3, Mp4. Conditions: none. -/
import Derived.Test.YtficgjklagnbjaaGreatFo7
import Derived.Test.YtficgjklagnbjaaGreatFo10
import Derived.Test.YtficgjklagnbjaaGreatFo17
import Derived.Test.YtficgjklagnbjaaGreatFo22
import Derived.Test.YtficgjklagnbjaaGreatFo23
namespace Go.Proofs.YtficgjklagnbjaaGreat
open Go Go.MapKept Go.RowKit Go.Proofs Go.Shelf

abbrev baA : ByteArray := ⟨#[97]⟩
abbrev awT : Tx := ⟨1, 1, 1⟩
def awE : En := ⟨1, awT, 5, 0, 2, 0, false, ⟨#[]⟩, true, baA, 0⟩
def awU : En := ⟨2, awT, 6, 5, 2, 0, true, baA, false, ⟨#[]⟩, 0⟩
def awN : En := ⟨4, awT, 7, 6, 0, 0, false, ⟨#[]⟩, false, ⟨#[]⟩, 0⟩
abbrev awP : List Lf := [(2, ⟨0, []⟩)]
abbrev awQ : List Lf := [(2, ⟨5, [(true, baA)]⟩)]
abbrev awR : List Lf := [(2, ⟨6, []⟩)]
theorem tl0 : (⟨#[]⟩ : ByteArray).toList = [] := by unfold ByteArray.toList; unfold ByteArray.toList.loop; rfl
theorem sz0 : (⟨#[]⟩ : ByteArray).size = 0 := rfl
theorem szA : baA.size = 1 := rfl
theorem aw_g : goodM awE = true := by simp [goodM, headM, knownM, withinM, changeM, slotM, awE, sz0, szA]
theorem aw_gu : goodM awU = true := by simp [goodM, headM, knownM, withinM, changeM, slotM, awU, sz0, szA]
theorem aw_gn : goodM awN = true := by simp [goodM, headM, knownM, withinM, bareM, awN]
theorem aw_p0 : goodP ⟨0, []⟩ = true := by decide
theorem aw_p5 : goodP ⟨5, [(true, baA)]⟩ = true := by decide
theorem aw_p6 : goodP ⟨6, []⟩ = true := by decide
theorem aw_are {q : Pg} (h : goodP q = true) : arePM [] [(2, q)] = true := by simp [arePM, h]
theorem aw_idx {q : Pg} : idxF (atN 2) [((2, q) : Lf)] = 0 := by simp [idxF, atN]
theorem aw_fit {q : Pg} (h : goodP q = true) : fitM [awE] [(2, q)] = true := by
  simp [fitM, aw_are h, oddE, aw_g, show awE.page = 2 from rfl, aw_idx]
theorem aw_red1 : redoM ⟨0, []⟩ awE = (⟨5, [(true, baA)]⟩, true, 0) := by
  have h1 : atM ⟨0, []⟩ awE.slot = awE.was := by decide
  have h2 : putM ⟨0, []⟩ awE.slot awE.is = (⟨0, [(true, baA)]⟩, 0) := by rfl
  unfold redoM
  rw [aw_p0, aw_g, h1, h2]
  simp [chgM, show awE.kind = 1 from rfl, show awE.lsn = 5 from rfl]
theorem aw_red2 : redoM ⟨5, [(true, baA)]⟩ awU = (⟨6, []⟩, true, 0) := by
  have h1 : atM ⟨5, [(true, baA)]⟩ awU.slot = awU.was := by decide
  have h2 : putM ⟨5, [(true, baA)]⟩ awU.slot awU.is = (⟨5, []⟩, 0) := by rfl
  unfold redoM
  rw [aw_p5, aw_gu, h1, h2]
  simp [chgM, show awU.kind = 2 from rfl, show awU.lsn = 6 from rfl]
theorem aw_redo : redoL [awE] awP = (awQ, 0) := by
  have h : patchM ⟨0, []⟩ 2 [awE] = (⟨5, [(true, baA)]⟩, 0) := by
    simp [patchM, aw_p0, allM, chgM, aw_red1, show awE.kind = 1 from rfl, show awE.page = 2 from rfl]
  simp [redoL, aw_fit aw_p0, goL, h]
theorem aw_of1 : ofM [awE] awT = [awE] := by simp [ofM, aw_g, show awE.t = awT from rfl]
theorem aw_of2 : ofM [awE, awU] awT = [awE, awU] := by simp [ofM, aw_g, aw_gu, show awE.t = awT from rfl, show awU.t = awT from rfl]
theorem aw_nx1 : nextM (ofM [awE] awT) = (awE, true, 0) := by
  rw [aw_of1]; simp [nextM, nextG, show awE.kind = 1 from rfl]
theorem aw_nx2 : nextM (ofM [awE, awU] awT) = (zeroE, false, 0) := by
  rw [aw_of2]; simp [nextM, nextG, show awU.kind = 2 from rfl, show awU.next = 0 from rfl]
theorem aw_los : losersM [awE] = [(awT, 5)] := by
  have e1 : endM [awE] awT = false := by simp [endM, isEndM, show awE.kind = 1 from rfl]
  have e2 : lastM [awE] [awE] = [(awT, 5)] := by simp [lastM, stepL, aw_g, show awE.t = awT from rfl, show awE.lsn = 5 from rfl, e1, putL]
  unfold losersM
  rw [e2]
  simp only [List.map_cons, List.map_nil]
  unfold sortT
  rw [List.mergeSort_singleton]
  simp [getL]
theorem aw_pick1 : pickM [awE] [(awT, 5)] = (awE, true, 0) := by
  simp [pickM, pickG, aw_nx1, idxF, sameE]
theorem aw_pick2 : pickM [awE, awU] [(awT, 5)] = (zeroE, false, 0) := by
  simp [pickM, pickG, aw_nx2]
theorem aw_turn : turnM awE 6 5 = (awU, 0) := by
  have h : turnE awE 6 5 = awU := rfl
  simp [turnM, h, aw_g, aw_gu, show awE.kind = 1 from rfl]
theorem aw_undo : undoM [awE] awQ awE = ([awE, awU], awR, 0) := by
  have h1 : lastL [awE] awT = 5 := by simp [lastL, aw_of1, show awE.lsn = 5 from rfl]
  simp [undoM, show awE.page = 2 from rfl, aw_idx, show awE.t = awT from rfl, h1, aw_turn, aw_red2]
theorem aw_ends : endsM [awE, awU] [(awT, 5)] = ([awE, awU, awN], 0) := by
  have h1 : lastL [awE, awU] awT = 6 := by simp [lastL, aw_of2, show awU.lsn = 6 from rfl]
  simp [endsM, h1, show endE awT 6 = awN from rfl]
theorem aw_all : allU (losersM [awE]) 2 [awE] awQ = some ([awE, awU, awN], awR, 0) := by
  rw [aw_los]
  simp [allU, aw_pick1, aw_pick2, aw_undo, aw_ends]
theorem aw_back : backM [awE] awT 0 = (awE, true) := by
  simp [backM, aw_nx1, show awE.lsn = 5 from rfl]
theorem aw_rows : rowsS ⟨5, [(true, baA)]⟩ = [(0, baA)] := by
  simp [rowsS, aw_p5, rowsU]
theorem aw_fl : FitL [awE] := by
  intro x hx
  simp only [List.mem_cons, List.not_mem_nil, or_false] at hx
  subst hx
  decide
theorem aw_fp : FitP awP := by
  intro x hx
  simp only [List.mem_cons, List.not_mem_nil, or_false] at hx
  subst hx
  decide
end Go.Proofs.YtficgjklagnbjaaGreat
namespace Go.Proofs.YtficgjklagnbjaaGreat
open Go Go.MapKept Go.RowKit Go.Proofs Go.Shelf

attribute [local go_sem] Oper.semAt_some

theorem aw_ens (g : Nat) (F : Heaplet) : EnsIn (.blk g (eO awE) :: F) (.slice (some ⟨g, 0, none⟩) 1 1) [awE] :=
  ens_in (l := [awE]) (h := [.blk g (eO awE)]) ⟨rfl, .inr ⟨g, 1, _, rfl, Nat.le_refl _, by unfold maxLen; simp, rfl, rfl, rfl⟩⟩ F
abbrev aeO : Obj := .cells #[kI 1, kI 1, kI 1, kI 1, kI 5, kI 0, kI 2, kI 0, .bool false, kS ⟨#[]⟩, .bool true, kS ⟨#[97]⟩, kI 0] 58
abbrev aeV : Value := .agg #[kI 1, kI 1, kI 1, kI 1, kI 5, kI 0, kI 2, kI 0, .bool false, kS ⟨#[]⟩, .bool true, kS ⟨#[97]⟩, kI 0]
abbrev awO : Obj := .cells #[kI 2, kI 0, .slice none 0 0] 54
theorem aw_lv (g : Nat) (F : Heaplet) : LvAt (.blk g awO :: F) (.slice (some ⟨g, 0, none⟩) 1 1) awP := by
  refine ⟨_, 1, rfl, fun i p hp => ?_⟩
  obtain rfl : i = 0 := by have := (List.getElem?_eq_some_iff.1 hp).1; simp at this; omega
  cases hp
  refine ⟨g, 0, .slice none 0 0, rfl, ⟨none, 0, rfl, fun i s hs => by simp at hs⟩, fun w hw => ?_⟩
  exact ⟨by rw [cell_of hw.h0]; rfl, by rw [cell_of hw.h0]; rfl, by rw [cell_of hw.h0]; rfl⟩
def AwE (W : World) (g : Nat) : Prop := W.cell? ⟨g, 0, none⟩ = some (kI 1) ∧ W.cell? ⟨g, 1, none⟩ = some (kI 1) ∧ W.cell? ⟨g, 2, none⟩ = some (kI 1) ∧ W.cell? ⟨g, 3, none⟩ = some (kI 1) ∧ W.cell? ⟨g, 4, none⟩ = some (kI 5) ∧ W.cell? ⟨g, 5, none⟩ = some (kI 0) ∧ W.cell? ⟨g, 6, none⟩ = some (kI 2) ∧ W.cell? ⟨g, 7, none⟩ = some (kI 0) ∧ W.cell? ⟨g, 8, none⟩ = some (.bool false) ∧ W.cell? ⟨g, 9, none⟩ = some (kS ⟨#[]⟩) ∧ W.cell? ⟨g, 10, none⟩ = some (.bool true) ∧ W.cell? ⟨g, 11, none⟩ = some (kS ⟨#[97]⟩) ∧ W.cell? ⟨g, 12, none⟩ = some (kI 0)
theorem awE_of {W : World} {g : Nat} (h : W.heap[g]? = some aeO) : AwE W g := by
  refine ⟨?_, ?_, ?_, ?_, ?_, ?_, ?_, ?_, ?_, ?_, ?_, ?_, ?_⟩
  all_goals
    rw [cell_of h]; rfl
theorem aw_redoC (g : Nat) (v : Value) (F : Heaplet) (W : World) (hv : LvAt F v awP) (s : Sat W (.blk g aeO :: F)) : Calls Tryz.prog 24 #[.slice (some ⟨g, 0, none⟩) 1 1, v] W (LvRet awQ 0 (.blk g aeO :: F)) := by
  have h := redoL_any (hv.mono (F' := .blk g aeO :: F) (fun w hw => hw.tail)) (aw_ens g F) s (by decide) aw_fp (by decide) aw_fl
  rw [aw_redo] at h
  exact h
theorem aw_restC (g : Nat) (v : Value) (F : Heaplet) (W : World) (hv : LvAt F v awP) (s : Sat W (.blk g aeO :: F)) : Calls Tryz.prog 11 #[.slice (some ⟨g, 0, none⟩) 1 1, v] W (UnRet [awU, awN] awR 0 (.blk g aeO :: F)) := by
  have h := restart_any (aw_ens g F) (hv.mono (F' := .blk g aeO :: F) (fun w hw => hw.tail)) s (by decide) aw_fp (f := 2) (by rw [aw_los]; decide) aw_fl aw_redo (by decide) (aw_fit aw_p5) aw_all
  exact h
theorem aw_backC (g : Nat) (F : Heaplet) (W : World) (s : Sat W (.blk g aeO :: F)) : Calls Tryz.prog 18 #[.slice (some ⟨g, 0, none⟩) 1 1, .agg #[kI 1, kI 1, kI 1], kI 0] W (Ret (.tuple #[aeV, .bool true]) (Below W.heap.size W)) := by
  have h := back_any awT 0 (aw_ens g F) s (by decide) aw_fl
  rw [aw_back] at h
  exact h
set_option maxRecDepth 100000 in
set_option maxHeartbeats 4000000 in
theorem awake_any (F : Heaplet) (w : World) (hs : Sat w F) : Calls Tryz.prog 9 #[] w (Ret (.bool true) (fun w' => Sat w' F)) := by
  have HS := Lib.hid (hs.new aeO)
  clear hs
  go_enter Tryz.func9, Tryz.ntmps9
  go_upto_region 2 with (fail)
  generalize w.alloc aeO = W1 at *
  generalize w.heap.size = g1 at *
  have hs2 := HS.out.new awO
  have HS2 := Lib.hid hs2
  clear hs2 HS
  go_upto_region 3 with (fail)
  generalize W1.alloc awO = W2 at *
  generalize W1.heap.size = g2 at *
  have HE2 := awE_of HS2.out.h1
  obtain ⟨a0, a1, a2, a3, a4, a5, a6, a7, a8, a9, a10, a11, a12⟩ := HE2
  have HRD := Lib.hid (aw_redoC W2.heap.size _ _ _ (aw_lv g2 _) (HS2.out.new aeO))
  go_upto_region 4 with (go_at_call 24; refine (HRD.out).mono ?_; rintro e w3 ⟨v3, h3, rfl, hv3, hs3⟩; have hs4 : Sat w3 (.blk g2 awO :: .blk g1 aeO :: (h3 ++ F)) := (by (refine Sat.part hs3 ?_; intro a; simp only [cnt_cons, cnt_append]; omega)); have HS4 := Lib.hid hs4; obtain ⟨q1, qc, rfl⟩ := LvOwn.some hv3 (by decide); have HV3 := Lib.hid hv3; clear hs3 hs4 hv3 HRD)
  clear HS2 a0 a1 a2 a3 a4 a5 a6 a7 a8 a9 a10 a11 a12
  obtain ⟨a0, a1, a2, a3, a4, a5, a6, a7, a8, a9, a10, a11, a12⟩ := awE_of HS4.out.h1
  have HRT := Lib.hid (aw_restC w3.heap.size _ _ _ (aw_lv g2 _) (HS4.out.new aeO))
  go_upto_region 5 with (go_at_call 11; refine (HRT.out).mono ?_; rintro e w4 ⟨av, pv, h4, h5, rfl, hav, hpv, hs5⟩; have hs6 : Sat w4 (.blk g1 aeO :: (h3 ++ (h4 ++ (h5 ++ F)))) := (by (refine Sat.part hs5 ?_; intro a; simp only [cnt_cons, cnt_append]; omega)); have HS6 := Lib.hid hs6; obtain ⟨b1, bc, rfl⟩ := sl_some hav (by decide); obtain ⟨b2, bd, rfl⟩ := LvOwn.some hpv (by decide); have HAV := Lib.hid hav; have HPV := Lib.hid hpv; clear hs5 hs6 hav hpv HRT)
  clear HS4 a0 a1 a2 a3 a4 a5 a6 a7 a8 a9 a10 a11 a12
  obtain ⟨a0, a1, a2, a3, a4, a5, a6, a7, a8, a9, a10, a11, a12⟩ := awE_of HS6.out.h0
  have hs6 := HS6.out.new aeO
  have HBK := Lib.hid (aw_backC w4.heap.size _ _ hs6)
  have HS7 := Lib.hid hs6
  clear hs6
  obtain ⟨d0, d1, d2, d3, d4, d5, d6, d7, d8, d9, d10, d11, d12⟩ := awE_of HS7.out.h1
  go_upto_region 6 with (go_at_call 18; refine (HBK.out).mono ?_; rintro e w5 ⟨rfl, hb5⟩; have HS8 := Lib.hid ((HS7.out.monoB hb5).new aeO); clear hb5 HBK)
  have hs8 : Sat (w5.alloc aeO) (h3 ++ (.blk w5.heap.size aeO :: .blk g1 aeO :: (h4 ++ (h5 ++ F)))) := (by (refine Sat.part HS8.out ?_; intro a; simp only [cnt_cons, cnt_append]; omega))
  clear HS7 HS6 HS8 a0 a1 a2 a3 a4 a5 a6 a7 a8 a9 a10 a11 a12 d0 d1 d2 d3 d4 d5 d6 d7 d8 d9 d10 d11 d12
  generalize w5.alloc aeO = W8 at *
  generalize w5.heap.size = g8 at *
  have HRW := Lib.hid (rows_one (HV3.out.at _) hs8 (by decide) (by decide) aw_p5 (by rw [aw_rows]; decide))
  clear hs8
  go_upto_region 7 with (go_at_call 23; refine (HRW.out).mono ?_; rintro e w9 ⟨rv, h9, rfl, hrv, hs9⟩; rw [show rowsL (2, ⟨5, [(true, baA)]⟩) = [(2, 0, baA)] from by rw [rowsL, aw_rows]; rfl] at hrv; obtain ⟨b9, bc9, rfl⟩ := sl_some hrv (by decide); have HS9 := Lib.hid (And.intro hrv hs9); clear hrv hs9 HRW)
  have hq : w9.cell? ⟨q1, 1, none⟩ = some (kI 5) := by
    have hl := HV3.out.at (.blk g8 aeO :: .blk g1 aeO :: (h4 ++ (h5 ++ F)))
    obtain ⟨_, _, e, hc⟩ := hl
    cases e
    obtain ⟨g, off, sv, e, _, hu⟩ := hc 0 _ rfl
    cases e
    exact (hu _ HS9.out.2.right).2.1
  have hr : ∃ ra rc, w9.cell? ⟨b2, 2, none⟩ = some (.slice ra 0 rc) := by
    have hl := HPV.out.at F
    obtain ⟨_, _, e, hc⟩ := hl
    cases e
    obtain ⟨g, off, sv, e, ⟨ra, rc, rfl, _⟩, hu⟩ := hc 0 _ rfl
    cases e
    exact ⟨ra, rc, (hu _ HS9.out.2.right.right.tail.tail.right).2.2⟩
  have hu : w9.cell? ⟨b1, 0, none⟩ = some (kI 2) ∧ w9.cell? ⟨b1, 13, none⟩ = some (kI 4) := by
    obtain ⟨_, _, e, hc⟩ := sl_cells eC_len HAV.out HS9.out.2.right.right.tail.tail
    cases e
    obtain ⟨_, e, _, hu⟩ := hc 0 _ rfl
    cases e
    obtain ⟨_, e, _, hu1⟩ := hc 1 _ rfl
    cases e
    exact ⟨hu 0 _ rfl, hu1 0 _ rfl⟩
  have hw : w9.cell? ⟨b9, 0, none⟩ = some (kI 2) ∧ w9.cell? ⟨b9, 1, none⟩ = some (kI 0) ∧ w9.cell? ⟨b9, 2, none⟩ = some (kS ⟨#[97]⟩) := by
    obtain ⟨_, _, e, hc⟩ := sl_cells rwC_len HS9.out.1 HS9.out.2
    cases e
    obtain ⟨_, e, _, hu⟩ := hc 0 _ rfl
    cases e
    exact ⟨hu 0 _ rfl, hu 1 _ rfl, hu 2 _ rfl⟩
  obtain ⟨ra, rc, hr⟩ := hr
  obtain ⟨hu0, hu1⟩ := hu
  obtain ⟨hw0, hw1, hw2⟩ := hw
  obtain ⟨a0, a1, a2, a3, a4, a5, a6, a7, a8, a9, a10, a11, a12⟩ := awE_of HS9.out.2.right.right.h0
  obtain ⟨d0, d1, d2, d3, d4, d5, d6, d7, d8, d9, d10, d11, d12⟩ := awE_of HS9.out.2.right.right.h1
  have HF := Lib.hid (show Sat w9 F from HS9.out.2.right.right.tail.tail.right.right)
  clear HS9 HV3 HAV HPV
  have heq1 : ∀ W, (binOp .eql 58 aeV aeV).run Tryz.prog W = .ok (.bool true) W := fun W => by simp [go_sem]
  have heq2 : ∀ W, (binOp .eql 73 (.agg #[kI 2, kI 0, kS ⟨#[97]⟩]) (.agg #[kI 2, kI 0, kS ⟨#[97]⟩])).run Tryz.prog W = .ok (.bool true) W := fun W => by simp [go_sem]
  go_wp2_with fail
  go_ret
  exact ⟨rfl, HF.out⟩
end Go.Proofs.YtficgjklagnbjaaGreat
namespace Go.Proofs.YtficgjklagnbjaaGreat
open Go Go.MapKept Go.RowKit Go.Proofs

def stepS (s : List En) (x : En) : List En := if x.kind = 1 then x :: s else if x.kind = 2 then s.tail else s
/-- What is not undone, the newest first. -/
def stk (own : List En) : List En := own.foldl stepS []
theorem stk_snoc (own : List En) (x : En) : stk (own ++ [x]) = stepS (stk own) x := by simp [stk]
def lastN (own : List En) : Int := match own.getLast? with | some z => z.lsn | none => 0
theorem lastN_snoc (own : List En) (x : En) : lastN (own ++ [x]) = x.lsn := by simp [lastN]
/-- An entry goes on behind others of its transaction. -/
def Nx (a : List En) (x : En) : Prop := lastN a < x.lsn ∧ x.prev = lastN a ∧ (x.kind = 1 ∨ (x.kind = 2 ∧ ∃ z r, stk a = z :: r ∧ x.next = z.prev))
def Ch (own : List En) : Prop := ∀ a x b, own = a ++ x :: b → Nx a x
theorem Ch.nil : Ch [] := fun a x b h => by simp at h
theorem Ch.snoc {own : List En} {x : En} (h : Ch own) (hx : Nx own x) : Ch (own ++ [x]) := by
  intro a y b e
  rcases List.eq_nil_or_concat b with rfl | ⟨b', z, rfl⟩
  · obtain ⟨rfl, e2⟩ := List.append_inj' e rfl
    cases e2
    exact hx
  · have e' : own ++ [x] = (a ++ y :: b') ++ [z] := by rw [e]; simp
    obtain ⟨e2, _⟩ := List.append_inj' e' rfl
    exact h a y b' e2
theorem Ch.pre {a b : List En} (h : Ch (a ++ b)) : Ch a := fun a' x b' e => h a' x (b' ++ b) (by rw [e]; simp)
theorem Ch.last {own : List En} {x : En} (h : Ch (own ++ [x])) : Nx own x := h own x [] rfl
theorem rev_ind {α : Type} {C : List α → Prop} (h0 : C []) (h1 : ∀ l x, C l → C (l ++ [x])) : ∀ l, C l := by
  intro l
  have : ∀ n (l : List α), l.length = n → C l := by
    intro n
    induction n with
    | zero => intro l hl; rw [List.length_eq_zero_iff.1 hl]; exact h0
    | succ n ih =>
      intro l hl
      rcases List.eq_nil_or_concat l with rfl | ⟨l', z, rfl⟩
      · simp at hl
      · rw [List.concat_eq_append] at hl ⊢
        exact h1 _ _ (ih l' (by simpa using hl))
  exact this _ l rfl
theorem stk_split : ∀ (own : List En) (s1 : List En) (z : En) (r : List En), stk own = s1 ++ z :: r → ∃ a b, own = a ++ z :: b ∧ stk a = r ∧ z.kind = 1 := by
  intro own
  induction own using rev_ind with
  | h0 => intro s1 z r h; simp [stk] at h
  | h1 own x ih =>
    intro s1 z r h
    rw [stk_snoc] at h
    unfold stepS at h
    by_cases h1 : x.kind = 1
    · rw [if_pos h1] at h
      cases s1 with
      | nil =>
        simp only [List.nil_append, List.cons.injEq] at h
        obtain ⟨rfl, rfl⟩ := h
        exact ⟨own, [], rfl, rfl, h1⟩
      | cons y s1 =>
        simp only [List.cons_append, List.cons.injEq] at h
        obtain ⟨a, b, e, e2, e3⟩ := ih s1 z r h.2
        exact ⟨a, b ++ [x], by rw [e]; simp, e2, e3⟩
    · rw [if_neg h1] at h
      by_cases h2 : x.kind = 2
      · rw [if_pos h2] at h
        cases hs : stk own with
        | nil => rw [hs] at h; simp at h
        | cons y s =>
          rw [hs] at h
          simp only [List.tail_cons] at h
          obtain ⟨a, b, e, e2, e3⟩ := ih (y :: s1) z r (by rw [hs, h]; rfl)
          exact ⟨a, b ++ [x], by rw [e]; simp, e2, e3⟩
      · rw [if_neg h2] at h
        obtain ⟨a, b, e, e2, e3⟩ := ih s1 z r h
        exact ⟨a, b ++ [x], by rw [e]; simp, e2, e3⟩
theorem Ch.sorted : ∀ {own : List En}, Ch own → own.Pairwise (fun x y => x.lsn < y.lsn) ∧ ∀ x ∈ own, x.lsn ≤ lastN own ∧ 0 < x.lsn := by
  intro own
  induction own using rev_ind with
  | h0 => intro _; exact ⟨.nil, fun x h => by cases h⟩
  | h1 own x ih =>
    intro h
    obtain ⟨h1, h2⟩ := ih h.pre
    have hx := h.last.1
    have h0 : 0 ≤ lastN own := by
      unfold lastN
      cases hl : own.getLast? with
      | none => exact Int.le_refl _
      | some z => exact Int.le_of_lt (h2 z (List.mem_of_getLast? hl)).2
    refine ⟨List.pairwise_append.2 ⟨h1, by simp, fun a ha b hb => ?_⟩, fun y hy => ?_⟩
    · rw [List.mem_singleton.1 hb]
      have := (h2 a ha).1
      omega
    · rw [lastN_snoc]
      rcases List.mem_append.1 hy with hy | hy
      · have := h2 y hy; omega
      · rw [List.mem_singleton.1 hy]; omega
def headN (s : List En) : En × Bool × Int := match s with | [] => (zeroE, false, 0) | x :: _ => (x, true, 0)
theorem Ch.find {own a b : List En} {e : En} (h : Ch own) (he : own = a ++ e :: b) : own.find? (hasLsn e.lsn) = some e := by
  have hs := h.sorted.1
  rw [he, List.pairwise_append] at hs
  rw [he, List.find?_append]
  have h1 : a.find? (hasLsn e.lsn) = none := by
    rw [List.find?_eq_none]
    intro y hy
    have := hs.2.2 y hy e (by simp)
    simp [hasLsn]; omega
  rw [h1]
  simp [hasLsn]
theorem Ch.kind {own : List En} (h : Ch own) {x : En} (hx : x ∈ own) : x.kind = 1 ∨ x.kind = 2 := by
  obtain ⟨a, b, e⟩ := List.append_of_mem hx
  rcases (h a x b e).2.2 with h | h
  · exact .inl h
  · exact .inr h.1
theorem nextG_stk {own : List En} (h : Ch own) : ∀ (n : Nat) (a : List En) (e : En) (b : List En) (f : Nat), a.length ≤ n → own = a ++ e :: b → e.lsn.toNat < f → nextG f own e = headN (stk (a ++ [e])) := by
  intro n
  induction n with
  | zero =>
    intro a e b f ha he hf
    obtain rfl : a = [] := List.length_eq_zero_iff.1 (by omega)
    obtain ⟨f, rfl⟩ : ∃ k, f = k + 1 := ⟨f - 1, by omega⟩
    rcases (h [] e b he).2.2 with h1 | ⟨_, z, r, h2, _⟩
    · have : stk ([] ++ [e]) = [e] := by simp [stk, stepS, h1]
      rw [this]
      unfold nextG
      rw [if_neg (by omega), if_pos h1]; rfl
    · simp [stk] at h2
  | succ n ih =>
    intro a e b f ha he hf
    obtain ⟨f, rfl⟩ : ∃ k, f = k + 1 := ⟨f - 1, by omega⟩
    rcases (h a e b he).2.2 with h1 | ⟨h1, z, r, h2, h3⟩
    · rw [stk_snoc]
      unfold nextG stepS
      rw [if_neg (by omega), if_pos h1, if_pos h1]; rfl
    · obtain ⟨a', b', e1, e2, e3⟩ := stk_split a [] z r h2
      have hz : Nx a' z := h a' z (b' ++ e :: b) (by rw [he, e1]; simp)
      rw [stk_snoc]
      have hst : stepS (stk a) e = r := by unfold stepS; rw [if_neg (by omega), if_pos h1, h2]; rfl
      rw [hst]
      unfold nextG
      rw [if_pos h1, h3, hz.2.1]
      rcases List.eq_nil_or_concat a' with rfl | ⟨a2, e'', rfl⟩
      · rw [if_pos (show lastN [] = 0 from rfl), ← e2]; rfl
      · have ho : own = a2 ++ e'' :: (z :: b' ++ e :: b) := by rw [he, e1]; simp
        have hl : 0 < e''.lsn := (h.sorted.2 e'' (by rw [ho]; simp)).2
        have hlt : e''.lsn < e.lsn := by
          have hs := h.sorted.1
          rw [ho, List.pairwise_append] at hs
          have := List.rel_of_pairwise_cons hs.2.1 (a' := e) (by simp)
          exact this
        rw [List.concat_eq_append, lastN_snoc, if_neg (by omega), h.find ho]
        have hk : ¬ 2 < e''.kind := by
          rcases h.kind (x := e'') (by rw [ho]; simp) with h | h <;> omega
        show (if 2 < e''.kind then _ else _) = _
        rw [if_neg hk, ih a2 e'' _ f (by rw [e1] at ha; simp at ha; omega) ho (by omega), ← e2, List.concat_eq_append]
theorem nextM_stk {own : List En} (h : Ch own) : nextM own = headN (stk own) := by
  unfold nextM
  rcases List.eq_nil_or_concat own with rfl | ⟨a, e, rfl⟩
  · rfl
  · rw [List.concat_eq_append] at h ⊢
    rw [List.getLast?_append]
    simp only [List.getLast?_singleton]
    exact nextG_stk h a.length a e [] _ (Nat.le_refl _) rfl (by omega)
end Go.Proofs.YtficgjklagnbjaaGreat
namespace Go.Proofs.YtficgjklagnbjaaGreat
open Go Go.MapKept Go.RowKit Go.Proofs

theorem canon_le {L L' : List Sl} (h : ∀ k, slotOf L k = slotOf L' k) (hu : lastU L' = true) : L'.length ≤ L.length := by
  rcases List.eq_nil_or_concat L' with rfl | ⟨a, s, rfl⟩
  · simp
  · rw [List.concat_eq_append] at hu h ⊢
    unfold lastU at hu
    rw [List.getLast?_append] at hu
    simp only [List.getLast?_singleton] at hu
    by_cases hl : a.length < L.length
    · simp; omega
    · exfalso
      have h1 := h a.length
      unfold slotOf at h1
      rw [List.getElem?_eq_none (by omega), List.getElem?_append_right (Nat.le_refl _)] at h1
      simp only [Nat.sub_self, List.getElem?_cons_zero, Option.getD_some, Option.getD_none] at h1
      rw [← h1] at hu
      cases hu
/-- A list of slots that ends with a used one is known by its slots. -/
theorem canon {L L' : List Sl} (h : ∀ k, slotOf L k = slotOf L' k) (hu : lastU L = true) (hu' : lastU L' = true) : L = L' := by
  have h1 := canon_le h hu'
  have h2 := canon_le (fun k => (h k).symm) hu
  refine List.ext_getElem (by omega) (fun i h3 h4 => ?_)
  have := h i
  unfold slotOf at this
  rw [List.getElem?_eq_getElem h3, List.getElem?_eq_getElem h4] at this
  exact this
theorem put_can {p q : Pg} {k : Int} {x : Sl} (hg : goodP p = true) (h0 : 0 ≤ k) (h32 : k < 32) (ho : oddS x = false) (hq : goodP q = true) (hc : ∀ j : Nat, slotOf q.slots j = if (j : Int) = k then x else slotOf p.slots j) :
    (putM p k x) = (⟨p.lsn, q.slots⟩, 0) := by
  have hp := goodP_iff.1 hg
  have hqq := goodP_iff.1 hq
  have hno : ∀ s ∈ (widen p.slots (k.toNat + 1)).set k.toNat x, oddS s = false := by
    intro s hs
    rcases List.mem_or_eq_of_mem_set hs with h | rfl
    · rcases widen_mem h with h | rfl
      · exact hp.2.2.2.1 s h
      · exact noSl_odd
    · exact ho
  have hT : trimU ((widen p.slots (k.toNat + 1)).set k.toNat x) = q.slots := by
    refine canon (fun j => ?_) (trimU_last _) hqq.2.2.2.2.1
    rw [trimU_slot _ hno, set_slot _ _ _ _ (by rw [widen_len]; omega), widen_slot, hc j]
    by_cases hj : (j : Int) = k
    · rw [if_pos hj, if_pos (by omega)]
    · rw [if_neg hj, if_neg (by omega)]
  have h1 := odd_no ho
  unfold putM
  rw [hT, if_neg, if_neg (by omega), if_neg (by omega)]
  simp only [hg, Bool.not_true, Bool.false_or, Bool.or_eq_true, decide_eq_true_eq, Bool.and_eq_true, Bool.not_eq_true', decide_eq_false_iff_not, not_or, not_and, Decidable.not_not]
  exact ⟨⟨by omega, by omega⟩, h1.1⟩
theorem tl_nil {d : ByteArray} (h : d.toList = []) : d.size = 0 := by
  have h2 := ba_nil d
  rw [h] at h2
  exact of_decide_eq_true h2.symm
theorem slotM_odd {u : Bool} {d : ByteArray} (h : slotM u d = true) : oddS (u, d) = false := by
  unfold slotM at h
  simp only [Bool.and_eq_true, decide_eq_true_eq, Bool.or_eq_true, beq_iff_eq] at h
  unfold oddS
  simp only [Bool.or_eq_false_iff, Bool.and_eq_false_imp, Bool.not_eq_true', decide_eq_false_iff_not, decide_eq_true_eq, Bool.not_eq_false']
  refine ⟨fun e => ?_, by omega⟩
  rcases h.2 with h | h
  · rw [h] at e; cases e
  · exact tl_nil h
theorem goodM_chg {x : En} (h : goodM x = true) (hc : chgM x = true) : 0 ≤ x.slot ∧ x.slot < 32 ∧ oddS x.was = false ∧ oddS x.is = false ∧ 0 ≤ x.page := by
  have hk : x.kind = 1 ∨ x.kind = 2 := by simpa [chgM] using hc
  have hcm : changeM x = true := by
    unfold goodM at h
    rw [Bool.and_eq_true] at h
    rcases hk with hk | hk
    · have := h.2
      rw [if_pos hk, Bool.and_eq_true] at this
      exact this.1
    · have := h.2
      rw [if_neg (by omega), if_pos hk, Bool.and_eq_true] at this
      exact this.1
  unfold changeM withinM at hcm
  simp only [Bool.and_eq_true, decide_eq_true_eq] at hcm
  obtain ⟨⟨⟨h1, h2⟩, h3⟩, h4⟩ := hcm
  exact ⟨h2.1, by omega, slotM_odd h3, slotM_odd h4, h1.1⟩
/-- What a page has in its slots. -/
abbrev cont (p : Pg) : Nat → Sl := slotOf p.slots
def updX (f : Nat → Sl) (x : En) : Nat → Sl := fun j => if j = x.slot.toNat then x.is else f j
theorem redo_can {p q : Pg} {y : En} (hg : goodP p = true) (hy : goodM y = true) (hc : chgM y = true) (hl : p.lsn < y.lsn) (hw : cont p y.slot.toNat = y.was) (hq : goodP q = true) (hqc : ∀ j, cont q j = updX (cont p) y j) :
    redoM p y = (⟨y.lsn, q.slots⟩, true, 0) := by
  obtain ⟨s0, s32, o1, o2, _⟩ := goodM_chg hy hc
  have hat : atM p y.slot = y.was := by
    have := atM_slot hg y.slot.toNat
    rw [Int.toNat_of_nonneg s0] at this
    rw [this]; exact hw
  have hput := put_can hg s0 s32 o2 hq (fun j => by
    rw [show slotOf q.slots j = updX (cont p) y j from hqc j]
    unfold updX
    by_cases hj : (j : Int) = y.slot
    · rw [if_pos hj, if_pos (by omega)]
    · rw [if_neg hj, if_neg (by omega)])
  unfold redoM
  rw [if_neg (by simp [hg, hy, hc]), if_neg (by omega), if_neg (by simp [hat]), hput]
  simp
/-- What a page's content is behind an entry that was done to it. -/
theorem redo_cont {p : Pg} {y : En} (h : (redoM p y).2.2 = 0) (hd : (redoM p y).2.1 = true) : goodP p = true ∧ goodM y = true ∧ chgM y = true ∧ goodP (redoM p y).1 = true ∧ p.lsn < y.lsn ∧ (redoM p y).1.lsn = y.lsn ∧ cont p y.slot.toNat = y.was ∧ (∀ j, cont (redoM p y).1 j = updX (cont p) y j) := by
  obtain ⟨h1, h2, h3, h4, h5⟩ := redoM_ok h
  obtain ⟨s0, s32, o1, o2, _⟩ := goodM_chg h2 h3
  rcases h5 with ⟨_, e⟩ | ⟨h5, h6, h7, e⟩
  · rw [e] at hd; cases hd
  · refine ⟨h1, h2, h3, h4, h5, by rw [e], ?_, fun j => ?_⟩
    · have := atM_slot h1 y.slot.toNat
      rw [Int.toNat_of_nonneg s0] at this
      rw [← h6, this]
    · rw [e]
      show slotOf (putM p y.slot y.is).1.slots j = _
      rw [put_slot h7 j]
      unfold updX
      by_cases hj : (j : Int) = y.slot
      · rw [if_pos hj, if_pos (by omega)]
      · rw [if_neg hj, if_neg (by omega)]
end Go.Proofs.YtficgjklagnbjaaGreat
namespace Go.Proofs.YtficgjklagnbjaaGreat
open Go Go.MapKept Go.RowKit Go.Proofs

/-- Changes, the newest first, over slots. -/
def appF : List En → (Nat → Sl) → Nat → Sl
  | [], f => f
  | x :: r, f => updX (appF r f) x
/-- Each change of a stack fits on those below it, and there was a page that had it so. -/
def Fst (f : Nat → Sl) : List En → Prop
  | [] => ∃ q, goodP q = true ∧ ∀ j, cont q j = f j
  | x :: r => appF r f x.slot.toNat = x.was ∧ (∃ q, goodP q = true ∧ ∀ j, cont q j = appF (x :: r) f j) ∧ Fst f r
theorem Fst.page {f : Nat → Sl} : ∀ {s : List En}, Fst f s → ∃ q, goodP q = true ∧ ∀ j, cont q j = appF s f j
  | [], h => h
  | _ :: _, h => h.2.1
def onP (n : Nat) (x : En) : Bool := decide (x.page = (n : Int))
structure LI (l : List En) (P : List Lf) : Prop where
  ok : ∀ x ∈ l, goodM x = true ∧ ∃ n k : Nat, n < 4 ∧ k < 5 ∧ x.page = n ∧ x.slot = k
  len : P.length = 4
  pg : ∀ n : Nat, n < 4 → ∃ p, P[n]? = some ((n : Int), p) ∧ goodP p = true ∧ p.lsn ≤ l.length
  lsn : ∀ x ∈ l, x.lsn ≤ l.length
  st : ∀ t, endM l t = false → Ch (ofM l t)
  one : ∀ t t' x y, endM l t = false → endM l t' = false → x ∈ ofM l t → y ∈ ofM l t' → x.page = y.page → t = t'
  free : ∀ (n : Nat) p, P[n]? = some ((n : Int), p) → (∀ t, endM l t = false → ∀ x ∈ ofM l t, x.page ≠ (n : Int)) → ∀ k, cont p k = wantS (foldP l) n k
  held : ∀ t (n : Nat) p, endM l t = false → P[n]? = some ((n : Int), p) → (∃ x ∈ ofM l t, x.page = (n : Int)) →
    Fst (wantS (foldP l) n) ((stk (ofM l t)).filter (onP n)) ∧ (∀ k, cont p k = appF ((stk (ofM l t)).filter (onP n)) (wantS (foldP l) n) k) ∧ (∀ k, cont p k = wantS (innerG t l (foldP l)) n k)
theorem endM_snoc (l : List En) (x : En) (t : Tx) : endM (l ++ [x]) t = (endM l t || (goodM x && isEndM x && decide (x.t = t))) := by
  simp [endM]
theorem ofM_snoc2 (l : List En) (t : Tx) {x : En} (hg : goodM x = true) : ofM (l ++ [x]) t = if x.t = t then ofM l t ++ [x] else ofM l t := by
  rw [ofM_step, hg, Bool.and_true]
  by_cases h : x.t = t
  · simp [h]
  · simp [h]
theorem foldQ_snoc (x : En) : ∀ (l done : List En) (G : Gr), foldQ done (l ++ [x]) G = if x.kind = 3 then innerG x.t (done ++ l) (foldQ done l G) else foldQ done l G
  | [], done, G => by simp [foldQ]
  | y :: r, done, G => by
    show foldQ (done ++ [y]) (r ++ [x]) _ = _
    rw [foldQ_snoc x r]
    simp [foldQ]
theorem foldP_snoc (l : List En) (x : En) : foldP (l ++ [x]) = if x.kind = 3 then innerG x.t l (foldP l) else foldP l := by
  unfold foldP
  rw [foldQ_snoc]; rfl
theorem mem_ofM {l : List En} {t : Tx} {x : En} : x ∈ ofM l t ↔ x ∈ l ∧ x.t = t ∧ goodM x = true := by
  unfold ofM
  rw [List.mem_filter, Bool.and_eq_true, decide_eq_true_eq]
theorem innerG_none (t : Tx) (m : Nat) : ∀ (l : List En) (G : Gr), (∀ y ∈ l, y.t = t → y.page.toNat ≠ m) → ∀ k, innerG t l G m k = G m k
  | [], G, _, k => rfl
  | y :: r, G, h, k => by
    show innerG t r _ m k = _
    rw [innerG_none t m r _ (fun z hz => h z (List.mem_cons_of_mem _ hz)) k]
    by_cases hy : y.t = t
    · rw [if_pos hy]
      unfold upd2
      rw [if_neg]
      rintro ⟨h1, _⟩
      exact h y (.head _) hy h1.symm
    · rw [if_neg hy]
theorem innerG_row (t : Tx) (m : Nat) : ∀ (l : List En) (G G' : Gr), (∀ k, G m k = G' m k) → ∀ k, innerG t l G m k = innerG t l G' m k
  | [], G, G', h, k => h k
  | y :: r, G, G', h, k => by
    show innerG t r _ m k = innerG t r _ m k
    refine innerG_row t m r _ _ (fun j => ?_) k
    by_cases hy : y.t = t
    · rw [if_pos hy, if_pos hy]
      unfold upd2
      split
      · rfl
      · exact h j
    · rw [if_neg hy, if_neg hy]; exact h j
theorem stk_mem {own : List En} {x : En} (h : x ∈ stk own) : x ∈ own ∧ x.kind = 1 := by
  obtain ⟨s1, r, e⟩ := List.append_of_mem h
  obtain ⟨a, b, e1, _, e3⟩ := stk_split own s1 x r e
  exact ⟨by rw [e1]; simp, e3⟩
theorem wantS_congr {G G' : Gr} {n : Nat} (h : ∀ k, G n k = G' n k) (k : Nat) : wantS G n k = wantS G' n k := by
  unfold wantS
  split
  · exact h k
  · rfl
section
variable {l : List En} {P : List Lf}
/-- What a page has whose other holders are none. -/
theorem LI.mine (h : LI l P) {t : Tx} {n : Nat} {p : Pg} (ht : endM l t = false) (hp : P[n]? = some ((n : Int), p)) (hg : goodP p = true) (ho : ∀ t', t' ≠ t → endM l t' = false → ∀ x ∈ ofM l t', x.page ≠ (n : Int)) :
    Fst (wantS (foldP l) n) ((stk (ofM l t)).filter (onP n)) ∧ (∀ k, cont p k = appF ((stk (ofM l t)).filter (onP n)) (wantS (foldP l) n) k) ∧ (∀ k, cont p k = wantS (innerG t l (foldP l)) n k) := by
  by_cases hx : ∃ x ∈ ofM l t, x.page = (n : Int)
  · exact h.held t n p ht hp hx
  · have hnone : ∀ x ∈ ofM l t, x.page ≠ (n : Int) := fun x h1 h2 => hx ⟨x, h1, h2⟩
    have hf := h.free n p hp (fun t' ht' x hx' => by
      by_cases he : t' = t
      · subst he; exact hnone x hx'
      · exact ho t' he ht' x hx')
    have hs : (stk (ofM l t)).filter (onP n) = [] := by
      rw [List.filter_eq_nil_iff]
      intro x hx' h2
      exact hnone x (stk_mem hx').1 (by simpa [onP] using h2)
    rw [hs]
    refine ⟨⟨p, hg, hf⟩, hf, fun k => ?_⟩
    rw [hf k]
    refine wantS_congr (fun j => (innerG_none t n l _ (fun y hy he => ?_) j).symm) k
    intro e
    obtain ⟨hgy, n', k', _, _, e1, _⟩ := h.ok y hy
    exact hnone y (mem_ofM.2 ⟨hy, he, hgy⟩) (by omega)
end
end Go.Proofs.YtficgjklagnbjaaGreat
namespace Go.Proofs.YtficgjklagnbjaaGreat
open Go Go.MapKept Go.RowKit Go.Proofs

theorem chg_end {x : En} (hk : x.kind = 1 ∨ x.kind = 2) : isEndM x = false := by
  unfold isEndM
  rcases hk with h | h <;> rw [h] <;> rfl
theorem chg_chgM {x : En} (hk : x.kind = 1 ∨ x.kind = 2) : chgM x = true := by
  unfold chgM
  rcases hk with h | h <;> rw [h] <;> rfl
section
variable {l : List En} {P : List Lf} {x : En} {n : Nat} {p p' : Pg}
theorem LI.push (h : LI l P) (ht : endM l x.t = false) (hk : x.kind = 1 ∨ x.kind = 2) (hp : P[n]? = some ((n : Int), p)) (hpg : x.page = (n : Int)) (hn : n < 4) (hsl : ∃ k : Nat, k < 5 ∧ x.slot = k) (hr : redoM p x = (p', true, 0)) (hnx : Nx (ofM l x.t) x) (hlen : x.lsn ≤ l.length + 1)
    (ho : ∀ t', t' ≠ x.t → endM l t' = false → ∀ y ∈ ofM l t', y.page ≠ (n : Int))
    (hpz : ∀ z r, x.kind = 2 → stk (ofM l x.t) = z :: r → z.page = x.page)
    (hst : Fst (wantS (foldP l) n) ((stk (ofM l x.t ++ [x])).filter (onP n)) ∧ ∀ k, cont p' k = appF ((stk (ofM l x.t ++ [x])).filter (onP n)) (wantS (foldP l) n) k) :
    LI (l ++ [x]) (P.set n ((n : Int), p')) := by
  have hrc := redo_cont (p := p) (y := x) (by rw [hr]) (by rw [hr])
  rw [hr] at hrc
  obtain ⟨g1, g2, g3, g4, g5, g6, g7, g8⟩ := hrc
  have hend : ∀ t', endM (l ++ [x]) t' = endM l t' := fun t' => by rw [endM_snoc, chg_end hk]; simp
  have hfold : foldP (l ++ [x]) = foldP l := by rw [foldP_snoc, if_neg (by rcases hk with h | h <;> omega)]
  have hof : ∀ t', ofM (l ++ [x]) t' = if x.t = t' then ofM l t' ++ [x] else ofM l t' := fun t' => ofM_snoc2 l t' g2
  have hmem : ∀ t' y, y ∈ ofM (l ++ [x]) t' → (y ∈ ofM l t') ∨ (y = x ∧ x.t = t') := by
    intro t' y hy
    rw [hof] at hy
    by_cases he : x.t = t'
    · rw [if_pos he] at hy
      rcases List.mem_append.1 hy with hy | hy
      · exact .inl hy
      · exact .inr ⟨List.mem_singleton.1 hy, he⟩
    · rw [if_neg he] at hy
      exact .inl hy
  have hsub : ∀ t' y, y ∈ ofM l t' → y ∈ ofM (l ++ [x]) t' := by
    intro t' y hy
    rw [hof]
    split
    · exact List.mem_append_left _ hy
    · exact hy
  have hnl : n < P.length := by rw [h.len]; exact hn
  have hlen1 : (l ++ [x]).length = l.length + 1 := by simp
  obtain ⟨ks, hks, hks2⟩ := hsl
  refine ⟨?_, by rw [List.length_set]; exact h.len, ?_, ?_, ?_, ?_, ?_, ?_⟩
  · intro y hy
    rcases List.mem_append.1 hy with hy | hy
    · exact h.ok y hy
    · rw [List.mem_singleton.1 hy]
      exact ⟨g2, n, ks, hn, hks, hpg, hks2⟩
  · intro m hm
    by_cases hmn : m = n
    · subst hmn
      refine ⟨p', by rw [List.getElem?_set_self hnl], g4, ?_⟩
      rw [hlen1, g6]; push_cast; omega
    · obtain ⟨q, h1, h2, h3⟩ := h.pg m hm
      refine ⟨q, by rw [List.getElem?_set_ne (fun e => hmn e.symm)]; exact h1, h2, ?_⟩
      rw [hlen1]; push_cast; omega
  · intro y hy
    rw [hlen1]
    rcases List.mem_append.1 hy with hy | hy
    · have := h.lsn y hy; push_cast; omega
    · rw [List.mem_singleton.1 hy]; push_cast; omega
  · intro t' ht'
    rw [hend] at ht'
    rw [hof]
    split
    · rename_i e
      rw [← e] at ht' ⊢
      exact (h.st _ ht').snoc hnx
    · exact h.st _ ht'
  · intro t1 t2 y1 y2 h1 h2 m1 m2 he
    rw [hend] at h1 h2
    rcases hmem _ _ m1 with m1 | ⟨e1, e1'⟩ <;> rcases hmem _ _ m2 with m2 | ⟨e2, e2'⟩
    · exact h.one t1 t2 y1 y2 h1 h2 m1 m2 he
    · by_cases hte : t1 = x.t
      · rw [hte, e2']
      · exact absurd (by rw [he, e2]; exact hpg) (ho t1 hte h1 y1 m1)
    · by_cases hte : t2 = x.t
      · rw [hte, e1']
      · exact absurd (by rw [← he, e1]; exact hpg) (ho t2 hte h2 y2 m2)
    · rw [← e1', e2']
  · intro m q hq hfr k
    rw [hfold]
    by_cases hmn : m = n
    · exfalso
      refine hfr x.t (by rw [hend]; exact ht) x ?_ (by rw [hmn]; exact hpg)
      rw [hof, if_pos rfl]; simp
    · rw [List.getElem?_set_ne (fun e => hmn e.symm)] at hq
      exact h.free m q hq (fun t' ht' y hy => hfr t' (by rw [hend]; exact ht') y (hsub t' y hy)) k
  · intro t' m q ht' hq hex
    rw [hend] at ht'
    rw [hfold]
    by_cases hmn : m = n
    · subst hmn
      rw [List.getElem?_set_self hnl] at hq
      simp only [Option.some.injEq, Prod.mk.injEq, true_and] at hq
      subst hq
      obtain ⟨y, hy, hym⟩ := hex
      have hte : t' = x.t := by
        rcases hmem _ _ hy with hy | ⟨_, e⟩
        · by_cases hte : t' = x.t
          · exact hte
          · exact absurd hym (ho t' hte ht' y hy)
        · exact e.symm
      subst hte
      rw [hof, if_pos rfl]
      refine ⟨hst.1, hst.2, fun k => ?_⟩
      rw [g8 k, innerG_snoc, if_pos rfl]
      have hv := (h.mine ht hp g1 (fun t' h1 h2 => ho t' h1 h2)).2.2
      unfold updX
      have hks3 : x.slot.toNat = ks := by omega
      have hpg3 : x.page.toNat = m := by omega
      rw [hks3, hpg3]
      by_cases hk5 : k = ks
      · rw [if_pos hk5]
        unfold wantS upd2
        rw [if_pos (by omega), if_pos ⟨rfl, hk5⟩]
      · rw [if_neg hk5, hv k]
        unfold wantS upd2
        split
        · rw [if_neg (fun h => hk5 h.2)]
        · rfl
    · rw [List.getElem?_set_ne (fun e => hmn e.symm)] at hq
      have hxm : ¬ x.page = (m : Int) := by rw [hpg]; omega
      obtain ⟨y, hy, hym⟩ := hex
      have hy' : y ∈ ofM l t' := by
        rcases hmem _ _ hy with hy | ⟨e, _⟩
        · exact hy
        · rw [e] at hym; exact absurd hym hxm
      obtain ⟨a1, a2, a3⟩ := h.held t' m q ht' hq ⟨y, hy', hym⟩
      have hfl : (stk (ofM (l ++ [x]) t')).filter (onP m) = (stk (ofM l t')).filter (onP m) := by
        rw [hof]
        split
        · rename_i he
          rw [stk_snoc]
          unfold stepS
          rcases hk with hk | hk
          · rw [if_pos hk, List.filter_cons_of_neg (by simpa [onP] using hxm)]
          · rw [if_neg (by omega), if_pos hk]
            obtain ⟨_, _, h3⟩ := hnx
            rcases h3 with h3 | ⟨_, z, r, h4, _⟩
            · omega
            · rw [he] at h4
              rw [h4, List.tail_cons]
              by_cases hz : z.page = (m : Int)
              · exfalso
                -- the undone change is on the entry's own page
                exact hxm ((hpz z r hk (by rw [he]; exact h4)).symm.trans hz)
              · rw [List.filter_cons_of_neg (by simpa [onP] using hz)]
        · rfl
      rw [hfl]
      refine ⟨a1, a2, fun k => ?_⟩
      rw [a3 k, innerG_snoc]
      refine wantS_congr (fun j => ?_) k
      split
      · unfold upd2
        rw [if_neg]
        rintro ⟨e, _⟩
        apply hxm
        omega
      · rfl
end
end Go.Proofs.YtficgjklagnbjaaGreat
