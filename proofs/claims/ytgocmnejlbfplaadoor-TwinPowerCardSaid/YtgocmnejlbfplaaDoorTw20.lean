/- The law's own proof that it is awake: walked. Conditions: none. -/
import Derived.Test.YtgocmnejlbfplaaDoorTw19
namespace Go.Proofs.YtgocmnejlbfplaaDoor
open Go Go.MapKept Go.RowKit Go.Proofs

attribute [local go_sem] Oper.semAt_some

theorem plOk_new {N : Int} (h : 1 ≤ N) (b : Nat) (hb : b ≤ 100000) : PlOk b (newM N) := by
  refine ⟨fun x hx => (by cases hx), fun x hx => (by cases hx), ?_⟩
  simp only [newM, List.length_nil]
  omega
theorem fresh_open {N frm twins : Int} {k : Nat} (h0 : 0 ≤ frm) (h1 : 1 ≤ twins) (h2 : twins ≤ 64) (h3 : 1 ≤ k) (h4 : k ≤ 1024) (h5 : frm + twins + (k : Int) ≤ (newM N).count) (hN : 1 ≤ N) {pb : Nat} {F : Heaplet} {w : World} (h : PlateIs pb (newM N) F w) :
    Calls Tryd.prog 8 #[.pointer (some ⟨pb, 0, none⟩), .int .i64 frm, .int .i64 twins, .int .i64 (k : Int)] w (fun e w' => ∃ tb, e = .returned (.tuple #[.pointer (some ⟨tb, 0, none⟩), .int .i64 0]) ∧ StIs tb pb (newT frm twins k) (newM N) F w') := by
  have := open_any h (plOk_new hN 0 (by omega)) (by omega) (by simp only [newM]; omega) frm twins (k : Int)
  rw [openP_new h0 h1 h2 h3 h4 h5] at this
  exact this
theorem lvAt_one (y : Nat) (n : Int) (p : Pg) (sv : Value) (T : TypeId) (F : Heaplet) (h : SlAt F sv p.slots) : LvAt (.blk y (.cells #[kI n, kI p.lsn, sv] T) :: F) (.slice (some ⟨y, 0, none⟩) 1 1) [(n, p)] := by
  refine ⟨some ⟨y, 0, none⟩, 1, rfl, fun i q hq => ?_⟩
  match i, hq with
  | 0, hq =>
    cases hq
    refine ⟨y, 0, sv, rfl, h.mono (fun w hw => hw.tail), fun w hw => ⟨?_, ?_, ?_⟩⟩
    · show w.cell? ⟨y, 0, none⟩ = _
      rw [cell_of hw.h0]; rfl
    · show w.cell? ⟨y, 1, none⟩ = _
      rw [cell_of hw.h0]; rfl
    · show w.cell? ⟨y, 2, none⟩ = _
      rw [cell_of hw.h0]; rfl
theorem lvAt_two (y : Nat) (n m : Int) (p q : Pg) (sv tv : Value) (T : TypeId) (F : Heaplet) (h : SlAt F sv p.slots) (h2 : SlAt F tv q.slots) : LvAt (.blk y (.cells #[kI n, kI p.lsn, sv, kI m, kI q.lsn, tv] T) :: F) (.slice (some ⟨y, 0, none⟩) 2 2) [(n, p), (m, q)] := by
  refine ⟨some ⟨y, 0, none⟩, 2, rfl, fun i r hr => ?_⟩
  match i, hr with
  | 0, hr =>
    cases hr
    refine ⟨y, 0, sv, rfl, h.mono (fun w hw => hw.tail), fun w hw => ⟨?_, ?_, ?_⟩⟩
    · show w.cell? ⟨y, 0, none⟩ = _
      rw [cell_of hw.h0]; rfl
    · show w.cell? ⟨y, 1, none⟩ = _
      rw [cell_of hw.h0]; rfl
    · show w.cell? ⟨y, 2, none⟩ = _
      rw [cell_of hw.h0]; rfl
  | 1, hr =>
    cases hr
    refine ⟨y, 0, tv, rfl, h2.mono (fun w hw => hw.tail), fun w hw => ⟨?_, ?_, ?_⟩⟩
    · show w.cell? ⟨y, 3, none⟩ = _
      rw [cell_of hw.h0]; rfl
    · show w.cell? ⟨y, 4, none⟩ = _
      rw [cell_of hw.h0]; rfl
    · show w.cell? ⟨y, 5, none⟩ = _
      rw [cell_of hw.h0]; rfl
theorem StIs.put2 {tb pb g : Nat} {S : TS} {M : PM} {G : Heaplet} {w : World} {x0 x1 : Value} {T : TypeId} (h : StIs tb pb S M (.blk g (.cells #[x0, x1] T) :: G) w) (y0 y1 : Value) : StIs tb pb S M (.blk g (.cells #[y0, y1] T) :: G) ((w.setCell ⟨g, 0, none⟩ y0).setCell ⟨g, 1, none⟩ y1) :=
  (h.setF (i := 0) y0).setF (i := 1) y1
def xI : ByteArray := ⟨#[120]⟩
def awL : List Lf := [(3, imgP 7 xI)]
theorem awGood : goodP (imgP 7 xI) = true := by decide
theorem awFits : fitsT (newT 2 2 4) awL = true := by decide
def awM : PM := wrM (newT 2 2 4) (newM 20) awL
theorem awW : writeT (newT 2 2 4) (newM 20) awL = (0, putT (newT 2 2 4) awL, awM) := by
  rw [writeT_calm rfl rfl rfl rfl (by decide) (by decide) (by decide), awFits, if_neg (by simp), if_neg (by decide)]
  rfl
theorem awOk : PlOk 100 awM := by
  refine ⟨fun x hx => ?_, fun x hx => (by cases hx), by decide⟩
  have : awM.secs = [(2, secM 3 (imgP 7 xI)), (7, secM 3 (imgP 7 xI))] := rfl
  rw [this] at hx
  simp only [List.mem_cons, List.not_mem_nil, or_false] at hx
  rcases hx with rfl | rfl <;> exact .inr (secM_size awGood)
theorem awRead : readM awM 7 = (secM 3 (imgP 7 xI), 0) := by
  rw [readM_hold rfl (by decide) (by decide) rfl]
  have : getL 7 awM.secs = some (secM 3 (imgP 7 xI)) := rfl
  rw [this]
  simp only
  rw [if_neg (by rw [secM_size awGood]; decide)]
theorem awR3 : readT (putT (newT 2 2 4) awL) awM 3 = (imgP 7 xI, 0) := rfl
theorem awR0 : readT (putT (newT 2 2 4) awL) awM 0 = (emptyP, 0) := rfl
theorem awTag : (secM 3 (imgP 7 xI)).extract 240 248 = ⟨#[80, 65, 71, 69, 0, 0, 0, 3]⟩ := by
  apply ba_ext
  rw [ext_list]
  show (List.drop 240 (List.take 248 (encB _ ++ _))) = _
  rw [List.drop_take, List.drop_left' (encB_len awGood)]
  rfl
set_option maxRecDepth 100000 in
set_option maxHeartbeats 4000000 in
theorem awake8 (F : Heaplet) (w : World) (hs : Sat w F) : Calls Tryd.prog 5 #[] w (Ret (.bool true) (fun w' => Sat w' F)) := by
  have HNW := Lib.hid (plate_new F 20 w hs)
  have HOP : Hid (∀ pb W, PlateIs pb (newM 20) F W → _) := Lib.hid (fun pb W hW => fresh_open (N := 20) (frm := 2) (twins := 2) (k := 4) (by decide) (by decide) (by decide) (by decide) (by decide) (by decide) (by decide) hW)
  obtain ⟨S0, hS0⟩ : ∃ S0, newT 2 2 4 = S0 := ⟨_, rfl⟩
  obtain ⟨M0, hM0⟩ : ∃ M0, newM 20 = M0 := ⟨_, rfl⟩
  obtain ⟨S1, hS1⟩ : ∃ S1, putT (newT 2 2 4) awL = S1 := ⟨_, rfl⟩
  obtain ⟨M1, hM1⟩ : ∃ M1, awM = M1 := ⟨_, rfl⟩
  obtain ⟨sec, hsec⟩ : ∃ sec, secM 3 (imgP 7 xI) = sec := ⟨_, rfl⟩
  have HWR : Hid (∀ tb pb v G W, StIs tb pb S0 M0 G W → LvAt G v awL → Calls Tryd.prog 9 #[.pointer (some ⟨tb, 0, none⟩), v] W (fun e w' => e = .returned (.int .i64 0) ∧ StIs tb pb S1 M1 G w')) := Lib.hid (fun tb pb v G W hW hv => by
    have := twrite_any hW hv (bd := 0) (by rw [← hM0]; exact plOk_new (by decide) 0 (by decide)) (by decide) (by decide) (fun p hp => by
      obtain rfl : p = (3, imgP 7 xI) := by simpa [awL] using hp
      exact ⟨by decide, fun x hx => (by obtain rfl : x = (true, xI) := by simpa [imgP] using hx
                                        decide), by decide, by decide⟩) (by rw [← hS0]; decide) (by rw [← hS0]; decide) (by rw [← hS0]; decide)
    rw [← hS0, ← hM0, awW, hS1, hM1] at this
    exact this)
  have HRD : Hid (∀ tb pb n G W, StIs tb pb S1 M1 G W → Calls Tryd.prog 12 #[.pointer (some ⟨tb, 0, none⟩), .int .i64 n] W (TRet (readT S1 M1 n).1 (readT S1 M1 n).2 tb pb S1 M1 G)) := Lib.hid (fun tb pb n G W hW => tread_any hW n (by
    rw [← hS1]
    intro p hp
    have : (putT (newT 2 2 4) awL).pages = [emptyP, emptyP, emptyP, imgP 7 xI] := rfl
    rw [this] at hp
    simp only [List.mem_cons, List.not_mem_nil, or_false] at hp
    rcases hp with rfl | rfl | rfl | rfl <;> decide) (by rw [← hS1]; decide))
  have HRD3 : Hid (∀ tb pb G W, StIs tb pb S1 M1 G W → Calls Tryd.prog 12 #[.pointer (some ⟨tb, 0, none⟩), .int .i64 3] W (fun e w' => ∃ a c h, e = .returned (.tuple #[pgV 7 (.slice a 1 c), .int .i64 0]) ∧ StIs tb pb S1 M1 (h ++ G) w')) := Lib.hid (fun tb pb G W hW => by
    have := HRD.out tb pb 3 G W hW
    rw [show readT S1 M1 3 = (imgP 7 xI, 0) from by rw [← hS1, ← hM1]; exact awR3] at this
    refine this.mono ?_
    rintro e w' ⟨sv, h, rfl, h1, a, c, rfl, _⟩
    exact ⟨a, c, h, rfl, h1⟩)
  have HRD0 : Hid (∀ tb pb G W, StIs tb pb S1 M1 G W → Calls Tryd.prog 12 #[.pointer (some ⟨tb, 0, none⟩), .int .i64 0] W (fun e w' => ∃ a c h, e = .returned (.tuple #[pgV 0 (.slice a 0 c), .int .i64 0]) ∧ StIs tb pb S1 M1 (h ++ G) w')) := Lib.hid (fun tb pb G W hW => by
    have := HRD.out tb pb 0 G W hW
    rw [show readT S1 M1 0 = (emptyP, 0) from by rw [← hS1, ← hM1]; exact awR0] at this
    refine this.mono ?_
    rintro e w' ⟨sv, h, rfl, h1, a, c, rfl, _⟩
    exact ⟨a, c, h, rfl, h1⟩)
  have HPR : Hid (∀ tb pb G W, StIs tb pb S1 M1 G W → Calls Tryd.prog 18 #[.pointer (some ⟨pb, 0, none⟩), .int .i64 7] W (Ret (.tuple #[.string sec, .int .i64 0]) (StIs tb pb S1 M1 G))) := Lib.hid (fun tb pb G W hW => by
    have := hW.read (bd := 100) (by rw [← hM1]; exact awOk) 7
    rw [← hM1, awRead, hsec] at this
    rw [← hM1]
    exact this)
  have hact : M1.acts = 4 := by rw [← hM1]; rfl
  have hsz : sec.size = 256 := by rw [← hsec]; exact secM_size awGood
  have htag : sec.extract 240 248 = ⟨#[80, 65, 71, 69, 0, 0, 0, 3]⟩ := by rw [← hsec]; exact awTag
  clear hs hS1 hM1 hsec HRD
  rw [hM0] at HNW HOP
  rw [hS0] at HOP
  clear hS0 hM0
  go_enter Tryd.func5, Tryd.ntmps5
  go_upto_region 2 with (go_at_call 7; refine (HNW.out).mono ?_; rintro e w1 ⟨pb, rfl, hp1⟩; have HP1 := Lib.hid hp1; clear hp1)
  go_upto_region 3 with (go_at_call 8; refine (HOP.out _ _ HP1.out).mono ?_; rintro e w2 ⟨tb, rfl, hs2⟩; have HS2 := Lib.hid hs2; clear hs2)
  clear HNW HOP HP1
  go_upto_region 5 with (fail)
  obtain ⟨Z, _, _, hz, hmk, _⟩ := HS2.out.view
  have HMK := Lib.hid hmk
  have HZ := Lib.hid hz
  clear hz hmk HS2
  go_upto_region 6 with (first | (go_at_call 10; refine (image_any 7 ⟨#[120]⟩ Z _ HZ.out).mono ?_; rintro e w3 ⟨x, rfl, hs3⟩; have HS3 := Lib.hid (HMK.out w3 [.blk x (.cells #[.bool true, kS ⟨#[120]⟩] 60)] hs3); clear hs3) | (go_at_call 9; refine (HWR.out _ _ _ _ _ (HS3.out.new (.cells #[kI 3, kI 7, .slice (some ⟨x, 0, none⟩) 1 1] 27)) (lvAt_one _ 3 (imgP 7 xI) (.slice (some ⟨x, 0, none⟩) 1 1) _ _ (slAt_one x xI F))).mono ?_; rintro e w4 ⟨rfl, hs4⟩; have HS4 := Lib.hid hs4; clear hs4))
  clear HWR HMK HZ HS3
  go_upto_region 7 with (go_at_call 12; refine (HRD3.out _ _ _ _ HS4.out).mono ?_; rintro e w5 ⟨a3, c3, h3, rfl, hs5⟩; have HS5 := Lib.hid (hs5.new (.cells #[kI 7, .slice a3 1 c3] 25)); clear hs5)
  clear HRD3 HS4
  go_upto_region 8 with (go_at_call 18; refine (HPR.out _ _ _ _ HS5.out).mono ?_; rintro e w6 ⟨rfl, hs6⟩; have HS6 := Lib.hid hs6; clear hs6)
  clear HPR HS5
  go_upto_region 9 with (go_at_call 12; refine (HRD0.out _ _ _ _ HS6.out).mono ?_; rintro e w7 ⟨a0, c0, h0, rfl, hs7⟩; have HS7 := Lib.hid (hs7.new (.cells #[kI 0, .slice a0 0 c0] 25)); clear hs7)
  clear HRD0 HS6
  obtain ⟨b5, hb5⟩ : ∃ b5, w5.heap.size = b5 := ⟨_, rfl⟩
  obtain ⟨b7, hb7⟩ : ∃ b7, w7.heap.size = b7 := ⟨_, rfl⟩
  rw [hb5, hb7] at HS7
  generalize w7.alloc (.cells #[.int .i64 0, .slice a0 0 c0] 25) = W8 at *
  obtain ⟨q0, q1, _⟩ := two_at HS7.out.frame
  obtain ⟨p0, p1, _⟩ := two_at (Sat.right HS7.out.frame.tail)
  have HAC := Lib.hid (acts_any _ _ _ _ HS7.out.toPlate)
  rw [hact] at HAC
  have HF := Lib.hid (show Sat W8 F from ((Sat.right HS7.out.frame.tail).tail.right).tail.tail)
  clear HS7
  rw [hb5] at *
  rw [hb7] at *
  go_wp2_with (go_at_call 11; refine (HAC.out).mono ?_; rintro e w9 ⟨rfl, rfl⟩)
  go_ret
  exact ⟨rfl, HF.out⟩
end Go.Proofs.YtgocmnejlbfplaaDoor
