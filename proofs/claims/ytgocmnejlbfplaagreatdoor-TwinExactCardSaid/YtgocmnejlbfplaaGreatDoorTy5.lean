/- Texts put together: Tx1, Pg0, Pg1. Conditions: none. -/
import Derived.Test.YtgocmnejlbfplaaGreatDoorProg
import Derived.ProofKit
import Derived.Lib.Hide
import Derived.Deep.CutBlock
import Derived.Test.YtgocmnejlbfplaaGreatDoorTy1
import Derived.Test.YtgocmnejlbfplaaGreatDoorTy4
namespace Go.Proofs.YtgocmnejlbfplaaGreatDoor
open Go Go.MapKept Go.RowKit Go.Proofs

attribute [local go_sem] Oper.semAt_some

def rsC (x : Int × ByteArray) : List Value := [kI x.1, kS x.2, .bool (decide (x.2.size = 0))]
def rwC (x : Int × ByteArray) : List Value := [kI x.1, kS x.2]
abbrev rpO (M : PM) (lv qv : Value) : Obj := .cells #[kI M.count, lv, qv, .bool M.down, kI M.acts, kI M.life, kI M.armed] 67
/-- The document's plate, in blocks of its own. -/
def RPo (b : Nat) (M : PM) (H : Heaplet) : Prop := 0 ≤ M.armed ∧ (∀ x ∈ M.queue, x.2.size = 256) ∧ ∃ lv qv lh qh, SliceIs 94 3 lv M.secs.length (M.secs.flatMap rsC) lh ∧ SliceIs 92 2 qv M.queue.length (M.queue.flatMap rwC) qh ∧ H = .blk b (rpO M lv qv) :: (lh ++ qh)
def RPl (b : Nat) (M : PM) (F : Heaplet) (w : World) : Prop := ∃ H, RPo b M H ∧ Sat w (H ++ F)
theorem seven_at {w : World} {g : Nat} {a0 a1 a2 a3 a4 a5 a6 : Value} {T : TypeId} {F : Heaplet} (s : Sat w (.blk g (.cells #[a0, a1, a2, a3, a4, a5, a6] T) :: F)) :
    w.cell? ⟨g, 0, none⟩ = some a0 ∧ w.cell? ⟨g, 1, none⟩ = some a1 ∧ w.cell? ⟨g, 2, none⟩ = some a2 ∧ w.cell? ⟨g, 3, none⟩ = some a3 ∧ w.cell? ⟨g, 4, none⟩ = some a4 ∧ w.cell? ⟨g, 5, none⟩ = some a5 ∧ w.cell? ⟨g, 6, none⟩ = some a6 ∧ ∀ i, w.frozen? ⟨g, i, none⟩ = false := by
  have h0 := s.h0
  refine ⟨?_, ?_, ?_, ?_, ?_, ?_, ?_, fun i => unfrozen_of h0 i⟩ <;> (rw [cell_of h0]; rfl)
theorem RPl.cells {b : Nat} {M : PM} {F : Heaplet} {w : World} (h : RPl b M F w) :
    ∃ la lc qa qc, w.cell? ⟨b, 0, none⟩ = some (kI M.count) ∧ w.cell? ⟨b, 1, none⟩ = some (.slice la M.secs.length lc) ∧ w.cell? ⟨b, 2, none⟩ = some (.slice qa M.queue.length qc) ∧ w.cell? ⟨b, 3, none⟩ = some (.bool M.down) ∧
      w.cell? ⟨b, 4, none⟩ = some (kI M.acts) ∧ w.cell? ⟨b, 5, none⟩ = some (kI M.life) ∧ w.cell? ⟨b, 6, none⟩ = some (kI M.armed) ∧ ∀ i, w.frozen? ⟨b, i, none⟩ = false := by
  obtain ⟨H, ⟨_, _, lv, qv, lh, qh, h1, h2, rfl⟩, hs⟩ := h
  obtain ⟨la, lc, rfl⟩ := sl_form h1
  obtain ⟨qa, qc, rfl⟩ := sl_form h2
  exact ⟨la, lc, qa, qc, seven_at hs⟩
theorem RPl.grown {b : Nat} {M : PM} {F : Heaplet} {w w' : World} (h : RPl b M F w) (g : Grown w w') : RPl b M F w' := by
  obtain ⟨H, h1, h2⟩ := h
  exact ⟨H, h1, h2.grown g⟩
theorem RPl.drew {b : Nat} {M : PM} {F : Heaplet} {w : World} (h : RPl b M F w) : RPl b M F w.drew := h.grown (Grown.drew w)
theorem RPl.frame {b : Nat} {M : PM} {F : Heaplet} {w : World} (h : RPl b M F w) : Sat w F := by
  obtain ⟨H, h1, h2⟩ := h
  exact h2.right
theorem RPl.new {b : Nat} {M : PM} {F : Heaplet} {w : World} (h : RPl b M F w) (o : Obj) : RPl b M (.blk w.heap.size o :: F) (w.alloc o) := by
  obtain ⟨H, h1, h2⟩ := h
  exact ⟨H, h1, (h2.new o).perm List.perm_middle.symm⟩
theorem RPl.mono {b : Nat} {M : PM} {F F' : Heaplet} {w : World} (h : RPl b M F w) (hF : ∀ a, cnt a F' ≤ cnt a F) : RPl b M F' w := by
  obtain ⟨H, h1, h2⟩ := h
  refine ⟨H, h1, Sat.part h2 ?_⟩
  intro a
  have := hF a
  simp only [cnt_append]
  omega
theorem RPl.unF {b : Nat} {M : PM} {x : HItem} {F : Heaplet} {w : World} (h : RPl b M (x :: F) w) : RPl b M F w := h.mono (fun a => by simp only [cnt_cons]; omega)
/-- A field that is a plain value turns. -/
theorem RPl.setField {b : Nat} {M M' : PM} {F : Heaplet} {w : World} (h : RPl b M F w) (i : Nat) (v : Value) (e1 : M'.secs = M.secs) (e2 : M'.queue = M.queue) (e3 : 0 ≤ M'.armed)
    (e : ∀ lv qv, (#[kI M.count, lv, qv, .bool M.down, kI M.acts, kI M.life, kI M.armed] : Array Value).setIfInBounds i v = #[kI M'.count, lv, qv, .bool M'.down, kI M'.acts, kI M'.life, kI M'.armed]) :
    RPl b M' F (w.setCell ⟨b, i, none⟩ v) := by
  obtain ⟨H, ⟨h0, hq, lv, qv, lh, qh, h1, h2, rfl⟩, hs⟩ := h
  refine ⟨_, ⟨e3, by rw [e2]; exact hq, lv, qv, lh, qh, by rw [e1]; exact h1, by rw [e2]; exact h2, rfl⟩, ?_⟩
  have := Sat.setCell (show Sat w (.blk b (rpO M lv qv) :: ((lh ++ qh) ++ F)) from hs) (i := i) v
  rw [e lv qv] at this
  exact this
theorem RPl.armed {b : Nat} {M : PM} {F : Heaplet} {w : World} (h : RPl b M F w) : 0 ≤ M.armed := h.choose_spec.1.1
theorem RPl.big {b : Nat} {M : PM} {F : Heaplet} {w : World} (h : RPl b M F w) : ∀ x ∈ M.queue, x.2.size = 256 := h.choose_spec.1.2.1
theorem rp_ready {b : Nat} {M : PM} {F : Heaplet} {w : World} (h : RPl b M F w) : Calls Tryz.prog 54 #[.pointer (some ⟨b, 0, none⟩)] w (Ret (.int .i64 (if M.down then 10 else 0)) (Same w)) := by
  obtain ⟨la, lc, qa, qc, c0, c1, c2, c3, c4, c5, c6, u⟩ := h.cells
  clear h c0 c1 c2 c4 c5 c6 u
  cases hd : M.down with
  | true =>
    rw [hd] at c3
    clear hd
    go_enter Tryz.func54, Tryz.ntmps54
    go_wp2_with fail
    go_ret
    exact ⟨rfl, rfl⟩
  | false =>
    rw [hd] at c3
    clear hd
    go_enter Tryz.func54, Tryz.ntmps54
    go_wp2_with fail
    go_ret
    exact ⟨rfl, rfl⟩
theorem rp_down {b : Nat} {M : PM} {F : Heaplet} {w : World} (h : RPl b M F w) : Calls Tryz.prog 33 #[.pointer (some ⟨b, 0, none⟩)] w (Ret (.bool M.down) (Same w)) := by
  obtain ⟨la, lc, qa, qc, c0, c1, c2, c3, c4, c5, c6, u⟩ := h.cells
  clear h c0 c1 c2 c4 c5 c6 u
  go_enter Tryz.func33, Tryz.ntmps33
  go_wp2_with fail
  go_ret
  exact ⟨rfl, rfl⟩
theorem rp_life {b : Nat} {M : PM} {F : Heaplet} {w : World} (h : RPl b M F w) : Calls Tryz.prog 34 #[.pointer (some ⟨b, 0, none⟩)] w (Ret (.int .i64 M.life) (Same w)) := by
  obtain ⟨la, lc, qa, qc, c0, c1, c2, c3, c4, c5, c6, u⟩ := h.cells
  clear h c0 c1 c2 c3 c4 c6 u
  go_enter Tryz.func34, Tryz.ntmps34
  go_wp2_with fail
  go_ret
  exact ⟨rfl, rfl⟩
theorem rp_acts {b : Nat} {M : PM} {F : Heaplet} {w : World} (h : RPl b M F w) : Calls Tryz.prog 22 #[.pointer (some ⟨b, 0, none⟩)] w (Ret (.int .i64 M.acts) (Same w)) := by
  obtain ⟨la, lc, qa, qc, c0, c1, c2, c3, c4, c5, c6, u⟩ := h.cells
  clear h c0 c1 c2 c3 c5 c6 u
  go_enter Tryz.func22, Tryz.ntmps22
  go_wp2_with fail
  go_ret
  exact ⟨rfl, rfl⟩
theorem rp_off {b : Nat} {M : PM} {F : Heaplet} {w : World} (h : RPl b M F w) (h0 : 0 ≤ M.life ∧ M.life < 9223372036854775807) :
    Calls Tryz.prog 13 #[.pointer (some ⟨b, 0, none⟩)] w (Ret (.tuple #[]) (RPl b (offM M) F)) := by
  obtain ⟨la, lc, qa, qc, c0, c1, c2, c3, c4, c5, c6, u⟩ := h.cells
  have ha := h.armed
  unfold offM
  cases hd : M.down with
  | true =>
    rw [hd] at c3
    have H := Lib.hid h
    clear hd h u c0 c1 c2 c4 c5 c6 ha h0
    go_enter Tryz.func13, Tryz.ntmps13
    go_wp2_with fail
    refine bodyPost_end (results_none rfl _ _ _) rfl ?_
    exact ⟨rfl, H.out⟩
  | false =>
    rw [hd] at c3
    have h1 := h.setField (M' := { M with down := true }) 3 (.bool true) rfl rfl ha (fun _ _ => by rw [hd]; rfl)
    have h2 := h1.setField (M' := { M with down := true, life := M.life + 1 }) 5 (kI (M.life + 1)) rfl rfl ha (fun _ _ => rfl)
    have h3 := h2.setField (M' := { M with down := true, armed := 0, life := M.life + 1 }) 6 (kI 0) rfl rfl (Int.le_refl 0) (fun _ _ => rfl)
    obtain ⟨_, _, _, _, _, _, _, _, _, d5, _, v1⟩ := h1.cells
    obtain ⟨_, _, _, _, _, _, _, _, _, _, d6, v⟩ := h2.cells
    have x3 := u 3
    have x5 := v1 5
    have x6 := v 6
    have Fin := Lib.hid h3
    simp only at d6 d5
    obtain ⟨l0, l1⟩ := h0
    clear hd h h1 h2 h3 u v v1 c0 c1 c2 c4 ha
    generalize M.life = l at *
    go_enter Tryz.func13, Tryz.ntmps13
    go_wp2_with fail
    refine bodyPost_end (results_none rfl _ _ _) rfl ?_
    exact ⟨rfl, Fin.out⟩
theorem rp_arm {b : Nat} {M : PM} {F : Heaplet} {w : World} (h : RPl b M F w) (n : Int) :
    Calls Tryz.prog 17 #[.pointer (some ⟨b, 0, none⟩), .int .i64 n] w (Ret (.tuple #[]) (RPl b (armM M n) F)) := by
  obtain ⟨la, lc, qa, qc, c0, c1, c2, c3, c4, c5, c6, u⟩ := h.cells
  have h1 := h.setField (M' := { M with armed := 0 }) 6 (kI 0) rfl rfl (Int.le_refl 0) (fun _ _ => rfl)
  obtain ⟨_, _, _, _, _, _, _, _, _, _, d6, v⟩ := h1.cells
  have x6 := u 6
  have y6 := v 6
  simp only at d6
  by_cases hn : 0 < n
  · have h2 := h1.setField (M' := armM M n) 6 (kI n) rfl rfl (by show 0 ≤ max n 0; omega) (fun _ _ => by show _ = #[_, _, _, _, _, _, kI (max n 0)]; rw [show max n 0 = n by omega]; rfl)
    have Fin := Lib.hid h2
    clear h h1 h2 u v c0 c1 c2 c3 c4 c5
    go_enter Tryz.func17, Tryz.ntmps17
    go_wp2_with fail
    refine bodyPost_end (results_none rfl _ _ _) rfl ?_
    exact ⟨rfl, Fin.out⟩
  · have e : armM M n = { M with armed := 0 } := by unfold armM; rw [show max n 0 = 0 by omega]
    rw [e]
    have Fin := Lib.hid h1
    clear h h1 u v c0 c1 c2 c3 c4 c5 e
    go_enter Tryz.func17, Tryz.ntmps17
    go_wp2_with fail
    refine bodyPost_end (results_none rfl _ _ _) rfl ?_
    exact ⟨rfl, Fin.out⟩
set_option maxHeartbeats 800000 in
theorem rp_act {b : Nat} {M : PM} {F : Heaplet} {w : World} (h : RPl b M F w) (h0 : 0 ≤ M.life ∧ M.life < 9223372036854775807) (h1 : 0 ≤ M.acts ∧ M.acts < 9223372036854775807) (h2 : M.armed ≤ 9223372036854775807) :
    Calls Tryz.prog 55 #[.pointer (some ⟨b, 0, none⟩)] w (Ret (.bool (decide ((actM M).1 ≠ 0))) (RPl b (actM M).2 F)) := by
  obtain ⟨la, lc, qa, qc, c0, c1, c2, c3, c4, c5, c6, u⟩ := h.cells
  have ha := h.armed
  have g1 := h.setField (M' := { M with acts := M.acts + 1 }) 4 (kI (M.acts + 1)) rfl rfl ha (fun _ _ => rfl)
  obtain ⟨_, _, _, _, _, _, _, _, _, _, d6, v⟩ := g1.cells
  have x4 := u 4
  have x6 := v 6
  simp only at d6
  obtain ⟨a0, a1⟩ := h1
  unfold actM
  by_cases hp : 0 < M.armed
  · rw [if_pos hp]
    have g2 := g1.setField (M' := { M with acts := M.acts + 1, armed := M.armed - 1 }) 6 (kI (M.armed - 1)) rfl rfl (by show 0 ≤ M.armed - 1; omega) (fun _ _ => rfl)
    obtain ⟨_, _, _, _, _, _, _, _, _, _, e6, _⟩ := g2.cells
    simp only at e6
    have z0 : (M.armed == 0) = false := by rw [beq_eq_false_iff_ne]; omega
    by_cases h1' : M.armed = 1
    · rw [if_pos h1']
      rw [h1'] at g2 e6 c6 d6 z0
      rw [show (1 : Int) - 1 = 0 from rfl] at g2 e6
      have Hoff := Lib.hid (rp_off g2 h0)
      clear h g1 g2 u v h1' hp c0 c1 c2 c3 c5 h0 h2 ha
      generalize M.acts = ac at *
      go_enter Tryz.func55, Tryz.ntmps55
      go_wp2_with (go_at_call 13; refine (Hoff.out).mono ?_; rintro e w3 ⟨rfl, h3⟩; have Fin := Lib.hid h3; clear h3)
      go_ret
      exact ⟨rfl, Fin.out⟩
    · rw [if_neg h1']
      have Fin := Lib.hid g2
      have hz : (0 : Int) < M.armed - 1 := by omega
      clear h g1 g2 u v h1' c0 c1 c2 c3 c5 h0 ha
      generalize M.acts = ac at *
      generalize M.armed = ar at *
      go_enter Tryz.func55, Tryz.ntmps55
      go_wp2_with fail
      go_ret
      exact ⟨rfl, Fin.out⟩
  · rw [if_neg hp]
    have z0 : M.armed = 0 := by omega
    have Fin := Lib.hid g1
    rw [z0] at c6 d6
    clear h g1 u v c0 c1 c2 c3 c5 h0 ha h2 hp z0
    generalize M.acts = ac at *
    go_enter Tryz.func55, Tryz.ntmps55
    go_wp2_with fail
    go_ret
    exact ⟨rfl, Fin.out⟩
theorem rp_new (F : Heaplet) (n : Int) (w : World) (hs : Sat w F) :
    Calls Tryz.prog 7 #[.int .i64 n] w fun e w' => ∃ b, e = .returned (.pointer (some ⟨b, 0, none⟩)) ∧ RPl b (newM n) F w' := by
  have fin : ∀ c : Int, c = min (max n 1) 16384 → RPl w.heap.size (newM n) F (w.alloc (.cells #[.int .i64 c, .slice none 0 0, .slice none 0 0, .bool false, .int .i64 0, .int .i64 0, .int .i64 0] 67)) := by
    rintro c rfl
    exact ⟨[.blk w.heap.size (.cells #[.int .i64 (min (max n 1) 16384), .slice none 0 0, .slice none 0 0, .bool false, .int .i64 0, .int .i64 0, .int .i64 0] 67)], ⟨Int.le_refl 0, (fun x hx => by cases hx), _, _, [], [], SliceIs.nil _ _, SliceIs.nil _ _, rfl⟩, hs.new _⟩
  have Fin := Lib.hid fin
  clear fin hs
  by_cases ha : n < 1
  · go_enter Tryz.func7, Tryz.ntmps7
    go_wp2_with fail
    go_ret
    exact ⟨_, rfl, Fin.out 1 (by omega)⟩
  by_cases hb : 16384 < n
  · go_enter Tryz.func7, Tryz.ntmps7
    go_wp2_with fail
    go_ret
    exact ⟨_, rfl, Fin.out 16384 (by omega)⟩
  go_enter Tryz.func7, Tryz.ntmps7
  go_wp2_with fail
  go_ret
  exact ⟨_, rfl, Fin.out n (by omega)⟩
end Go.Proofs.YtgocmnejlbfplaaGreatDoor
namespace Go.Proofs.YtgocmnejlbfplaaGreatDoor
open Go

/-- A slot: used or not; its bytes. -/
abbrev Sl := Bool × ByteArray
structure Pg where
  lsn : Int
  slots : List Sl
def szL (L : List Sl) : Nat := 9 + (L.map fun s => 1 + s.2.size).sum
def oddS (s : Sl) : Bool := (!s.1 && !decide (s.2.size = 0)) || decide (200 < s.2.size)
def lastU (L : List Sl) : Bool := match L.getLast? with | none => true | some s => s.1
/-- An image can be. -/
def goodP (p : Pg) : Bool := decide (0 ≤ p.lsn) && decide (p.lsn ≤ 1099511627776) && decide (p.slots.length ≤ 32) && !p.slots.any oddS && lastU p.slots && decide (szL p.slots ≤ 240)
def emptyP : Pg := ⟨0, []⟩
/-- A slot's bytes. -/
def slotB (s : Sl) : List UInt8 := if s.1 then UInt8.ofNat s.2.size :: s.2.data.toList else [255]
def slotsB (L : List Sl) : List UInt8 := L.flatMap slotB
/-- A number's eight bytes, the highest first. -/
def be8 (n : Nat) : List UInt8 := [UInt8.ofNat (n / 72057594037927936), UInt8.ofNat (n / 281474976710656), UInt8.ofNat (n / 1099511627776), UInt8.ofNat (n / 4294967296), UInt8.ofNat (n / 16777216), UInt8.ofNat (n / 65536), UInt8.ofNat (n / 256), UInt8.ofNat n]
def be4 (n : Nat) : List UInt8 := [UInt8.ofNat (n / 16777216), UInt8.ofNat (n / 65536), UInt8.ofNat (n / 256), UInt8.ofNat n]
def getB (l : List UInt8) : Nat := l.foldl (fun n b => n * 256 + b.toNat) 0
def headB (p : Pg) : List UInt8 := be8 p.lsn.toNat ++ [UInt8.ofNat p.slots.length]
/-- An image's bytes, as far as they go; with the zeros behind. -/
def rawB (p : Pg) : List UInt8 := headB p ++ slotsB p.slots
def encB (p : Pg) : List UInt8 := rawB p ++ List.replicate (240 - (rawB p).length) 0
/-- Slots taken off bytes. -/
def parseS : Nat → List UInt8 → Option (List Sl × List UInt8)
  | 0, r => some ([], r)
  | _ + 1, [] => none
  | k + 1, b :: r => if b = 255 then (parseS k r).map fun x => ((false, ⟨#[]⟩) :: x.1, x.2)
    else if r.length < b.toNat then none else (parseS k (r.drop b.toNat)).map fun x => ((true, ⟨(r.take b.toNat).toArray⟩) :: x.1, x.2)
theorem getB_be8 {n : Nat} (h : n < 18446744073709551616) : getB (be8 n) = n := by
  simp only [getB, be8, List.foldl_cons, List.foldl_nil, UInt8.toNat_ofNat']
  omega
theorem be8_len (n : Nat) : (be8 n).length = 8 := rfl
theorem be4_len (n : Nat) : (be4 n).length = 4 := rfl
theorem be8_inj {n m : Nat} (hn : n < 18446744073709551616) (hm : m < 18446744073709551616) (h : be8 n = be8 m) : n = m := by
  rw [← getB_be8 hn, ← getB_be8 hm, h]
theorem getB_be4 {n : Nat} (h : n < 4294967296) : getB (be4 n) = n := by
  simp only [getB, be4, List.foldl_cons, List.foldl_nil, UInt8.toNat_ofNat']
  omega
theorem headB_len (p : Pg) : (headB p).length = 9 := rfl
theorem goodP_iff {p : Pg} : goodP p = true ↔ (0 ≤ p.lsn ∧ p.lsn ≤ 1099511627776 ∧ p.slots.length ≤ 32 ∧ (∀ s ∈ p.slots, oddS s = false) ∧ lastU p.slots = true ∧ szL p.slots ≤ 240) := by
  unfold goodP
  simp only [Bool.and_eq_true, decide_eq_true_eq, Bool.not_eq_true', List.any_eq_false]
  constructor
  · rintro ⟨⟨⟨⟨⟨a, b⟩, c⟩, d⟩, e⟩, f⟩
    exact ⟨a, b, c, fun s hs => by simpa using d s hs, e, f⟩
  · rintro ⟨a, b, c, d, e, f⟩
    exact ⟨⟨⟨⟨⟨a, b⟩, c⟩, fun s hs => by simp [d s hs]⟩, e⟩, f⟩
theorem odd_no {s : Sl} (h : oddS s = false) : (s.1 = false → s.2.size = 0) ∧ s.2.size ≤ 200 := by
  unfold oddS at h
  simp only [Bool.or_eq_false_iff, Bool.and_eq_false_imp, Bool.not_eq_true', decide_eq_false_iff_not, decide_eq_true_eq, Bool.not_eq_false'] at h
  obtain ⟨a, b⟩ := h
  exact ⟨fun e => by simpa using a e, by omega⟩
theorem ba_size (d : ByteArray) : d.size = d.data.toList.length := by rw [Array.length_toList]; rfl
theorem slotB_len {s : Sl} (h : oddS s = false) : (slotB s).length = 1 + s.2.size := by
  obtain ⟨a, b⟩ := odd_no h
  unfold slotB
  split
  · simp only [List.length_cons]; rw [← ba_size]; omega
  · rename_i e
    rw [a (by simpa using e)]; rfl
theorem slotsB_len : ∀ {L : List Sl}, (∀ s ∈ L, oddS s = false) → (slotsB L).length + 9 = szL L
  | [], _ => rfl
  | s :: L, h => by
    have ih := slotsB_len (L := L) fun x hx => h x (.tail _ hx)
    have h1 := slotB_len (h s (.head _))
    unfold slotsB szL at *
    simp only [List.flatMap_cons, List.length_append, List.map_cons, List.sum_cons]
    omega
theorem rawB_len {p : Pg} (h : goodP p = true) : (rawB p).length = szL p.slots := by
  have hg := goodP_iff.1 h
  have := slotsB_len hg.2.2.2.1
  unfold rawB
  rw [List.length_append, headB_len]
  omega
theorem encB_len {p : Pg} (h : goodP p = true) : (encB p).length = 240 := by
  have h1 := rawB_len h
  have h2 := (goodP_iff.1 h).2.2.2.2.2
  unfold encB
  rw [List.length_append, List.length_replicate]
  omega
theorem ba_ext {a b : ByteArray} (h : a.data.toList = b.data.toList) : a = b := by
  obtain ⟨⟨x⟩⟩ := a
  obtain ⟨⟨y⟩⟩ := b
  simp only at h
  rw [h]
theorem parse_slots : ∀ {L : List Sl} (z : List UInt8), (∀ s ∈ L, oddS s = false) → parseS L.length (slotsB L ++ z) = some (L, z)
  | [], z, _ => rfl
  | s :: L, z, h => by
    have ih := parse_slots (L := L) z fun x hx => h x (.tail _ hx)
    obtain ⟨a, b⟩ := odd_no (h s (.head _))
    obtain ⟨u, d⟩ := s
    simp only at a b
    unfold slotsB
    rw [List.flatMap_cons, List.append_assoc]
    cases u with
    | false =>
      have hd : d = ⟨#[]⟩ := by
        have := a rfl
        apply ba_ext
        rw [ba_size] at this
        exact List.eq_nil_of_length_eq_zero this
      subst hd
      show parseS (L.length + 1) (255 :: (slotsB L ++ z)) = _
      simp only [parseS, if_true, ih, Option.map_some]
    | true =>
      have hn : (UInt8.ofNat d.size).toNat = d.size := by rw [UInt8.toNat_ofNat']; omega
      have hne : ¬ UInt8.ofNat d.size = 255 := by
        intro e
        have := congrArg UInt8.toNat e
        rw [hn] at this
        have h2 : (255 : UInt8).toNat = 255 := rfl
        omega
      have hl : d.size = d.data.toList.length := ba_size d
      show parseS (L.length + 1) (UInt8.ofNat d.size :: (d.data.toList ++ (slotsB L ++ z))) = _
      simp only [parseS, if_neg hne, hn]
      rw [if_neg (by rw [List.length_append]; omega), hl, List.drop_left, List.take_left, ih]
      simp
/-- The image of bytes. -/
def decB (s : List UInt8) : Option Pg := if s.length = 240 then match parseS (s.getD 8 0).toNat (s.drop 9) with
    | none => none
    | some x => if (decide (getB (s.take 8) ≤ 1099511627776) && (goodP ⟨getB (s.take 8), x.1⟩ && decide (encB ⟨getB (s.take 8), x.1⟩ = s))) = true then some ⟨getB (s.take 8), x.1⟩ else none
  else none
theorem decB_enc {p : Pg} (h : goodP p = true) : decB (encB p) = some p := by
  have hg := goodP_iff.1 h
  have hl := encB_len h
  unfold decB
  rw [if_pos hl]
  have h8 : (encB p).take 8 = be8 p.lsn.toNat := by
    unfold encB rawB headB
    rw [List.append_assoc, List.append_assoc, List.append_assoc, List.take_left' (be8_len _)]
  have h9 : (encB p).getD 8 0 = UInt8.ofNat p.slots.length := by
    unfold encB rawB headB
    rw [List.append_assoc, List.append_assoc, List.append_assoc]
    rfl
  have hd : (encB p).drop 9 = slotsB p.slots ++ List.replicate (240 - (rawB p).length) 0 := by
    unfold encB rawB
    rw [List.append_assoc, List.drop_left' (headB_len p)]
  have hn : (UInt8.ofNat p.slots.length).toNat = p.slots.length := by rw [UInt8.toNat_ofNat']; omega
  rw [h8, h9, hd, hn, parse_slots _ hg.2.2.2.1]
  have hb : getB (be8 p.lsn.toNat) = p.lsn.toNat := getB_be8 (by omega)
  have he : (⟨((getB (be8 p.lsn.toNat) : Nat) : Int), p.slots⟩ : Pg) = p := by
    rw [hb]
    obtain ⟨l, sl⟩ := p
    simp only at hg
    congr 1
    simp only
    omega
  simp only [he, h, Bool.true_and]
  rw [if_pos]
  simp only [decide_true, Bool.and_true, decide_eq_true_eq]
  rw [hb]; omega
theorem decB_some {s : List UInt8} {p : Pg} (h : decB s = some p) : goodP p = true ∧ encB p = s := by
  unfold decB at h
  split at h
  · split at h
    · cases h
    · split at h
      · rename_i hc
        rw [← Option.some.inj h]
        simp only [Bool.and_eq_true, decide_eq_true_eq] at hc
        exact hc.2
      · cases h
  · cases h
theorem decB_iff {s : List UInt8} {p : Pg} : decB s = some p ↔ goodP p = true ∧ encB p = s :=
  ⟨decB_some, fun ⟨h1, h2⟩ => by rw [← h2]; exact decB_enc h1⟩
theorem encB_inj {p q : Pg} (hp : goodP p = true) (hq : goodP q = true) (h : encB p = encB q) : p = q := by
  have h1 := decB_enc hp
  rw [h, decB_enc hq] at h1
  exact (Option.some.inj h1).symm
theorem goodP_empty : goodP emptyP = true := by decide
/-- What a slot has. -/
def atM (p : Pg) (k : Int) : Sl := if goodP p = true ∧ 0 ≤ k then (p.slots[k.toNat]?).getD (false, ⟨#[]⟩) else (false, ⟨#[]⟩)
def trimU (L : List Sl) : List Sl := (L.reverse.dropWhile fun s => !s.1).reverse
def widen (L : List Sl) (n : Nat) : List Sl := L ++ List.replicate (n - L.length) (false, ⟨#[]⟩)
/-- A slot has something else: the image, the error. -/
def putM (p : Pg) (k : Int) (x : Sl) : Pg × Int := if (!goodP p || decide (k < 0) || decide (32 ≤ k) || (!x.1 && !decide (x.2.size = 0))) = true then (emptyP, 1)
  else if 200 < x.2.size then (emptyP, 5)
  else if 240 < szL (trimU ((widen p.slots (k.toNat + 1)).set k.toNat x)) then (emptyP, 22) else (⟨p.lsn, trimU ((widen p.slots (k.toNat + 1)).set k.toNat x)⟩, 0)
/-- A page's sector. -/
def secB (n : Nat) (p : Pg) : List UInt8 := encB p ++ ([80, 65, 71, 69] ++ (be4 n ++ [0, 0, 0, 0, 0, 0, 0, 0]))
theorem secB_len {n : Nat} {p : Pg} (h : goodP p = true) : (secB n p).length = 256 := by
  unfold secB
  simp only [List.length_append, encB_len h, be4_len]; rfl
def zeros (k : Nat) : List UInt8 := List.replicate k 0
/-- The image of a page's sector. -/
def pageB (n : Nat) (s : List UInt8) : Option Pg := match decB (s.take 240) with
  | none => none
  | some p => if secB n p = s then some p else none
theorem pageB_sec {n : Nat} {p : Pg} (h : goodP p = true) : pageB n (secB n p) = some p := by
  unfold pageB
  have : (secB n p).take 240 = encB p := by unfold secB; rw [List.take_left' (encB_len h)]
  rw [this, decB_enc h]
  simp
theorem pageB_some {n : Nat} {s : List UInt8} {p : Pg} (h : pageB n s = some p) : goodP p = true ∧ secB n p = s := by
  unfold pageB at h
  split at h
  · cases h
  · rename_i q hq
    split at h
    · rename_i e
      rw [← Option.some.inj h]
      exact ⟨(decB_some hq).1, e⟩
    · cases h
theorem pageB_iff {n : Nat} {s : List UInt8} {p : Pg} : pageB n s = some p ↔ goodP p = true ∧ secB n p = s :=
  ⟨pageB_some, fun ⟨h1, h2⟩ => by rw [← h2]; exact pageB_sec h1⟩
theorem secB_ne_zeros {n : Nat} {p : Pg} (h : goodP p = true) : secB n p ≠ zeros 256 := by
  intro e
  have h1 : (secB n p)[240]? = (zeros 256)[240]? := by rw [e]
  unfold secB zeros at h1
  rw [List.getElem?_append_right (by rw [encB_len h]; exact Nat.le_refl _), encB_len h, List.getElem?_replicate, if_pos (by decide)] at h1
  have h2 : (some (80 : UInt8)) = some 0 := h1
  exact absurd (Option.some.inj h2) (by decide)
end Go.Proofs.YtgocmnejlbfplaaGreatDoor
namespace Go.Proofs.YtgocmnejlbfplaaGreatDoor
open Go Go.MapKept Go.RowKit Go.Proofs

abbrev slV (s : Sl) : Value := .agg #[.bool s.1, kS s.2]
/-- Where F holds, the slots lie there. -/
def SlAt (F : Heaplet) (v : Value) (L : List Sl) : Prop := ∃ a cap, v = .slice a L.length cap ∧ ∀ (i : Nat) s, L[i]? = some s → ∃ g off, a = some ⟨g, off, none⟩ ∧ ∀ w, Sat w F → w.cell? ⟨g, off + i * 2, none⟩ = some (.bool s.1) ∧ w.cell? ⟨g, off + i * 2 + 1, none⟩ = some (kS s.2)
theorem SlAt.mono {F F' : Heaplet} {v : Value} {L : List Sl} (h : SlAt F v L) (hF : ∀ w, Sat w F' → Sat w F) : SlAt F' v L := by
  obtain ⟨a, cap, e, hc⟩ := h
  refine ⟨a, cap, e, fun i s hs => ?_⟩
  obtain ⟨g, off, e2, hw⟩ := hc i s hs
  exact ⟨g, off, e2, fun w hs => hw w (hF w hs)⟩
theorem SlAt.nil (F : Heaplet) (a : Option Addr) (cap : Nat) : SlAt F (.slice a 0 cap) [] := ⟨a, cap, rfl, fun i s h => by simp at h⟩
theorem ba_nil (d : ByteArray) : (d.toList == []) = decide (d.size = 0) := by
  have h : d.toList = d.data.toList := ByteArray.toList_eq d
  rw [h, ba_size]
  cases d.data.toList <;> simp
set_option maxRecDepth 100000 in
theorem isOdd_any (s : Sl) (w : World) : Calls Tryz.prog 84 #[slV s] w (Pur (.bool (oddS s)) w) := by
  obtain ⟨u, d⟩ := s
  unfold oddS Pur slV
  simp only
  have hb := ba_nil d
  by_cases h1 : 200 < d.size
  · have h1' : (200 : Int) < (d.size : Int) := by omega
    have h0 : decide (d.size = 0) = false := decide_eq_false (by omega)
    rw [h0] at hb
    cases u
    all_goals
      go_enter Tryz.func84, Tryz.ntmps84
      go_wp2_with fail
      go_ret
      exact ⟨by rw [h0, decide_eq_true h1]; rfl, Grown.alloc w _⟩
  · have h1' : ((200 : Int) < (d.size : Int)) = False := eq_false (by omega)
    obtain ⟨z, hz⟩ : ∃ z, decide (d.size = 0) = z := ⟨_, rfl⟩
    rw [hz] at hb
    rw [hz]
    cases u <;> cases z
    all_goals
      go_enter Tryz.func84, Tryz.ntmps84
      go_wp2_with fail
      go_ret
      exact ⟨by rw [decide_eq_false h1]; rfl, Grown.alloc w _⟩
/-- How many bytes the first ones need. -/
def szN (L : List Sl) (i : Nat) : Nat := szL (L.take i)
theorem szN_succ {L : List Sl} {i : Nat} {s : Sl} (h : L[i]? = some s) : szN L (i + 1) = szN L i + (1 + s.2.size) := by
  unfold szN szL
  rw [List.take_add_one, h]
  simp; omega
set_option maxRecDepth 100000 in
theorem size_any {v : Value} {L : List Sl} {F : Heaplet} {w : World} (hv : SlAt F v L) (s : Sat w F) (hl : L.length ≤ 1000) (hd : ∀ x ∈ L, x.2.size ≤ 1000000) :
    Calls Tryz.prog 85 #[v] w (Pur (.int .i64 (szL L)) w) := by
  obtain ⟨a, cap, rfl, hc⟩ := hv
  unfold Pur
  have HC := Lib.hid hc
  have HS := Lib.hid s
  have HD := Lib.hid hd
  have hb : ∀ i, i ≤ L.length → szN L i ≤ 9 + 1000001 * i := by
    intro i
    induction i with
    | zero => intro _; simp [szN, szL]
    | succ i ih =>
      intro hi
      have h1 := szN_succ (L := L) (i := i) (List.getElem?_eq_getElem (by omega))
      have h2 := hd _ (List.getElem_mem (h := (by omega : i < L.length)))
      have h3 := ih (by omega)
      omega
  have HB := Lib.hid hb
  have hl9 : (L.length : Int) ≤ 1000 := by omega
  clear hc s hd hb
  go_enter Tryz.func85, Tryz.ntmps85
  go_wp2_with fail
  go_loopw [3, 8] (fun v3 v8 wr => ∃ i : Nat, i ≤ L.length ∧ v8 = .int .i64 i ∧ v3 = .int .i64 (szN L i) ∧ Grown w wr) (fun _ v8 _ => 2000 - (RowKit.intOf v8).toNat)
  case atStart => exact ⟨0, by omega, rfl, rfl, Grown.refl w⟩
  case round =>
    obtain ⟨i, hi, rfl, rfl, hg⟩ := hrel
    have i0 : (0 : Int) ≤ (i : Int) := by omega
    have i9 : (i : Int) ≤ 1000 := by omega
    have hz := HB.out i hi
    by_cases hil : i < L.length
    · have i1 : (i : Int) < (L.length : Int) := by omega
      obtain ⟨x, hx⟩ : ∃ x, L[i]? = some x := ⟨_, List.getElem?_eq_getElem hil⟩
      obtain ⟨g, off, e, hu⟩ := HC.out i x hx
      subst e
      obtain ⟨u0, u1⟩ := hu wr (HS.out.grown hg)
      have hst := szN_succ hx
      have hxs := HD.out x (List.mem_of_getElem? hx)
      obtain ⟨xu, xd⟩ := x
      simp only at u0 u1 hst hxs
      have G1 := Lib.hid (hg.trans (Grown.alloc wr (.cells #[.bool xu, kS xd] 59)))
      have HST := Lib.hid hst
      have q0 : (0 : Int) ≤ (xd.size : Int) := by omega
      have q1 : (xd.size : Int) ≤ 1000000 := by omega
      have q2 : (0 : Int) ≤ (szN L i : Int) := by omega
      have q3 : (szN L i : Int) ≤ 1000001009 := by omega
      have q4 : wrap64 (1 + (xd.size : Int)) = 1 + (xd.size : Int) := IntWalk.wrap64_in _ (by omega)
      have q5 : wrap64 ((szN L i : Int) + (1 + (xd.size : Int))) = (szN L (i + 1) : Int) := by rw [IntWalk.wrap64_in _ (by omega), hst]; omega
      have q6 : IntKind.i64.wrap (1 + (xd.size : Int)) = 1 + (xd.size : Int) := IntWalk.i64_in _ (by omega)
      have q7 : IntKind.i64.wrap ((szN L i : Int) + (1 + (xd.size : Int))) = (szN L (i + 1) : Int) := by rw [IntWalk.i64_in _ (by omega), hst]; omega
      clear hx hu hg hst hxs hz
      go_upto_region 5 with (fail)
      go_wp2_with fail
      exact ⟨⟨i + 1, by omega, by simp, by simp [HST.out], G1.out⟩, by simp only [RowKit.intOf]; omega⟩
    · obtain rfl : i = L.length := by omega
      have e : szN L L.length = szL L := by unfold szN; rw [List.take_length]
      have G1 := Lib.hid hg
      clear hg hil hi
      go_wp2_with fail
      go_ret
      exact ⟨by rw [e]; rfl, G1.out⟩
end Go.Proofs.YtgocmnejlbfplaaGreatDoor
