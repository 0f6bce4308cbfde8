/- Texts put together: Tx12, Tx2. Conditions: none. -/
import Derived.Deep.QuietTactic
import Derived.WalkSpells
import Derived.Deep.CutBlock
import Derived.Deep.RegionLaw
import Derived.StillTailTactics
import Derived.Test.YtgocmnejlbfplaaGreatDoorTy5
import Derived.Test.YtgocmnejlbfplaaGreatDoorTy7
import Derived.Test.YtgocmnejlbfplaaGreatDoorTy12
namespace Go.Proofs.YtgocmnejlbfplaaGreatDoor
open Go Go.MapKept Go.RowKit Go.Proofs

attribute [local go_sem] Oper.semAt_some

def Z8 : Obj := .cells (Array.replicate 8 (Value.int .u8 0)) 5
set_option maxRecDepth 100000 in
theorem run_makeZ8 (w : World) : (Instr.makeSlice 78 (.int .i64 8) (.int .i64 8)).run Tryz.prog w = .ok (.slice (some ⟨w.heap.size, 0, none⟩) 8 8) (w.alloc Z8) := by
  unfold Z8
  kernel_rfl
theorem run_strZ8 {w : World} {g : Nat} {F : Heaplet} (hs : Sat w (.blk g Z8 :: F)) : (convert 78 9 (.slice (some ⟨g, 0, none⟩) 8 8)).run Tryz.prog w = .ok (.string ⟨(be8 0).toArray⟩) w := by
  have hcv := run_convert_bytes_back (P := Tryz.prog) w 78 9 5 ⟨g, 0, none⟩ 8 (be8 0) Tryz.underlying78 Tryz.underlying5 Tryz.underlying9 (fun j hj => by
    rw [addr_add', cell_of hs.h0]
    have hj' : j < 8 := hj
    rw [Array.getElem?_replicate, if_pos hj']
    have e : be8 0 = List.replicate 8 0 := by decide
    have : (be8 0)[j]? = some 0 := by rw [e, List.getElem?_replicate, if_pos hj']
    rw [List.getElem?_eq_getElem hj] at this
    rw [Option.some.inj this]
    rfl)
  exact hcv
theorem run_str4 {w : World} {g n : Nat} {F : Heaplet} {k0 k1 k2 k3 : Int} (h0 : ((UInt8.ofNat (n / 16777216)).toNat : Int) = k0) (h1 : ((UInt8.ofNat (n / 65536)).toNat : Int) = k1) (h2 : ((UInt8.ofNat (n / 256)).toNat : Int) = k2) (h3 : ((UInt8.ofNat n).toNat : Int) = k3)
    (hs : Sat w (.blk g (.cells #[.int .u8 k0, .int .u8 k1, .int .u8 k2, .int .u8 k3] 5) :: F)) : (convert 78 9 (.slice (some ⟨g, 0, none⟩) 4 4)).run Tryz.prog w = .ok (.string ⟨(be4 n).toArray⟩) w := by
  subst h0 h1 h2 h3
  exact run_convert_bytes_back (P := Tryz.prog) w 78 9 5 ⟨g, 0, none⟩ 4 (be4 n) Tryz.underlying78 Tryz.underlying5 Tryz.underlying9 (fun j hj => by
    rw [addr_add', cell_of hs.h0]
    have hj' : j < 4 := hj
    match j, hj' with
    | 0, _ => rfl
    | 1, _ => rfl
    | 2, _ => rfl
    | 3, _ => rfl)
set_option maxRecDepth 100000 in
set_option maxHeartbeats 4000000 in
theorem rsector_any {v : Value} {p : Pg} {F : Heaplet} {w : World} (n : Nat) (hn : n < 4294967296) (hg : goodP p = true) (hv : SlAt F v p.slots) (s : Sat w F) :
    Calls Tryz.prog 38 #[.int .i64 (n : Int), pgV p.lsn v] w (Ret (.string (secM n p)) (Below w.heap.size w)) := by
  obtain ⟨F2, hF2⟩ : ∃ F2, allOf w = F2 := ⟨_, rfl⟩
  have s2 : Sat w F2 := by rw [← hF2]; exact sat_all w
  have hFF : ∀ W, Sat W F2 → Sat W F := fun W hW => by rw [← hF2] at hW; exact s.monoB hW.below
  have HB : Hid (∀ W, Sat W F2 → Below w.heap.size w W) := Lib.hid (fun W hW => by rw [← hF2] at hW; exact hW.below)
  have hs1 := s2.new (.cells #[kI p.lsn, v] 48)
  have HEN := Lib.hid (renc_any hg hv (hFF _ hs1.tail))
  have HS1 := Lib.hid hs1
  have hfin : ((⟨(encB p).toArray⟩ : ByteArray) ++ ⟨#[80, 65, 71, 69]⟩ ++ ⟨(be4 n).toArray⟩ ++ ⟨(be8 0).toArray⟩) = secM n p := by
    apply ba_ext
    simp only [ByteArray.data_append, Array.toList_append, secM, secB]
    have e8 : be8 0 = [0, 0, 0, 0, 0, 0, 0, 0] := by decide
    rw [e8]
    simp
  have HFE := Lib.hid hfin
  have n0 : (0 : Int) ≤ (n : Int) := by omega
  have n1 : (n : Int) < 4294967296 := by omega
  have c0 : (w.alloc (.cells #[kI p.lsn, v] 48)).cell? ⟨w.heap.size, 0, none⟩ = some (kI p.lsn) := by rw [cell_of HS1.out.h0]; rfl
  have c1 : (w.alloc (.cells #[kI p.lsn, v] 48)).cell? ⟨w.heap.size, 1, none⟩ = some v := by rw [cell_of HS1.out.h0]; rfl
  have hE : (encB p).toArray.size = 240 := by rw [List.size_toArray]; exact encB_len hg
  have hE2 : (encB p).length = 240 := encB_len hg
  have h8 : (be8 0).toArray.size = 8 := rfl
  have h4 : (be4 n).toArray.size = 4 := rfl
  have k0 : ((UInt8.ofNat (n / 16777216)).toNat : Int) = IntKind.u8.wrap ((n : Int) / 16777216) := by rw [UInt8.toNat_ofNat', IntKind.wrap_u8]; omega
  have k1 : ((UInt8.ofNat (n / 65536)).toNat : Int) = IntKind.u8.wrap ((n : Int) / 65536) := by rw [UInt8.toNat_ofNat', IntKind.wrap_u8]; omega
  have k2 : ((UInt8.ofNat (n / 256)).toNat : Int) = IntKind.u8.wrap ((n : Int) / 256) := by rw [UInt8.toNat_ofNat', IntKind.wrap_u8]; omega
  have k3 : ((UInt8.ofNat n).toNat : Int) = IntKind.u8.wrap (n : Int) := by rw [UInt8.toNat_ofNat', IntKind.wrap_u8]; omega
  have HK := Lib.hid (And.intro k0 (And.intro k1 (And.intro k2 k3)))
  clear hv s hF2 s2 hFF hs1 hfin hn hg k0 k1 k2 k3
  go_enter Tryz.func38, Tryz.ntmps38
  go_upto_region 2 with (go_at_call 63; refine (HEN.out).mono ?_; rintro e w2 ⟨rfl, hb⟩; have HS2 := Lib.hid (HS1.out.monoB hb); clear hb)
  have hq1 := (HS2.out.new (.cells #[.int .u8 (IntKind.u8.wrap ((n : Int) / 16777216)), .int .u8 (IntKind.u8.wrap ((n : Int) / 65536)), .int .u8 (IntKind.u8.wrap ((n : Int) / 256)), .int .u8 (IntKind.u8.wrap (n : Int))] 5)).drew
  have hcv1 : (convert 78 9 (.slice (some ⟨w2.heap.size, 0, none⟩) 4 4)).run Tryz.prog ((w2.alloc (.cells #[.int .u8 (IntKind.u8.wrap ((n : Int) / 16777216)), .int .u8 (IntKind.u8.wrap ((n : Int) / 65536)), .int .u8 (IntKind.u8.wrap ((n : Int) / 256)), .int .u8 (IntKind.u8.wrap (n : Int))] 5)).drew) = .ok (.string ⟨(be4 n).toArray⟩) ((w2.alloc (.cells #[.int .u8 (IntKind.u8.wrap ((n : Int) / 16777216)), .int .u8 (IntKind.u8.wrap ((n : Int) / 65536)), .int .u8 (IntKind.u8.wrap ((n : Int) / 256)), .int .u8 (IntKind.u8.wrap (n : Int))] 5)).drew) := run_str4 HK.out.1 HK.out.2.1 HK.out.2.2.1 HK.out.2.2.2 hq1
  have hq2 := ((HS2.out.new (.cells #[.int .u8 (IntKind.u8.wrap ((n : Int) / 16777216)), .int .u8 (IntKind.u8.wrap ((n : Int) / 65536)), .int .u8 (IntKind.u8.wrap ((n : Int) / 256)), .int .u8 (IntKind.u8.wrap (n : Int))] 5)).new Z8).drew
  have hcv2 := run_strZ8 hq2
  rw [World.size_alloc] at hcv2
  have hcv1b : (convert 78 9 (.slice (some ⟨w2.heap.size, 0, none⟩) 4 4)).run Tryz.prog (((w2.alloc (.cells #[.int .u8 (IntKind.u8.wrap ((n : Int) / 16777216)), .int .u8 (IntKind.u8.wrap ((n : Int) / 65536)), .int .u8 (IntKind.u8.wrap ((n : Int) / 256)), .int .u8 (IntKind.u8.wrap (n : Int))] 5)).alloc Z8).drew) = .ok (.string ⟨(be4 n).toArray⟩) (((w2.alloc (.cells #[.int .u8 (IntKind.u8.wrap ((n : Int) / 16777216)), .int .u8 (IntKind.u8.wrap ((n : Int) / 65536)), .int .u8 (IntKind.u8.wrap ((n : Int) / 256)), .int .u8 (IntKind.u8.wrap (n : Int))] 5)).alloc Z8).drew) := run_str4 HK.out.1 HK.out.2.1 HK.out.2.2.1 HK.out.2.2.2 hq2.swap
  have hp1 := (HS2.out.new Z8).drew
  have hcv3 : (convert 78 9 (.slice (some ⟨w2.heap.size, 0, none⟩) 8 8)).run Tryz.prog ((w2.alloc Z8).drew) = .ok (.string ⟨(be8 0).toArray⟩) ((w2.alloc Z8).drew) := run_strZ8 hp1
  have hp2 := ((HS2.out.new Z8).new (.cells #[.int .u8 (IntKind.u8.wrap ((n : Int) / 16777216)), .int .u8 (IntKind.u8.wrap ((n : Int) / 65536)), .int .u8 (IntKind.u8.wrap ((n : Int) / 256)), .int .u8 (IntKind.u8.wrap (n : Int))] 5)).drew
  have hcv4 := run_str4 HK.out.1 HK.out.2.1 HK.out.2.2.1 HK.out.2.2.2 hp2
  rw [World.size_alloc] at hcv4
  have hcv4b : (convert 78 9 (.slice (some ⟨w2.heap.size, 0, none⟩) 8 8)).run Tryz.prog (((w2.alloc Z8).alloc (.cells #[.int .u8 (IntKind.u8.wrap ((n : Int) / 16777216)), .int .u8 (IntKind.u8.wrap ((n : Int) / 65536)), .int .u8 (IntKind.u8.wrap ((n : Int) / 256)), .int .u8 (IntKind.u8.wrap (n : Int))] 5)).drew) = .ok (.string ⟨(be8 0).toArray⟩) (((w2.alloc Z8).alloc (.cells #[.int .u8 (IntKind.u8.wrap ((n : Int) / 16777216)), .int .u8 (IntKind.u8.wrap ((n : Int) / 65536)), .int .u8 (IntKind.u8.wrap ((n : Int) / 256)), .int .u8 (IntKind.u8.wrap (n : Int))] 5)).drew) := run_strZ8 hp2.swap
  have HE2 := Lib.hid (HB.out _ hp2.tail.tail.tail)
  have hmk := run_makeZ8
  have HE := Lib.hid (HB.out _ hq2.tail.tail.tail)
  clear hq1 hq2 c0 c1 hp1 hp2
  go_region_law (fail)
  all_goals
    rw [HFE.out]
    go_wp2_with fail
    go_ret
    first
      | exact ⟨rfl, HE.out⟩
      | exact ⟨rfl, HE2.out⟩
end Go.Proofs.YtgocmnejlbfplaaGreatDoor
namespace Go.Proofs.YtgocmnejlbfplaaGreatDoor
open Go Go.MapKept Go.RowKit Go.Proofs

attribute [local go_sem] Oper.semAt_some

theorem putL_hit {D : List (Int × ByteArray)} {n : Int} {s s0 : ByteArray} : ∀ {i : Nat}, D[i]? = some (n, s0) → (∀ j x, j < i → D[j]? = some x → x.1 ≠ n) → putL n s D = D.set i (n, s) := by
  induction D with
  | nil => intro i h; simp at h
  | cons y t ih =>
    intro i h hj
    cases i with
    | zero =>
      cases h
      simp [putL]
    | succ i =>
      have h0 := hj 0 y (Nat.succ_pos i) rfl
      simp only [putL, if_neg h0, List.set_cons_succ]
      rw [ih (i := i) h (fun j x hji hx => hj (j + 1) x (by omega) hx)]
theorem putL_miss {D : List (Int × ByteArray)} {n : Int} {s : ByteArray} : (∀ (j : Nat) x, D[j]? = some x → x.1 ≠ n) → putL n s D = D ++ [(n, s)] := by
  induction D with
  | nil => intro _; rfl
  | cons y t ih =>
    intro hj
    have h0 := hj 0 y rfl
    simp only [putL, if_neg h0, List.cons_append]
    rw [ih (fun j x hx => hj (j + 1) x hx)]
abbrev R3 := Int × ByteArray × Bool
abbrev r3C (x : R3) : List Value := [kI x.1, kS x.2.1, .bool x.2.2]
abbrev r3O (x : Int × ByteArray) : R3 := (x.1, x.2, decide (x.2.size = 0))
theorem r3_len (x : R3) : (r3C x).length = 3 := rfl
theorem rs_map (D : List (Int × ByteArray)) : D.flatMap rsC = (D.map r3O).flatMap r3C := by
  rw [List.flatMap_map]
  rfl
theorem infoR3 : (Tryz.prog.info? 94).map (fun i => (i.zero, i.size, i.bytes)) = some (some (.agg #[.int .i64 0, .string ⟨#[]⟩, .bool false]), 3, 32) := by kernel_rfl
theorem infoRw : (Tryz.prog.info? 92).map (fun i => (i.zero, i.size, i.bytes)) = some (some (.agg #[.int .i64 0, .string ⟨#[]⟩]), 2, 24) := by kernel_rfl
/-- Sectors in memory, turned at one place. -/
theorem rs_set {D : List (Int × ByteArray)} {h F : Heaplet} {w : World} {g cap i : Nat} {n : Int} {s0 s : ByteArray} (hv : SliceIs 94 3 (.slice (some ⟨g, 0, none⟩) D.length cap) D.length (D.flatMap rsC) h) (hs : Sat w (h ++ F)) (hi : D[i]? = some (n, s0)) :
    ∃ h', SliceIs 94 3 (.slice (some ⟨g, 0, none⟩) (D.set i (n, s)).length cap) (D.set i (n, s)).length ((D.set i (n, s)).flatMap rsC) h' ∧ Sat (((w.setCell ⟨g, i * 3, none⟩ (kI n)).setCell ⟨g, i * 3 + 1, none⟩ (kS s)).setCell ⟨g, i * 3 + 2, none⟩ (.bool (decide (s.size = 0)))) (h' ++ F) := by
  have hil := (List.getElem?_eq_some_iff.1 hi).1
  have sg : ∀ (Z Z' : List R3), Z'.length = Z.length → ∀ k, SliceIs 94 3 (.slice (some ⟨g, 0, none⟩) Z.length cap) Z'.length (Z'.flatMap r3C) k → SliceIs 94 3 (.slice (some ⟨g, 0, none⟩) Z'.length cap) Z'.length (Z'.flatMap r3C) k := fun Z Z' e k hk => by rw [e] at hk ⊢; exact hk
  have hv0 : SliceIs 94 3 (.slice (some ⟨g, 0, none⟩) (D.map r3O).length cap) (D.map r3O).length ((D.map r3O).flatMap r3C) h := by rw [List.length_map, ← rs_map]; exact hv
  have hi0 : (D.map r3O)[i]? = some (n, s0, decide (s0.size = 0)) := by rw [List.getElem?_map, hi]; rfl
  have hil0 : i < (D.map r3O).length := by rw [List.length_map]; exact hil
  obtain ⟨k1, a1, s1⟩ := sl_set (f := 0) (q' := ((n, s0, decide (s0.size = 0)) : R3)) r3_len hv0 hs hi0 (by decide) (u := kI n) rfl
  have g1 := sg _ _ List.length_set _ a1
  obtain ⟨k2, a2, s2⟩ := sl_set (f := 1) (q' := ((n, s, decide (s0.size = 0)) : R3)) r3_len g1 s1 (List.getElem?_set_self hil0) (by decide) (u := kS s) rfl
  have g2 := sg _ _ List.length_set _ a2
  obtain ⟨k3, a3, s3⟩ := sl_set (f := 2) (q' := ((n, s, decide (s.size = 0)) : R3)) (q := ((n, s, decide (s0.size = 0)) : R3)) r3_len g2 s2 (by rw [List.getElem?_set_self (by rw [List.length_set]; exact hil0)]) (by decide) (u := .bool (decide (s.size = 0))) rfl
  have g3 := sg _ _ List.length_set _ a3
  rw [List.set_set, List.set_set] at g3
  have e : (D.map r3O).set i (n, s, decide (s.size = 0)) = (D.set i (n, s)).map r3O := by rw [List.map_set]
  rw [e, List.length_map, ← rs_map] at g3
  exact ⟨k3, g3, s3⟩
theorem RPl.lt {b : Nat} {M : PM} {F : Heaplet} {w : World} (h : RPl b M F w) : b < w.heap.size := by
  obtain ⟨H, ⟨h0, hq, lv, qv, lh, qh, h1, h2, rfl⟩, hs⟩ := h
  exact hs.lt (.head _)
/-- A sector is another one: the plate behind it. -/
theorem RPl.setS {b : Nat} {M : PM} {F : Heaplet} {w : World} (h : RPl b M F w) {i : Nat} {n : Int} {s0 : ByteArray} (s : ByteArray) (hi : M.secs[i]? = some (n, s0)) (hj : ∀ j x, j < i → M.secs[j]? = some x → x.1 ≠ n) :
    ∃ g lc, w.cell? ⟨b, 1, none⟩ = some (.slice (some ⟨g, 0, none⟩) M.secs.length lc) ∧ (∀ j, w.frozen? ⟨g, j, none⟩ = false) ∧ w.cell? ⟨g, i * 3, none⟩ = some (kI n) ∧ w.cell? ⟨g, i * 3 + 1, none⟩ = some (kS s0) ∧ w.cell? ⟨g, i * 3 + 2, none⟩ = some (.bool (decide (s0.size = 0))) ∧
      RPl b (putS M n s) F (((w.setCell ⟨g, i * 3, none⟩ (kI n)).setCell ⟨g, i * 3 + 1, none⟩ (kS s)).setCell ⟨g, i * 3 + 2, none⟩ (.bool (decide (s.size = 0)))) := by
  obtain ⟨H, ⟨h0, hq, lv, qv, lh, qh, h1, h2, rfl⟩, hs⟩ := h
  have hil := (List.getElem?_eq_some_iff.1 hi).1
  obtain ⟨g, cap, rfl⟩ := sl_some h1 (by omega)
  have hs1 : Sat w (lh ++ (.blk b (rpO M (.slice (some ⟨g, 0, none⟩) M.secs.length cap) qv) :: (qh ++ F))) := by
    refine Sat.part hs ?_
    intro a
    simp only [cnt_cons, cnt_append, List.cons_append]
    omega
  obtain ⟨lh', a1, s1⟩ := rs_set (s := s) h1 hs1 hi
  obtain ⟨a', cp, e, hc⟩ := sl_cells (fl := rsC) (sz := 3) (fun _ => rfl) h1 hs1
  cases e
  obtain ⟨g', ea, hfz, hu⟩ := hc i _ hi
  cases ea
  refine ⟨g, cap, ?_, hfz, hu 0 _ rfl, hu 1 _ rfl, hu 2 _ rfl, _, ⟨h0, hq, .slice (some ⟨g, 0, none⟩) (M.secs.set i (n, s)).length cap, qv, lh', qh, ?_, h2, rfl⟩, ?_⟩
  · rw [cell_of hs.h0]; rfl
  · show SliceIs _ 3 _ (putL n s M.secs).length ((putL n s M.secs).flatMap rsC) lh'
    rw [putL_hit hi hj]
    exact a1
  · have e : rpO M (.slice (some ⟨g, 0, none⟩) M.secs.length cap) qv = rpO (putS M n s) (.slice (some ⟨g, 0, none⟩) (M.secs.set i (n, s)).length cap) qv := by rw [List.length_set]; rfl
    rw [e] at s1
    refine Sat.part s1 ?_
    intro a
    simp only [cnt_cons, cnt_append, List.cons_append]
    omega
/-- A sector more: the append, and the plate behind it. -/
theorem RPl.addS {b x : Nat} {M : PM} {F : Heaplet} {w : World} {n : Int} {s : ByteArray} (h : RPl b M (.blk x (.cells #[kI n, kS s, .bool (decide (s.size = 0))] 94) :: F) w) (hj : ∀ (j : Nat) x, M.secs[j]? = some x → x.1 ≠ n) (hl : M.secs.length + 1 ≤ 1000000) :
    ∃ lv v' w', w.cell? ⟨b, 1, none⟩ = some lv ∧ (∀ ty, (Builtin.append_ #[64, 64] ty #[lv, .slice (some ⟨x, 0, none⟩) 1 1]).run Tryz.prog w = .ok v' w') ∧
      (∃ u, w'.cell? ⟨b, 1, none⟩ = some u) ∧ w'.frozen? ⟨b, 1, none⟩ = false ∧ RPl b (putS M n s) F (w'.setCell ⟨b, 1, none⟩ v') ∧ ∃ a c, v' = .slice a (M.secs.length + 1) c := by
  obtain ⟨H, ⟨h0, hq, lv, qv, lh, qh, h1, h2, rfl⟩, hs⟩ := h
  obtain ⟨i0, hin, hz, hsize, hby⟩ := info_parts infoR3
  obtain ⟨v', w', lh', hap, hv', s'⟩ := sl_push (P := Tryz.prog) (fl := rsC) (sz := 3) (A := []) (B := .blk b (rpO M lv qv) :: (qh ++ F)) (x := x) (Tn := 94) (w := w) (fun _ => rfl) Tryz.underlying64 hin hz hsize hby rfl (by decide) h1 ((n, s) : Int × ByteArray) (by
    rw [show (rsC ((n, s) : Int × ByteArray)).toArray = #[kI n, kS s, .bool (decide (s.size = 0))] from rfl]
    refine Sat.part hs ?_
    intro a
    simp only [cnt_cons, cnt_append, List.cons_append, List.nil_append]
    omega) (by
    intro u hu
    simp only [rsC, List.mem_cons, List.not_mem_nil, or_false] at hu
    rcases hu with rfl | rfl | rfl <;> rfl) (by unfold maxLen; omega) (by omega)
  have s2 : Sat w' (.blk b (rpO M lv qv) :: (lh' ++ (qh ++ F))) := by
    refine Sat.part s' ?_
    intro a
    simp only [cnt_cons, cnt_append, List.nil_append]
    omega
  refine ⟨lv, v', w', ?_, hap, ⟨lv, ?_⟩, unfrozen_of s2.h0 1, ⟨_, ⟨h0, hq, v', qv, lh', qh, ?_, h2, rfl⟩, ?_⟩, ?_⟩
  · rw [cell_of hs.h0]; rfl
  · rw [cell_of s2.h0]; rfl
  · show SliceIs _ 3 _ (putL n s M.secs).length ((putL n s M.secs).flatMap rsC) lh'
    rw [putL_miss hj]
    exact hv'
  · have s3 := s2.setCell (i := 1) v'
    have s4 : Sat (w'.setCell ⟨b, 1, none⟩ v') (.blk b (rpO (putS M n s) v' qv) :: (lh' ++ (qh ++ F))) := s3
    refine Sat.part s4 ?_
    intro a
    simp only [cnt_cons, cnt_append, List.cons_append]
    omega
  · obtain ⟨a, c, e⟩ := sl_form hv'
    exact ⟨a, c, by rw [e, List.length_append]; rfl⟩
set_option maxRecDepth 100000 in
set_option maxHeartbeats 4000000 in
theorem rp_set {b : Nat} {M : PM} {F : Heaplet} {w : World} (h : RPl b M F w) (n : Int) (s : ByteArray) (hl : M.secs.length + 1 ≤ 1000000) :
    Calls Tryz.prog 51 #[.pointer (some ⟨b, 0, none⟩), .agg #[kI n, kS s, .bool (decide (s.size = 0))]] w (Ret (.tuple #[]) (RPl b (putS M n s) F)) := by
  have h1 := h.new (.cells #[kI n, kS s, .bool (decide (s.size = 0))] 94)
  obtain ⟨tq, htq⟩ : ∃ tq, decide (s.size = 0) = tq := ⟨_, rfl⟩
  have HTQ := Lib.hid htq
  rw [htq] at h1
  rw [htq]
  obtain ⟨B, hB⟩ : ∃ B, w.heap.size = B := ⟨_, rfl⟩
  rw [hB] at h1
  have HS := Lib.hid h1
  have hl9 : (M.secs.length : Int) ≤ 1000000 := by omega
  have HL := Lib.hid hl
  clear h h1 htq hl
  go_enter Tryz.func51, Tryz.ntmps51
  go_upto_block 0 with (fail)
  go_wp2_with fail
  go_loopw [4] (fun v4 wr => ∃ i : Nat, i ≤ M.secs.length ∧ v4 = .int .i64 (i : Int) ∧ (∀ j x, j < i → M.secs[j]? = some x → x.1 ≠ n) ∧ RPl b M (.blk B (.cells #[kI n, kS s, .bool tq] 94) :: F) wr) (fun v4 _ => 2000000 - (RowKit.intOf v4).toNat)
  case atStart => exact ⟨0, by omega, rfl, (fun j x hj => by omega), HS.out⟩
  case round =>
    clear HS
    obtain ⟨i, hi, rfl, hj, hs⟩ := hrel
    have HS := Lib.hid hs
    have i0 : (0 : Int) ≤ (i : Int) := by omega
    obtain ⟨la, lc, qa, qc, c0, c1, c2, c3, c4, c5, c6, u⟩ := hs.cells
    clear c0 c2 c3 c4 c5 c6
    have hb3 : wr.cell? ⟨B, 0, none⟩ = some (kI n) ∧ wr.cell? ⟨B, 1, none⟩ = some (kS s) ∧ wr.cell? ⟨B, 2, none⟩ = some (.bool tq) := by
      have h0 := hs.frame.h0
      refine ⟨?_, ?_, ?_⟩ <;> (rw [cell_of h0]; rfl)
    by_cases hil : i < M.secs.length
    · have i1 : (i : Int) < (M.secs.length : Int) := by omega
      have i9 : i < 2000000 := by have := HL.out; omega
      obtain ⟨⟨m, s0⟩, hx⟩ : ∃ x, M.secs[i]? = some x := ⟨_, List.getElem?_eq_getElem hil⟩
      obtain ⟨b0, b1, b2⟩ := hb3
      by_cases hm : m = n
      · subst hm
        obtain ⟨g, lc', d1, hfz, e0, e1, e2, -⟩ := hs.setS s hx hj
        rw [c1] at d1
        cases d1
        have kk : ((m : Int) == m) = true := beq_self_eq_true m
        have HX := Lib.hid (And.intro hx hj)
        clear hi hx hj hs hil u hfz
        go_upto_region 4 with (fail)
        go_quiet (fail)
        go_upto_region 5 with (fail)
        have hs := HS.out.grown (Grown.drewN wr nq)
        have b0' : (wr.drewN nq).cell? ⟨B, 0, none⟩ = some (kI m) := b0
        have b1' : (wr.drewN nq).cell? ⟨B, 1, none⟩ = some (kS s) := b1
        have b2' : (wr.drewN nq).cell? ⟨B, 2, none⟩ = some (.bool tq) := b2
        have c1' : (wr.drewN nq).cell? ⟨b, 1, none⟩ = some (.slice (some ⟨g, 0, none⟩) M.secs.length lc) := c1
        generalize wr.drewN nq = W at *
        obtain ⟨g', lc', d1, hfz, e0', e1', e2', hfin⟩ := hs.drew.setS s HX.out.1 HX.out.2
        have c1'' : W.drew.cell? ⟨b, 1, none⟩ = some (.slice (some ⟨g, 0, none⟩) M.secs.length lc) := c1'
        rw [c1''] at d1
        cases d1
        rw [HTQ.out] at hfin
        have FIN := Lib.hid hfin
        clear hfin hs HS b0 b1 b2 c1 e0 e1 e2 HX
        go_still_tail 7, (by kernel_rfl)
        change wpList _ _ _ _ _ W.drew
        generalize W.drew = W9 at *
        go_wp2_with fail
        refine bodyPost_end (results_none rfl _ _ _) rfl ?_
        exact ⟨rfl, FIN.out.unF⟩
      · have kk : (m == n) = false := beq_eq_false_iff_ne.2 hm
        have FIN : Hid (∀ j x, j < i + 1 → M.secs[j]? = some x → x.1 ≠ n) := Lib.hid (fun j x hji hx2 => by
          by_cases e : j = i
          · subst e
            rw [hx] at hx2
            cases hx2
            exact hm
          · exact hj j x (by omega) hx2)
        have xc : ∃ g, la = some ⟨g, 0, none⟩ ∧ wr.cell? ⟨g, i * 3, none⟩ = some (kI m) := by
          obtain ⟨H, ⟨_, _, lv, qv, lh, qh, h1, h2, rfl⟩, hs2⟩ := hs
          have hs3 : Sat wr (lh ++ (.blk b (rpO M lv qv) :: (qh ++ (.blk B (.cells #[kI n, kS s, .bool tq] 94) :: F)))) := by
            refine Sat.part hs2 ?_
            intro a
            simp only [cnt_cons, cnt_append, List.cons_append]
            omega
          obtain ⟨a', cp, e, hc⟩ := sl_cells (fl := rsC) (sz := 3) (fun _ => rfl) h1 hs3
          obtain ⟨g', ea, hfz, hu⟩ := hc i _ hx
          have c1' : wr.cell? ⟨b, 1, none⟩ = some lv := by rw [cell_of (Sat.h0 hs2)]; rfl
          rw [c1', e] at c1
          cases c1
          exact ⟨g', ea, hu 0 _ rfl⟩
        obtain ⟨g, rfl, e0⟩ := xc
        have HIL := Lib.hid hil
        clear hi hx hj hs hil u hm
        go_upto_region 4 with (fail)
        go_quiet (fail)
        go_wp2_with fail
        exact ⟨⟨i + 1, HIL.out, by simp, FIN.out, HS.out.drew⟩, by simp only [RowKit.intOf]; omega⟩
    · obtain rfl : i = M.secs.length := by omega
      obtain ⟨b0, b1, b2⟩ := hb3
      have HJ : Hid (∀ (j : Nat) x, M.secs[j]? = some x → x.1 ≠ n) := Lib.hid (fun j x hx => hj j x (List.getElem?_eq_some_iff.1 hx).1 hx)
      have i1 : ((M.secs.length : Int) < (M.secs.length : Int)) = False := eq_false (by omega)
      clear hi hil hs hj u
      go_upto_region 6 with (fail)
      have h2 := HS.out.drew.new (.cells #[kI n, kS s, .bool tq] 94)
      rw [← HTQ.out] at h2
      obtain ⟨lv, v', w', d1, hap, ⟨u1, hu1⟩, hz1, hfin, va, vc, rfl⟩ := h2.addS HJ.out HL.out
      rw [HTQ.out] at hap d1
      have c1' : (wr.drew.alloc (.cells #[kI n, kS s, .bool tq] 94)).cell? ⟨b, 1, none⟩ = some (.slice la M.secs.length lc) :=
        (World.cell?_alloc_old wr _ ⟨b, 1, none⟩ (Nat.ne_of_lt HS.out.lt)).trans c1
      rw [c1'] at d1
      cases d1
      have HAP : Hid (∀ ty, (Builtin.append_ #[64, 64] ty #[.slice la M.secs.length lc, .slice (some ⟨wr.heap.size, 0, none⟩) 1 1]).run Tryz.prog (wr.drew.alloc (.cells #[kI n, kS s, .bool tq] 94)) = .ok (.slice va (M.secs.length + 1) vc) w') := Lib.hid hap
      have FIN := Lib.hid hfin
      have c1a : (wr.alloc (.cells #[kI n, kS s, .bool tq] 94)).cell? ⟨b, 1, none⟩ = some (.slice la M.secs.length lc) := c1'
      clear hap hfin h2 HS
      go_region_law ((refine step_append_run (by rfl) _ _ _ _ (by rfl) _ _ _ w' (by rfl) (by rfl) HAP.out ?_))
      all_goals
        go_wp2_with fail
        refine bodyPost_end (results_none rfl _ _ _) rfl ?_
        exact ⟨rfl, FIN.out.unF⟩
end Go.Proofs.YtgocmnejlbfplaaGreatDoor
