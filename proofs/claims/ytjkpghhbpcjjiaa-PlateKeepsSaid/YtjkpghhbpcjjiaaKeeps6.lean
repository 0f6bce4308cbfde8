/- What is synced stays: PlateKeeps walked. Conditions: none. -/
import Derived.Test.YtjkpghhbpcjjiaaKeeps6M
import Derived.Test.YtjkpghhbpcjjiaaLater
import Derived.Deep.RegionLaw
namespace Go.Proofs.Ytjkpghhbpcjjiaa
open Go Go.MapKept Go.RowKit Go.Proofs

abbrev u8v (c : UInt8) : Value := .int .u8 (c.toNat : Int)
/-- The bytes that are safe, as they lie. -/
def safeC (sf : Nat → UInt8) : Array Value := ((List.range 40).map fun k => u8v (sf k)).toArray
def later0 : List LRow := List.replicate 40 (.slice none 0 0, [], [])
theorem infoB : (Try.prog.info? 5).map (fun i => (i.zero, i.size, i.bytes)) = some (some (.int .u8 0), 1, 1) := by kernel_rfl
theorem PlateIs.split {b : Nat} {M : PM} {F : Heaplet} {w : World} (h : PlateIs b M F w) : ∃ A, Sat w (A ++ F) ∧ ∀ {F' w'}, Sat w' (A ++ F') → PlateIs b M F' w' := by
  obtain ⟨m, es, clk, qv, qh, h1, h2, hs⟩ := h
  exact ⟨.blk b (plateObj M m qv) :: .blk m (.map es clk) :: qh, by simpa using hs, fun {F' w'} h => ⟨m, es, clk, qv, qh, h1, h2, by simpa using h⟩⟩
structure LatIs (L : List LRow) (lt : Nat → List UInt8) : Prop where
  len : L.length = 40
  ok : LOk 5 L
  row : ∀ k : Nat, k < 40 → ∃ x, L[k]? = some x ∧ x.2.1 = (lt k).map u8v
theorem latIs0 : LatIs later0 (fun _ => []) := by
  refine ⟨by simp [later0], ?_, ?_⟩
  · intro x hx
    obtain ⟨_, rfl⟩ := List.mem_replicate.1 hx
    exact SliceIs.nil _ _
  · intro k hk
    refine ⟨(.slice none 0 0, [], []), ?_, rfl⟩
    unfold later0
    rw [List.getElem?_replicate, if_pos hk]
theorem LatIs.push {L : List LRow} {lt : Nat → List UInt8} (h : LatIs L lt) {j0 : Nat} {c : UInt8} {v v' : Value} {l : List Value} {hp h' : Heaplet} (hx : L[j0]? = some (v, l, hp)) (hl : l = (lt j0).map u8v)
    (hok : LOk 5 (L.set j0 (v', l ++ [u8v c], h'))) : LatIs (L.set j0 (v', l ++ [u8v c], h')) (addL lt j0 c) := by
  refine ⟨by rw [List.length_set]; exact h.len, hok, fun k hk => ?_⟩
  by_cases e : k = j0
  · subst e
    refine ⟨_, List.getElem?_set_self (by rw [h.len]; exact hk), ?_⟩
    simp [addL, hl]
  · obtain ⟨x, h1, h2⟩ := h.row k hk
    refine ⟨x, by rw [List.getElem?_set_ne (fun q => e q.symm)]; exact h1, ?_⟩
    rw [h2]
    simp [addL, e]
/-- The plate, the two lists, and the rest. -/
def KeepsP (b sb lb : Nat) (M : PM) (sf : Nat → UInt8) (lt : Nat → List UInt8) (G : Heaplet) (w : World) : Prop :=
  ∃ L, LatIs L lt ∧ PlateIs b M (.blk lb (.cells (lvals L) 38) :: (lheap L ++ (.blk sb (.cells (safeC sf) 5) :: G))) w
def KeepsJ6 (b sb lb n : Nat) (M : PM) (sf : Nat → UInt8) (lt : Nat → List UInt8) (G : Heaplet) (w : World) : Prop := KInv M sf lt n ∧ KeepsP b sb lb M sf lt G w
theorem KeepsP.frame {b sb lb : Nat} {M : PM} {sf : Nat → UInt8} {lt : Nat → List UInt8} {G : Heaplet} {w : World} (h : KeepsP b sb lb M sf lt G w) : Sat w G := by
  obtain ⟨L, _, hp⟩ := h
  exact hp.frame.tail.right.tail
theorem KeepsP.drew {b sb lb : Nat} {M : PM} {sf : Nat → UInt8} {lt : Nat → List UInt8} {G : Heaplet} {w : World} (h : KeepsP b sb lb M sf lt G w) : KeepsP b sb lb M sf lt G w.drew := by
  obtain ⟨L, h1, hp⟩ := h
  exact ⟨L, h1, hp.drew⟩
theorem KeepsP.mono {b sb lb : Nat} {M : PM} {sf : Nat → UInt8} {lt : Nat → List UInt8} {G : Heaplet} {w w' : World} (h : KeepsP b sb lb M sf lt G w) (hb : Below w.heap.size w w') : KeepsP b sb lb M sf lt G w' := by
  obtain ⟨L, h1, hp⟩ := h
  exact ⟨L, h1, hp.mono hb⟩
theorem PlateIs.weaken {b : Nat} {M : PM} {F F' D : Heaplet} {w : World} (h : PlateIs b M F w) (p : F.Perm (D ++ F')) : PlateIs b M F' w := by
  obtain ⟨A, hs, back⟩ := (h.permF p).split
  refine back ?_
  exact (hs.perm (List.perm_append_comm_assoc A D F')).right
theorem safeC_ext {f g : Nat → UInt8} (h : ∀ j, j < 40 → f j = g j) : safeC f = safeC g := by
  unfold safeC
  congr 1
  apply List.map_congr_left
  intro j hj
  rw [h j (List.mem_range.1 hj)]
theorem safeC_get (f : Nat → UInt8) {j : Nat} (hj : j < 40) : (safeC f)[j]? = some (u8v (f j)) := by
  unfold safeC
  rw [List.getElem?_toArray, List.getElem?_map, List.getElem?_range hj]; rfl
theorem safeC_set (f g : Nat → UInt8) {i : Nat} (c : UInt8) (hi : i < 40) (h1 : g i = c) (h2 : ∀ j, j < 40 → j ≠ i → g j = f j) : (safeC f).setIfInBounds i (u8v c) = safeC g := by
  unfold safeC
  rw [List.setIfInBounds_toArray]
  congr 1
  apply List.ext_getElem?
  intro j
  rw [List.getElem?_set]
  by_cases e : i = j
  · subst e
    simp [hi, h1]
  · rw [if_neg e]
    by_cases hj : j < 40
    · rw [List.getElem?_map, List.getElem?_map, List.getElem?_range hj]
      simp [h2 j hj (fun q => e q.symm)]
    · simp [hj]
theorem KeepsP.setSafe {b sb lb : Nat} {M : PM} {sf : Nat → UInt8} {lt : Nat → List UInt8} {G : Heaplet} {w : World} (h : KeepsP b sb lb M sf lt G w) {i : Nat} {c : UInt8} {sf' : Nat → UInt8} (e : (safeC sf).setIfInBounds i (u8v c) = safeC sf') :
    KeepsP b sb lb M sf' lt G (w.setCell ⟨sb, i, none⟩ (u8v c)) := by
  obtain ⟨L, h1, hp⟩ := h
  have p1 := hp.permF (F' := .blk sb (.cells (safeC sf) 5) :: .blk lb (.cells (lvals L) 38) :: (lheap L ++ G)) (List.perm_middle (l₁ := HItem.blk lb _ :: lheap L))
  have p2 := p1.setF (i := i) (u8v c)
  rw [e] at p2
  exact ⟨L, h1, p2.permF (List.perm_middle (l₁ := HItem.blk lb _ :: lheap L)).symm⟩
theorem KeepsP.ext {b sb lb : Nat} {M : PM} {sf sf' : Nat → UInt8} {lt : Nat → List UInt8} {G : Heaplet} {w : World} (h : KeepsP b sb lb M sf lt G w) (e : ∀ j, j < 40 → sf j = sf' j) : KeepsP b sb lb M sf' lt G w := by
  obtain ⟨L, h1, hp⟩ := h
  rw [safeC_ext e] at hp
  exact ⟨L, h1, hp⟩
theorem KeepsP.renew {b sb lb : Nat} {M : PM} {sf : Nat → UInt8} {lt : Nat → List UInt8} {G : Heaplet} {w : World} (h : KeepsP b sb lb M sf lt G w) : KeepsP b sb w.heap.size M sf (fun _ => []) G (w.alloc (.cells (lvals later0) 38)) := by
  obtain ⟨L, h1, hp⟩ := h
  have e : lheap later0 = [] := by decide
  refine ⟨later0, latIs0, ?_⟩
  rw [e]
  refine (hp.new (.cells (lvals later0) 38)).weaken (D := .blk lb (.cells (lvals L) 38) :: lheap L) ?_
  exact (List.perm_middle (l₁ := HItem.blk lb _ :: lheap L)).symm
/-- A row of the list: its slice, its bytes' cells. -/
theorem KeepsP.row {b sb lb : Nat} {M : PM} {sf : Nat → UInt8} {lt : Nat → List UInt8} {G : Heaplet} {w : World} (h : KeepsP b sb lb M sf lt G w) {j : Nat} (hj : j < 40) :
    ∃ a cap, w.cell? ⟨lb, j, none⟩ = some (.slice a (lt j).length cap) ∧ (∀ i c, (lt j)[i]? = some c → ∃ g, a = some ⟨g, 0, none⟩ ∧ w.cell? ⟨g, i, none⟩ = some (u8v c)) ∧
      w.cell? ⟨sb, j, none⟩ = some (u8v (sf j)) ∧ w.frozen? ⟨sb, j, none⟩ = false := by
  obtain ⟨L, h1, hp⟩ := h
  obtain ⟨⟨v, l, hh⟩, hx, hl⟩ := h1.row j hj
  have hlb : w.cell? ⟨lb, j, none⟩ = some v := by rw [cell_of hp.frame.h0]; exact lvals_get hx
  have hsb := hp.frame.tail.right
  have hsl : SliceIs 5 1 v l.length l hh := h1.ok _ (List.mem_of_getElem? hx)
  have hll : l.length = (lt j).length := by have := congrArg List.length hl; simpa using this
  have hs2 : Sat w (hh ++ (lheap (L.eraseIdx j) ++ (.blk sb (.cells (safeC sf) 5) :: G))) := by
    rw [← List.append_assoc]
    exact hp.frame.tail.perm ((lheap_get hx).append_right _)
  refine (?_ : ∃ a cap, v = .slice a l.length cap ∧ (∀ i c, (lt j)[i]? = some c → ∃ g, a = some ⟨g, 0, none⟩ ∧ w.cell? ⟨g, i, none⟩ = some (u8v c))).elim fun a ⟨cap, e1, e2⟩ => ⟨a, cap, by rw [← hll, ← e1]; exact hlb, e2, by rw [cell_of hsb.h0]; exact safeC_get sf hj, unfrozen_of hsb.h0 j⟩
  rcases hsl.2 with ⟨rfl, e0, rfl⟩ | ⟨g, cap, cur, rfl, hnc, hcm, hcs, htake, rfl⟩
  · refine ⟨none, 0, by rw [e0], fun i c hi => ?_⟩
    have := (List.getElem?_eq_some_iff.1 hi).1
    omega
  · refine ⟨_, cap, rfl, fun i c hi => ⟨g, rfl, ?_⟩⟩
    have hc : l[i]? = some (u8v c) := by
      have : l = (lt j).map u8v := hl
      rw [this, List.getElem?_map, hi]; rfl
    exact (hsl.cell hs2 rfl hc).2.2
theorem kinv0 (am : Int) (h0 : 0 ≤ am) (h1 : am < 80) : KInv (armM (newM 40) am) (fun _ => 0) (fun _ => []) 0 := by
  have e : armM (newM 40) am = (⟨40, [], [], false, 0, am, 0⟩ : PM) := by
    unfold armM
    have : max am 0 = am := by omega
    rw [this]; rfl
  rw [e]
  exact ⟨rfl, fun k s h => (by cases h), fun _ _ _ => rfl, fun x h => (by cases h), fun _ _ _ => rfl, Nat.le_refl _, fun _ => Nat.le_refl _, by simp, by simp only; omega, by simp, fun _ => rfl⟩
set_option maxRecDepth 100000 in
set_option maxHeartbeats 4000000 in
theorem keeps6_walk (p : Option Addr) (len cap : Nat) (V0 V1 : Nat → Int) (x0 x1 : Int) (p2 : Option Addr) (len2 cap2 : Nat) (A2 : Nat → Int) (W : World) (ha : Writes6 W p len V0 V1) (hf : IntSlice W p2 len2 A2) :
    Calls Try.prog 4 #[.slice p len cap, .agg #[.int .i64 x0, .int .i64 x1], .slice p2 len2 cap2] W fun e W' => e = .returned (.bool true) ∧ Below W.heap.size W W' := by
  have Ha := Lib.hid ha
  have Hf := Lib.hid hf
  have hlen := ha.1
  clear ha hf
  have hmk1 : ∀ w, (Instr.makeSlice 38 (.int .i64 40) (.int .i64 40)).run Try.prog w = .ok (.slice (some ⟨w.heap.size, 0, none⟩) 40 40) (w.alloc (.cells (safeC fun _ => 0) 5)) := fun _ => by kernel_rfl
  have hmk2 : ∀ w, (Instr.makeSlice 39 (.int .i64 40) (.int .i64 40)).run Try.prog w = .ok (.slice (some ⟨w.heap.size, 0, none⟩) 40 40) (w.alloc (.cells (lvals later0) 38)) := fun _ => by kernel_rfl
  obtain ⟨sy, hsy, hsy0, hsy1⟩ : ∃ m, wrap64 ((IntKind.u64.wrap x0).tmod 61) = m ∧ 0 ≤ m ∧ m < 61 := ⟨_, rfl, umod_bd x0 61 (by decide) (by decide)⟩
  obtain ⟨am, ham, ham0, ham1⟩ : ∃ m, wrap64 ((IntKind.u64.wrap x1).tmod 80) = m ∧ 0 ≤ m ∧ m < 80 := ⟨_, rfl, umod_bd x1 80 (by decide) (by decide)⟩
  have HSY := Lib.hid hsy
  have HAM := Lib.hid ham
  clear hsy ham
  go_enter Try.func4, Try.ntmps4
  go_wp2_with fail
  have hsb := (sat_all W).new (.cells #[.int .i64 x0, .int .i64 x1] 36)
  have lt36 : W.cell? = W.cell? := rfl
  obtain ⟨G, hG⟩ : ∃ G, HItem.blk W.heap.size (.cells #[.int .i64 x0, .int .i64 x1] 36) :: allOf W = G := ⟨_, rfl⟩
  rw [hG] at hsb
  have hGc : ∀ w, Sat w G → w.cell? ⟨W.heap.size, 0, none⟩ = some (kI x0) ∧ w.cell? ⟨W.heap.size, 1, none⟩ = some (kI x1) ∧ Sat w (allOf W) := by
    intro w hw
    rw [← hG] at hw
    exact ⟨by rw [cell_of hw.h0]; rfl, by rw [cell_of hw.h0]; rfl, hw.tail⟩
  have HGC := Lib.hid hGc
  clear hGc hG lt36
  refine (awake6 G _ hsb).mono ?_
  rintro e w0 ⟨rfl, hs⟩
  clear hsb
  go_wp2_with fail
  refine (plate_new G 40 w0 hs).mono ?_
  rintro e w1 ⟨b, rfl, h1⟩
  obtain ⟨c0, c1, _⟩ := HGC.out w1 h1.frame
  clear hs
  go_wp2_with fail
  rw [HSY.out, HAM.out]
  refine (arm_any b _ G am w1 h1).mono ?_
  rintro e w2 ⟨rfl, h2⟩
  clear h1 c0 c1
  have h3 := (h2.new (.cells (safeC fun _ => 0) 5)).new (.cells (lvals later0) 38)
  rw [World.size_alloc] at h3
  have hJ : KeepsJ6 b w2.heap.size (w2.heap.size + 1) 0 (armM (newM 40) am) (fun _ => 0) (fun _ => []) G ((w2.alloc (.cells (safeC fun _ => 0) 5)).alloc (.cells (lvals later0) 38)) :=
    ⟨kinv0 am ham0 ham1, later0, latIs0, by
      have e : lheap later0 = [] := by decide
      rw [e]; exact h3⟩
  have HJ := Lib.hid hJ
  clear h2 h3 hJ
  go_upto_block 0 with (fail)
  clear hmk1
  generalize w2.heap.size = sb at *
  go_cut [10] (fun v10 wx => ∃ n lb M sf lt, n ≤ 61 ∧ v10 = .slice (some ⟨lb, 0, none⟩) 40 40 ∧ KeepsJ6 b sb lb n M sf lt G wx)
  case first =>
    go_wp2_with fail
    go_loopw [10, 11] (fun v10 i wr => ∃ k lb M sf lt, k ≤ 60 ∧ k ≤ len ∧ i = .int .i64 (k : Nat) ∧ v10 = .slice (some ⟨lb, 0, none⟩) 40 40 ∧ KeepsJ6 b sb lb k M sf lt G wr) (fun _ i _ => 60 - (intOf i).toNat)
    case atStart => exact ⟨0, _, _, _, _, by omega, by omega, rfl, rfl, HJ.out⟩
    case round =>
      clear HJ HAM
      obtain ⟨k, lb, M, sf, lt, hk1, hk2, rfl, rfl, hI⟩ := hrel
      by_cases hlt : k < len ∧ k < 60
      · obtain ⟨hlt1, hlt2⟩ := hlt
        obtain ⟨ba, off, rfl, hba, ⟨hA, _, _⟩, hB, hB0, hB1⟩ := (Ha.out).2 k hlt1
        obtain ⟨hK, hP⟩ := hI
        have hs := (HGC.out wr hP.frame).2.2
        have c0 : wr.cell? ⟨ba, off + k * 2, none⟩ = some (kI (V0 k)) := (hs.cellOld (a := ⟨ba, off + k * 2, none⟩) hba).trans hA
        have c1 : wr.cell? ⟨ba, off + k * 2 + 1, none⟩ = some (.int .u8 (V1 k)) := (hs.cellOld (a := ⟨ba, off + k * 2 + 1, none⟩) hba).trans hB
        obtain ⟨kk, hkk, hw0, hw1⟩ : ∃ kk, wrap64 ((IntKind.u64.wrap (V0 k)).tmod 40) = kk ∧ 0 ≤ kk ∧ kk < 40 := ⟨_, rfl, umod_bd (V0 k) 40 (by omega) (by omega)⟩
        obtain ⟨j0, rfl⟩ : ∃ j0 : Nat, kk = (j0 : Int) := ⟨kk.toNat, by omega⟩
        have hj0 : j0 < 40 := by omega
        have HKK := Lib.hid hkk
        have HK := Lib.hid hK
        have HP := Lib.hid hP
        have HU := Lib.hid (u8_of (V1 k) hB0 hB1)
        have HB := Lib.hid hB
        clear hkk hA hB hs hP hK
        go_wp2_with fail
        rw [HKK.out]
        refine (filled_at (UInt8.ofNat (V1 k).toNat) _ HU.out.symm wr).mono ?_
        rintro e w3 ⟨rfl, hb3⟩
        have h3 := HP.out.mono hb3
        generalize UInt8.ofNat (V1 k).toNat = c at *
        clear hb3 HP c0 c1
        obtain ⟨L, hL, hP3⟩ := h3
        have hw := write_any b M _ (j0 : Int) (fillB c) w3 hP3 (by have := HK.out.qlen; omega) (by have := HK.out.life; omega) (by have := HK.out.acts; omega) (by have := HK.out.armed; omega)
        have hKw := HK.out.write hk1 j0 hj0 c
        generalize writeM M (j0 : Int) (fillB c) = r at *
        have HW := Lib.hid hw
        have HKW := Lib.hid hKw
        clear hw hKw hP3
        go_wp2_with fail
        refine (HW.out).mono ?_
        rintro e w4 ⟨rfl, h4⟩
        obtain ⟨⟨v, l, h⟩, hx, hxl⟩ := hL.row j0 hj0
        have hrow : (lvals L)[j0]? = some v := lvals_get hx
        have g4 := (HGC.out w4 h4.frame.tail.right.tail).2.2
        have c1 : w4.cell? ⟨ba, off + k * 2 + 1, none⟩ = some (u8v c) := by rw [g4.cellOld (a := ⟨ba, off + k * 2 + 1, none⟩) hba, HB.out, ← HU.out]
        have cl : w4.cell? ⟨lb, j0, none⟩ = some v := by rw [cell_of h4.frame.h0]; exact hrow
        have h5 := (h4.new (.cells #[u8v c] 5)).drew
        obtain ⟨A, hs5, back⟩ := h5.split
        obtain ⟨i0, hi, hz, hsize, hby⟩ := info_parts infoB
        have hll : l.length = (lt j0).length := by have := congrArg List.length hxl; simpa using this
        obtain ⟨v', w5, h', hap, hok, ⟨g', cap', rfl⟩, cl5, fl5, hG5, hs6⟩ := later_push (P := Try.prog) (t := 38) Try.underlying38 hi hz hsize hby rfl rfl hs5 hL.ok hx (by have := HK.out.llen j0; unfold maxLen; omega) (by have := HK.out.llen j0; omega)
        have c15 : w5.cell? ⟨ba, off + k * 2 + 1, none⟩ = some (u8v c) := by rw [(HGC.out w5 hG5.tail).2.2.cellOld (a := ⟨ba, off + k * 2 + 1, none⟩) hba, HB.out, ← HU.out]
        have hfin : KeepsP b sb lb r.2 sf (addL lt j0 c) G (w5.setCell ⟨lb, j0, none⟩ (.slice (some ⟨g', 0, none⟩) (l.length + 1) cap')) := ⟨_, hL.push hx hxl hok, back hs6⟩
        have cla : (w4.alloc (.cells #[u8v c] 5)).cell? ⟨lb, j0, none⟩ = some v := by rw [cell_of (h4.new (.cells #[u8v c] 5)).frame.h1]; exact hrow
        have n1 := World.new_ne w4 _ c1
        have n2 := World.new_ne w4 _ cl
        have hS5 : w5.cell? ⟨lb, j0, none⟩ = some v ∧ w5.cell? ⟨ba, off + k * 2 + 1, none⟩ = some (u8v c) := ⟨cl5, c15⟩
        have HAP := Lib.hid hap
        have FIN := Lib.hid hfin
        have HLN := Lib.hid hll
        clear hx hxl h4 hL hrow g4 HW h5 hs5 back hi hz hsize hby hap hok hG5 hs6 hfin hll c15 HU
        go_upto_region 13 with (fail)
        go_cut [] (fun wx => KeepsP b sb lb r.2 sf (addL lt j0 c) G wx)
        case first =>
          go_region_law ((refine step_append_run (by rfl) _ _ _ _ (by rfl) v _ _ w5 (by rfl) (by rfl) HAP.out ?_))
          all_goals
            go_wp2_with fail
            go_meet
            exact FIN.out
        case rest =>
          clear hS5 n1 n2 cl5 fl5 c1 cl cla HAP FIN
          by_cases hr : r.1 = 0
          · have hb1 : (r.1 == 0) = true := by simpa using hr
            have hb2 : (r.1 != 0) = false := by rw [bne, hb1]; rfl
            obtain ⟨hK5, hup, hac⟩ := HKW.out
            have hup := hup hr
            by_cases hks : (k : Int) = sy
            · have hb3 : ((k : Int) == sy) = true := by simpa using hks
              obtain ⟨hsy1, hsy2⟩ := hK5.sync hup (by omega) (by omega)
              obtain ⟨L5, hL5, hP5⟩ := hcut
              have hsn := sync_any b r.2 _ wc hP5 (by have := hK5.count; omega) (by have := hK5.life; omega) (by have := hK5.acts; omega) (by have := hK5.armed; omega) (by have := hK5.qlen; omega)
              generalize syncM r.2 = q at *
              have HSN := Lib.hid hsn
              have HL5 := Lib.hid hL5
              by_cases hq : q.1 = 0
              · have hb4 : (q.1 == 0) = true := by simpa using hq
                have HK6 := Lib.hid (hsy2 hq)
                have HLEN := Lib.hid hK5.llen
                clear hsy1 hsy2 hsn hL5 hP5 hK5 hup hac hr hks hq HKW
                go_wp2_with fail
                refine (HSN.out).mono ?_
                rintro e w6 ⟨rfl, h6⟩
                have hp6 : KeepsP b sb lb q.2 sf (addL lt j0 c) G w6 := ⟨L5, HL5.out, h6⟩
                have HP6 := Lib.hid hp6
                clear h6 hp6
                go_wp2_with fail
                obtain ⟨wo, hwo⟩ : ∃ wo : World, wo = w6 := ⟨_, rfl⟩
                clear hwo
                go_loopw [14] (fun v14 wr => ∃ r0 : Nat, r0 ≤ 40 ∧ v14 = .int .i64 r0 ∧ KeepsP b sb lb q.2 (fun j => if j < r0 then lastL sf (addL lt j0 c) j else sf j) (addL lt j0 c) G wr) (fun v14 _ => 40 - (intOf v14).toNat)
                case atStart => exact ⟨0, by omega, rfl, HP6.out.ext fun j _ => by simp⟩
                case round =>
                  obtain ⟨r0, hr0, rfl, hp⟩ := hrel
                  clear HP6
                  by_cases hlt0 : r0 < 40
                  · obtain ⟨a, cap0, cl, hel, cs, fs⟩ := hp.row hlt0
                    have i0 : (0 : Int) ≤ (r0 : Int) := by omega
                    have i1 : (r0 : Int) < 40 := by omega
                    cases hl : (addL lt j0 c r0).getLast? with
                    | none =>
                      have he : addL lt j0 c r0 = [] := List.getLast?_eq_none_iff.1 hl
                      rw [he] at cl
                      have hpn : KeepsP b sb lb q.2 (fun j => if j < r0 + 1 then lastL sf (addL lt j0 c) j else sf j) (addL lt j0 c) G wr := hp.ext fun j _ => by
                        by_cases e1 : j < r0
                        · rw [if_pos e1, if_pos (by omega)]
                        · by_cases e2 : j = r0
                          · subst e2
                            rw [if_neg e1, if_pos (by omega)]
                            unfold lastL
                            rw [hl]
                          · rw [if_neg e1, if_neg (by omega)]
                      have HPN := Lib.hid hpn
                      clear hp hel he hl hpn
                      simp only [List.length_nil] at cl
                      go_wp2_with fail
                      exact ⟨⟨r0 + 1, by omega, by simp, HPN.out⟩, by simp only [intOf]; omega⟩
                    | some d =>
                      obtain ⟨n', hn'⟩ : ∃ n', (addL lt j0 c r0).length = n' + 1 := by
                        cases hc : addL lt j0 c r0 with
                        | nil => rw [hc] at hl; cases hl
                        | cons x y => exact ⟨y.length, rfl⟩
                      have hld : (addL lt j0 c r0)[n']? = some d := by
                        rw [List.getLast?_eq_getElem?, hn'] at hl
                        simpa using hl
                      obtain ⟨g, rfl, cg⟩ := hel n' d hld
                      rw [hn'] at cl
                      have hpn : KeepsP b sb lb q.2 (fun j => if j < r0 + 1 then lastL sf (addL lt j0 c) j else sf j) (addL lt j0 c) G (wr.drew.setCell ⟨sb, r0, none⟩ (u8v d)) := by
                        refine hp.drew.setSafe (safeC_set _ _ d hlt0 ?_ ?_)
                        · rw [if_pos (by omega)]
                          unfold lastL
                          rw [hl]
                        · intro j _ hj
                          by_cases e1 : j < r0
                          · rw [if_pos e1, if_pos (by omega)]
                          · rw [if_neg e1, if_neg (by omega)]
                      have hnl : (n' : Int) + 1 ≤ 61 := by have := HLEN.out r0; omega
                      have HPN := Lib.hid hpn
                      have q0 : (0 : Int) ≤ (n' : Int) := by omega
                      have q1 : (n' : Int) < (n' : Int) + 1 := by omega
                      have q2 : IntKind.i64.wrap ((n' : Int) + 1 - 1) = (n' : Int) := by rw [IntWalk.i64_in _ (by omega)]; omega
                      have q3 : IntKind.i64.wrap (n' : Int) = (n' : Int) := IntWalk.i64_in _ (by omega)
                      clear hp hel hl hpn hn' hld
                      go_upto_region 20 with (fail)
                      go_still_tail 15, (by kernel_rfl)
                      change wpList _ _ _ _ _ (World.drew _)
                      have csd : (World.drew wr).cell? ⟨sb, r0, none⟩ = some (u8v (if r0 < r0 then lastL sf (addL lt j0 c) r0 else sf r0)) := cs
                      have fsd : (World.drew wr).frozen? ⟨sb, r0, none⟩ = false := fs
                      generalize World.drew wr = wd at *
                      clear cs fs cl cg q2 q3
                      go_wp2_with fail
                      exact ⟨⟨r0 + 1, by omega, by simp, HPN.out⟩, by simp only [intOf]; omega⟩
                  · obtain rfl : r0 = 40 := by omega
                    have hp8 : KeepsP b sb lb q.2 (lastL sf (addL lt j0 c)) (addL lt j0 c) G wr := hp.ext fun j hj => by rw [if_pos hj]
                    have hp9 := hp8.renew
                    have HJ9 := Lib.hid hp9
                    clear hp hp8 hp9 hlt0
                    go_wp2_with fail
                    exact ⟨⟨k + 1, _, _, _, _, by omega, by omega, by simp, rfl, HK6.out, HJ9.out⟩, by simp only [intOf]; omega⟩
              · have hb4 : (q.1 == 0) = false := by simpa using hq
                have HK6 := Lib.hid (hsy1 hq)
                clear hsy1 hsy2 hsn hL5 hP5 hK5 hup hac hr hks hq HKW
                go_wp2_with fail
                refine (HSN.out).mono ?_
                rintro e w6 ⟨rfl, h6⟩
                have HJ6 : Hid (KeepsJ6 b sb lb (k + 1) q.2 sf (addL lt j0 c) G w6) := Lib.hid ⟨HK6.out, L5, HL5.out, h6⟩
                clear h6
                go_wp2_with fail
                exact ⟨⟨k + 1, _, _, _, _, by omega, by omega, by simp, rfl, HJ6.out⟩, by simp only [intOf]; omega⟩
            · have hb3 : ((k : Int) == sy) = false := by simpa using hks
              have HJ6 : Hid (KeepsJ6 b sb lb (k + 1) r.2 sf (addL lt j0 c) G wc) := Lib.hid ⟨hK5, hcut⟩
              clear hK5 hup hac hr hks HKW hcut
              go_wp2_with fail
              exact ⟨⟨k + 1, _, _, _, _, by omega, by omega, by simp, rfl, HJ6.out⟩, by simp only [intOf]; omega⟩
          · have hb1 : (r.1 == 0) = false := by simpa using hr
            have hb2 : (r.1 != 0) = true := by rw [bne, hb1]; rfl
            have HKJ : Hid (KeepsJ6 b sb lb (k + 1) r.2 sf (addL lt j0 c) G wc) := Lib.hid ⟨HKW.out.1, hcut⟩
            clear hcut hr HKW
            go_wp2_with fail
            go_meet
            exact ⟨_, _, _, _, _, by omega, rfl, HKJ.out⟩
      · have hd : ¬ k < len ∨ ¬ k < 60 := by omega
        have HI := Lib.hid hI
        clear hI hlt
        by_cases hlt1 : k < len
        all_goals
          go_wp2_with fail
          go_meet
          exact ⟨_, _, _, _, _, by omega, rfl, HI.out⟩
  case rest =>
    clear HJ HAM hmk2 Ha hlen
    obtain ⟨n, lb, M, sf, lt, hn, rfl, hK, hP⟩ := hcut
    obtain ⟨L, hL, hp⟩ := hP
    have hoff := off_any b M _ wc hp hK.life.1 (by have := hK.life; omega)
    have e1 : ∃ M2 a l, offM M = M2 ∧ M2 = { M with down := true, acts := a, armed := M2.armed, life := l } ∧ 0 ≤ a ∧ a ≤ 122 ∧ 0 ≤ l ∧ l ≤ 1 ∧ M2.armed ≤ 80 := by
      have h1 := hK.acts
      have h2 := hK.armed
      have h3 := hK.life
      unfold offM
      cases hd : M.down with
      | true =>
        refine ⟨_, M.acts, M.life, rfl, ?_, by omega, by omega, by omega, by omega, ?_⟩
        · simp [← hd]
        · simp; omega
      | false =>
        have h4 := hK.up hd
        refine ⟨_, M.acts, M.life + 1, rfl, ?_, by omega, by omega, by omega, by omega, ?_⟩
        · simp
        · simp
    obtain ⟨M2, a2, l2, e1, e2, ha0, ha1, hl0, hl1, har⟩ := e1
    rw [e1] at hoff
    have HOFF := Lib.hid hoff
    have HK := Lib.hid hK
    have HL := Lib.hid hL
    have E2 := Lib.hid e2
    clear hoff hK hL hp e1 e2
    go_wp2_with fail
    refine (HOFF.out).mono ?_
    rintro e w3 ⟨rfl, h3⟩
    clear HOFF
    have ed : M2.down = true := by rw [E2.out]
    have ec : M2.count = 40 := by rw [E2.out]; exact HK.out.count
    have eq' : M2.queue = M.queue := by rw [E2.out]
    have es : M2.secs = M.secs := by rw [E2.out]
    have ea : M2.acts = a2 := by rw [E2.out]
    have el : M2.life = l2 := by rw [E2.out]
    have H3 := Lib.hid h3
    have EA := Lib.hid (And.intro ed (And.intro ec (And.intro eq' (And.intro es (And.intro ea el)))))
    clear h3 ed ec eq' es ea el E2
    go_wp2_with fail
    refine (filled_at 1 1 rfl w3).mono ?_
    rintro e w4 ⟨rfl, hb4⟩
    have h4 := H3.out.mono hb4
    have hw := write_any b M2 _ 0 (fillB 1) w4 h4 (by rw [EA.out.2.2.1]; have := HK.out.qlen; omega) (by rw [EA.out.2.2.2.2.2]; omega) (by rw [EA.out.2.2.2.2.1]; omega) (by omega)
    have ew : writeM M2 0 (fillB 1) = (10, M2) := by
      unfold writeM readyM
      rw [EA.out.1]; simp
    rw [ew] at hw
    have HW := Lib.hid hw
    clear hw ew h4 hb4 H3
    go_wp2_with fail
    refine (HW.out).mono ?_
    rintro e w5 ⟨rfl, h5⟩
    clear HW
    have hsn := sync_any b M2 _ w5 h5 (by rw [EA.out.2.1]; omega) (by rw [EA.out.2.2.2.2.2]; omega) (by rw [EA.out.2.2.2.2.1]; omega) (by omega) (by rw [EA.out.2.2.1]; have := HK.out.qlen; omega)
    have esn : syncM M2 = (10, M2) := by
      unfold syncM
      rw [EA.out.1]; simp
    rw [esn] at hsn
    have HSN := Lib.hid hsn
    clear hsn esn h5
    go_wp2_with fail
    refine (HSN.out).mono ?_
    rintro e w6 ⟨rfl, h6⟩
    clear HSN
    have hon := on_any b M2 _ (.slice p2 len2 cap2) (fateM len2 A2) w6 h6 (by rw [EA.out.2.2.1]; have := HK.out.qlen; omega)
      (fun i w' hi hw => fate_any p2 len2 cap2 A2 i W w' Hf.out (HGC.out w' hw.tail.right.tail).2.2.below (by omega))
    rw [onM_ok EA.out.1] at hon
    have HON := Lib.hid hon
    clear hon h6
    go_wp2_with fail
    refine (HON.out).mono ?_
    rintro e w7 ⟨rfl, h7⟩
    have hfin : ∀ j : Nat, j < 40 → Fin6 sf lt j (readM { M2 with down := false, secs := fateTo (fateM len2 A2) M2.queue M2.secs M2.queue.length, queue := [] } (j : Int)) := by
      intro j hj
      have h := HK.out.read (fateM len2 A2) M2.acts M2.armed M2.life j hj
      rw [← EA.out.2.2.1, ← EA.out.2.2.2.1] at h
      have e3 : M.count = M2.count := by rw [HK.out.count, EA.out.2.1]
      rw [e3] at h
      exact h
    have hq0 : ({ M2 with down := false, secs := fateTo (fateM len2 A2) M2.queue M2.secs M2.queue.length, queue := [] } : PM).queue.length = 0 := rfl
    generalize ({ M2 with down := false, secs := fateTo (fateM len2 A2) M2.queue M2.secs M2.queue.length, queue := [] } : PM) = N at *
    have hP7 : KeepsP b sb lb N sf lt G w7 := ⟨L, HL.out, h7⟩
    have HFIN := Lib.hid hfin
    have HP7 := Lib.hid hP7
    have HLL := Lib.hid HK.out.llen
    have HQ0 := Lib.hid hq0
    clear HON Hf hfin h7 hP7 EA HK HL L hq0 har ha0 ha1 hl0 hl1
    go_wp2_with fail
    go_loopw [15] (fun v15 wr => ∃ r0 : Nat, r0 ≤ 40 ∧ v15 = .int .i64 r0 ∧ KeepsP b sb lb N sf lt G wr) (fun v15 _ => 40 - (intOf v15).toNat)
    case atStart => exact ⟨0, by omega, rfl, HP7.out⟩
    case round =>
      obtain ⟨r0, hr0, rfl, hp⟩ := hrel
      clear HP7
      by_cases hlt0 : r0 < 40
      · have hf0 := HFIN.out r0 hlt0
        have i0 : (0 : Int) ≤ (r0 : Int) := by omega
        have i1 : (r0 : Int) < 40 := by omega
        obtain ⟨L, hL, hpl⟩ := hp
        have hrd := read_any b N _ (r0 : Int) wr hpl (by rw [HQ0.out]; omega)
        have HLO := Lib.hid hL
        have HRD := Lib.hid hrd
        clear hrd hpl hL
        have hmode : (∃ d, readM N (r0 : Int) = (fillB d, 0) ∧ (d = sf r0 ∨ d ∈ lt r0)) ∨ (lt r0 ≠ [] ∧ readM N (r0 : Int) = (⟨#[]⟩, 20)) := by
          rcases hf0 with h | ⟨c, hc, h⟩ | ⟨h1, h2⟩
          · exact .inl ⟨_, h, .inl rfl⟩
          · exact .inl ⟨_, h, .inr hc⟩
          · exact .inr ⟨h1, h2⟩
        clear hf0
        generalize readM N (r0 : Int) = rr at *
        have HLR := Lib.hid (HLL.out r0)
        rcases hmode with ⟨d, rfl, hd⟩ | ⟨hne, rfl⟩
        · have HD := Lib.hid hd
          clear hd
          go_wp2_with fail
          refine (HRD.out).mono ?_
          rintro e w8 ⟨rfl, h8⟩
          have hp8 : KeepsP b sb lb N sf lt G w8 := ⟨L, HLO.out, h8⟩
          obtain ⟨_, _, _, _, cs, _⟩ := hp8.row hlt0
          have HP8 := Lib.hid hp8
          clear h8 hp8 HRD
          go_wp2_with fail
          refine (filled_at (sf r0) _ rfl w8).mono ?_
          rintro e w9 ⟨rfl, hb9⟩
          have hp9 := HP8.out.mono hb9
          have HP9 := Lib.hid hp9
          clear hb9 hp9 HP8 cs
          go_wp2_with fail
          obtain ⟨b0, hb0⟩ : ∃ b0 : Bool, ((fillB d).toList == (fillB (sf r0)).toList) = b0 := ⟨_, rfl⟩
          rw [hb0]
          have hi0 : b0 = true ∨ ∃ i1, 0 ≤ i1 ∧ (lt r0)[i1]? = some d := by
            rcases HD.out with h | h
            · left
              rw [← hb0, h]
              exact beq_self_eq_true _
            · obtain ⟨i1, h1, h2⟩ := List.getElem_of_mem h
              exact .inr ⟨i1, by omega, by rw [List.getElem?_eq_getElem h1, h2]⟩
          have HI0 := Lib.hid hi0
          clear hb0 hi0 HD
          obtain ⟨wo, hwo⟩ : ∃ wo : World, wo = w9 := ⟨_, rfl⟩
          clear hwo
          go_loopw [18, 19] (fun v18 v19 wx => ∃ (bb : Bool) (i : Nat), i ≤ (lt r0).length ∧ v18 = .bool bb ∧ v19 = .int .i64 i ∧ KeepsP b sb lb N sf lt G wx ∧ (bb = true ∨ ∃ i1, i ≤ i1 ∧ (lt r0)[i1]? = some d)) (fun _ v19 _ => 61 - (intOf v19).toNat)
          case atStart => exact ⟨b0, 0, by omega, rfl, rfl, HP9.out, HI0.out⟩
          case round =>
            obtain ⟨bb, i, hi, rfl, rfl, hpx, hbi⟩ := hrel
            clear HP9 HI0
            obtain ⟨a, cap0, cl, hel, _, _⟩ := hpx.row hlt0
            have hl61 : (lt r0).length ≤ 61 := by have := HLR.out; omega
            generalize hlen : (lt r0).length = ln at *
            have HLEN := Lib.hid hlen
            have HEL := Lib.hid hel
            have HBI := Lib.hid hbi
            have HPX := Lib.hid hpx
            clear hlen hel hbi hpx
            have j0 : (0 : Int) ≤ (i : Int) := by omega
            by_cases hil : i < ln
            · have j1 : (i : Int) < (ln : Int) := by omega
              cases bb with
              | true =>
                go_wp2_with fail
                exact ⟨⟨true, i + 1, by omega, rfl, by simp, HPX.out, .inl rfl⟩, by simp only [intOf]; omega⟩
              | false =>
                obtain ⟨c, hc⟩ : ∃ c, (lt r0)[i]? = some c := ⟨_, List.getElem?_eq_getElem (by rw [HLEN.out]; exact hil)⟩
                obtain ⟨g, rfl, cg⟩ := HEL.out i c hc
                have HC := Lib.hid hc
                clear hc HEL
                go_wp2_with fail
                refine (filled_at c _ rfl wr).mono ?_
                rintro e w10 ⟨rfl, hb10⟩
                have hp10 := HPX.out.mono hb10
                have HP10 := Lib.hid hp10
                have hnx : ((fillB d).toList == (fillB c).toList) = true ∨ ∃ i1, i + 1 ≤ i1 ∧ (lt r0)[i1]? = some d := by
                  rcases HBI.out with h | ⟨i1, h1, h2⟩
                  · cases h
                  · by_cases e : i = i1
                    · subst e
                      have := HC.out
                      rw [h2] at this
                      cases this
                      exact .inl (beq_self_eq_true _)
                    · exact .inr ⟨i1, by omega, h2⟩
                have HNX := Lib.hid hnx
                clear hb10 hp10 hnx HBI HPX cg cl
                go_wp2_with fail
                exact ⟨⟨_, i + 1, by omega, rfl, by simp, HP10.out, HNX.out⟩, by simp only [intOf]; omega⟩
            · have hbt : bb = true := by
                rcases HBI.out with h | ⟨i1, h1, h2⟩
                · exact h
                · have h3 := (List.getElem?_eq_some_iff.1 h2).1
                  have h4 := HLEN.out
                  omega
              subst hbt
              clear HEL HBI
              go_wp2_with fail
              exact ⟨⟨r0 + 1, by omega, by simp, HPX.out⟩, by simp only [intOf]; omega⟩
        · have HNE := Lib.hid hne
          clear hne
          go_wp2_with fail
          refine (HRD.out).mono ?_
          rintro e w8 ⟨rfl, h8⟩
          have hp8 : KeepsP b sb lb N sf lt G w8 := ⟨L, HLO.out, h8⟩
          have HP8 := Lib.hid hp8
          clear h8 hp8 HRD
          go_wp2_with fail
          obtain ⟨wo, hwo⟩ : ∃ wo : World, wo = w8 := ⟨_, rfl⟩
          clear hwo
          go_loopw [18, 19] (fun v18 v19 wx => ∃ (bb : Bool) (i : Nat), i ≤ (lt r0).length ∧ v18 = .bool bb ∧ v19 = .int .i64 i ∧ KeepsP b sb lb N sf lt G wx ∧ (bb = true ∨ i = 0)) (fun _ v19 _ => 61 - (intOf v19).toNat)
          case atStart => exact ⟨false, 0, by omega, rfl, rfl, HP8.out, .inr rfl⟩
          case round =>
            obtain ⟨bb, i, hi, rfl, rfl, hpx, hbi⟩ := hrel
            clear HP8
            obtain ⟨a, cap0, cl, hel, _, _⟩ := hpx.row hlt0
            have hl61 : (lt r0).length ≤ 61 := by have := HLR.out; omega
            have hl1 : 1 ≤ (lt r0).length := by
              have := HNE.out
              cases h : lt r0 with
              | nil => exact absurd h this
              | cons => simp
            generalize hlen : (lt r0).length = ln at *
            have HBI := Lib.hid hbi
            have HPX := Lib.hid hpx
            clear hlen hel hbi hpx
            have j0 : (0 : Int) ≤ (i : Int) := by omega
            by_cases hil : i < ln
            · have j1 : (i : Int) < (ln : Int) := by omega
              cases bb with
              | true =>
                go_wp2_with fail
                exact ⟨⟨true, i + 1, by omega, rfl, by simp, HPX.out, .inl rfl⟩, by simp only [intOf]; omega⟩
              | false =>
                go_wp2_with fail
                exact ⟨⟨true, i + 1, by omega, rfl, by simp, HPX.out, .inl rfl⟩, by simp only [intOf]; omega⟩
            · have hbt : bb = true := by
                rcases HBI.out with h | h
                · exact h
                · omega
              subst hbt
              clear HBI
              go_wp2_with fail
              exact ⟨⟨r0 + 1, by omega, by simp, HPX.out⟩, by simp only [intOf]; omega⟩
      · obtain rfl : r0 = 40 := by omega
        obtain ⟨L, hL, hpl⟩ := hp
        have HPL := Lib.hid hpl
        clear hpl hlt0
        go_wp2_with fail
        refine (read_nil 0 wr).mono ?_
        rintro e w8 ⟨rfl, hb8⟩
        have hpl := HPL.out.mono hb8
        have hwt := waits_any b N _ w8 hpl
        rw [HQ0.out] at hwt
        have HWT := Lib.hid hwt
        have HB := Lib.hid (HGC.out w8 hpl.frame.tail.right.tail).2.2.below
        clear hb8 hpl hwt HPL
        go_wp2_with fail
        refine (HWT.out).mono ?_
        rintro e w9 ⟨rfl, rfl⟩
        go_wp2_with fail
        refine (down_nil w8).mono ?_
        rintro e w9 ⟨rfl, rfl⟩
        go_wp2_with fail
        refine (sectors_nil w8).mono ?_
        rintro e w9 ⟨rfl, rfl⟩
        go_wp2_with fail
        go_ret
        exact ⟨rfl, HB.out⟩
end Go.Proofs.Ytjkpghhbpcjjiaa
