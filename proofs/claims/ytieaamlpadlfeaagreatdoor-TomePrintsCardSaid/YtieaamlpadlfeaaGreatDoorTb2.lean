/- A text as a word: tome.Word walked. Conditions: none. -/
import Derived.Test.YtieaamlpadlfeaaGreatDoorTb1
import Derived.Lib.ConvBytes
import Derived.Lib.AtoiErrMem
import Derived.Deep.RegionHeld3
namespace Go.Proofs.YtieaamlpadlfeaaGreatDoor
open Go Go.MapKept Go.RowKit Go.Proofs

attribute [local go_sem] Oper.semAt_some

theorem plain_any (c : UInt8) (w : World) : Calls Tryz.prog 18 #[.int .u8 (c.toNat : Int)] w (Ret (.bool (plainB c)) (Same w)) := by
  have hb : plainB c = (decide (32 < c.toNat) && (decide (c.toNat < 127) && decide (c.toNat ≠ 37))) := by unfold plainB; rw [Bool.and_assoc]
  rw [hb]
  by_cases h1 : 32 < c.toNat
  · have k1 : (32 : Int) < (c.toNat : Int) := by omega
    by_cases h2 : c.toNat < 127
    · have k2 : (c.toNat : Int) ≤ 126 := by omega
      by_cases h3 : c.toNat = 37
      · have k3 : ((c.toNat : Int) != 37) = false := by rw [h3]; rfl
        have e : (decide (32 < c.toNat) && (decide (c.toNat < 127) && decide (c.toNat ≠ 37))) = false := by simp [h3]
        rw [e]
        clear h1 h2 h3 e hb
        go_enter Tryz.func18, Tryz.ntmps18
        go_wp2_with fail
        go_ret
        exact ⟨rfl, rfl⟩
      · have k3 : ((c.toNat : Int) != 37) = true := by rw [bne_iff_ne]; omega
        have e : (decide (32 < c.toNat) && (decide (c.toNat < 127) && decide (c.toNat ≠ 37))) = true := by simp [h1, h2, h3]
        rw [e]
        clear h1 h2 h3 e hb
        go_enter Tryz.func18, Tryz.ntmps18
        go_wp2_with fail
        go_ret
        exact ⟨rfl, rfl⟩
    · have k2 : ((c.toNat : Int) ≤ 126) = False := eq_false (by omega)
      have e : (decide (32 < c.toNat) && (decide (c.toNat < 127) && decide (c.toNat ≠ 37))) = false := by simp [h2]
      rw [e]
      clear h1 h2 e hb
      go_enter Tryz.func18, Tryz.ntmps18
      go_wp2_with fail
      go_ret
      exact ⟨rfl, rfl⟩
  · have k1 : ((32 : Int) < (c.toNat : Int)) = False := eq_false (by omega)
    have e : (decide (32 < c.toNat) && (decide (c.toNat < 127) && decide (c.toNat ≠ 37))) = false := by simp [h1]
    rw [e]
    clear h1 e hb
    go_enter Tryz.func18, Tryz.ntmps18
    go_wp2_with fail
    go_ret
    exact ⟨rfl, rfl⟩
/-- A string's bytes, laid. -/
theorem sat_bytes {w : World} {F : Heaplet} (s : Sat w F) (d : ByteArray) : Sat (Lib.bytesWorld w 5 d) (.blk w.heap.size (.cells (Lib.bytesCells w 5 d) 5 ((Lib.bytesCells w 5 d).size, (Lib.bytesCells w 5 d).size + 1)) :: F) := by
  have s1 : Sat (w.drew.alloc (.cells (Lib.bytesCells w 5 d) 5)) (.blk w.heap.size (.cells (Lib.bytesCells w 5 d) 5) :: F) := (s.drew).new _
  refine s1.set _ ?_ ⟨rfl, rfl, rfl⟩
  apply Array.ext_getElem?
  intro j
  have hsz : (w.drew.alloc (.cells (Lib.bytesCells w 5 d) 5)).heap.size = w.heap.size + 1 := by simp
  by_cases e : j = w.heap.size
  · subst e
    rw [Lib.bytesWorld_at_new, Array.getElem?_setIfInBounds_self_of_lt (by rw [hsz]; omega)]
  · rw [Array.getElem?_setIfInBounds_ne (fun q => e q.symm)]
    by_cases h : j < w.heap.size
    · rw [Lib.bytesWorld_at_old w 5 d j h]
      have := Lib.alloc_old w.drew (.cells (Lib.bytesCells w 5 d) 5) j h
      rw [this]
      rfl
    · rw [Array.getElem?_eq_none (by rw [Lib.bytesWorld_size]; omega), Array.getElem?_eq_none (by rw [hsz]; omega)]
theorem bytes_at {w W : World} {F : Heaplet} {d : ByteArray} {z : Nat × Nat} {g : Nat} (s : Sat W (.blk g (.cells (Lib.bytesCells w 5 d) 5 z) :: F)) {j : Nat} {c : UInt8} (h : d.data.toList[j]? = some c) : W.cell? ⟨g, j, none⟩ = some (.int .u8 (c.toNat : Int)) := by
  have hj : j < d.size := by
    have := (List.getElem?_eq_some_iff.1 h).1
    rw [Array.length_toList] at this
    exact this
  have h1 := Lib.bytesWorld_cell w 5 d j hj
  have h2 : (Lib.bytesWorld w 5 d).cell? ⟨w.heap.size, j, none⟩ = (Lib.bytesCells w 5 d)[j]? := cell_of (Lib.bytesWorld_at_new w 5 d) j
  rw [h2] at h1
  rw [cell_of s.h0, h1]
  simp only [List.getD_eq_getElem?_getD, h, Option.getD_some]
theorem and_15 : ∀ n : Nat, n < 256 → bits BinOp.and IntKind.u8 (n : Int) 15 = (n : Int) % 16 := by decide +kernel
set_option maxRecDepth 100000 in
theorem digit_at (n : Nat) (h : n < 16) (W : World) : (Instr.slice 9 (.string ⟨#[48, 49, 50, 51, 52, 53, 54, 55, 56, 57, 65, 66, 67, 68, 69, 70]⟩) (some (.int .u8 (n : Int))) (some (.int .u8 ((n : Int) + 1))) none).run Tryz.prog W = .ok (.string ⟨#[hexB n]⟩) W := by
  have h2 : n = 0 ∨ n = 1 ∨ n = 2 ∨ n = 3 ∨ n = 4 ∨ n = 5 ∨ n = 6 ∨ n = 7 ∨ n = 8 ∨ n = 9 ∨ n = 10 ∨ n = 11 ∨ n = 12 ∨ n = 13 ∨ n = 14 ∨ n = 15 := by omega
  rcases h2 with rfl | rfl | rfl | rfl | rfl | rfl | rfl | rfl | rfl | rfl | rfl | rfl | rfl | rfl | rfl | rfl <;> rfl
theorem Sat.drop1 {w : World} {x y : HItem} {k F : Heaplet} (s : Sat w (x :: (k ++ (y :: F)))) : Sat w (x :: (k ++ F)) := by
  have h : (x :: (k ++ (y :: F))).Perm (y :: (x :: (k ++ F))) := (List.Perm.cons x List.perm_middle).trans (List.Perm.swap _ _ _)
  exact (s.perm h).tail
set_option maxRecDepth 100000 in
set_option maxHeartbeats 4000000 in
theorem word_any (s : ByteArray) (hs : s.size ≤ 1000000) (w : World) : Calls Tryz.prog 8 #[.string s] w (Ret (.string ⟨(wordL s.data.toList).toArray⟩) (Below w.heap.size w)) := by
  have hsz : s.size = s.data.toList.length := by rw [Array.length_toList]; rfl
  have hnil : (s.toList == []) = decide (s.size = 0) := by
    rw [ByteArray.toList_eq, hsz]
    cases s.data.toList <;> rfl
  by_cases h0 : s.data.toList = []
  · have hb : (s.toList == []) = true := by rw [hnil, hsz, h0]; rfl
    rw [h0]
    clear hnil hsz h0
    go_enter Tryz.func8, Tryz.ntmps8
    go_wp2_with fail
    go_ret
    exact ⟨rfl, Below.refl _ _⟩
  · have hb : (s.toList == []) = false := by
      rw [hnil, hsz]
      cases hx : s.data.toList with
      | nil => exact absurd hx h0
      | cons a b => rfl
    have hw : wordL s.data.toList = s.data.toList.flatMap wordC := by unfold wordL; rw [if_neg h0]
    rw [hw]
    have HSZ := Lib.hid hsz
    have s0 := (sat_all w).new (.cells #[.pointer none, .slice none 0 0] 48)
    have hcv := Lib.run_convert_string_bytes (P := Tryz.prog) (w.alloc (.cells #[.pointer none, .slice none 0 0] 48)) 9 46 5 s Tryz.underlying9 Tryz.underlying46 Tryz.underlying5
    have s1 := sat_bytes s0 s
    rw [World.size_alloc] at hcv s1
    obtain ⟨b, hbe⟩ : ∃ b, w.heap.size = b := ⟨_, rfl⟩
    obtain ⟨g, hge⟩ : ∃ g, w.heap.size + 1 = g := ⟨_, rfl⟩
    rw [hge] at hcv s1
    rw [hbe] at s1
    obtain ⟨row, hrow⟩ : ∃ row, Lib.bytesCells (w.alloc (.cells #[.pointer none, .slice none 0 0] 48)) 5 s = row := ⟨_, rfl⟩
    obtain ⟨cap, hcap⟩ : ∃ cap, grownCap (w.alloc (.cells #[.pointer none, .slice none 0 0] 48)) s.size 0 5 = cap := ⟨_, rfl⟩
    obtain ⟨W1, hW1⟩ : ∃ W1, Lib.bytesWorld (w.alloc (.cells #[.pointer none, .slice none 0 0] 48)) 5 s = W1 := ⟨_, rfl⟩
    rw [hrow, hW1] at s1
    rw [hcap, hW1] at hcv
    have HB0 : Hid (BldIs b [] (.blk g (.cells row 5 (row.size, row.size + 1)) :: allOf w) W1) := Lib.hid (.inl ⟨_, [], SliceIs.nil 5 1, s1.swap⟩)
    have HRW : Hid (∀ W, Sat W (.blk g (.cells row 5 (row.size, row.size + 1)) :: allOf w) → ∀ (j : Nat) (c : UInt8), s.data.toList[j]? = some c → W.cell? ⟨g, j, none⟩ = some (.int .u8 (c.toNat : Int))) := Lib.hid (fun W hW j c hc => by
      rw [← hrow] at hW
      exact bytes_at hW hc)
    have HW : Hid (∀ W, Sat W (.blk g (.cells row 5 (row.size, row.size + 1)) :: allOf w) → Sat W (allOf w)) := Lib.hid (fun W hW => hW.tail)
    have HBE := Lib.hid hbe
    have ls : (s.size : Int) ≤ 1000000 := by omega
    clear hnil hsz h0 hw s0 s1 hrow hcap hge
    go_enter Tryz.func8, Tryz.ntmps8
    go_upto_block 0 with (fail)
    clear hcv hW1
    go_wp2_with fail
    go_loopw [11] (fun v11 wr => ∃ i : Nat, i ≤ s.size ∧ v11 = .int .i64 i ∧ BldIs b ((s.data.toList.take i).flatMap wordC) (.blk g (.cells row 5 (row.size, row.size + 1)) :: allOf w) wr) (fun v11 _ => 2000000 - (RowKit.intOf v11).toNat)
    case atStart => exact ⟨0, by omega, rfl, HB0.out⟩
    case round =>
      clear HB0
      obtain ⟨i, hi, rfl, hbl⟩ := hrel
      have HBL := Lib.hid hbl
      clear hbl
      have i0 : (0 : Int) ≤ (i : Int) := by omega
      by_cases hil : i < s.size
      · have i1 : (i : Int) < (s.size : Int) := by omega
        have i9 : i < 2000000 := by omega
        obtain ⟨c, hc⟩ : ∃ c, s.data.toList[i]? = some c := ⟨_, List.getElem?_eq_getElem (by rw [← HSZ.out]; exact hil)⟩
        have k0 := HRW.out wr HBL.out.frame i c hc
        have htk : (s.data.toList.take (i + 1)).flatMap wordC = (s.data.toList.take i).flatMap wordC ++ wordC c := by
          rw [List.take_add_one, hc]
          simp
        have hlen : ((s.data.toList.take i).flatMap wordC).length ≤ 3 * i := by
          have : ∀ l : List UInt8, (l.flatMap wordC).length ≤ 3 * l.length := by
            intro l
            induction l with
            | nil => simp
            | cons x l ih =>
              rw [List.flatMap_cons, List.length_append]
              have : (wordC x).length ≤ 3 := by unfold wordC; split <;> simp
              simp only [List.length_cons]
              omega
          have h2 := this (s.data.toList.take i)
          have h3 : (s.data.toList.take i).length ≤ i := List.length_take_le _ _
          omega
        cases hp : plainB c with
        | true =>
          have HPL := Lib.hid (plain_any c wr)
          rw [hp] at HPL
          have hwb := write_byte HBL.out c (by omega)
          have e : (s.data.toList.take i).flatMap wordC ++ [c] = (s.data.toList.take (i + 1)).flatMap wordC := by rw [htk]; unfold wordC; rw [if_pos hp]
          rw [e] at hwb
          have HWB := Lib.hid hwb
          have HIL := Lib.hid hil
          clear hwb e htk hlen hc hil hi HBL
          go_wp2_with (first | (go_at_call 18; refine (HPL.out).mono ?_; rintro e w2 ⟨rfl, rfl⟩) | (go_at_call 19; refine (HWB.out).mono ?_; rintro e w3 ⟨rfl, h3⟩; have H3 := Lib.hid h3; clear h3))
          exact ⟨⟨i + 1, HIL.out, by simp, H3.out⟩, by simp only [RowKit.intOf]; omega⟩
        | false =>
          have HPL := Lib.hid (plain_any c wr)
          rw [hp] at HPL
          have hcn := c.toNat_lt
          have hws := write_string (HBL.out.drewN 1) ⟨#[37, hexB (c.toNat / 16), hexB (c.toNat % 16)]⟩ (by omega) (by show 3 ≤ _; omega)
          have e : (s.data.toList.take i).flatMap wordC ++ (⟨#[37, hexB (c.toNat / 16), hexB (c.toNat % 16)]⟩ : ByteArray).data.toList = (s.data.toList.take (i + 1)).flatMap wordC := by rw [htk]; unfold wordC; rw [if_neg (by simp [hp])]
          rw [e] at hws
          have HWS := Lib.hid hws
          have HIL := Lib.hid hil
          have hd1 := digit_at (c.toNat / 16) (by omega)
          have hd2 := digit_at (c.toNat % 16) (by omega)
          rw [show (((c.toNat / 16 : Nat)) : Int) = (c.toNat : Int) / 16 by omega] at hd1
          rw [show (((c.toNat % 16 : Nat)) : Int) = (c.toNat : Int) % 16 by omega] at hd2
          have ha := and_15 c.toNat hcn
          have hw1 : IntKind.u8.wrap ((c.toNat : Int) / 16 + 1) = (c.toNat : Int) / 16 + 1 := by rw [IntKind.wrap_u8]; omega
          have hw2 : IntKind.u8.wrap ((c.toNat : Int) % 16 + 1) = (c.toNat : Int) % 16 + 1 := by rw [IntKind.wrap_u8]; omega
          clear hcn
          clear hws e htk hlen hc hil hi HBL
          go_upto_region 9 with (go_at_call 18; refine (HPL.out).mono ?_; rintro e w2 ⟨rfl, rfl⟩)
          clear HPL
          go_region_with (go_at_call 20; refine (HWS.out).mono ?_; rintro e w3 ⟨⟨v, rfl⟩, h3⟩; have H3 := Lib.hid h3; clear h3)
          all_goals
            clear ha hw1 hw2 hd1 hd2 k0
            go_wp2_with fail
            exact ⟨⟨i + 1, HIL.out, by simp, H3.out⟩, by simp only [RowKit.intOf]; omega⟩
      · obtain rfl : i = s.size := by omega
        have i1 : ((s.size : Int) < (s.size : Int)) = False := eq_false (by omega)
        have hst : Calls Tryz.prog 21 #[.pointer (some ⟨b, 0, none⟩)] wr (Ret (.string ⟨(s.data.toList.flatMap wordC).toArray⟩) (Below w.heap.size w)) := by
          have h := HBL.out
          rw [List.take_of_length_le (by rw [← HSZ.out]; omega)] at h
          have h2 : BldIs b (s.data.toList.flatMap wordC) (allOf w) wr := h.elim (fun ⟨v, k, x1, x2⟩ => .inl ⟨v, k, x1, x2.drop1⟩) (fun ⟨v, k, x1, x2⟩ => .inr ⟨v, k, x1, x2.drop1⟩)
          exact bld_string h2
        have HST := Lib.hid hst
        clear hst HBL hi hil
        go_wp2_with (go_at_call 21; refine (HST.out).mono ?_; rintro e w3 ⟨rfl, h3⟩; have H3 := Lib.hid h3; clear h3)
        go_ret
        exact ⟨rfl, H3.out⟩
end Go.Proofs.YtieaamlpadlfeaaGreatDoor
