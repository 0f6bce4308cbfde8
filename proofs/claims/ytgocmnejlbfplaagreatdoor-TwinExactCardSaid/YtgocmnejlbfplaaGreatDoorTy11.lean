/- Texts put together: Tx10, TxM. Conditions: none. -/
import Derived.Test.YtgocmnejlbfplaaGreatDoorTy5
import Derived.Test.YtgocmnejlbfplaaGreatDoorTy6
import Derived.Test.YtgocmnejlbfplaaGreatDoorTy10
namespace Go.Proofs.YtgocmnejlbfplaaGreatDoor
open Go Go.MapKept Go.RowKit Go.Proofs

attribute [local go_sem] Oper.semAt_some

def byC (b : UInt8) : List Value := [byV b]
theorem byC_len : ∀ b, (byC b).length = 1 := fun _ => rfl
abbrev ByOwn (v : Value) (L : List UInt8) (h : Heaplet) : Prop := SliceIs 5 1 v L.length (L.flatMap byC) h
theorem by_push {L : List UInt8} {v : Value} {h B : Heaplet} {w : World} {x : Nat} (b : UInt8) {k : Int} (hk : (b.toNat : Int) = k) (hv : ByOwn v L h) (s : Sat w (.blk x (.cells #[.int .u8 k] 5) :: (h ++ B))) (hl : L.length + 1 ≤ 200000) :
    ∃ v' w' h', (∀ ty, (Builtin.append_ #[78, 78] ty #[v, .slice (some ⟨x, 0, none⟩) 1 1]).run Tryz.prog w = .ok v' w') ∧ ByOwn v' (L ++ [b]) h' ∧ Sat w' (h' ++ B) := by
  subst hk
  obtain ⟨i0, hin, hz, hsize, hby⟩ := info_parts infoBy
  exact sl_push (P := Tryz.prog) (fl := byC) (A := []) byC_len Tryz.underlying78 hin hz hsize hby rfl (by decide) hv b s (fun u hu => by simp only [byC, List.mem_singleton] at hu; subst hu; rfl) (by unfold maxLen; omega) (by omega)
theorem by_string {L : List UInt8} {v : Value} {h B : Heaplet} {w : World} (hv : ByOwn v L h) (s : Sat w (h ++ B)) (h0 : 0 < L.length) :
    (convert 78 9 v).run Tryz.prog w = .ok (.string ⟨L.toArray⟩) w := by
  obtain ⟨g, cap, rfl⟩ := sl_some hv h0
  exact run_convert_bytes_back (P := Tryz.prog) w 78 9 5 ⟨g, 0, none⟩ cap L Tryz.underlying78 Tryz.underlying5 Tryz.underlying9 (fun j hj => by
    obtain ⟨a', cap', e, hc⟩ := sl_cells byC_len hv s
    cases e
    obtain ⟨g', e, _, hu⟩ := hc j _ (List.getElem?_eq_getElem hj)
    cases e
    rw [addr_add']
    have := hu 0 _ rfl
    rw [Nat.mul_one, Nat.add_zero] at this
    exact this)
def slLen : Value → Nat
  | .slice _ n _ => n
  | _ => 0
theorem be8_take {n j : Nat} (h : j < 8) : (be8 n).take (j + 1) = (be8 n).take j ++ [UInt8.ofNat (n / 256 ^ (7 - j))] := by
  have e : (be8 n)[j]? = some (UInt8.ofNat (n / 256 ^ (7 - j))) := by
    rw [← beL_8]
    unfold beL
    rw [List.getElem?_map, List.getElem?_range h]
    rfl
  rw [List.take_add_one, e]
  rfl
theorem slots_take {L : List Sl} {i : Nat} {x : Sl} (h : L[i]? = some x) : slotsB (L.take (i + 1)) = slotsB (L.take i) ++ slotB x := by
  rw [List.take_add_one, h]
  unfold slotsB
  rw [List.flatMap_append]
  simp
theorem raw_part {p : Pg} (h : goodP p = true) (i : Nat) : (headB p ++ slotsB (p.slots.take i)).length ≤ 240 := raw_le h i
theorem be8_push {n c : Nat} (hc : c < 8) {k : Int} (hk : ((UInt8.ofNat (n / 256 ^ (7 - c))).toNat : Int) = k) {va : Option Addr} {vc : Nat} {h B : Heaplet} {w : World} (hv : ByOwn (.slice va c vc) ((be8 n).take c) h) (s : Sat w (h ++ B)) :
    ∃ v' w' h', (∀ ty, (Builtin.append_ #[78, 78] ty #[.slice va c vc, .slice (some ⟨w.heap.size, 0, none⟩) 1 1]).run Tryz.prog (w.alloc (.cells #[.int .u8 k] 5)) = .ok v' w') ∧ ByOwn v' ((be8 n).take (c + 1)) h' ∧ Sat w' (h' ++ B) := by
  rw [be8_take hc]
  exact by_push _ hk hv (s.new (.cells #[.int .u8 k] 5)) (by rw [List.length_take, be8_len]; omega)
set_option maxRecDepth 100000 in
set_option maxHeartbeats 4000000 in
theorem renc_any {v : Value} {p : Pg} {F : Heaplet} {w : World} (hg : goodP p = true) (hv : SlAt F v p.slots) (s : Sat w F) :
    Calls Tryz.prog 63 #[pgV p.lsn v] w (Ret (.tuple #[.string ⟨(encB p).toArray⟩, .int .i64 0]) (Below w.heap.size w)) := by
  obtain ⟨h1, h2, h3⟩ := good_bds hg
  obtain ⟨F2, hF2⟩ : ∃ F2, allOf w = F2 := ⟨_, rfl⟩
  have s2 : Sat w F2 := by rw [← hF2]; exact sat_all w
  have hFF : ∀ W, Sat W F2 → Sat W F := fun W hW => by rw [← hF2] at hW; exact s.monoB hW.below
  have HB : Hid (∀ W, Sat W F2 → Below w.heap.size w W) := Lib.hid (fun W hW => by rw [← hF2] at hW; exact hW.below)
  have hv2 : SlAt F2 v p.slots := hv.mono hFF
  have hs1 := s2.new (.cells #[kI p.lsn, v] 48)
  have HGD := Lib.hid (rgood_any (hv2.mono (F' := .blk w.heap.size (.cells #[kI p.lsn, v] 48) :: F2) (fun w hw => hw.tail)) hs1 h1 h2 h3)
  rw [hg] at HGD
  have HS1 := Lib.hid hs1
  have HG := Lib.hid hg
  have hgi := goodP_iff.1 hg
  obtain ⟨n, hn⟩ : ∃ n : Nat, p.lsn = (n : Int) := ⟨p.lsn.toNat, by omega⟩
  have hn9 : n ≤ 1099511627776 := by omega
  have hhd : headB p = be8 n ++ [UInt8.ofNat p.slots.length] := by unfold headB; rw [hn]; rfl
  have HHD := Lib.hid hhd
  obtain ⟨a, cap, rfl, hc⟩ := id hv2
  have HC := Lib.hid hc
  have c0 : (w.alloc (.cells #[kI p.lsn, .slice a p.slots.length cap] 48)).cell? ⟨w.heap.size, 0, none⟩ = some (kI p.lsn) := by rw [cell_of HS1.out.h0]; rfl
  have c1 : (w.alloc (.cells #[kI p.lsn, .slice a p.slots.length cap] 48)).cell? ⟨w.heap.size, 1, none⟩ = some (.slice a p.slots.length cap) := by rw [cell_of HS1.out.h0]; rfl
  have hl9 : (p.slots.length : Int) ≤ 32 := by omega
  obtain ⟨pb, hpb⟩ : ∃ pb, w.heap.size = pb := ⟨_, rfl⟩
  rw [hpb] at HS1 c0 c1
  rw [hn] at HS1 HGD c0 c1 ⊢
  clear hv s h1 h2 h3 hF2 s2 hFF hs1 hg hv2 hc hgi hhd
  go_enter Tryz.func63, Tryz.ntmps63
  go_upto_block 0 with (go_at_call 48; refine (HGD.out).mono ?_; rintro e w1 ⟨rfl, hg1⟩; have HS2 := Lib.hid (HS1.out.grown hg1); clear hg1)
  have HS3 : Hid (Sat (w1.alloc (.cells #[] 5)) ([.blk w1.heap.size (.cells #[] 5)] ++ (.blk pb (.cells #[kI (n : Int), .slice a p.slots.length cap] 48) :: F2))) := Lib.hid (HS2.out.new (.cells #[] 5))
  have HV3 : Hid (ByOwn (.slice (some ⟨w1.heap.size, 0, none⟩) 0 0) [] [.blk w1.heap.size (.cells #[] 5)]) := Lib.hid (sl_new 5 1 w1.heap.size)
  clear c0 c1 HGD HS1 HS2
  generalize w1.alloc (.cells #[] 5) = W3 at *
  generalize w1.heap.size = g3 at *
  go_wp2_with fail
  go_loopw [4, 5] (fun v4 v5 wr => ∃ (j : Nat) (h : Heaplet), j ≤ 8 ∧ v5 = .int .i64 (56 - 8 * (j : Int)) ∧ ByOwn v4 ((be8 n).take j) h ∧ Sat wr (h ++ (.blk pb (.cells #[kI (n : Int), .slice a p.slots.length cap] 48) :: F2))) (fun _ v5 _ => (RowKit.intOf v5 + 8).toNat)
  case atStart => exact ⟨0, _, by omega, rfl, HV3.out, HS3.out⟩
  case round =>
    clear HS3 HV3
    obtain ⟨j, h, hj, rfl, hv, hs⟩ := hrel
    obtain ⟨va, vc, rfl⟩ := sl_form hv
    have hb := hs.right.h0
    have c0 : wr.cell? ⟨pb, 0, none⟩ = some (kI (n : Int)) := by rw [cell_of hb]; rfl
    have c1 : wr.cell? ⟨pb, 1, none⟩ = some (.slice a p.slots.length cap) := by rw [cell_of hb]; rfl
    clear hb
    by_cases hj8 : j < 8
    · have hl : ((be8 n).take j).length = j := by rw [List.length_take, be8_len]; omega
      have hv' : ByOwn (.slice va ((be8 n).take j).length vc) ((be8 n).take j) h := hv
      rw [hl] at hv' ⊢
      have hcs : (j = 0 ∧ 56 - 8 * (j : Int) = 56) ∨ (j = 1 ∧ 56 - 8 * (j : Int) = 48) ∨ (j = 2 ∧ 56 - 8 * (j : Int) = 40) ∨ (j = 3 ∧ 56 - 8 * (j : Int) = 32) ∨ (j = 4 ∧ 56 - 8 * (j : Int) = 24) ∨ (j = 5 ∧ 56 - 8 * (j : Int) = 16) ∨ (j = 6 ∧ 56 - 8 * (j : Int) = 8) ∨ (j = 7 ∧ 56 - 8 * (j : Int) = 0) := by omega
      have HS := Lib.hid hs
      clear hl hj hj8 hv hs
      rcases hcs with ⟨hjc, e5⟩ | ⟨hjc, e5⟩ | ⟨hjc, e5⟩ | ⟨hjc, e5⟩ | ⟨hjc, e5⟩ | ⟨hjc, e5⟩ | ⟨hjc, e5⟩ | ⟨hjc, e5⟩
      · rw [e5]
        have hk : ((UInt8.ofNat (n / 256 ^ (7 - j))).toNat : Int) = (n : Int) / 72057594037927936 := by
          rw [hjc]
          show ((UInt8.ofNat (n / 72057594037927936)).toNat : Int) = _
          rw [UInt8.toNat_ofNat']; omega
        obtain ⟨v', w', h', hap, hv2, hs2⟩ := be8_push (by omega) hk hv' HS.out
        have HV2 := Lib.hid hv2
        have HS2 := Lib.hid hs2
        have HJC := Lib.hid hjc
        have HAP := Lib.hid hap
        obtain ⟨v2a, v2c, rfl⟩ := sl_form hv2
        clear e5 hk hv' hv2 hs2 hjc hap
        go_wp2_with (at_builtin; refine wpList_append_run rfl _ _ _ _ rfl _ _ _ _ rfl rfl HAP.out ?_)
        exact ⟨⟨j + 1, h', by have := HJC.out; omega, by rw [HJC.out]; rfl, (by have h := HV2.out; rw [List.length_take] at h; exact h), HS2.out⟩, by simp only [RowKit.intOf]; omega⟩
      · rw [e5]
        have hk : ((UInt8.ofNat (n / 256 ^ (7 - j))).toNat : Int) = (n : Int) / 281474976710656 := by
          rw [hjc]
          show ((UInt8.ofNat (n / 281474976710656)).toNat : Int) = _
          rw [UInt8.toNat_ofNat']; omega
        obtain ⟨v', w', h', hap, hv2, hs2⟩ := be8_push (by omega) hk hv' HS.out
        have HV2 := Lib.hid hv2
        have HS2 := Lib.hid hs2
        have HJC := Lib.hid hjc
        have HAP := Lib.hid hap
        obtain ⟨v2a, v2c, rfl⟩ := sl_form hv2
        clear e5 hk hv' hv2 hs2 hjc hap
        go_wp2_with (at_builtin; refine wpList_append_run rfl _ _ _ _ rfl _ _ _ _ rfl rfl HAP.out ?_)
        exact ⟨⟨j + 1, h', by have := HJC.out; omega, by rw [HJC.out]; rfl, (by have h := HV2.out; rw [List.length_take] at h; exact h), HS2.out⟩, by simp only [RowKit.intOf]; omega⟩
      · rw [e5]
        have hk : ((UInt8.ofNat (n / 256 ^ (7 - j))).toNat : Int) = (n : Int) / 1099511627776 := by
          rw [hjc]
          show ((UInt8.ofNat (n / 1099511627776)).toNat : Int) = _
          rw [UInt8.toNat_ofNat']; omega
        obtain ⟨v', w', h', hap, hv2, hs2⟩ := be8_push (by omega) hk hv' HS.out
        have HV2 := Lib.hid hv2
        have HS2 := Lib.hid hs2
        have HJC := Lib.hid hjc
        have HAP := Lib.hid hap
        obtain ⟨v2a, v2c, rfl⟩ := sl_form hv2
        clear e5 hk hv' hv2 hs2 hjc hap
        go_wp2_with (at_builtin; refine wpList_append_run rfl _ _ _ _ rfl _ _ _ _ rfl rfl HAP.out ?_)
        exact ⟨⟨j + 1, h', by have := HJC.out; omega, by rw [HJC.out]; rfl, (by have h := HV2.out; rw [List.length_take] at h; exact h), HS2.out⟩, by simp only [RowKit.intOf]; omega⟩
      · rw [e5]
        have hk : ((UInt8.ofNat (n / 256 ^ (7 - j))).toNat : Int) = (n : Int) / 4294967296 % 256 := by
          rw [hjc]
          show ((UInt8.ofNat (n / 4294967296)).toNat : Int) = _
          rw [UInt8.toNat_ofNat']; omega
        obtain ⟨v', w', h', hap, hv2, hs2⟩ := be8_push (by omega) hk hv' HS.out
        have HV2 := Lib.hid hv2
        have HS2 := Lib.hid hs2
        have HJC := Lib.hid hjc
        have HAP := Lib.hid hap
        obtain ⟨v2a, v2c, rfl⟩ := sl_form hv2
        clear e5 hk hv' hv2 hs2 hjc hap
        go_wp2_with (at_builtin; refine wpList_append_run rfl _ _ _ _ rfl _ _ _ _ rfl rfl HAP.out ?_)
        exact ⟨⟨j + 1, h', by have := HJC.out; omega, by rw [HJC.out]; rfl, (by have h := HV2.out; rw [List.length_take] at h; exact h), HS2.out⟩, by simp only [RowKit.intOf]; omega⟩
      · rw [e5]
        have hk : ((UInt8.ofNat (n / 256 ^ (7 - j))).toNat : Int) = (n : Int) / 16777216 % 256 := by
          rw [hjc]
          show ((UInt8.ofNat (n / 16777216)).toNat : Int) = _
          rw [UInt8.toNat_ofNat']; omega
        obtain ⟨v', w', h', hap, hv2, hs2⟩ := be8_push (by omega) hk hv' HS.out
        have HV2 := Lib.hid hv2
        have HS2 := Lib.hid hs2
        have HJC := Lib.hid hjc
        have HAP := Lib.hid hap
        obtain ⟨v2a, v2c, rfl⟩ := sl_form hv2
        clear e5 hk hv' hv2 hs2 hjc hap
        go_wp2_with (at_builtin; refine wpList_append_run rfl _ _ _ _ rfl _ _ _ _ rfl rfl HAP.out ?_)
        exact ⟨⟨j + 1, h', by have := HJC.out; omega, by rw [HJC.out]; rfl, (by have h := HV2.out; rw [List.length_take] at h; exact h), HS2.out⟩, by simp only [RowKit.intOf]; omega⟩
      · rw [e5]
        have hk : ((UInt8.ofNat (n / 256 ^ (7 - j))).toNat : Int) = (n : Int) / 65536 % 256 := by
          rw [hjc]
          show ((UInt8.ofNat (n / 65536)).toNat : Int) = _
          rw [UInt8.toNat_ofNat']; omega
        obtain ⟨v', w', h', hap, hv2, hs2⟩ := be8_push (by omega) hk hv' HS.out
        have HV2 := Lib.hid hv2
        have HS2 := Lib.hid hs2
        have HJC := Lib.hid hjc
        have HAP := Lib.hid hap
        obtain ⟨v2a, v2c, rfl⟩ := sl_form hv2
        clear e5 hk hv' hv2 hs2 hjc hap
        go_wp2_with (at_builtin; refine wpList_append_run rfl _ _ _ _ rfl _ _ _ _ rfl rfl HAP.out ?_)
        exact ⟨⟨j + 1, h', by have := HJC.out; omega, by rw [HJC.out]; rfl, (by have h := HV2.out; rw [List.length_take] at h; exact h), HS2.out⟩, by simp only [RowKit.intOf]; omega⟩
      · rw [e5]
        have hk : ((UInt8.ofNat (n / 256 ^ (7 - j))).toNat : Int) = (n : Int) / 256 % 256 := by
          rw [hjc]
          show ((UInt8.ofNat (n / 256)).toNat : Int) = _
          rw [UInt8.toNat_ofNat']; omega
        obtain ⟨v', w', h', hap, hv2, hs2⟩ := be8_push (by omega) hk hv' HS.out
        have HV2 := Lib.hid hv2
        have HS2 := Lib.hid hs2
        have HJC := Lib.hid hjc
        have HAP := Lib.hid hap
        obtain ⟨v2a, v2c, rfl⟩ := sl_form hv2
        clear e5 hk hv' hv2 hs2 hjc hap
        go_wp2_with (at_builtin; refine wpList_append_run rfl _ _ _ _ rfl _ _ _ _ rfl rfl HAP.out ?_)
        exact ⟨⟨j + 1, h', by have := HJC.out; omega, by rw [HJC.out]; rfl, (by have h := HV2.out; rw [List.length_take] at h; exact h), HS2.out⟩, by simp only [RowKit.intOf]; omega⟩
      · rw [e5]
        have hk : ((UInt8.ofNat (n / 256 ^ (7 - j))).toNat : Int) = (n : Int) % 256 := by
          rw [hjc]
          show ((UInt8.ofNat (n / 1)).toNat : Int) = _
          rw [UInt8.toNat_ofNat']; omega
        obtain ⟨v', w', h', hap, hv2, hs2⟩ := be8_push (by omega) hk hv' HS.out
        have HV2 := Lib.hid hv2
        have HS2 := Lib.hid hs2
        have HJC := Lib.hid hjc
        have HAP := Lib.hid hap
        obtain ⟨v2a, v2c, rfl⟩ := sl_form hv2
        clear e5 hk hv' hv2 hs2 hjc hap
        go_wp2_with (at_builtin; refine wpList_append_run rfl _ _ _ _ rfl _ _ _ _ rfl rfl HAP.out ?_)
        exact ⟨⟨j + 1, h', by have := HJC.out; omega, by rw [HJC.out]; rfl, (by have h := HV2.out; rw [List.length_take] at h; exact h), HS2.out⟩, by simp only [RowKit.intOf]; omega⟩
    · obtain rfl : j = 8 := by omega
      have hl : ((be8 n).take 8) = be8 n := List.take_of_length_le (by rw [be8_len]; omega)
      rw [hl] at hv
      have hl2 : (be8 n).length = 8 := be8_len n
      rw [hl, hl2]
      have e5 : (56 - 8 * ((8 : Nat) : Int)) = -8 := rfl
      rw [e5]
      have hv' : ByOwn (.slice va (be8 n).length vc) (be8 n) h := hv
      rw [hl2] at hv'
      have hnew := hs.new (.cells #[.int .u8 (p.slots.length : Int)] 5)
      obtain ⟨v', w', h', hap, hv2, hs2⟩ := by_push (UInt8.ofNat p.slots.length) (k := (p.slots.length : Int)) (by rw [UInt8.toNat_ofNat']; omega) hv' hnew (by rw [be8_len]; omega)
      rw [← HHD.out] at hv2
      obtain ⟨v2a, v2c, rfl⟩ := sl_form hv2
      have HV2 := Lib.hid hv2
      have HS2 := Lib.hid hs2
      have HAP := Lib.hid hap
      clear hv hs hl hl2 e5 hv' hnew hap hv2 hs2 hj hj8
      go_upto_block 2 with (at_builtin; refine wpList_append_run rfl _ _ _ _ rfl _ _ _ _ rfl rfl HAP.out ?_)
      clear c0 c1 HAP
      go_wp2_with fail
      go_loopw [4, 6] (fun v4 v6 wr => ∃ (i : Nat) (X : List UInt8) (h : Heaplet), i ≤ p.slots.length ∧ v6 = .int .i64 (i : Int) ∧ X = headB p ++ slotsB (p.slots.take i) ∧ ByOwn v4 X h ∧ Sat wr (h ++ (.blk pb (.cells #[kI (n : Int), .slice a p.slots.length cap] 48) :: F2))) (fun _ v6 _ => 1000 - (RowKit.intOf v6).toNat)
      case atStart => exact ⟨0, _, h', by omega, rfl, by unfold slotsB; simp, HV2.out, HS2.out⟩
      case round =>
        clear HV2 HS2
        obtain ⟨i, X, h, hi, rfl, hX, hv, hs⟩ := hrel
        obtain ⟨va, vc, rfl⟩ := sl_form hv
        have hb := hs.right.h0
        have c1 : wr.cell? ⟨pb, 1, none⟩ = some (.slice a p.slots.length cap) := by rw [cell_of hb]; rfl
        have i0 : (0 : Int) ≤ (i : Int) := by omega
        clear hb
        by_cases hil : i < p.slots.length
        · have i1 : (i : Int) < (p.slots.length : Int) := by omega
          obtain ⟨x, hx⟩ : ∃ x, p.slots[i]? = some x := ⟨_, List.getElem?_eq_getElem hil⟩
          obtain ⟨g, off, e, hu⟩ := HC.out i x hx
          subst e
          have hX2 : headB p ++ slotsB (p.slots.take (i + 1)) = X ++ slotB x := by rw [slots_take hx, hX, List.append_assoc]
          have hX3 := raw_part HG.out (i + 1)
          rw [hX2, List.length_append, slotB_len ((goodP_iff.1 HG.out).2.2.2.1 x (List.mem_of_getElem? hx))] at hX3
          have HX2 := Lib.hid hX2
          have HIL := Lib.hid hil
          obtain ⟨u0, u1⟩ := hu wr hs.right.tail
          have hxs := (odd_no ((goodP_iff.1 HG.out).2.2.2.1 x (List.mem_of_getElem? hx))).2
          obtain ⟨xu, xd⟩ := x
          simp only at u0 u1 hX3 hxs
          cases xu with
          | false =>
            have hnew := hs.new (.cells #[.int .u8 255] 5)
            obtain ⟨v', w', h', hap, hv2, hs2⟩ := by_push 255 (k := 255) rfl hv hnew (by omega)
            have HV2 := Lib.hid hv2
            have HS2 := Lib.hid hs2
            have HAP := Lib.hid hap
            clear hX hX2 hX3 hx hu hv hs hnew hap hv2 hs2 hi hil u1 hxs
            go_wp2_with (at_builtin; refine wpList_append_run rfl _ _ _ _ rfl _ _ _ _ rfl rfl HAP.out ?_)
            exact ⟨⟨i + 1, X ++ [255], h', HIL.out, by simp, HX2.out.symm, HV2.out, HS2.out⟩, by simp only [RowKit.intOf]; omega⟩
          | true =>
            have hnew := hs.new (.cells #[.int .u8 (xd.size : Int)] 5)
            obtain ⟨v', w', h', hap, hv2, hs2⟩ := by_push (UInt8.ofNat xd.size) (k := (xd.size : Int)) (by rw [UInt8.toNat_ofNat']; omega) hv hnew (by omega)
            obtain ⟨v2a, v2c, rfl⟩ := sl_form hv2
            have HV2 := Lib.hid hv2
            have HS2 := Lib.hid hs2
            have HAP := Lib.hid hap
            have HU := Lib.hid hu
            have HX3 := Lib.hid hX3
            have q1 : (xd.size : Int) ≤ 200 := by omega
            have q0 : (0 : Int) ≤ (xd.size : Int) := by omega
            clear hX hX2 hX3 hx hu hv hs hnew hap hv2 hs2 hi hil hxs
            go_upto_block 4 with (at_builtin; refine wpList_append_run rfl _ _ _ _ rfl _ _ _ _ rfl rfl HAP.out ?_)
            clear HAP c1 u0 u1
            go_wp2_with fail
            go_loopw [4, 7] (fun v4 v7 wr => ∃ (k : Nat) (Y : List UInt8) (h : Heaplet), k ≤ xd.size ∧ v7 = .int .i64 (k : Int) ∧ Y = (X ++ [UInt8.ofNat xd.size]) ++ xd.data.toList.take k ∧ ByOwn v4 Y h ∧ Sat wr (h ++ (.blk pb (.cells #[kI (n : Int), .slice (some ⟨g, off, none⟩) p.slots.length cap] 48) :: F2))) (fun _ v7 _ => 1000 - (RowKit.intOf v7).toNat)
            case atStart => exact ⟨0, X ++ [UInt8.ofNat xd.size], h', by omega, rfl, by simp, (by have h := HV2.out; rw [List.length_append] at h; exact h), HS2.out⟩
            case round =>
              clear HV2 HS2
              obtain ⟨k, Y, h, hk, rfl, hY, hv, hs⟩ := hrel
              obtain ⟨va, vc, rfl⟩ := sl_form hv
              have hb := hs.right.h0
              have c1 : wr.cell? ⟨pb, 1, none⟩ = some (.slice (some ⟨g, off, none⟩) p.slots.length cap) := by rw [cell_of hb]; rfl
              obtain ⟨u0, u1⟩ := HU.out wr hs.right.tail
              have k0 : (0 : Int) ≤ (k : Int) := by omega
              clear hb u0
              by_cases hkl : k < xd.size
              · have k1 : (k : Int) < (xd.size : Int) := by omega
                have hlen : xd.data.toList.length = xd.size := (ba_size xd).symm
                obtain ⟨b, hbx⟩ : ∃ b, xd.data.toList[k]? = some b := ⟨_, List.getElem?_eq_getElem (by omega)⟩
                have hgt : ∀ (h : k < xd.size), xd[k]'h = b := fun h => by
                  have : xd.data.toList[k]? = some (xd[k]'h) := by
                    rw [Array.getElem?_toList]
                    exact Array.getElem?_eq_getElem (by show k < xd.size; omega)
                  rw [hbx] at this
                  exact (Option.some.inj this).symm
                have hYl : Y.length ≤ 239 := by
                  have h3 := HX3.out
                  rw [hY]
                  simp only [List.length_append, List.length_cons, List.length_nil, List.length_take]
                  omega
                have hY2 : (X ++ [UInt8.ofNat xd.size]) ++ xd.data.toList.take (k + 1) = Y ++ [b] := by
                  rw [hY, List.take_add_one, hbx]
                  simp
                have hnew := hs.new (.cells #[.int .u8 (b.toNat : Int)] 5)
                obtain ⟨v', w', h', hap, hv2, hs2⟩ := by_push b (k := (b.toNat : Int)) rfl hv hnew (by omega)
                have HV2 := Lib.hid hv2
                have HS2 := Lib.hid hs2
                have HAP := Lib.hid hap
                have HY2 := Lib.hid hY2
                have HKL := Lib.hid hkl
                clear hY hY2 hv hs hnew hap hv2 hs2 hk hbx hlen hYl
                go_wp2_with (at_builtin; refine wpList_append_run rfl _ _ _ _ rfl _ _ _ _ rfl rfl HAP.out ?_)
                exact ⟨⟨k + 1, Y ++ [b], h', HKL.out, by simp, HY2.out.symm, HV2.out, HS2.out⟩, by simp only [RowKit.intOf]; omega⟩
              · obtain rfl : k = xd.size := by omega
                have hlen : xd.data.toList.length = xd.size := (ba_size xd).symm
                have k1 : ((xd.size : Int) < (xd.size : Int)) = False := eq_false (by omega)
                have hY2 : Y = X ++ slotB (true, xd) := by
                  rw [hY, ← hlen, List.take_length, hlen]
                  show _ = X ++ (UInt8.ofNat xd.size :: xd.data.toList)
                  simp
                have HV2 := Lib.hid hv
                have HS2 := Lib.hid hs
                have HY2 := Lib.hid hY2
                clear hY hY2 hv hs hk hkl hlen
                go_wp2_with fail
                exact ⟨⟨i + 1, Y, h, HIL.out, by simp, by rw [HY2.out, HX2.out], HV2.out, HS2.out⟩, by simp only [RowKit.intOf]; omega⟩
        · obtain rfl : i = p.slots.length := by omega
          have i1 : ((p.slots.length : Int) < (p.slots.length : Int)) = False := eq_false (by omega)
          rw [List.take_length] at hX
          have hXr : X = rawB p := hX
          have HXR := Lib.hid hXr
          have hXl : X.length ≤ 240 := by
            have h3 := raw_part HG.out p.slots.length
            rw [List.take_length, ← hX] at h3
            exact h3
          have HXL := Lib.hid hXl
          have HV2 := Lib.hid hv
          have HS2 := Lib.hid hs
          clear hX hXr hXl hv hs hi hil
          go_upto_block 6 with (fail)
          clear c1
          go_wp2_with fail
          go_loopw [4] (fun v4 wr => ∃ (Y : List UInt8) (h : Heaplet), Y.length ≤ 240 ∧ (∃ j, Y = rawB p ++ List.replicate j 0) ∧ ByOwn v4 Y h ∧ Sat wr (h ++ (.blk pb (.cells #[kI (n : Int), .slice a p.slots.length cap] 48) :: F2))) (fun v4 _ => 1000 - slLen v4)
          case atStart => exact ⟨X, h, HXL.out, ⟨0, by rw [HXR.out]; simp⟩, HV2.out, HS2.out⟩
          case round =>
            clear HV2 HS2
            obtain ⟨Y, h, hYl, ⟨j, hY⟩, hv, hs⟩ := hrel
            obtain ⟨va, vc, rfl⟩ := sl_form hv
            by_cases hl : Y.length < 240
            · have l1 : (Y.length : Int) < 240 := by omega
              have hnew := hs.new (.cells #[.int .u8 0] 5)
              obtain ⟨v', w', h', hap, hv2, hs2⟩ := by_push 0 (k := 0) rfl hv hnew (by omega)
              have hY2 : Y ++ [0] = rawB p ++ List.replicate (j + 1) 0 := by
                rw [hY, List.append_assoc, List.replicate_succ']
              obtain ⟨v2a, v2c, rfl⟩ := sl_form hv2
              have HV2 := Lib.hid hv2
              have HS2 := Lib.hid hs2
              have HAP := Lib.hid hap
              have HY2 := Lib.hid hY2
              have HL := Lib.hid hl
              clear hY hY2 hv hs hnew hap hv2 hs2 hYl hl
              go_wp2_with (at_builtin; refine wpList_append_run rfl _ _ _ _ rfl _ _ _ _ rfl rfl HAP.out ?_)
              exact ⟨⟨Y ++ [0], h', (by have := HL.out; simp; omega), ⟨j + 1, HY2.out⟩, (by have h := HV2.out; rw [List.length_append] at h; exact h), HS2.out⟩, by have := HL.out; simp only [slLen]; simp; omega⟩
            · have hfull : Y = encB p := by
                have h240 : Y.length = 240 := by omega
                rw [hY] at h240 ⊢
                rw [List.length_append, List.length_replicate] at h240
                unfold encB
                rw [show j = 240 - (rawB p).length by omega]
              have hcv := by_string hv hs (by omega)
              have l1 : ((Y.length : Int) < 240) = False := eq_false (by omega)
              have HFU := Lib.hid hfull
              have HE := Lib.hid (HB.out _ hs.right.tail)
              clear hY hv hs hYl hl hfull
              go_wp2_with fail
              go_ret2
              exact ⟨by rw [← HFU.out]; rfl, HE.out⟩
end Go.Proofs.YtgocmnejlbfplaaGreatDoor
namespace Go.Proofs.YtgocmnejlbfplaaGreatDoor
open Go

/-- What the document's Decode makes of 240 bytes, behind the slots. -/
def rfin (lsn : Nat) : Option (List Sl × List UInt8) → Option Pg
  | none => none
  | some x => if (x.2.all (· == 0) && goodP ⟨(lsn : Int), x.1⟩) = true then some ⟨(lsn : Int), x.1⟩ else none
def rlsn (l : List UInt8) (i : Nat) : Nat := getB ((l.take i).drop 2)
def rdec (l : List UInt8) : Option Pg := if l.getD 0 0 = 0 ∧ l.getD 1 0 = 0 then rfin (rlsn l 8) (parseS (l.getD 8 0).toNat (l.drop 9)) else none
theorem rfin_good {n : Nat} {o : Option (List Sl × List UInt8)} {p : Pg} (h : rfin n o = some p) : goodP p = true := by
  cases o with
  | none => cases h
  | some x =>
    unfold rfin at h
    simp only at h
    split at h
    · rename_i hc
      cases h
      simp only [Bool.and_eq_true] at hc
      exact hc.2
    · cases h
theorem rdec_good {l : List UInt8} {p : Pg} (h : rdec l = some p) : goodP p = true := by
  unfold rdec at h
  split at h
  · exact rfin_good h
  · cases h
theorem rdec_enc {p : Pg} (h : goodP p = true) : rdec (encB p) = some p := by
  have hg := goodP_iff.1 h
  have hl := encB_len h
  obtain ⟨n, hn⟩ : ∃ n : Nat, p.lsn = (n : Int) := ⟨p.lsn.toNat, by omega⟩
  have hn2 : p.lsn.toNat = n := by omega
  have hn9 : n ≤ 1099511627776 := by omega
  have e0 : encB p = be8 n ++ (UInt8.ofNat p.slots.length :: (slotsB p.slots ++ List.replicate (240 - (rawB p).length) 0)) := by
    unfold encB rawB headB
    rw [hn2]
    simp
  have hp : (UInt8.ofNat p.slots.length).toNat = p.slots.length := by rw [UInt8.toNat_ofNat']; omega
  have z0 : UInt8.ofNat (n / 72057594037927936) = 0 := by rw [Nat.div_eq_of_lt (by omega)]; rfl
  have z1 : UInt8.ofNat (n / 281474976710656) = 0 := by rw [Nat.div_eq_of_lt (by omega)]; rfl
  have hb : getB [UInt8.ofNat (n / 1099511627776), UInt8.ofNat (n / 4294967296), UInt8.ofNat (n / 16777216), UInt8.ofNat (n / 65536), UInt8.ofNat (n / 256), UInt8.ofNat n] = n := by
    simp only [getB, List.foldl_cons, List.foldl_nil, UInt8.toNat_ofNat']
    omega
  unfold rdec rlsn
  rw [e0, if_pos ⟨z0, z1⟩]
  have h8 : ((be8 n ++ (UInt8.ofNat p.slots.length :: (slotsB p.slots ++ List.replicate (240 - (rawB p).length) 0))).take 8).drop 2 = [UInt8.ofNat (n / 1099511627776), UInt8.ofNat (n / 4294967296), UInt8.ofNat (n / 16777216), UInt8.ofNat (n / 65536), UInt8.ofNat (n / 256), UInt8.ofNat n] := by
    rw [List.take_left' (be8_len n)]; rfl
  rw [h8, hb]
  have h9 : (be8 n ++ (UInt8.ofNat p.slots.length :: (slotsB p.slots ++ List.replicate (240 - (rawB p).length) 0))).getD 8 0 = UInt8.ofNat p.slots.length := rfl
  have hd : (be8 n ++ (UInt8.ofNat p.slots.length :: (slotsB p.slots ++ List.replicate (240 - (rawB p).length) 0))).drop 9 = slotsB p.slots ++ List.replicate (240 - (rawB p).length) 0 := rfl
  rw [h9, hd, hp, parse_slots _ hg.2.2.2.1]
  have he : (⟨(n : Int), p.slots⟩ : Pg) = p := by
    obtain ⟨l, sl⟩ := p
    simp only at hn
    rw [hn]
  unfold rfin
  simp only [he, h, Bool.and_true]
  rw [if_pos]
  simp
/-- Whichever way the image is found: with the page's sector it is the same. -/
theorem rdec_page {n : Nat} {s : List UInt8} : pageB n s = match rdec (s.take 240) with | none => none | some p => if secB n p = s then some p else none := by
  cases hq : pageB n s with
  | some p =>
    obtain ⟨hg, hs⟩ := pageB_some hq
    have e : s.take 240 = encB p := by rw [← hs]; unfold secB; rw [List.take_left' (encB_len hg)]
    rw [e, rdec_enc hg]
    simp only
    rw [if_pos hs]
  | none =>
    cases hr : rdec (s.take 240) with
    | none => rfl
    | some p =>
      simp only
      by_cases h : secB n p = s
      · exfalso
        have := pageB_sec (n := n) (rdec_good hr)
        rw [h, hq] at this
        cases this
      · rw [if_neg h]
end Go.Proofs.YtgocmnejlbfplaaGreatDoor
