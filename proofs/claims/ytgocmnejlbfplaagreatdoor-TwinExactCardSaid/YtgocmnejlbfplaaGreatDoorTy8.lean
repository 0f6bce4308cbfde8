/- Texts put together: Tw2. Conditions: none. -/
import Derived.Lib.AppendStr
import Derived.Deep.RegionHeld3
import Derived.Deep.DeepCutAuto
import Derived.Test.YtgocmnejlbfplaaGreatDoorTy7
namespace Go.Proofs.YtgocmnejlbfplaaGreatDoor
open Go Go.MapKept Go.RowKit Go.Proofs

abbrev byV (b : UInt8) : Value := .int .u8 (b.toNat : Int)
/-- A buffer of 240 bytes, of which so many are written. -/
def encC (bs : List UInt8) : Array Value := (bs.map byV ++ List.replicate (240 - bs.length) (Value.int .u8 0)).toArray
abbrev encO (bs : List UInt8) : Obj := .cells (encC bs) 5
theorem encC_size {bs : List UInt8} (h : bs.length ≤ 240) : (encC bs).size = 240 := by simp [encC]; omega
theorem encC_app {bs cs : List UInt8} (h : bs.length + cs.length ≤ 240) : ((encC bs).toList.take bs.length ++ cs.map byV ++ (encC bs).toList.drop (bs.length + cs.length)).toArray = encC (bs ++ cs) := by
  unfold encC
  congr 1
  simp only [List.take_append, List.length_map, Nat.sub_self, List.take_zero, List.append_nil, List.drop_append, List.map_append, List.append_assoc, List.length_append]
  rw [List.take_of_length_le (by simp), List.drop_eq_nil_of_le (by simp), List.nil_append, List.drop_replicate]
  congr 3
  omega
theorem infoBy : (Tryz.prog.info? 5).map (fun i => (i.zero, i.size, i.bytes)) = some (some (.int .u8 0), 1, 1) := by kernel_rfl
theorem enc_appS {W : World} {g n : Nat} {bs : List UInt8} {F : Heaplet} (d : ByteArray) (hs : Sat W (.blk g (encO bs) :: F)) (hn : bs.length = n) (h : n + d.size ≤ 240) :
    ∃ W', (∀ ty, (Builtin.append_ #[78, 9] ty #[.slice (some ⟨g, 0, none⟩) n 240, .string d]).run Tryz.prog W = .ok (.slice (some ⟨g, 0, none⟩) (n + d.size) 240) W') ∧ Sat W' (.blk g (encO (bs ++ d.data.toList)) :: F) := by
  obtain ⟨i, hi, hz, hsize, hby⟩ := info_parts infoBy
  refine ⟨_, fun ty => Lib.run_append_room_string (P := Tryz.prog) W 78 9 ty 5 i Tryz.underlying78 Tryz.underlying9 hi hsize g n 240 (encC bs) hs.h0 d h (by rw [encC_size (by omega)]; exact h), ?_⟩
  have hd : d.size = d.data.toList.length := by rw [Array.length_toList]; rfl
  have e : (List.take n (encC bs).toList ++ Lib.strCells d ++ List.drop (n + d.size) (encC bs).toList).toArray = encC (bs ++ d.data.toList) := by
    rw [← encC_app (by omega), ← hn, hd]
    rfl
  rw [e]
  exact Sat.set hs _ (heap_setRow hs.h0) ⟨rfl, rfl, rfl⟩
theorem enc_app1 {W : World} {g n : Nat} {bs : List UInt8} {F : Heaplet} (b : UInt8) (k : Int) (hk : (b.toNat : Int) = k) (hs : Sat W (.blk g (encO bs) :: F)) (hn : bs.length = n) (h : n + 1 ≤ 240) :
    ∃ W', (∀ ty, (Builtin.append_ #[78, 78] ty #[.slice (some ⟨g, 0, none⟩) n 240, .slice (some ⟨W.heap.size, 0, none⟩) 1 1]).run Tryz.prog (W.alloc (.cells #[.int .u8 k] 5)) = .ok (.slice (some ⟨g, 0, none⟩) (n + 1) 240) W') ∧ Sat W' (.blk g (encO (bs ++ [b])) :: F) := by
  obtain ⟨i, hi, hz, hsize, hby⟩ := info_parts infoBy
  have h2 := hs.new (.cells #[.int .u8 k] 5)
  refine ⟨_, fun ty => run_append_room (P := Tryz.prog) _ 78 ty 5 i Tryz.underlying78 hi g n 240 (encC bs) h2.h1 ⟨W.heap.size, 0, none⟩ 1 1 [byV b] (by rw [hsize]; rfl) (fun j u hj => by
    match j, hj with
    | 0, hj =>
      cases hj
      show (W.alloc (.cells #[.int .u8 k] 5)).cell? ⟨W.heap.size, 0, none⟩ = _
      rw [cell_of h2.h0]
      show some (Value.int .u8 k) = some (Value.int .u8 (b.toNat : Int))
      rw [hk]) (by intro u hu; rw [List.mem_singleton.1 hu]; rfl) h (by rw [hsize, encC_size (by omega)]; simpa using h), ?_⟩
  have e : (List.take (n * i.size) (encC bs).toList ++ [byV b] ++ List.drop (n * i.size + [byV b].length) (encC bs).toList).toArray = encC (bs ++ [b]) := by
    rw [← encC_app (by simp; omega), ← hn, hsize, Nat.mul_one]
    rfl
  rw [e]
  have h3 := Sat.set h2.swap _ (heap_setRow h2.h1 (cs := encC (bs ++ [b]))) ⟨rfl, rfl, rfl⟩
  exact h3.swap.tail
theorem enc_string {W : World} {g : Nat} {bs : List UInt8} {F : Heaplet} (hs : Sat W (.blk g (encO bs) :: F)) (h : bs.length ≤ 240) :
    (convert 78 9 (.slice (some ⟨g, 0, none⟩) 240 240)).run Tryz.prog W = .ok (.string ⟨(bs ++ List.replicate (240 - bs.length) 0).toArray⟩) W := by
  have hcv := run_convert_bytes_back (P := Tryz.prog) W 78 9 5 ⟨g, 0, none⟩ 240 (bs ++ List.replicate (240 - bs.length) 0) Tryz.underlying78 Tryz.underlying5 Tryz.underlying9 (fun j hj => by
    rw [addr_add', cell_of hs.h0]
    have e : encC bs = ((bs ++ List.replicate (240 - bs.length) 0).map byV).toArray := by unfold encC; rw [List.map_append, List.map_replicate]; rfl
    rw [e, List.getElem?_toArray, List.getElem?_map, List.getElem?_eq_getElem hj]
    rfl)
  have hl : (bs ++ List.replicate (240 - bs.length) (0 : UInt8)).length = 240 := by simp; omega
  rw [hl] at hcv
  exact hcv
/-- What Encode answers. -/
def encM (p : Pg) : ByteArray := if goodP p = true then ⟨(encB p).toArray⟩ else ⟨#[]⟩
def encE (p : Pg) : Int := if goodP p = true then 0 else 1
theorem slotsB_take {L : List Sl} {i : Nat} {s : Sl} (h : L[i]? = some s) : slotsB (L.take (i + 1)) = slotsB (L.take i) ++ slotB s := by
  have : L.take (i + 1) = L.take i ++ [s] := by rw [List.take_add_one, h]; rfl
  rw [this]
  simp [slotsB]
theorem raw_le {p : Pg} (h : goodP p = true) (i : Nat) : (headB p ++ slotsB (p.slots.take i)).length ≤ 240 := by
  have h1 := rawB_len h
  have h2 := (goodP_iff.1 h).2.2.2.2.2
  have e : rawB p = (headB p ++ slotsB (p.slots.take i)) ++ slotsB (p.slots.drop i) := by
    unfold rawB
    rw [List.append_assoc]
    congr 1
    unfold slotsB
    rw [← List.flatMap_append, List.take_append_drop]
  rw [e, List.length_append] at h1
  omega
/-- The buffer as it is made. -/
def EB0 : Obj := encO []
theorem EB0_eq : EB0 = encO [] := rfl
set_option maxRecDepth 100000 in
theorem run_make240 (w : World) : (Instr.makeSlice 78 (.int .i64 0) (.int .i64 240)).run Tryz.prog w = .ok (.slice (some ⟨w.heap.size, 0, none⟩) 0 240) (w.alloc EB0) := by
  unfold EB0
  kernel_rfl
theorem enc_app8 {W : World} {g : Nat} {F : Heaplet} (n : Nat) (hs : Sat W (.blk g EB0 :: F)) :
    ∃ W', (∀ ty, (Builtin.append_ #[78, 9] ty #[.slice (some ⟨g, 0, none⟩) 0 240, .string ⟨(be8 n).toArray⟩]).run Tryz.prog W = .ok (.slice (some ⟨g, 0, none⟩) 8 240) W') ∧ Sat W' (.blk g (encO (be8 n)) :: F) := by
  have hz : (⟨(be8 n).toArray⟩ : ByteArray).size = 8 := rfl
  obtain ⟨W', h1, h2⟩ := enc_appS (bs := []) (n := 0) ⟨(be8 n).toArray⟩ hs rfl (by rw [hz]; decide)
  rw [hz] at h1
  exact ⟨W', h1, h2⟩
attribute [local go_sem ↓] run_make240
set_option maxRecDepth 100000 in
set_option maxHeartbeats 4000000 in
theorem enc_any {v : Value} {p : Pg} {F : Heaplet} {w : World} (hv : SlAt F v p.slots) (s : Sat w F) (hl : p.slots.length ≤ 1000) (hd : ∀ x ∈ p.slots, x.2.size ≤ 1000000) (hn : -9223372036854775808 ≤ p.lsn ∧ p.lsn ≤ 9223372036854775807) :
    Calls Tryz.prog 81 #[pgV p.lsn v] w (Ret (.tuple #[.string (encM p), .int .i64 (encE p)]) (Below w.heap.size w)) := by
  obtain ⟨F2, hF2⟩ : ∃ F2, allOf w = F2 := ⟨_, rfl⟩
  have s2 : Sat w F2 := by rw [← hF2]; exact sat_all w
  have hFF : ∀ W, Sat W F2 → Sat W F := fun W hW => by rw [← hF2] at hW; exact s.monoB hW.below
  have HB : Hid (∀ W, Sat W F2 → Below w.heap.size w W) := Lib.hid (fun W hW => by rw [← hF2] at hW; exact hW.below)
  have hv2 : SlAt F2 v p.slots := hv.mono hFF
  obtain ⟨a, cap, rfl, hc⟩ := hv2
  have hs1 := s2.new (.cells #[kI p.lsn, .slice a p.slots.length cap] 48)
  have HG := Lib.hid (pgood_any hv (hFF _ hs1.tail) hl hd hn)
  obtain ⟨bx, hbx⟩ : ∃ bx, w.heap.size = bx := ⟨_, rfl⟩
  unfold encM encE
  have HC := Lib.hid hc
  have HS1 := Lib.hid hs1
  clear hv hc hs1 hF2 s s2 hFF
  cases hg : goodP p with
  | false =>
    rw [hg] at HG
    simp only [Bool.false_eq_true, if_false]
    have c0 : (w.alloc (.cells #[kI p.lsn, .slice a p.slots.length cap] 48)).cell? ⟨w.heap.size, 0, none⟩ = some (kI p.lsn) := by rw [cell_of HS1.out.h0]; rfl
    have c1 : (w.alloc (.cells #[kI p.lsn, .slice a p.slots.length cap] 48)).cell? ⟨w.heap.size, 1, none⟩ = some (.slice a p.slots.length cap) := by rw [cell_of HS1.out.h0]; rfl
    go_enter Tryz.func81, Tryz.ntmps81
    go_wp2_with (go_at_call 64; refine (HG.out).mono ?_; rintro e w2 ⟨rfl, hg2⟩; have HE := Lib.hid (HB.out _ (HS1.out.grown hg2).tail))
    go_ret2
    exact ⟨rfl, HE.out⟩
  | true =>
    rw [hg] at HG
    simp only [if_true]
    obtain ⟨lsn, L⟩ := p
    have hgi := goodP_iff.1 hg
    simp only at hgi
    obtain ⟨n, rfl⟩ : ∃ n : Nat, lsn = (n : Int) := ⟨lsn.toNat, by omega⟩
    have n0 : (0 : Int) ≤ (n : Int) := by omega
    have n1 : (n : Int) ≤ 1099511627776 := hgi.2.1
    have HPUT : Hid (∀ W, Calls Tryz.prog 82 #[.int .u64 (n : Int), .int .i64 8] W (fun e w' => e = .returned (.string ⟨(be8 n).toArray⟩) ∧ Below W.heap.size W w')) := Lib.hid (fun W => by
      have := hput_any n 8 (.inr rfl) (by omega) W
      rw [beL_8] at this
      exact this)
    have HGI := Lib.hid hgi
    have HGD := Lib.hid hg
    clear hgi hg hd hn
    simp only at HS1 HC HG hl ⊢
    have c0 : (w.alloc (.cells #[kI (n : Int), .slice a L.length cap] 48)).cell? ⟨w.heap.size, 0, none⟩ = some (kI (n : Int)) := by rw [cell_of HS1.out.h0]; rfl
    have c1 : (w.alloc (.cells #[kI (n : Int), .slice a L.length cap] 48)).cell? ⟨w.heap.size, 1, none⟩ = some (.slice a L.length cap) := by rw [cell_of HS1.out.h0]; rfl
    go_enter Tryz.func81, Tryz.ntmps81
    go_upto_region 3 with (go_at_call 64; refine (HG.out).mono ?_; rintro e w2 ⟨rfl, hg2⟩; have hs2 := HS1.out.grown hg2; rw [hbx] at hs2; have HS2 := Lib.hid hs2; clear hg2 hs2)
    clear c0 c1 HG HS1
    have hcell : ∀ W, Sat W (.blk bx (.cells #[kI (n : Int), .slice a L.length cap] 48) :: F2) → W.cell? ⟨bx, 0, none⟩ = some (kI (n : Int)) := fun W hW => by rw [cell_of hW.h0]; rfl
    have HCL := Lib.hid hcell
    have K1 := Lib.hid (hcell _ HS2.out)
    have K2 := Lib.hid (hcell _ HS2.out.drew)
    have K3 := Lib.hid (hcell _ (HS2.out.new EB0).drew.tail)
    have HS3 : Hid (Sat (w2.alloc EB0).drew (.blk w2.heap.size EB0 :: .blk bx (.cells #[kI (n : Int), .slice a L.length cap] 48) :: F2)) := Lib.hid (HS2.out.new EB0).drew
    clear hcell
    have HPA := Lib.hid (HPUT.out (w2.alloc EB0).drew)
    have HPB := Lib.hid (HPUT.out w2.drew)
    have hwr : IntKind.u64.wrap (n : Int) = (n : Int) := by rw [IntKind.wrap_u64]; omega
    go_cut [4] (fun v4 wx => ∃ g, v4 = .slice (some ⟨g, 0, none⟩) 8 240 ∧ Sat wx (.blk g (encO (be8 n)) :: .blk bx (.cells #[kI (n : Int), .slice a L.length cap] 48) :: F2))
    case first =>
      go_region_held3 (fun w' => w'.cell? ⟨bx, 0, none⟩ = some (kI (n : Int)))
        (with_reducible first | exact K1.out | exact K2.out | exact K3.out | exact K5.out | exact K6.out | exact K7.out)
        (first
          | (go_at_call 82
             first
             | ((with_reducible refine (HPA.out).mono ?_)
                rintro e w3 ⟨rfl, hb⟩
                have K5 := Lib.hid (HCL.out _ (HS3.out.monoB hb).tail)
                obtain ⟨w6, hap, hs6⟩ := enc_app8 n (HS3.out.monoB hb)
                have K7 := Lib.hid (HCL.out _ hs6.tail)
                have HAP := Lib.hid hap
                have HS6 := Lib.hid hs6)
             | ((with_reducible refine (HPB.out).mono ?_)
                rintro e w3 ⟨rfl, hb⟩
                have K5 := Lib.hid (HCL.out _ (HS2.out.drew.monoB hb))
                have K6 := Lib.hid (HCL.out _ ((HS2.out.drew.monoB hb).new EB0).tail)
                obtain ⟨w6, hap, hs6⟩ := enc_app8 n ((HS2.out.drew.monoB hb).new EB0)
                have K7 := Lib.hid (HCL.out _ hs6.tail)
                have HAP := Lib.hid hap
                have HS6 := Lib.hid hs6))
          | (refine step_append_run (by rfl) _ _ _ _ (by rfl) _ _ _ _ (by rfl) (by rfl) HAP.out ?_))
      all_goals
        clear K1 K2 K3 K5 K7 HPA HPB HAP
        go_wp2_with fail
        go_meet
        exact ⟨_, rfl, HS6.out⟩
    case rest =>
      obtain ⟨g, rfl, hs⟩ := hcut
      clear K1 K2 K3 HPA HPB HS2 HS3 HCL HPUT
      have hl32 : L.length ≤ 32 := HGI.out.2.2.1
      have hl32i : (L.length : Int) ≤ 32 := by omega
      have c1 : wc.cell? ⟨bx, 1, none⟩ = some (.slice a L.length cap) := by rw [cell_of hs.h1]; rfl
      have hbn : ((UInt8.ofNat L.length).toNat : Int) = (L.length : Int) := by rw [UInt8.toNat_ofNat']; omega
      obtain ⟨w7, hap, hs7⟩ := enc_app1 (UInt8.ofNat L.length) (L.length : Int) hbn hs rfl (by show 8 + 1 ≤ 240; decide)
      have HAP : Hid (∀ ty, (Builtin.append_ #[78, 78] ty #[.slice (some ⟨g, 0, none⟩) 8 240, .slice (some ⟨wc.heap.size, 0, none⟩) 1 1]).run Tryz.prog (wc.alloc (.cells #[.int .u8 (L.length : Int)] 5)) = .ok (.slice (some ⟨g, 0, none⟩) 9 240) w7) := Lib.hid hap
      have HS7 : Hid (Sat w7 (.blk g (encO (headB ⟨(n : Int), L⟩ ++ slotsB (L.take 0))) :: .blk bx (.cells #[kI (n : Int), .slice a L.length cap] 48) :: F2)) := Lib.hid (by
        have e : headB ⟨(n : Int), L⟩ ++ slotsB (L.take 0) = be8 n ++ [UInt8.ofNat L.length] := by simp [headB, slotsB]
        rw [e]; exact hs7)
      clear hap hs7 hs hbn
      go_upto_region 5 with (at_builtin; refine wpList_append_run rfl _ _ _ _ rfl _ _ _ _ rfl rfl HAP.out ?_)
      clear HAP c1
      have hl1 : (9 : Nat) = (headB ⟨(n : Int), L⟩ ++ slotsB (L.take 0)).length := by simp [headB, slotsB, be8_len]
      have HL1 := Lib.hid hl1
      have c1 : w7.cell? ⟨bx, 1, none⟩ = some (.slice a L.length cap) := by rw [cell_of HS7.out.h1]; rfl
      clear hl1
      go_wp2_with fail
      go_loopw [4, 26] (fun v4 v26 wr => ∃ i m : Nat, i ≤ L.length ∧ v26 = .int .i64 i ∧ m = (headB ⟨(n : Int), L⟩ ++ slotsB (L.take i)).length ∧ v4 = .slice (some ⟨g, 0, none⟩) m 240 ∧ Sat wr (.blk g (encO (headB ⟨(n : Int), L⟩ ++ slotsB (L.take i))) :: .blk bx (.cells #[kI (n : Int), .slice a L.length cap] 48) :: F2)) (fun _ v26 _ => 256 - (intOf v26).toNat)
      case atStart => exact ⟨0, 9, by omega, rfl, HL1.out, rfl, HS7.out⟩
      case round =>
        clear HS7 c1 HL1
        obtain ⟨i, m, hi, rfl, hm, rfl, hs⟩ := hrel
        have i0 : (0 : Int) ≤ (i : Int) := by omega
        by_cases hlt : i < L.length
        · have i1 : (i : Int) < (L.length : Int) := by omega
          obtain ⟨⟨u, d⟩, hsi⟩ : ∃ s, L[i]? = some s := ⟨_, List.getElem?_eq_getElem hlt⟩
          obtain ⟨sg, so, rfl, hu⟩ := HC.out i _ hsi
          obtain ⟨u0, u1⟩ := hu wr hs.tail.tail
          have hsn := slotsB_take hsi
          have hrw := raw_le HGD.out (i + 1)
          simp only at hrw
          rw [hsn, ← List.append_assoc] at hrw
          have hod := HGI.out.2.2.2.1 _ (List.mem_of_getElem? hsi)
          cases u with
          | false =>
            have e1 : slotB (false, d) = [255] := rfl
            rw [e1] at hsn hrw
            obtain ⟨w7, hap, hs7⟩ := enc_app1 (W := wr.alloc (.cells #[.bool false, kS d] 59)) 255 255 rfl (hs.new (.cells #[.bool false, kS d] 59)).swap hm.symm (by rw [List.length_append] at hrw; rw [hm]; exact hrw)
            rw [World.size_alloc] at hap
            have HAP := Lib.hid hap
            have hs8 := hs7.swap.tail
            have HM : Hid (m + 1 = (headB ⟨(n : Int), L⟩ ++ slotsB (L.take (i + 1))).length) := Lib.hid (by rw [hsn, ← List.append_assoc, List.length_append, ← hm]; rfl)
            rw [List.append_assoc, ← hsn] at hs8
            have HS8 := Lib.hid hs8
            clear hs hsi hu hsn hrw hod e1 hap hs7 hs8 hm
            go_wp2_with (at_builtin; refine wpList_append_run rfl _ _ _ _ rfl _ _ _ _ rfl rfl HAP.out ?_)
            exact ⟨⟨i + 1, m + 1, by omega, by simp, HM.out, rfl, HS8.out⟩, by simp only [intOf]; omega⟩
          | true =>
            have hd2 := (odd_no hod).2
            simp only at hd2
            have hbd : ((UInt8.ofNat d.size).toNat : Int) = (d.size : Int) := by rw [UInt8.toNat_ofNat']; omega
            have e1 : slotB (true, d) = [UInt8.ofNat d.size] ++ d.data.toList := rfl
            rw [e1] at hsn hrw
            have hdl : d.data.toList.length = d.size := by rw [Array.length_toList]; rfl
            have hr2 : m + 1 + d.size ≤ 240 := by
              simp only [List.length_append, List.length_cons, List.length_nil, hdl] at hrw hm
              omega
            obtain ⟨w7, hap, hs7⟩ := enc_app1 (W := wr.alloc (.cells #[.bool true, kS d] 59)) (UInt8.ofNat d.size) (d.size : Int) hbd (hs.new (.cells #[.bool true, kS d] 59)).swap hm.symm (by omega)
            rw [World.size_alloc] at hap
            have HAP := Lib.hid hap
            obtain ⟨w8, hap2, hs8⟩ := enc_appS d hs7 (n := m + 1) (by rw [List.length_append, ← hm]; rfl) hr2
            have HAP2 := Lib.hid hap2
            have d0 : w7.cell? ⟨wr.heap.size, 1, none⟩ = some (kS d) := by rw [cell_of hs7.h1]; rfl
            have hs9 := hs8.swap.tail
            have HM : Hid (m + 1 + d.size = (headB ⟨(n : Int), L⟩ ++ slotsB (L.take (i + 1))).length) := Lib.hid (by rw [hsn, ← List.append_assoc, List.length_append, ← hm, List.length_append, hdl]; simp; omega)
            rw [List.append_assoc, List.append_assoc, ← hsn] at hs9
            have HS9 := Lib.hid hs9
            have hds : (d.size : Int) ≤ 200 := by omega
            clear hs hsi hu hsn hrw hod e1 hap hap2 hs7 hs8 hs9 hm hd2 hbd hdl hr2
            go_wp2_with (at_builtin; first | refine wpList_append_run rfl _ _ _ _ rfl _ _ _ _ rfl rfl HAP.out ?_ | refine wpList_append_run rfl _ _ _ _ rfl _ _ _ _ rfl rfl HAP2.out ?_)
            exact ⟨⟨i + 1, m + 1 + d.size, by omega, by simp, HM.out, rfl, HS9.out⟩, by simp only [intOf]; omega⟩
        · obtain rfl : i = L.length := by omega
          have i1 : ((L.length : Int) < (L.length : Int)) = False := eq_false (by omega)
          have htl : L.take L.length = L := List.take_of_length_le (Nat.le_refl _)
          rw [htl] at hs hm
          have hlen := rawB_len HGD.out
          have hsz := HGI.out.2.2.2.2.2
          have hm9 : (rawB ⟨(n : Int), L⟩).length = m := hm.symm
          have hm0 : m ≤ 240 := by rw [← hm9, hlen]; exact hsz
          have hst : (convert 78 9 (.slice (some ⟨g, 0, none⟩) 240 240)).run Tryz.prog wr = .ok (.string ⟨(encB ⟨(n : Int), L⟩).toArray⟩) wr := enc_string hs (by rw [hm9]; exact hm0)
          have HE := Lib.hid (HB.out _ hs.tail.tail)
          have hm1 : (m : Int) ≤ 240 := by omega
          clear hs hlen hsz hm9 htl hm hm0 hi
          go_wp2_with fail
          go_ret2
          exact ⟨rfl, HE.out⟩
end Go.Proofs.YtgocmnejlbfplaaGreatDoor
