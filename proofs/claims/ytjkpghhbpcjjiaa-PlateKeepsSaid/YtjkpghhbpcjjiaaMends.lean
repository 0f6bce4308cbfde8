/- A torn sector is mended by writing it again: PlateMends walked. Conditions: none. (made by genm.py) -/
import Derived.Test.YtjkpghhbpcjjiaaPlate06
namespace Go.Proofs.Ytjkpghhbpcjjiaa
open Go Go.MapKept Go.RowKit Go.Proofs

theorem lastM_nil (n : Int) : lastM n [] = none := rfl
theorem mends_read1 (ca : UInt8) (m : Int) (h1m : 1 ≤ m) (h2m : m ≤ 30) : readM (⟨32, [(0, fillB ca), (m, ⟨#[]⟩)], [], false, 4, 0, 1⟩ : PM) m = (⟨#[]⟩, 20) := by
  rw [readM_up rfl (by omega) (by show _ < (32 : Int); omega)]
  have e : getL m [((0 : Int), fillB ca), (m, ⟨#[]⟩)] = some ⟨#[]⟩ := by
    simp only [getL]; rw [if_neg (by omega), if_pos trivial]
  simp only [lastM_nil, e]
  rfl
theorem mends_read2 (ca cb : UInt8) (m : Int) (h1m : 1 ≤ m) (h2m : m ≤ 30) : readM (⟨32, [(0, fillB ca), (m, ⟨#[]⟩)], [(m, fillB cb)], false, 5, 0, 1⟩ : PM) m = (fillB cb, 0) := by
  rw [readM_up rfl (by omega) (by show _ < (32 : Int); omega)]
  have e : lastM m [(m, fillB cb)] = some (fillB cb) := by simp [lastM]
  simp only [e]
theorem mends_read3 (ca cb : UInt8) (m : Int) (h1m : 1 ≤ m) (h2m : m ≤ 30) : readM (⟨32, [(0, fillB ca), (m, fillB cb)], [], false, 6, 0, 2⟩ : PM) m = (fillB cb, 0) := by
  rw [readM_up rfl (by omega) (by show _ < (32 : Int); omega)]
  have e : getL m [((0 : Int), fillB ca), (m, fillB cb)] = some (fillB cb) := by
    simp only [getL]; rw [if_neg (by omega), if_pos trivial]
  simp only [lastM_nil, e]
  rw [if_neg (by rw [fillB_size]; decide)]
theorem mends_read4 (ca cb : UInt8) (m : Int) (h1m : 1 ≤ m) (h2m : m ≤ 30) : readM (⟨32, [(0, fillB ca), (m, fillB cb)], [], false, 6, 0, 2⟩ : PM) 0 = (fillB ca, 0) := by
  rw [readM_up rfl (by omega) (by show _ < (32 : Int); omega)]
  have e : getL 0 [((0 : Int), fillB ca), (m, fillB cb)] = some (fillB ca) := by
    simp only [getL]; rw [if_pos trivial]
  simp only [lastM_nil, e]
  rw [if_neg (by rw [fillB_size]; decide)]
set_option maxRecDepth 100000 in
set_option maxHeartbeats 4000000 in
theorem mends_frame (F : Heaplet) (n : Int) (ca cb : UInt8) (w : World) (hs : Sat w F) : Calls Try.prog 3 #[.int .i64 n, .int .u8 (ca.toNat : Int), .int .u8 (cb.toNat : Int)] w (Ret (.bool true) (fun w' => Sat w' F)) := by
  obtain ⟨m, hm, h1m, h2m⟩ : ∃ m, wrap64 (1 + umod n 30) = m ∧ 1 ≤ m ∧ m ≤ 30 := by
    have h := umod_bd n 30 (by decide) (by decide)
    refine ⟨_, rfl, ?_⟩
    rw [IntWalk.wrap64_in _ ⟨by omega, by omega⟩]
    omega
  unfold umod at hm
  have HM := Lib.hid hm
  clear hm
  go_enter Try.func3, Try.ntmps3
  go_wp2_with fail
  refine (awake6 F w hs).mono ?_
  rintro e w0 ⟨rfl, hs⟩
  go_wp2_with fail
  rw [HM.out]
  refine (plate_new F 32 w0 hs).mono ?_
  rintro e w1 ⟨b, rfl, h1⟩
  have h1 : PlateIs b (⟨32, [], [], false, 0, 0, 0⟩ : PM) F w1 := h1
  clear hs
  go_wp2_with fail
  refine (filled_at ca _ rfl w1).mono ?_
  rintro e w2 ⟨rfl, hb⟩
  have h2 := h1.mono hb
  clear h1 hb
  have hc := write_any b _ F 0 (fillB ca) w2 h2 (by simp) (by simp) (by simp) (by simp)
  rw [writeM_ok rfl (by decide) (by decide) (fillB_size _) rfl] at hc
  have HC := Lib.hid hc
  clear hc h2
  go_wp2_with fail
  refine (HC.out).mono ?_
  rintro e w3 ⟨rfl, h3⟩
  clear HC
  have h3 : PlateIs b (⟨32, [], [(0, fillB ca)], false, 1, 0, 0⟩ : PM) F w3 := h3
  go_wp2_with fail
  refine (filled_at ca _ rfl w3).mono ?_
  rintro e w4 ⟨rfl, hb⟩
  have h4 := h3.mono hb
  clear h3 hb
  have hc := write_any b _ F m (fillB ca) w4 h4 (by simp) (by simp) (by simp) (by simp)
  rw [writeM_ok rfl (by omega) (by show _ < (32 : Int); omega) (fillB_size _) rfl] at hc
  have HC := Lib.hid hc
  clear hc h4
  go_wp2_with fail
  refine (HC.out).mono ?_
  rintro e w5 ⟨rfl, h5⟩
  clear HC
  have h5 : PlateIs b (⟨32, [], [(0, fillB ca), (m, fillB ca)], false, 2, 0, 0⟩ : PM) F w5 := h5
  have hc := sync_any b _ F w5 h5 (by simp) (by simp) (by simp) (by simp) (by simp)
  rw [syncM_ok rfl rfl] at hc
  have HC := Lib.hid hc
  clear hc h5
  go_wp2_with fail
  refine (HC.out).mono ?_
  rintro e w6 ⟨rfl, h6⟩
  clear HC
  have e1 : putAll [] [((0 : Int), fillB ca), (m, fillB ca)] = [(0, fillB ca), (m, fillB ca)] := by
    show putL m (fillB ca) [((0 : Int), fillB ca)] = _
    have e0 : ¬ (0 : Int) = m := by omega
    simp [putL, e0]
  simp only [e1] at h6
  have h6 : PlateIs b (⟨32, [(0, fillB ca), (m, fillB ca)], [], false, 3, 0, 0⟩ : PM) F w6 := h6
  clear e1
  go_wp2_with fail
  refine (filled_at cb _ rfl w6).mono ?_
  rintro e w7 ⟨rfl, hb⟩
  have h7 := h6.mono hb
  clear h6 hb
  have hc := write_any b _ F m (fillB cb) w7 h7 (by simp) (by simp) (by simp) (by simp)
  rw [writeM_ok rfl (by omega) (by show _ < (32 : Int); omega) (fillB_size _) rfl] at hc
  have HC := Lib.hid hc
  clear hc h7
  go_wp2_with fail
  refine (HC.out).mono ?_
  rintro e w8 ⟨rfl, h8⟩
  clear HC
  have h8 : PlateIs b (⟨32, [(0, fillB ca), (m, fillB ca)], [(m, fillB cb)], false, 4, 0, 0⟩ : PM) F w8 := h8
  have hc := off_any b _ F w8 h8 (by simp) (by simp)
  rw [offM_ok rfl] at hc
  have HC := Lib.hid hc
  clear hc h8
  go_wp2_with fail
  refine (HC.out).mono ?_
  rintro e w9 ⟨rfl, h9⟩
  clear HC
  have h9 : PlateIs b (⟨32, [(0, fillB ca), (m, fillB ca)], [(m, fillB cb)], true, 4, 0, 1⟩ : PM) F w9 := h9
  have hn := h9.new (.cells #[kI 2] 3)
  go_wp2_with fail
  refine (on_any b _ _ _ (fun _ => 2) _ hn (by simp) (fun i w' hi hw => fate_one _ 2 _ i w' hi (by decide) hw)).mono ?_
  rintro e w10 ⟨rfl, h10⟩
  have h10 := h10.unF
  clear hn h9
  rw [onM_ok rfl] at h10
  have e1 : fateTo (fun _ => 2) [((m : Int), fillB cb)] [((0 : Int), fillB ca), (m, fillB ca)] 1 = [(0, fillB ca), (m, ⟨#[]⟩)] := by
    show putL m ⟨#[]⟩ [((0 : Int), fillB ca), (m, fillB ca)] = _
    have e0 : ¬ (0 : Int) = m := by omega
    simp [putL, e0]
  simp only [List.length_cons, List.length_nil, Nat.zero_add, e1] at h10
  have h10 : PlateIs b (⟨32, [(0, fillB ca), (m, ⟨#[]⟩)], [], false, 4, 0, 1⟩ : PM) F w10 := h10
  clear e1
  have hc := read_any b _ F m w10 h10 (by simp)
  rw [show readM (⟨32, [(0, fillB ca), (m, ⟨#[]⟩)], [], false, 4, 0, 1⟩ : PM) m = (⟨#[]⟩, 20) from mends_read1 ca m h1m h2m] at hc
  have HC := Lib.hid hc
  clear hc h10
  go_wp2_with fail
  refine (HC.out).mono ?_
  rintro e w11 ⟨rfl, h11⟩
  clear HC
  have h11 : PlateIs b (⟨32, [(0, fillB ca), (m, ⟨#[]⟩)], [], false, 4, 0, 1⟩ : PM) F w11 := h11
  go_wp2_with fail
  refine (filled_at cb _ rfl w11).mono ?_
  rintro e w12 ⟨rfl, hb⟩
  have h12 := h11.mono hb
  clear h11 hb
  have hc := write_any b _ F m (fillB cb) w12 h12 (by simp) (by simp) (by simp) (by simp)
  rw [writeM_ok rfl (by omega) (by show _ < (32 : Int); omega) (fillB_size _) rfl] at hc
  have HC := Lib.hid hc
  clear hc h12
  go_wp2_with fail
  refine (HC.out).mono ?_
  rintro e w13 ⟨rfl, h13⟩
  clear HC
  have h13 : PlateIs b (⟨32, [(0, fillB ca), (m, ⟨#[]⟩)], [(m, fillB cb)], false, 5, 0, 1⟩ : PM) F w13 := h13
  have hc := read_any b _ F m w13 h13 (by simp)
  rw [mends_read2 ca cb m h1m h2m] at hc
  have HC := Lib.hid hc
  clear hc h13
  go_wp2_with fail
  refine (HC.out).mono ?_
  rintro e w14 ⟨rfl, h14⟩
  clear HC
  have h14 : PlateIs b (⟨32, [(0, fillB ca), (m, ⟨#[]⟩)], [(m, fillB cb)], false, 5, 0, 1⟩ : PM) F w14 := h14
  have hc := sync_any b _ F w14 h14 (by simp) (by simp) (by simp) (by simp) (by simp)
  rw [syncM_ok rfl rfl] at hc
  have HC := Lib.hid hc
  clear hc h14
  go_wp2_with fail
  refine (HC.out).mono ?_
  rintro e w15 ⟨rfl, h15⟩
  clear HC
  have e1 : putAll [((0 : Int), fillB ca), (m, ⟨#[]⟩)] [(m, fillB cb)] = [(0, fillB ca), (m, fillB cb)] := by
    show putL m (fillB cb) [((0 : Int), fillB ca), (m, ⟨#[]⟩)] = _
    have e0 : ¬ (0 : Int) = m := by omega
    simp [putL, e0]
  simp only [e1] at h15
  have h15 : PlateIs b (⟨32, [(0, fillB ca), (m, fillB cb)], [], false, 6, 0, 1⟩ : PM) F w15 := h15
  clear e1
  have hc := off_any b _ F w15 h15 (by simp) (by simp)
  rw [offM_ok rfl] at hc
  have HC := Lib.hid hc
  clear hc h15
  go_wp2_with fail
  refine (HC.out).mono ?_
  rintro e w16 ⟨rfl, h16⟩
  clear HC
  have h16 : PlateIs b (⟨32, [(0, fillB ca), (m, fillB cb)], [], true, 6, 0, 2⟩ : PM) F w16 := h16
  have hc := on_any b _ F (.slice none 0 0) (fun _ => 0) w16 h16 (by simp) (fun i w' hi _ => fate_none none i w' hi)
  rw [onM_ok rfl] at hc
  have HC := Lib.hid hc
  clear hc h16
  go_wp2_with fail
  refine (HC.out).mono ?_
  rintro e w17 ⟨rfl, h17⟩
  clear HC
  have h17 : PlateIs b (⟨32, [(0, fillB ca), (m, fillB cb)], [], false, 6, 0, 2⟩ : PM) F w17 := h17
  have hc := read_any b _ F m w17 h17 (by simp)
  rw [mends_read3 ca cb m h1m h2m] at hc
  have HC := Lib.hid hc
  clear hc h17
  go_wp2_with fail
  refine (HC.out).mono ?_
  rintro e w18 ⟨rfl, h18⟩
  clear HC
  have h18 : PlateIs b (⟨32, [(0, fillB ca), (m, fillB cb)], [], false, 6, 0, 2⟩ : PM) F w18 := h18
  have hc := read_any b _ F 0 w18 h18 (by simp)
  rw [mends_read4 ca cb m h1m h2m] at hc
  have HC := Lib.hid hc
  clear hc h18
  go_wp2_with fail
  refine (HC.out).mono ?_
  rintro e w19 ⟨rfl, h19⟩
  clear HC
  have h19 : PlateIs b (⟨32, [(0, fillB ca), (m, fillB cb)], [], false, 6, 0, 2⟩ : PM) F w19 := h19
  go_wp2_with fail
  refine (filled_at cb _ rfl w19).mono ?_
  rintro e w20 ⟨rfl, hb⟩
  have h20 := h19.mono hb
  clear h19 hb
  go_wp2_with fail
  refine (filled_at ca _ rfl w20).mono ?_
  rintro e w21 ⟨rfl, hb⟩
  have h21 := h20.mono hb
  clear h20 hb
  go_wp2_with fail
  go_ret
  exact ⟨rfl, h21.frame⟩
theorem wf_u8 {k : Int} (h : (Lit.int .u8 k).wf = true) : 0 ≤ k ∧ k ≤ 255 := by
  simp [Lit.wf, IntKind.min, IntKind.max, IntKind.bits, IntKind.signed] at h
  omega
theorem u8_of (a : Int) (h0 : 0 ≤ a) (h1 : a ≤ 255) : ((UInt8.ofNat a.toNat).toNat : Int) = a := by
  have : (UInt8.ofNat a.toNat).toNat = a.toNat % 256 := UInt8.toNat_ofNat'
  omega
theorem mends_walk (n a b : Int) (W : World) (_ : -9223372036854775808 ≤ n) (_ : n ≤ 9223372036854775807) (ha0 : 0 ≤ a) (ha1 : a ≤ 255) (hb0 : 0 ≤ b) (hb1 : b ≤ 255) :
    Calls Try.prog 3 #[.int .i64 n, .int .u8 a, .int .u8 b] W fun e W' => e = .returned (.bool true) ∧ Below W.heap.size W W' := by
  have h := mends_frame (allOf W) n (UInt8.ofNat a.toNat) (UInt8.ofNat b.toNat) W (sat_all W)
  rw [u8_of a ha0 ha1, u8_of b hb0 hb1] at h
  exact h.mono fun e W' h => ⟨h.1, h.2.below⟩
end Go.Proofs.Ytjkpghhbpcjjiaa
