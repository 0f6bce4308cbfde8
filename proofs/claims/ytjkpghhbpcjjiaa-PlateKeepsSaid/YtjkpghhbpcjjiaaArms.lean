/- The power goes in just the act that was armed: PlateArms walked. Conditions: none. -/
import Derived.Test.YtjkpghhbpcjjiaaMends
import Derived.Test.YtjkpghhbpcjjiaaArgs6
namespace Go.Proofs.Ytjkpghhbpcjjiaa
open Go Go.MapKept Go.RowKit Go.Proofs

theorem readyM_up {M : PM} {n : Int} (hd : M.down = false) (h0 : 0 ≤ n) (hn : n < M.count) : readyM M n = 0 := by
  unfold readyM
  rw [hd]
  have : ¬ (n < 0 ∨ M.count ≤ n) := by omega
  simp [this]
theorem readyM_arg {M : PM} {n : Int} (hd : M.down = false) (hn : M.count ≤ n) : readyM M n = 1 := by
  unfold readyM
  rw [hd]
  simp [hn]
theorem writeM_arg {M : PM} {n : Int} {s : ByteArray} (hd : M.down = false) (hn : M.count ≤ n) : writeM M n s = (1, M) := by
  unfold writeM
  rw [readyM_arg hd hn, if_pos (by simp)]
theorem writeM_up {M : PM} {n : Int} {s : ByteArray} (hd : M.down = false) (h0 : 0 ≤ n) (hn : n < M.count) (hs : s.size = 256) : writeM M n s = actM (pushM M n s) := by
  unfold writeM
  rw [readyM_up hd h0 hn, if_neg (by simp), if_neg (by simp [hs])]
/-- While the armed act hasn't come: a acts are done, as many writes wait. -/
def ArmsI (b : Nat) (m : Int) (a : Nat) (W w : World) : Prop := ∃ q, PlateIs b (⟨40, [], q, false, (a : Int), m - a, 0⟩ : PM) (allOf W) w ∧ q.length = a ∧ (a : Int) < m
set_option maxRecDepth 100000 in
set_option maxHeartbeats 4000000 in
theorem arms_walk (n0 : Int) (p : Option Addr) (len cap : Nat) (V0 V1 : Nat → Int) (W : World) (_ : -9223372036854775808 ≤ n0) (_ : n0 ≤ 9223372036854775807) (ha : Writes6 W p len V0 V1) :
    Calls Try.prog 5 #[.int .i64 n0, .slice p len cap] W fun e W' => e = .returned (.bool true) ∧ Below W.heap.size W W' := by
  have Ha := Lib.hid ha
  have hlen := ha.1
  clear ha
  obtain ⟨m, hm, h1m, h2m⟩ : ∃ m, wrap64 (1 + umod n0 120) = m ∧ 1 ≤ m ∧ m ≤ 120 := by
    have h := umod_bd n0 120 (by decide) (by decide)
    refine ⟨_, rfl, ?_⟩
    rw [IntWalk.wrap64_in _ ⟨by omega, by omega⟩]
    omega
  unfold umod at hm
  have HM := Lib.hid hm
  clear hm
  go_enter Try.func5, Try.ntmps5
  go_wp2_with fail
  refine (awake6 (allOf W) W (sat_all W)).mono ?_
  rintro e w0 ⟨rfl, hs⟩
  go_wp2_with fail
  rw [HM.out]
  refine (plate_new (allOf W) 40 w0 hs).mono ?_
  rintro e w1 ⟨b, rfl, h1⟩
  have h1 : PlateIs b (⟨40, [], [], false, 0, 0, 0⟩ : PM) (allOf W) w1 := h1
  go_wp2_with fail
  refine (arm_any b _ (allOf W) m w1 h1).mono ?_
  rintro e w2 ⟨rfl, h2⟩
  have hI : ArmsI b m 0 W w2 := by
    refine ⟨[], ?_, rfl, by omega⟩
    have e : armM (⟨40, [], [], false, 0, 0, 0⟩ : PM) m = ⟨40, [], [], false, ((0 : Nat) : Int), m - (0 : Nat), 0⟩ := by
      unfold armM
      have : max m 0 = m - ((0 : Nat) : Int) := by omega
      rw [this]; rfl
    rw [← e]; exact h2
  have HI := Lib.hid hI
  clear h1 h2 hI hs
  go_wp2_with fail
  go_loopw [6, 7] (fun c i wr => ∃ a k : Nat, a ≤ k ∧ k ≤ 100 ∧ k ≤ len ∧ c = .int .i64 a ∧ i = .int .i64 k ∧ ArmsI b m a W wr) (fun _ i _ => 100 - (intOf i).toNat)
  case atStart => exact ⟨0, 0, by omega, by omega, by omega, rfl, rfl, HI.out⟩
  case round =>
    obtain ⟨a, k, hak, hk1, hk2, rfl, rfl, hI⟩ := hrel
    obtain ⟨q, hp, hq, ham⟩ := hI
    by_cases hlt : k < len ∧ k < 100
    · obtain ⟨hlt1, hlt2⟩ := hlt
      obtain ⟨ba, off, rfl, hba, ⟨hA, _, _⟩, hB, hB0, hB1⟩ := (Ha.out).2 k hlt1
      have hs := hp.frame
      have c0 : wr.cell? ⟨ba, off + k * 2, none⟩ = some (kI (V0 k)) := (hs.cellOld (a := ⟨ba, off + k * 2, none⟩) hba).trans hA
      have c1 : wr.cell? ⟨ba, off + k * 2 + 1, none⟩ = some (.int .u8 (V1 k)) := (hs.cellOld (a := ⟨ba, off + k * 2 + 1, none⟩) hba).trans hB
      obtain ⟨kk, hkk, hw0, hw1⟩ : ∃ kk, wrap64 ((IntKind.u64.wrap (V0 k)).tmod 50) = kk ∧ 0 ≤ kk ∧ kk < 50 := ⟨_, rfl, umod_bd (V0 k) 50 (by omega) (by omega)⟩
      have HK := Lib.hid hkk
      have HQ := Lib.hid hq
      have HP := Lib.hid hp
      have hu := u8_of (V1 k) hB0 hB1
      have HU := Lib.hid hu
      clear hkk hA hB hs hp hq hu HI
      go_wp2_with fail
      rw [HK.out]
      refine (filled_at (UInt8.ofNat (V1 k).toNat) _ HU.out.symm wr).mono ?_
      rintro e w3 ⟨rfl, hb3⟩
      have h3 := HP.out.mono hb3
      generalize UInt8.ofNat (V1 k).toNat = c at *
      clear hb3 HP
      by_cases h40 : 40 ≤ kk
      · have hw := write_any b _ (allOf W) kk (fillB c) w3 h3 (by simp only; rw [HQ.out]; omega) (by simp) (by simp only; omega) (by simp only; omega)
        rw [writeM_arg rfl h40] at hw
        have HW := Lib.hid hw
        have h40b : decide (40 ≤ kk) = true := by simpa using h40
        clear hw h3
        go_wp2_with fail
        refine (HW.out).mono ?_
        rintro e w4 ⟨rfl, h4⟩
        go_wp2_with fail
        refine (read_any b _ (allOf W) kk w4 h4 (by simp only; rw [HQ.out]; omega)).mono ?_
        rintro e w5 ⟨rfl, h5⟩
        have hI5 : ArmsI b m a W w5 := ⟨q, h5, HQ.out, ham⟩
        have HI5 := Lib.hid hI5
        clear h4 h5 hI5 HW
        go_wp2_with fail
        exact ⟨⟨a, k + 1, by omega, by omega, by omega, rfl, by simp, HI5.out⟩, by simp only [intOf]; omega⟩
      · have hw := write_any b _ (allOf W) kk (fillB c) w3 h3 (by simp only; rw [HQ.out]; omega) (by simp) (by simp only; omega) (by simp only; omega)
        rw [writeM_up rfl hw0 (by simp only; omega) (fillB_size _)] at hw
        have h40b : decide (40 ≤ kk) = false := by simpa using h40
        by_cases hend : m = (a : Int) + 1
        · have e1 : actM (pushM (⟨40, [], q, false, (a : Int), m - a, 0⟩ : PM) kk (fillB c)) = (10, ⟨40, [], q ++ [(kk, fillB c)], true, (a : Int) + 1, 0, 1⟩) := by
            unfold actM pushM offM
            rw [if_pos (by simp only; omega), if_pos (by simp only; omega)]
            simp
          rw [e1] at hw
          have HW := Lib.hid hw
          clear hw h3 e1
          subst hend
          go_wp2_with fail
          refine (HW.out).mono ?_
          rintro e w4 ⟨rfl, h4⟩
          go_wp2_with fail
          refine (read_any b _ (allOf W) kk w4 h4 (by simp only [List.length_append]; rw [HQ.out]; simp; omega)).mono ?_
          rintro e w5 ⟨rfl, h5⟩
          clear h4 HW
          go_wp2_with fail
          refine (acts_any b _ _ w5 h5).mono ?_
          rintro e w6 ⟨rfl, rfl⟩
          go_wp2_with fail
          refine (down_any b _ _ w5 h5).mono ?_
          rintro e w6 ⟨rfl, rfl⟩
          go_wp2_with fail
          refine (down_any b _ _ w5 h5).mono ?_
          rintro e w6 ⟨rfl, rfl⟩
          go_wp2_with fail
          refine (life_any b _ _ w5 h5).mono ?_
          rintro e w6 ⟨rfl, rfl⟩
          have hwt := waits_any b _ _ w5 h5
          have el : ((⟨40, [], q ++ [(kk, fillB c)], true, (a : Int) + 1, 0, 1⟩ : PM).queue.length : Int) = (a : Int) + 1 := by
            simp only [List.length_append]; rw [HQ.out]; simp
          rw [el] at hwt
          have HT := Lib.hid hwt
          have H5 := Lib.hid h5
          clear hwt el h5
          go_wp2_with fail
          refine (HT.out).mono ?_
          rintro e w6 ⟨rfl, rfl⟩
          go_wp2_with fail
          go_ret
          exact ⟨rfl, H5.out.frame.below⟩
        · have e1 : actM (pushM (⟨40, [], q, false, (a : Int), m - a, 0⟩ : PM) kk (fillB c)) = (0, ⟨40, [], q ++ [(kk, fillB c)], false, ((a + 1 : Nat) : Int), m - ((a + 1 : Nat) : Int), 0⟩) := by
            unfold actM pushM
            rw [if_pos (by simp only; omega), if_neg (by simp only; omega)]
            have : m - (a : Int) - 1 = m - ((a + 1 : Nat) : Int) := by omega
            simp only [this]
            simp
          rw [e1] at hw
          have HW := Lib.hid hw
          have hne : (((a : Int) + 1) == m) = false := by rw [beq_eq_false_iff_ne]; omega
          clear hw h3 e1
          go_wp2_with fail
          refine (HW.out).mono ?_
          rintro e w4 ⟨rfl, h4⟩
          go_wp2_with fail
          refine (read_any b _ (allOf W) kk w4 h4 (by simp only [List.length_append]; rw [HQ.out]; simp; omega)).mono ?_
          rintro e w5 ⟨rfl, h5⟩
          have hI5 : ArmsI b m (a + 1) W w5 := ⟨_, h5, by simp only [List.length_append]; rw [HQ.out]; simp, by omega⟩
          have HI5 := Lib.hid hI5
          clear h4 HW hI5
          go_wp2_with fail
          refine (acts_any b _ _ w5 h5).mono ?_
          rintro e w6 ⟨rfl, rfl⟩
          go_wp2_with fail
          refine (down_any b _ _ w5 h5).mono ?_
          rintro e w6 ⟨rfl, rfl⟩
          go_wp2_with fail
          refine (down_any b _ _ w5 h5).mono ?_
          rintro e w6 ⟨rfl, rfl⟩
          clear h5
          go_wp2_with fail
          exact ⟨⟨a + 1, k + 1, by omega, by omega, by omega, by simp, by simp, HI5.out⟩, by simp only [intOf]; omega⟩
    · have hd : ¬ k < len ∨ ¬ k < 100 := by omega
      have hl := life_any b _ _ wr hp
      have hdn := down_any b _ _ wr hp
      have HL := Lib.hid hl
      have HD := Lib.hid hdn
      have HP := Lib.hid hp
      clear hl hdn hp hlt HI
      by_cases hlt1 : k < len
      all_goals
        go_wp2_with fail
        refine (HL.out).mono ?_
        rintro e w6 ⟨rfl, rfl⟩
        go_wp2_with fail
        refine (HD.out).mono ?_
        rintro e w6 ⟨rfl, rfl⟩
        go_wp2_with fail
        go_ret
        exact ⟨rfl, HP.out.frame.below⟩
end Go.Proofs.Ytjkpghhbpcjjiaa
