/- What the plate answers, in plain data; awake. Conditions: none. -/
import Derived.Test.YtjkpghhbpcjjiaaPlateF
namespace Go.Proofs.Ytjkpghhbpcjjiaa
open Go Go.MapKept Go.RowKit Go.Proofs

theorem fillB_size (c : UInt8) : (fillB c).size = 256 := by
  show (List.replicate 256 c).toArray.size = 256
  rw [List.size_toArray, List.length_replicate]
/-- A write that is taken, without an act to come. -/
theorem writeM_ok {M : PM} {n : Int} {s : ByteArray} (hd : M.down = false) (h0 : 0 ≤ n) (hn : n < M.count) (hs : s.size = 256) (ha : M.armed = 0) :
    writeM M n s = (0, { M with queue := M.queue ++ [(n, s)], acts := M.acts + 1 }) := by
  have hr : readyM M n = 0 := by
    unfold readyM
    rw [hd]
    have : ¬ (n < 0 ∨ M.count ≤ n) := by omega
    simp [this]
  unfold writeM
  rw [hr, if_neg (by simp), if_neg (by simp [hs])]
  unfold actM pushM
  rw [if_neg (by simp [ha])]
theorem syncM_ok {M : PM} (hd : M.down = false) (ha : M.armed = 0) : syncM M = (0, { M with secs := putAll M.secs M.queue, queue := [], acts := M.acts + 1 }) := by
  unfold syncM actM
  rw [hd]
  simp [ha]
theorem offM_ok {M : PM} (hd : M.down = false) : offM M = { M with down := true, armed := 0, life := M.life + 1 } := by
  unfold offM
  rw [hd]; simp
theorem filled_at (c : UInt8) (n : Int) (hn : n = (c.toNat : Int)) (w : World) : Calls Try.prog 14 #[.int .u8 n] w (fun e w' => e = .returned (.string (fillB c)) ∧ Below w.heap.size w w') := by
  rw [hn]; exact filled_any c w
/-- A list of one fate. -/
theorem fate_one (g : Nat) (a : Int) (F : Heaplet) (i : Nat) (w' : World) (hi : i < 1000000) (ha : -9223372036854775808 ≤ a ∧ a ≤ 9223372036854775807) (hs : Sat w' (.blk g (.cells #[kI a] 3) :: F)) :
    Calls Try.prog 36 #[.slice (some ⟨g, 0, none⟩) 1 1, .int .i64 i] w' (Ret (.int .i64 (a % 3)) (Same w')) := by
  have hW : IntSlice w' (some ⟨g, 0, none⟩) 1 (fun _ => a) := by
    refine ⟨by omega, fun j hj => ⟨g, 0, rfl, (Array.getElem?_eq_some_iff.1 hs.h0).1, ?_⟩⟩
    obtain rfl : j = 0 := by omega
    exact ⟨by rw [cell_of hs.h0]; rfl, ha⟩
  have := fate_any (some ⟨g, 0, none⟩) 1 1 (fun _ => a) i w' w' hW (Below.refl _ _) (by omega)
  simpa [fateM] using this
theorem fate_none (a : Option Addr) (i : Nat) (w' : World) (hi : i < 1000000) : Calls Try.prog 36 #[.slice a 0 0, .int .i64 i] w' (Ret (.int .i64 0) (Same w')) :=
  fate_any a 0 0 (fun _ => 0) i w' w' ⟨by omega, fun j hj => by omega⟩ (Below.refl _ _) (by omega)
theorem onM_ok {M : PM} {f : Nat → Int} (hd : M.down = true) : onM M f = { M with down := false, secs := fateTo f M.queue M.secs M.queue.length, queue := [] } := by
  unfold onM
  rw [hd]; simp
theorem readM_down {M : PM} {n : Int} (hd : M.down = true) : readM M n = (⟨#[]⟩, 10) := by
  have hr : readyM M n = 10 := by unfold readyM; rw [hd]; rfl
  unfold readM
  rw [hr]; simp
theorem readM_up {M : PM} {n : Int} (hd : M.down = false) (h0 : 0 ≤ n) (hn : n < M.count) : readM M n = match lastM n M.queue with
  | some s => (s, 0)
  | none => match getL n M.secs with
    | none => (zeros256, 0)
    | some s => if s.size = 0 then (⟨#[]⟩, 20) else (s, 0) := by
  have hr : readyM M n = 0 := by
    unfold readyM
    rw [hd]
    have : ¬ (n < 0 ∨ M.count ≤ n) := by omega
    simp [this]
  unfold readM
  rw [hr, if_neg (by simp)]
  cases lastM n M.queue with
  | some s => rfl
  | none => cases getL n M.secs <;> rfl
theorem writeM_short {M : PM} {n : Int} {s : ByteArray} (hd : M.down = false) (h0 : 0 ≤ n) (hn : n < M.count) (hs : s.size ≠ 256) : writeM M n s = (1, M) := by
  have hr : readyM M n = 0 := by
    unfold readyM
    rw [hd]
    have : ¬ (n < 0 ∨ M.count ≤ n) := by omega
    simp [this]
  unfold writeM
  rw [hr, if_neg (by simp), if_pos hs]
set_option maxRecDepth 100000 in
set_option maxHeartbeats 1600000 in
theorem awake6 (F : Heaplet) (w : World) (hs : Sat w F) : Calls Try.prog 11 #[] w (Ret (.bool true) (fun w' => Sat w' F)) := by
  go_enter Try.func11, Try.ntmps11
  go_wp2_with fail
  refine (plate_new F 8 w hs).mono ?_
  rintro e w1 ⟨b, rfl, h1⟩
  go_wp2_with fail
  refine (filled_at 97 97 rfl w1).mono ?_
  rintro e w2 ⟨rfl, hb⟩
  have h2 := h1.mono hb
  clear h1 hb
  go_wp2_with fail
  refine (write_any b _ F 3 (fillB 97) w2 h2 (by decide) (by decide) (by decide) (by decide)).mono ?_
  rintro e w3 ⟨rfl, h3⟩
  clear h2
  rw [writeM_ok rfl (by decide) (by decide) (fillB_size _) rfl] at h3 ⊢
  go_wp2_with fail
  refine (sync_any b _ F w3 h3 (by decide) (by decide) (by decide) (by decide) (by decide)).mono ?_
  rintro e w4 ⟨rfl, h4⟩
  clear h3
  rw [syncM_ok rfl rfl] at h4 ⊢
  go_wp2_with fail
  refine (filled_at 98 98 rfl w4).mono ?_
  rintro e w5 ⟨rfl, hb⟩
  have h5 := h4.mono hb
  clear h4 hb
  go_wp2_with fail
  refine (write_any b _ F 3 (fillB 98) w5 h5 (by decide) (by decide) (by decide) (by decide)).mono ?_
  rintro e w6 ⟨rfl, h6⟩
  clear h5
  rw [writeM_ok rfl (by decide) (by decide) (fillB_size _) rfl] at h6 ⊢
  go_wp2_with fail
  refine (waits_any b _ F w6 h6).mono ?_
  rintro e w7 ⟨rfl, rfl⟩
  go_wp2_with fail
  refine (off_any b _ F w6 h6 (by decide) (by decide)).mono ?_
  rintro e w7 ⟨rfl, h7⟩
  clear h6
  rw [offM_ok rfl] at h7
  go_wp2_with fail
  refine (read_any b _ F 3 w7 h7 (by decide)).mono ?_
  rintro e w8 ⟨rfl, h8⟩
  clear h7
  rw [readM_down rfl]
  have h9 := h8.new (.cells #[kI 0] 3)
  go_wp2_with fail
  refine (on_any b _ _ _ (fun _ => 0) _ h9 (by decide) (fun i w' hi hw => fate_one _ 0 _ i w' hi (by decide) hw)).mono ?_
  rintro e w10 ⟨rfl, h10⟩
  have h10 := h10.unF
  clear h9 h8
  rw [onM_ok rfl] at h10
  have h10 : PlateIs b (⟨8, [(3, fillB 97)], [], false, 3, 0, 1⟩ : PM) F w10 := h10
  have er : readM (⟨8, [(3, fillB 97)], [], false, 3, 0, 1⟩ : PM) 3 = (fillB 97, 0) := by
    rw [readM_up rfl (by decide) (by decide)]
    have e2 : getL 3 [((3 : Int), fillB 97)] = some (fillB 97) := rfl
    have e1 : lastM 3 ([] : List (Int × ByteArray)) = none := rfl
    simp only [e1, e2]
    rw [if_neg (by rw [fillB_size]; decide)]
  have hrd := read_any b _ F 3 w10 h10 (by decide)
  rw [er] at hrd
  have HRD := Lib.hid hrd
  clear h10 hrd er
  go_wp2_with fail
  refine (HRD.out).mono ?_
  rintro e w11 ⟨rfl, h11⟩
  clear HRD
  have hwr := write_any b _ F 3 ⟨#[115, 104, 111, 114, 116]⟩ w11 h11 (by decide) (by decide) (by decide) (by decide)
  rw [writeM_short rfl (by decide) (by decide) (by decide)] at hwr
  have HWR := Lib.hid hwr
  clear h11 hwr
  go_wp2_with fail
  refine (HWR.out).mono ?_
  rintro e w12 ⟨rfl, h12⟩
  clear HWR
  go_wp2_with fail
  refine (filled_at 97 97 rfl w12).mono ?_
  rintro e w13 ⟨rfl, hb⟩
  have h13 := h12.mono hb
  clear h12 hb
  go_wp2_with fail
  refine (acts_any b _ F w13 h13).mono ?_
  rintro e w14 ⟨rfl, rfl⟩
  go_wp2_with fail
  refine (life_any b _ F w13 h13).mono ?_
  rintro e w14 ⟨rfl, rfl⟩
  go_wp2_with fail
  refine (sectors_any b _ F w13 h13).mono ?_
  rintro e w14 ⟨rfl, rfl⟩
  go_wp2_with fail
  refine (down_any b _ F w13 h13).mono ?_
  rintro e w14 ⟨rfl, rfl⟩
  go_wp2_with fail
  go_ret
  exact ⟨rfl, h13.frame⟩
end Go.Proofs.Ytjkpghhbpcjjiaa
