/- strconv.ParseUint at base 16, eight bits, two bytes at most. Conditions: none. -/
import Derived.Test.YtieaamlpadlfeaaGreatDoorTb4
import Derived.Shelf.Strconv.ToError
namespace Go.Proofs.YtieaamlpadlfeaaGreatDoor
open Go Go.MapKept Go.RowKit Go.Proofs

attribute [local go_sem] Oper.semAt_some

def lowN (n : Nat) : Nat := if n / 32 % 2 = 0 then n + 32 else n
theorem or_32 : ∀ n : Nat, n < 256 → bits BinOp.or IntKind.u8 (n : Int) 32 = ((lowN n : Nat) : Int) := by decide +kernel
theorem lowN_lt : ∀ n : Nat, n < 256 → lowN n < 256 := by decide +kernel
theorem lower_any (n : Nat) (hn : n < 256) (w : World) : Calls Tryz.prog 97 #[.int .u8 (n : Int)] w (Ret (.int .u8 (lowN n : Int)) (Same w)) := by
  have h := or_32 n hn
  go_enter Tryz.func97, Tryz.ntmps97
  go_wp2_with fail
  go_ret
  exact ⟨by rw [← h]; rfl, rfl⟩
/-- A digit. -/
def puD (c : UInt8) : Option Nat := if 48 ≤ c.toNat ∧ c.toNat ≤ 57 then some (c.toNat - 48) else if 97 ≤ lowN c.toNat ∧ lowN c.toNat ≤ 122 then (if lowN c.toNat - 87 < 16 then some (lowN c.toNat - 87) else none) else none
def puL : Bs → Nat → Option Nat
  | [], n => some n
  | c :: r, n => (puD c).bind fun d => puL r (n * 16 + d)
def puR (t : Bs) : Option Nat := if t = [] then none else puL t 0
theorem puD_hex : ∀ n, n < 16 → puD (hexB n) = some n := by decide +kernel
theorem puD_lt {c : UInt8} {d : Nat} (h : puD c = some d) : d < 16 := by
  unfold puD at h
  split at h
  · cases h; omega
  · split at h
    · split at h
      · cases h; omega
      · cases h
    · cases h
theorem puR_hex {a b : Nat} (ha : a < 16) (hb : b < 16) : puR [hexB a, hexB b] = some (a * 16 + b) := by
  unfold puR
  rw [if_neg (by simp)]
  simp [puL, puD_hex a ha, puD_hex b hb]
def puV : Option Nat → Value
  | some n => .tuple #[.int .u64 (n : Int), .nilIface]
  | none => .tuple #[.int .u64 0, .iface 107 (.int .i64 2)]
set_option maxRecDepth 100000 in
set_option maxHeartbeats 4000000 in
theorem pu_any (t : Bs) (ht : t.length ≤ 2) (w : World) : Calls Tryz.prog 87 #[kL t, .int .i64 16, .int .i64 8] w (Ret (puV (puR t)) (Below w.heap.size w)) := by
  by_cases h0 : t = []
  · subst h0
    go_enter Tryz.func87, Tryz.ntmps87
    go_wp2_with fail
    go_ret2
    exact ⟨rfl, Below.refl _ _⟩
  · have hb : (t == []) = false := by simpa using h0
    have hcv := Lib.run_convert_string_bytes (P := Tryz.prog) w 9 46 5 ⟨t.toArray⟩ Tryz.underlying9 Tryz.underlying46 Tryz.underlying5
    have hr : puR t = puL t 0 := by unfold puR; rw [if_neg h0]
    rw [hr]
    have hcell : ∀ j c, t[j]? = some c → (Lib.bytesWorld w 5 ⟨t.toArray⟩).cell? ⟨w.heap.size, j, none⟩ = some (.int .u8 (c.toNat : Int)) := fun j c hc => bytes_at (sat_bytes (sat_all w) ⟨t.toArray⟩) (by rw [data_bs]; exact hc)
    rw [size_bs] at hcv
    have HC := Lib.hid hcell
    have HB := Lib.hid (Lib.bytesWorld_below w 5 ⟨t.toArray⟩)
    generalize Lib.bytesWorld w 5 ⟨t.toArray⟩ = W1 at *
    generalize grownCap w t.length 0 5 = cap at *
    obtain ⟨g, hg⟩ : ∃ g, w.heap.size = g := ⟨_, rfl⟩
    rw [hg] at hcv HC
    have HP := Lib.hid ht
    clear hcell hr ht h0 hg
    go_enter Tryz.func87, Tryz.ntmps87
    go_upto_block 3 with (fail)
    go_wp2_with fail
    go_loopw [12, 13, 101] (fun v12 v13 v101 wr => ∃ i n : Nat, i ≤ t.length ∧ v12 = .bool false ∧ v13 = .int .u64 (n : Int) ∧ v101 = .int .i64 (i : Int) ∧ wr = W1 ∧ puL (t.drop i) n = puL t 0 ∧ n < 16 ^ i) (fun _ _ v101 _ => 100 - (RowKit.intOf v101).toNat)
    case atStart => exact ⟨0, 0, by omega, rfl, rfl, rfl, rfl, by simp, by decide⟩
    case round =>
      obtain ⟨i, n, hi, rfl, rfl, rfl, rfl, hpu, hn⟩ := hrel
      have i0 : (0 : Int) ≤ (i : Int) := by omega
      by_cases hil : i < t.length
      · have i1 : (i : Int) < (t.length : Int) := by omega
        obtain ⟨c, hc⟩ : ∃ c, t[i]? = some c := ⟨_, List.getElem?_eq_getElem hil⟩
        have k0 := HC.out i c hc
        have hdr : t.drop i = c :: t.drop (i + 1) := by
          rw [List.drop_eq_getElem_cons hil]
          rw [List.getElem?_eq_getElem hil] at hc
          cases hc
          rfl
        rw [hdr] at hpu
        have hn16 : n < 16 := by
          have hlt := HP.out
          have : i = 0 ∨ i = 1 := by omega
          rcases this with rfl | rfl
          · simp at hn; omega
          · simpa using hn
        have hcl := c.toNat_lt
        have n0 : (0 : Int) ≤ (n : Int) := by omega
        have n1 : (n : Int) ≤ 15 := by omega
        have n2 : ((1152921504606846976 : Int) ≤ (n : Int)) = False := eq_false (by omega)
        have i9 : i < 2 := by have := HP.out; omega
        have HIL := Lib.hid hil
        have hl9 : (t.length : Int) ≤ 2 := by have := HP.out; omega
        have hnx : ∀ d, puD c = some d → puL (t.drop (i + 1)) (n * 16 + d) = puL t 0 ∧ n * 16 + d < 16 ^ (i + 1) := fun d hd => by
          rw [puL, hd] at hpu
          refine ⟨hpu, ?_⟩
          have := puD_lt hd
          rw [Nat.pow_succ]
          omega
        have hno : puD c = none → puL t 0 = none := fun hd => by
          rw [puL, hd] at hpu
          exact hpu.symm
        have HNX := Lib.hid hnx
        have HNO := Lib.hid hno
        have HLW := Lib.hid (lower_any c.toNat hcl wr)
        clear hpu hn hdr hc hi hil hnx hno hn16
        by_cases ha : 48 ≤ c.toNat ∧ c.toNat ≤ 57
        · have hd : puD c = some (c.toNat - 48) := by unfold puD; rw [if_pos ha]
          have FIN := Lib.hid (HNX.out _ hd)
          obtain ⟨d, hde⟩ : ∃ d : Nat, c.toNat - 48 = d := ⟨_, rfl⟩
          rw [hde] at FIN
          have a1 : (48 : Int) ≤ (c.toNat : Int) := by omega
          have a2 : (c.toNat : Int) ≤ 57 := by omega
          have a3 : ((c.toNat : Int) == 95) = false := by rw [beq_eq_false_iff_ne]; omega
          have a4 : IntKind.u8.wrap ((c.toNat : Int) - 48) = (d : Int) := by rw [IntKind.wrap_u8]; omega
          have a5 : ((16 : Int) ≤ (d : Int)) = False := eq_false (by omega)
          have a6 : (d : Int) ≤ 15 := by omega
          have a7 : (0 : Int) ≤ (d : Int) := by omega
          clear ha hd hde HNX HNO HLW hcl
          go_wp2_with fail
          all_goals
            exact ⟨⟨i + 1, n * 16 + d, HIL.out, rfl, by simp, by simp, trivial, FIN.out.1, FIN.out.2⟩, by simp only [RowKit.intOf]; omega⟩
        · by_cases hb2 : 97 ≤ lowN c.toNat ∧ lowN c.toNat ≤ 122
          · obtain ⟨lo, hlo⟩ : ∃ lo, lowN c.toNat = lo := ⟨_, rfl⟩
            rw [hlo] at hb2 HLW
            have a0 : ¬ (48 ≤ c.toNat ∧ c.toNat ≤ 57) := ha
            have a3 : ((c.toNat : Int) == 95) = false := by
              rw [beq_eq_false_iff_ne]
              intro e
              have e2 : c.toNat = 95 := by omega
              rw [e2] at hlo
              have : lo = 127 := by rw [← hlo]; decide
              omega
            have b1 : (97 : Int) ≤ (lo : Int) := by omega
            have b2 : (lo : Int) ≤ 122 := by omega
            have b4 : IntKind.u8.wrap ((lo : Int) - 97) = (lo : Int) - 97 := by rw [IntKind.wrap_u8]; omega
            by_cases h16 : lo - 87 < 16
            · have hd : puD c = some (lo - 87) := by unfold puD; rw [if_neg ha, hlo, if_pos hb2, if_pos h16]
              have FIN := Lib.hid (HNX.out _ hd)
              obtain ⟨d, hde⟩ : ∃ d : Nat, lo - 87 = d := ⟨_, rfl⟩
              rw [hde] at FIN
              have b5 : IntKind.u8.wrap ((lo : Int) - 97 + 10) = (d : Int) := by rw [IntKind.wrap_u8]; omega
              have a5 : ((16 : Int) ≤ (d : Int)) = False := eq_false (by omega)
              have a6 : (d : Int) ≤ 15 := by omega
              have a7 : (0 : Int) ≤ (d : Int) := by omega
              clear hd hde HNX HNO hcl h16 hlo hb2
              have HCS := Lib.hid a0
              by_cases c48 : 48 ≤ c.toNat
              · have a1 : (48 : Int) ≤ (c.toNat : Int) := by omega
                have a2 : ((c.toNat : Int) ≤ 57) = False := eq_false (by omega)
                clear ha a0 c48 HCS
                go_wp2_with (go_at_call 97; refine (HLW.out).mono ?_; rintro e w2 ⟨rfl, rfl⟩)
                all_goals
                  exact ⟨⟨i + 1, n * 16 + d, HIL.out, rfl, by simp, by simp, trivial, FIN.out.1, FIN.out.2⟩, by simp only [RowKit.intOf]; omega⟩
              · have a1 : ((48 : Int) ≤ (c.toNat : Int)) = False := eq_false (by omega)
                clear ha a0 c48 HCS
                go_wp2_with (go_at_call 97; refine (HLW.out).mono ?_; rintro e w2 ⟨rfl, rfl⟩)
                all_goals
                  exact ⟨⟨i + 1, n * 16 + d, HIL.out, rfl, by simp, by simp, trivial, FIN.out.1, FIN.out.2⟩, by simp only [RowKit.intOf]; omega⟩
            · have hd : puD c = none := by unfold puD; rw [if_neg ha, hlo, if_pos hb2, if_neg h16]
              have hx := HNO.out hd
              rw [hx]
              have b5 : IntKind.u8.wrap ((lo : Int) - 97 + 10) = (lo : Int) - 87 := by rw [IntKind.wrap_u8]; omega
              have b6 : (16 : Int) ≤ (lo : Int) - 87 := by omega
              clear hd hx HNX HNO hcl h16 hlo hb2
              by_cases c48 : 48 ≤ c.toNat
              · have a1 : (48 : Int) ≤ (c.toNat : Int) := by omega
                have a2 : ((c.toNat : Int) ≤ 57) = False := eq_false (by omega)
                clear ha a0 c48
                go_wp2_with (go_at_call 97; refine (HLW.out).mono ?_; rintro e w2 ⟨rfl, rfl⟩)
                go_ret2
                exact ⟨rfl, HB.out⟩
              · have a1 : ((48 : Int) ≤ (c.toNat : Int)) = False := eq_false (by omega)
                clear ha a0 c48
                go_wp2_with (go_at_call 97; refine (HLW.out).mono ?_; rintro e w2 ⟨rfl, rfl⟩)
                go_ret2
                exact ⟨rfl, HB.out⟩
          · obtain ⟨lo, hlo⟩ : ∃ lo, lowN c.toNat = lo := ⟨_, rfl⟩
            have hd : puD c = none := by unfold puD; rw [if_neg ha, if_neg hb2]
            have hx := HNO.out hd
            rw [hx]
            rw [hlo] at hb2 HLW
            have hq : ∃ q, ((c.toNat : Int) == 95) = q := ⟨_, rfl⟩
            obtain ⟨q, hq⟩ := hq
            clear hd hx HNX HNO hcl hlo
            cases q with
            | true =>
              by_cases c48 : 48 ≤ c.toNat
              · have a1 : (48 : Int) ≤ (c.toNat : Int) := by omega
                have a2 : ((c.toNat : Int) ≤ 57) = False := eq_false (by omega)
                clear c48
                by_cases l97 : 97 ≤ lo
                · have b1 : (97 : Int) ≤ (lo : Int) := by omega
                  have b2 : ((lo : Int) ≤ 122) = False := eq_false (by omega)
                  clear l97
                  clear ha hb2
                  go_wp2_with (go_at_call 97; refine (HLW.out).mono ?_; rintro e w2 ⟨rfl, rfl⟩)
                  go_ret2
                  exact ⟨rfl, HB.out⟩
                · have b1 : ((97 : Int) ≤ (lo : Int)) = False := eq_false (by omega)
                  clear l97
                  clear ha hb2
                  go_wp2_with (go_at_call 97; refine (HLW.out).mono ?_; rintro e w2 ⟨rfl, rfl⟩)
                  go_ret2
                  exact ⟨rfl, HB.out⟩
              · have a1 : ((48 : Int) ≤ (c.toNat : Int)) = False := eq_false (by omega)
                clear c48
                by_cases l97 : 97 ≤ lo
                · have b1 : (97 : Int) ≤ (lo : Int) := by omega
                  have b2 : ((lo : Int) ≤ 122) = False := eq_false (by omega)
                  clear l97
                  clear ha hb2
                  go_wp2_with (go_at_call 97; refine (HLW.out).mono ?_; rintro e w2 ⟨rfl, rfl⟩)
                  go_ret2
                  exact ⟨rfl, HB.out⟩
                · have b1 : ((97 : Int) ≤ (lo : Int)) = False := eq_false (by omega)
                  clear l97
                  clear ha hb2
                  go_wp2_with (go_at_call 97; refine (HLW.out).mono ?_; rintro e w2 ⟨rfl, rfl⟩)
                  go_ret2
                  exact ⟨rfl, HB.out⟩
            | false =>
              by_cases c48 : 48 ≤ c.toNat
              · have a1 : (48 : Int) ≤ (c.toNat : Int) := by omega
                have a2 : ((c.toNat : Int) ≤ 57) = False := eq_false (by omega)
                clear c48
                by_cases l97 : 97 ≤ lo
                · have b1 : (97 : Int) ≤ (lo : Int) := by omega
                  have b2 : ((lo : Int) ≤ 122) = False := eq_false (by omega)
                  clear l97
                  clear ha hb2
                  go_wp2_with (go_at_call 97; refine (HLW.out).mono ?_; rintro e w2 ⟨rfl, rfl⟩)
                  go_ret2
                  exact ⟨rfl, HB.out⟩
                · have b1 : ((97 : Int) ≤ (lo : Int)) = False := eq_false (by omega)
                  clear l97
                  clear ha hb2
                  go_wp2_with (go_at_call 97; refine (HLW.out).mono ?_; rintro e w2 ⟨rfl, rfl⟩)
                  go_ret2
                  exact ⟨rfl, HB.out⟩
              · have a1 : ((48 : Int) ≤ (c.toNat : Int)) = False := eq_false (by omega)
                clear c48
                by_cases l97 : 97 ≤ lo
                · have b1 : (97 : Int) ≤ (lo : Int) := by omega
                  have b2 : ((lo : Int) ≤ 122) = False := eq_false (by omega)
                  clear l97
                  clear ha hb2
                  go_wp2_with (go_at_call 97; refine (HLW.out).mono ?_; rintro e w2 ⟨rfl, rfl⟩)
                  go_ret2
                  exact ⟨rfl, HB.out⟩
                · have b1 : ((97 : Int) ≤ (lo : Int)) = False := eq_false (by omega)
                  clear l97
                  clear ha hb2
                  go_wp2_with (go_at_call 97; refine (HLW.out).mono ?_; rintro e w2 ⟨rfl, rfl⟩)
                  go_ret2
                  exact ⟨rfl, HB.out⟩
      · obtain rfl : i = t.length := by omega
        have i1 : ((t.length : Int) < (t.length : Int)) = False := eq_false (by omega)
        rw [List.drop_length] at hpu
        have HX : Hid (puL t 0 = some n) := Lib.hid hpu.symm
        clear hpu hn hi hil
        go_wp2_with fail
        go_ret2
        exact ⟨by rw [HX.out]; rfl, HB.out⟩
set_option maxRecDepth 100000 in
/-- strconv.ParseUint: a number, or an error. -/
theorem spu_any {F : Heaplet} {w : World} (hL : LibF F) (s : Sat w F) (t : Bs) (ht : t.length ≤ 2) : Calls Tryz.prog 75 #[kL t, .int .i64 16, .int .i64 8] w (fun e w' => (match puR t with | some n => e = .returned (.tuple #[.int .u64 (n : Int), .nilIface]) | none => ∃ N, e = .returned (.tuple #[.int .u64 0, .iface 110 (.pointer (some ⟨N, 0, none⟩))])) ∧ Sat w' F) := by
  have h := pu_any t ht w
  cases hr : puR t with
  | some n =>
    rw [hr] at h
    have HP : Hid (Calls Tryz.prog 87 #[kL t, .int .i64 16, .int .i64 8] w (Ret (.tuple #[.int .u64 (n : Int), .nilIface]) (fun W => Sat W F))) := Lib.hid (h.mono (fun e w' h => keepF s h))
    clear h hr hL s
    go_enter Tryz.func75, Tryz.ntmps75
    go_wp2_with (go_at_call 87; refine (HP.out).mono ?_; rintro e w1 ⟨rfl, h1⟩; have H1 := Lib.hid h1; clear h1)
    go_ret2
    exact ⟨rfl, H1.out⟩
  | none =>
    rw [hr] at h
    have HP : Hid (Calls Tryz.prog 87 #[kL t, .int .i64 16, .int .i64 8] w (Ret (.tuple #[.int .u64 0, .iface 107 (.int .i64 2)]) (fun W => Sat W F))) := Lib.hid (h.mono (fun e w' h => keepF s h))
    have HE : Hid (∀ W, Sat W F → Calls Tryz.prog 59 #[.string ⟨#[80, 97, 114, 115, 101, 85, 105, 110, 116]⟩, kL t, .int .i64 16, .int .i64 8, .iface 107 (.int .i64 2)] W (fun e w' => ∃ N, e = .returned (.iface 110 (.pointer (some ⟨N, 0, none⟩))) ∧ Sat w' F)) := Lib.hid (fun W hW => by
      obtain ⟨te, pe, hv⟩ := (hL W hW).syn
      refine (Any.strconv_toError_syntax { Tryz.laysAtoi with } ⟨#[80, 97, 114, 115, 101, 85, 105, 110, 116]⟩ ⟨t.toArray⟩ 16 8 _ W (by rw [size_bs]; omega) hv (.inr ⟨te, pe, rfl⟩)).mono ?_
      rintro e w' ⟨N, rfl, _, _, hb⟩
      exact ⟨N, rfl, hW.monoB hb⟩)
    clear h hr hL s
    go_enter Tryz.func75, Tryz.ntmps75
    go_wp2_with (first
      | (go_at_call 87; refine (HP.out).mono ?_; rintro e w1 ⟨rfl, h1⟩; have H1 := Lib.hid h1; clear h1)
      | (go_at_call 59; refine (HE.out _ H1.out).mono ?_; rintro e w2 ⟨N, rfl, h2⟩; have H2 := Lib.hid h2; clear h2))
    go_ret2
    exact ⟨⟨N, rfl⟩, H2.out⟩
end Go.Proofs.YtieaamlpadlfeaaGreatDoor
