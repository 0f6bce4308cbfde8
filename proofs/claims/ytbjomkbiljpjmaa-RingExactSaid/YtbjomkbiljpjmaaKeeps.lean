/- PurseKeeps: what is promised is there. -/
import Derived.Test.YtbjomkbiljpjmaaPurse10
import Derived.Test.YtbjomkbiljpjmaaArgs
import Derived.Deep.DeepCutAuto
import Derived.Deep.RegionWith
namespace Go.Proofs.Ytbjomkbiljpjmaa
open Go Go.MapKept Go.RowKit Go.Proofs

def hasArr (D : List (Int × Int)) : Array Value := #[kI (of D 0), kI (of D 1), kI (of D 2), kI (of D 3)]

/-- The promises are made to 0, 1, 2, 3 alone, and fit the room. -/
def KInv (D : List (Int × Int)) (s room : Int) : Prop := (∀ p ∈ D, 0 ≤ p.1 ∧ p.1 < 4) ∧ s ≤ room
def KeepsI (b g : Nat) (room : Int) (W w : World) : Prop := ∃ D s, PurseIs b D s (.blk g (.cells (hasArr D) 3) :: allOf W) w ∧ KInv D s room

theorem four {x : Int} (h0 : 0 ≤ x) (h1 : x < 4) : x = 0 ∨ x = 1 ∨ x = 2 ∨ x = 3 := by omega
theorem has_at (D : List (Int × Int)) {who : Int} (h0 : 0 ≤ who) (h1 : who < 4) : (hasArr D)[who.toNat]? = some (kI (of D who)) := by
  rcases four h0 h1 with rfl | rfl | rfl | rfl <;> rfl
theorem has_set (D D' : List (Int × Int)) {who v : Int} (h0 : 0 ≤ who) (h1 : who < 4) (hv : of D' who = v) (ho : ∀ j, j ≠ who → of D' j = of D j) :
    (hasArr D).setIfInBounds who.toNat (kI v) = hasArr D' := by
  subst hv
  unfold hasArr
  rcases four h0 h1 with rfl | rfl | rfl | rfl
  · rw [ho 1 (by omega), ho 2 (by omega), ho 3 (by omega)]; rfl
  · rw [ho 0 (by omega), ho 2 (by omega), ho 3 (by omega)]; rfl
  · rw [ho 0 (by omega), ho 1 (by omega), ho 3 (by omega)]; rfl
  · rw [ho 0 (by omega), ho 1 (by omega), ho 2 (by omega)]; rfl
theorem of_put_other (k j v : Int) (D : List (Int × Int)) (h : j ≠ k) : of (putL k v D) j = of D j := by unfold of; rw [getL_putL]; simp [h]
theorem of_del_other (k j : Int) (D : List (Int × Int)) (hn : (D.map (·.1)).Nodup) (h : j ≠ k) : of (delL k D) j = of D j := by unfold of; rw [getL_delL _ _ _ hn]; simp [h]
theorem of_del_same (k : Int) (D : List (Int × Int)) (hn : (D.map (·.1)).Nodup) : of (delL k D) k = 0 := by unfold of; rw [getL_delL _ _ _ hn]; simp
theorem take_of (D : List (Int × Int)) (k n : Int) (hn : (D.map (·.1)).Nodup) (h0 : 0 ≤ of D k) : of (takeD D k n) k = of D k - takeN D k n := by
  unfold takeD takeN
  by_cases h1 : n < 1 ∨ of D k < 1
  · simp [h1]
  · by_cases h2 : n < of D k
    · simp [h1, h2, of_put]
    · simp [h1, h2, of_del_same k D hn]
theorem take_other (D : List (Int × Int)) (k n j : Int) (hn : (D.map (·.1)).Nodup) (h : j ≠ k) : of (takeD D k n) j = of D j := by
  unfold takeD
  by_cases h1 : n < 1 ∨ of D k < 1
  · simp [h1]
  · by_cases h2 : n < of D k
    · simp [h1, h2, of_put_other _ _ _ _ h]
    · simp [h1, h2, of_del_other _ _ _ hn h]
theorem takeN_nonneg (D : List (Int × Int)) (k n : Int) : 0 ≤ takeN D k n := by
  unfold takeN
  split
  · omega
  · split <;> omega
theorem takeN_le (D : List (Int × Int)) (k n : Int) (h : 0 ≤ of D k) : takeN D k n ≤ of D k := by
  unfold takeN
  split
  · omega
  · split <;> omega
theorem take_mem {D : List (Int × Int)} {k n : Int} {p : Int × Int} (h : p ∈ takeD D k n) : p.1 = k ∨ p ∈ D := by
  unfold takeD at h
  split at h
  · exact .inr h
  · split at h
    · rcases mem_putL h with rfl | h
      · exact .inl rfl
      · exact .inr h
    · exact .inr ((sub_delL k D).subset h)
theorem sum_four : ∀ D : List (Int × Int), (D.map (·.1)).Nodup → (∀ p ∈ D, 0 ≤ p.1 ∧ p.1 < 4) → of D 0 + of D 1 + of D 2 + of D 3 = (D.map (·.2)).sum
  | [], _, _ => rfl
  | p :: r, hn, hk => by
    simp only [List.map_cons, List.nodup_cons] at hn
    have ih := sum_four r hn.2 (fun q hq => hk q (.tail _ hq))
    obtain ⟨h0, h1⟩ := hk p (.head _)
    have hz : of r p.1 = 0 := by unfold of; rw [getL_none.2 hn.1]; rfl
    have hx : ∀ j, of (p :: r) j = if p.1 = j then p.2 else of r j := by
      intro j
      unfold of
      by_cases e : p.1 = j <;> simp [getL, e]
    simp only [hx, List.map_cons, List.sum_cons]
    rcases four h0 h1 with e | e | e | e <;> rw [e] at hz ⊢ <;> simp <;> omega
/-- The sum of the first j. -/
def pre (D : List (Int × Int)) : Nat → Int
  | 0 => 0
  | j + 1 => pre D j + of D j
theorem pre_four {D : List (Int × Int)} {s : Int} (h : PInv D s) (hn : (D.map (·.1)).Nodup) (hk : ∀ p ∈ D, 0 ≤ p.1 ∧ p.1 < 4) : pre D 4 = s := by
  have := sum_four D hn hk
  rw [h.2.1] at this
  simp only [pre]
  have e : ((3 : Nat) : Int) = 3 := rfl
  have e2 : ((2 : Nat) : Int) = 2 := rfl
  have e1 : ((1 : Nat) : Int) = 1 := rfl
  have e0 : ((0 : Nat) : Int) = 0 := rfl
  rw [e, e2, e1, e0]; omega
theorem pre_bd {D : List (Int × Int)} {s : Int} (h : PInv D s) : ∀ j : Nat, j ≤ 4 → 0 ≤ pre D j ∧ pre D j ≤ j * s
  | 0, _ => by simp [pre]
  | j + 1, hj => by
    have ih := pre_bd h j (by omega)
    have := of_bd h j
    simp only [pre]
    have e : ((j + 1 : Nat) : Int) * s = j * s + s := by rw [Int.natCast_add, Int.add_mul]; simp
    rw [e]; omega

theorem PurseIs.nodup {b : Nat} {D : List (Int × Int)} {s : Int} {F : Heaplet} {w : World} (h : PurseIs b D s F w) : (D.map (·.1)).Nodup := by
  obtain ⟨_, m, es, clk, hm, _⟩ := h
  exact hm.nodup
theorem PurseIs.frame {b : Nat} {D : List (Int × Int)} {s : Int} {F : Heaplet} {w : World} (h : PurseIs b D s F w) : Sat w F := by
  obtain ⟨_, m, es, clk, hm, hs⟩ := h
  exact hs.tail.tail
theorem PurseIs.drewN {b : Nat} {D : List (Int × Int)} {s : Int} {F : Heaplet} {w : World} (h : PurseIs b D s F w) (n : Nat) : PurseIs b D s F (w.drewN n) := by
  obtain ⟨hi, m, es, clk, hm, hs⟩ := h
  exact ⟨hi, m, es, clk, hm, hs.of_heap rfl ⟨rfl, rfl, rfl⟩⟩
theorem PurseIs.setF {b g i : Nat} {D : List (Int × Int)} {s : Int} {F : Heaplet} {w : World} {c : Array Value} {t : TypeId} {z : Nat × Nat} (h : PurseIs b D s (.blk g (.cells c t z) :: F) w) (v : Value) :
    PurseIs b D s (.blk g (.cells (c.setIfInBounds i v) t z) :: F) (w.setCell ⟨g, i, none⟩ v) := by
  obtain ⟨hi, m, es, clk, hm, hs⟩ := h
  exact ⟨hi, m, es, clk, hm, (hs.rot3.setCell (i := i) v).unrot3⟩
theorem PurseIs.new {b : Nat} {D : List (Int × Int)} {s : Int} {F : Heaplet} {w : World} (h : PurseIs b D s F w) (o : Obj) : PurseIs b D s (.blk w.heap.size o :: F) (w.alloc o) := by
  obtain ⟨hi, m, es, clk, hm, hs⟩ := h
  exact ⟨hi, m, es, clk, hm, (hs.new o).unrot3⟩
theorem PurseIs.drew {b : Nat} {D : List (Int × Int)} {s : Int} {F : Heaplet} {w : World} (h : PurseIs b D s F w) : PurseIs b D s F w.drew := by
  obtain ⟨hi, m, es, clk, hm, hs⟩ := h
  exact ⟨hi, m, es, clk, hm, hs.drew⟩
theorem of_q (b : Nat) (D : List (Int × Int)) (s : Int) (F : Heaplet) (k : Int) (w : World) (hp : PurseIs b D s F w) :
    Calls Try.prog 16 #[.pointer (some ⟨b, 0, none⟩), .int .i64 k] w fun e w' => e = .returned (.int .i64 (of D k)) ∧ w' = w :=
  (of_any b D s F k w hp).mono fun _ _ h => ⟨h.1, h.2.symm⟩

/-- A promise is made, the counts still lack it. -/
def KeepsJ (b g : Nat) (room who n : Int) (W w : World) : Prop :=
  ∃ D s, PurseIs b (putL who (of D who + n) D) (s + n) (.blk g (.cells (hasArr D) 3) :: allOf W) w ∧ 1 ≤ n ∧ (∀ p ∈ D, 0 ≤ p.1 ∧ p.1 < 4) ∧ s + n ≤ room ∧ 0 ≤ of D who ∧ of D who ≤ s

set_option maxRecDepth 100000 in
set_option maxHeartbeats 1600000 in
theorem keeps_walk (room : Int) (p : Option Addr) (len cap : Nat) (A : Nat → Nat → Int) (W : World) (hr1 : -9223372036854775808 ≤ room) (hr2 : room ≤ 9223372036854775807) (ha : IntsAt W p len 4 A) :
    Calls Try.prog 3 #[.int .i64 room, .slice p len cap] W (Ret (.bool true) (RowKit.Below W.heap.size W)) := by
  have Ha := Lib.hid ha
  have hlen := ha.1
  clear ha
  have hmk : ∀ w, (Instr.makeSlice 27 (.int .i64 4) (.int .i64 4)).run Try.prog w = .ok (.slice (some ⟨w.heap.size, 0, none⟩) 4 4) (w.alloc (.cells (hasArr []) 3)) := fun _ => by kernel_rfl
  obtain ⟨rm, hrm, hb0, hb1⟩ : ∃ rm, wrap64 ((IntKind.u64.wrap room).tmod 1000) = rm ∧ 0 ≤ rm ∧ rm < 1000 := ⟨_, rfl, umod_bd room 1000 (by omega) (by omega)⟩
  go_enter Try.func3, Try.ntmps3
  go_wp2_with fail
  refine (awake_any _ _ (sat_all W)).mono ?_
  rintro e w1 ⟨rfl, hs1⟩
  go_wp2_with fail
  refine (new_any _ _ hs1).mono ?_
  rintro e w2 ⟨b, rfl, hp⟩
  have hI0 : KeepsI b w2.heap.size rm W (w2.alloc (.cells (hasArr []) 3)) := ⟨[], 0, hp.new _, ⟨by simp, hb0⟩⟩
  clear hp hs1
  go_wp2_with fail
  clear hrm
  generalize w2.heap.size = g at *
  clear hmk
  go_loopw [7] (fun i wr => ∃ k : Nat, k ≤ len ∧ k ≤ 200 ∧ i = .int .i64 k ∧ KeepsI b g rm W wr) (fun i _ => 200 - (intOf i).toNat)
  case atStart => exact ⟨0, by omega, by omega, rfl, hI0⟩
  case round =>
    obtain ⟨k, hk1, hk2, rfl, hI⟩ := hrel
    by_cases hlt : k < len ∧ k < 200
    · obtain ⟨hlt1, hlt2⟩ := hlt
      obtain ⟨ba, off, rfl, hba, hA⟩ := (Ha.out).2 k hlt1
      obtain ⟨D, s, hp, hi⟩ := hI
      have hs := hp.frame.tail
      have c0 : wr.cell? ⟨ba, off + k * 4, none⟩ = some (kI (A k 0)) := (hs.cellOld (a := ⟨ba, off + k * 4 + 0, none⟩) hba).trans (hA 0 (by omega)).1
      have c1 := (hs.cellOld (a := ⟨ba, off + k * 4 + 1, none⟩) hba).trans (hA 1 (by omega)).1
      have c2 := (hs.cellOld (a := ⟨ba, off + k * 4 + 2, none⟩) hba).trans (hA 2 (by omega)).1
      obtain ⟨who, hwho, hw0, hw1⟩ : ∃ who, wrap64 ((IntKind.u64.wrap (A k 1)).tmod 4) = who ∧ 0 ≤ who ∧ who < 4 := ⟨_, rfl, umod_bd (A k 1) 4 (by omega) (by omega)⟩
      have HA := Lib.hid hA
      have Hp := Lib.hid hp
      have Hi := Lib.hid hi
      clear hs hA hp hi
      go_upto_region 11 with (fail)
      rw [hwho]
      clear hwho
      go_cut [55] (fun s55 wx => (s55 = .bool false ∧ KeepsI b g rm W wx) ∨ (s55 = .bool true ∧ KeepsJ b g rm who (A k 2) W wx))
      case first =>
        have hs1 := Hi.out.2
        by_cases h1 : A k 0 = 1
        · have h1b : (A k 0 == 1) = true := by simpa using h1
          clear h1
          go_wp2_with fail
          by_cases hok : askOk s (A k 2) rm = true
          · refine (ask_yes b D s _ who (A k 2) rm _ Hp.out (by omega) hok).mono ?_
            rintro e w3 ⟨rfl, hp3⟩
            have fin : KeepsJ b g rm who (A k 2) W w3 := by
              have hn := of_decide_eq_true hok
              exact ⟨D, s, hp3, hn.1, Hi.out.1, by omega, of_bd Hp.out.1 who⟩
            have Fin := Lib.hid fin
            clear fin hp3 hok
            go_wp2_with fail
            go_meet
            exact .inr ⟨rfl, Fin.out⟩
          · have hok2 : askOk s (A k 2) rm = false := by simpa using hok
            refine (ask_no b D s _ who (A k 2) rm _ Hp.out (by omega) hok2).mono ?_
            rintro e w3 ⟨rfl, rfl⟩
            clear hok hok2
            go_wp2_with fail
            go_meet
            exact .inl ⟨rfl, D, s, Hp.out, Hi.out⟩
        · have h1b : (A k 0 == 1) = false := by simpa using h1
          clear h1
          go_wp2_with fail
          go_meet
          exact .inl ⟨rfl, D, s, Hp.out, Hi.out⟩
      case rest =>
        clear Hp Hi c0 c1 c2
        have Hcut := Lib.hid hcut
        clear hcut
        go_upto_if 55 with (fail)
        go_cut [] (fun wx => KeepsI b g rm W wx)
        case first =>
          rcases Hcut.out with ⟨rfl, hI⟩ | ⟨rfl, D, s, hp3, hn1, hk, hle, hv0, hv1⟩
          · go_wp2_with fail
            go_meet
            exact hI
          · have hs9 := hp3.1.2.2
            have hg := hp3.frame.h0
            have d1 : wc.cell? ⟨g, who.toNat, none⟩ = some (kI (of D who)) := by rw [cell_of hg, has_at D hw0 hw1]
            have f1 := unfrozen_of hg who.toNat
            have fin := hp3.setF (i := who.toNat) (kI (of D who + A k 2))
            rw [has_set D (putL who (of D who + A k 2) D) hw0 hw1 (of_put _ _ _) (fun j hj => of_put_other _ _ _ _ hj)] at fin
            have fin2 : KeepsI b g rm W (wc.setCell ⟨g, who.toNat, none⟩ (kI (of D who + A k 2))) :=
              ⟨_, _, fin, fun q hq => (mem_putL hq).elim (fun e => by rw [e]; exact ⟨hw0, hw1⟩) (fun h => hk q h), by omega⟩
            have Fin := Lib.hid fin2
            have Hc2 := Lib.hid Hcut
            clear fin fin2 hp3 hg hk Hcut
            generalize of D who = v at *
            go_wp2_with fail
            go_meet
            exact Fin.out
        case rest =>
          clear Hcut
          obtain ⟨D, s, hp, hi⟩ := hcut
          have hA := HA.out
          have c0 : wc.cell? ⟨ba, off + k * 4, none⟩ = some (kI (A k 0)) := (hp.frame.tail.cellOld (a := ⟨ba, off + k * 4 + 0, none⟩) hba).trans (hA 0 (by omega)).1
          have Hp := Lib.hid hp
          have Hi := Lib.hid hi
          clear hA hp hi
          obtain ⟨tb, htb⟩ : ∃ tb : Bool, (A k 0 == 2) = tb := ⟨_, rfl⟩
          go_upto_if 68 with (fail)
          clear htb
          go_cut [] (fun wx => KeepsI b g rm W wx)
          case first =>
            cases tb
            · go_wp2_with fail
              go_meet
              exact ⟨D, s, Hp.out, Hi.out⟩
            · have hg := Hp.out.frame.h0
              have d0 : wc.cell? ⟨g, who.toNat, none⟩ = some (kI (of D who)) := by rw [cell_of hg, has_at D hw0 hw1]
              have f0 := unfrozen_of hg who.toNat
              have hv := of_bd Hp.out.1 who
              have ht0 := takeN_nonneg D who (A k 2)
              have ht1 := takeN_le D who (A k 2) hv.1
              have hs9 := Hp.out.1.2.2
              have hs8 := Hi.out.2
              clear hg
              go_upto_region 14 with (fail)
              go_region_with
                ((go_at_call 15; refine (take_any b D s _ who (A k 2) _ (Hp.out.drew)).mono ?_; rintro e w3 ⟨rfl, hp3⟩; have H3 := Lib.hid hp3; have d1 : w3.cell? ⟨g, who.toNat, none⟩ = some (kI (of D who)) := (by rw [cell_of hp3.frame.h0, has_at D hw0 hw1]); have f1 := unfrozen_of hp3.frame.h0 who.toNat; clear hp3))
              all_goals
                have hnn := Hp.out.nodup
                have fin := H3.out.setF (i := who.toNat) (kI (of D who - takeN D who (A k 2)))
                rw [has_set D (takeD D who (A k 2)) hw0 hw1 (take_of D who (A k 2) hnn hv.1) (fun j hj => take_other D who (A k 2) j hnn hj)] at fin
                have fin2 : KeepsI b g rm W (w3.setCell ⟨g, who.toNat, none⟩ (kI (of D who - takeN D who (A k 2)))) :=
                  ⟨_, _, fin, fun q hq => (take_mem hq).elim (fun e => by rw [e]; exact ⟨hw0, hw1⟩) (fun h => Hi.out.1 q h), by omega⟩
                rw [IntKind.wrap_i64, show (of D who - takeN D who (A k 2) + 9223372036854775808) % 18446744073709551616 - 9223372036854775808 = of D who - takeN D who (A k 2) from by omega]
                have Fin := Lib.hid fin2
                clear fin fin2 hnn
                go_wp2_with fail
                go_meet
                exact Fin.out
          case rest =>
            clear Hp Hi c0
            obtain ⟨D, s, hp, hi⟩ := hcut
            have Hp := Lib.hid hp
            have Hi := Lib.hid hi
            have hi2 := hi.2
            have hsb := hp.1.2.2
            have h0 := of_bd hp.1 0
            have h1 := of_bd hp.1 1
            have h2 := of_bd hp.1 2
            have h3 := of_bd hp.1 3
            clear hp hi
            go_wp2_with fail
            have hI1 : PurseIs b D s (.blk g (.cells (hasArr D) 3) :: allOf W) wc := Hp.out
            go_loopw [10, 11] (fun sm j wx => ∃ n : Nat, n ≤ 4 ∧ j = .int .i64 n ∧ sm = .int .i64 (pre D n) ∧ PurseIs b D s (.blk g (.cells (hasArr D) 3) :: allOf W) wx) (fun _ j _ => 4 - (intOf j).toNat)
            case atStart => exact ⟨0, by omega, rfl, rfl, hI1⟩
            case round =>
              obtain ⟨n, hn, rfl, rfl, hp⟩ := hrel
              by_cases hlt : n < 4
              · have hq := of_bd hp.1 n
                have hpr := pre_bd hp.1 n hn
                have hpr1 : pre D n ≤ 4 * 1000 := by
                  have : (n : Int) * s ≤ 4 * s := Int.mul_le_mul_of_nonneg_right (by omega) (by omega)
                  omega
                have d0 : wr.cell? ⟨g, n, none⟩ = some (kI (of D n)) := by
                  have := has_at D (who := (n : Int)) (by omega) (by omega)
                  rw [cell_of hp.frame.h0]; simpa using this
                have Hp2 := Lib.hid hp
                have hpr0 := hpr.1
                clear hp hpr
                go_upto_region 19 with (fail)
                go_quiet ((go_at_call 16; exact Calls.quiet_of_same (of_q b D s _ n _ (Hp2.out.drewN _))))
                go_wp2_with fail
                go_roundw
                case rel => exact ⟨n + 1, by omega, by go_num, rfl, Hp2.out.drewN _⟩
                case measure => simp [intOf]; omega
              · obtain rfl : n = 4 := by omega
                have e4 := pre_four hp.1 hp.nodup Hi.out.1
                rw [e4]
                have Hp2 := Lib.hid hp
                have E4 := Lib.hid e4
                clear hp e4 hlt
                go_wp2_with (go_at_call 17; refine (sum_any b D s _ _ Hp2.out).mono ?_; rintro e w4 ⟨rfl, rfl⟩)
                go_roundw
                case rel => exact ⟨k + 1, by omega, by omega, by go_num, D, s, Hp2.out, Hi.out⟩
                case measure => simp [intOf]; omega
    · obtain ⟨D, s, hp, hi⟩ := hI
      have Hf := Lib.hid hp.frame.tail.below
      clear hp hi
      have hx : ¬ (k < len) ∨ ¬ (k < 200) := by omega
      clear hlt
      rcases hx with hx | hx
      · go_wp2_with fail
        go_ret
        exact ⟨rfl, Hf.out⟩
      · by_cases hy : k < len
        · go_wp2_with fail
          go_ret
          exact ⟨rfl, Hf.out⟩
        · go_wp2_with fail
          go_ret
          exact ⟨rfl, Hf.out⟩
end Go.Proofs.Ytbjomkbiljpjmaa
