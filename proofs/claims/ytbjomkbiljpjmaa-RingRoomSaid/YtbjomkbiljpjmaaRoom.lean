/- RingRoom: as long as there is room nothing leaves; the next one makes one leave that isn't pinned. -/
import Derived.Test.YtbjomkbiljpjmaaSecond
namespace Go.Proofs.Ytbjomkbiljpjmaa
open Go Go.MapKept Go.RowKit Go.Proofs

/-! ### the model -/
/-- n frames hold the keys 0 .. n-1, in order; those below p are pinned once, the others not. -/
def Row (n p : Nat) (fr : Frs Int) : Prop := fr.length = n ∧ ∀ j, j < n → ∃ f, fr[j]? = some (some f) ∧ f.key = (j : Int) ∧ f.pins = if j < p then 1 else 0
theorem Row.full {n p : Nat} {fr : Frs Int} (h : Row n p fr) : AllFull fr := fun j hj => by
  obtain ⟨f, hf, _⟩ := h.2 j (by rw [← h.1]; exact hj)
  exact ⟨f, hf⟩
theorem Row.key {n p j : Nat} {fr : Frs Int} {f : Fr Int} (h : Row n p fr) (hf : fr[j]? = some (some f)) : f.key = (j : Int) ∧ f.pins = if j < p then 1 else 0 := by
  have hl := (List.getElem?_eq_some_iff.1 hf).1
  obtain ⟨g, hg, h1, h2⟩ := h.2 j (by rw [← h.1]; exact hl)
  rw [hf] at hg
  simp only [Option.some.injEq] at hg
  subst hg
  exact ⟨h1, h2⟩
theorem Row.find {n p j : Nat} {fr : Frs Int} (h : Row n p fr) (hj : j < n) : ∃ f, findF fr (j : Int) = some (j, f) ∧ fr[j]? = some (some f) ∧ f.key = (j : Int) ∧ f.pins = if j < p then 1 else 0 := by
  obtain ⟨f, hf, h1, h2⟩ := h.2 j hj
  cases e : findF fr (j : Int) with
  | none =>
    have := findF_present hf
    rw [h1, e] at this
    cases this
  | some x =>
    obtain ⟨i, g⟩ := x
    obtain ⟨_, g2, g3⟩ := findF_some e
    have := (h.key g2).1
    rw [g3] at this
    obtain rfl : j = i := by omega
    exact ⟨g, rfl, g2, g3, (h.key g2).2⟩
theorem Row.absent {n p : Nat} {fr : Frs Int} (h : Row n p fr) {k : Int} (hk : (n : Int) ≤ k) : findF fr k = none := findF_absent fun j f hf => by
  have hl := (List.getElem?_eq_some_iff.1 hf).1
  rw [h.1] at hl
  rw [(h.key hf).1]
  omega
theorem Row.set {n p p' i : Nat} {fr : Frs Int} (h : Row n p fr) (hi : i < n) {f' : Fr Int} (hk : f'.key = (i : Int)) (hp : f'.pins = if i < p' then 1 else 0) (hpp : ∀ j, j ≠ i → (j < p' ↔ j < p)) : Row n p' (fr.set i (some f')) := by
  refine ⟨by simp [h.1], fun j hj => ?_⟩
  rw [List.getElem?_set]
  by_cases e : i = j
  · subst e
    exact ⟨f', by simp [h.1, hj], hk, hp⟩
  · obtain ⟨f, hf, h1, h2⟩ := h.2 j hj
    refine ⟨f, by simp [e, hf], h1, ?_⟩
    rw [h2]
    have := hpp j (fun q => e q.symm)
    by_cases hx : j < p
    · simp [hx, this.2 hx]
    · have : ¬ j < p' := fun hy => hx (this.1 hy)
      simp [hx, this]
theorem done_row (n : Nat) : Row n 0 (doneI n 0) := by
  refine ⟨doneI_len n 0, fun j hj => ⟨_, by rw [doneI_get, if_pos hj], rfl, by simp⟩⟩
theorem Row.again {n : Nat} {fr : Frs Int} (h : Row n 0 fr) {k : Nat} (hk : k < n) (hand : Nat) (v : Int) : ∃ fr', putM fr hand (k : Int) v = ((none, true), fr', hand) ∧ Row n 0 fr' := by
  obtain ⟨f, h1, h2, h3, h4⟩ := h.find hk
  exact ⟨_, by simp only [putM, h1], h.set hk (f' := { f with val := v, fresh := true }) h3 h4 (fun _ _ => Iff.rfl)⟩
theorem Row.pin {n i : Nat} {fr : Frs Int} (h : Row n i fr) (hi : i < n) : ∃ fr', pinM fr (i : Int) = (true, fr') ∧ Row n (i + 1) fr' := by
  obtain ⟨f, h1, h2, h3, h4⟩ := h.find hi
  refine ⟨_, by simp only [pinM, h1], h.set hi (f' := { f with pins := f.pins + 1 }) h3 ?_ ?_⟩
  · simp [h4]
  · intro j hj; omega
theorem Row.pins {n p i : Nat} {fr : Frs Int} (h : Row n p fr) (hi : i < n) : RI.pinsM fr (i : Int) = if i < p then 1 else 0 := by
  obtain ⟨f, h1, h2, h3, h4⟩ := h.find hi
  simp [RI.pinsM, h1, h4]
theorem Row.le {n p : Nat} {fr : Frs Int} (h : Row n p fr) : RI.PinsLe fr 1 := fun i f hf => by
  rw [(h.key hf).2]
  split <;> omega
theorem fullK_full {X : Type} : ∀ {fr : Frs X}, AllFull fr → fullK (keysOf fr) = fr.length
  | [], _ => rfl
  | o :: r, h => by
    obtain ⟨f, h0⟩ := h 0 (by simp)
    simp only [List.getElem?_cons_zero, Option.some.injEq] at h0
    subst h0
    have := fullK_full (fr := r) (fun j hj => by simpa using h (j + 1) (by simpa using hj))
    simp only [fullK, keysOf] at this ⊢
    simp [this]
theorem Row.pinned {n : Nat} {fr : Frs Int} (h : Row n n fr) : pinnedM fr = true := by
  cases e : pinnedM fr with
  | true => rfl
  | false =>
    obtain ⟨i, hi, _, hor⟩ := pinnedM_false e
    rw [h.1] at hi
    obtain ⟨f, hf, _, h2⟩ := h.2 i hi
    rcases hor with h1 | ⟨g, h1, h3⟩
    · rw [hf] at h1; simp at h1
    · rw [hf] at h1
      simp only [Option.some.injEq] at h1
      subst h1
      rw [h2] at h3
      simp [hi] at h3
theorem Row.out_full {n : Nat} {fr : Frs Int} (h : Row n n fr) (hn : n ≤ 64) (hand : Nat) : putM fr hand 1000 0 = ((none, false), fr, hand) := by
  simp only [putM, h.absent (k := 1000) (by omega), vacM_full h.full, h.pinned]
  rfl
theorem Row.out_one {n p hand : Nat} {fr : Frs Int} (h : Row n p fr) (hp : p < n) (hn : n ≤ 64) (hh : hand < n) :
    ∃ (a : Nat) (g : Fr Int) (fr' : Frs Int) (h' : Nat), putM fr hand 1000 0 = ((some g, true), fr', h') ∧ g.key = (a : Int) ∧ p ≤ a ∧ a < n ∧ getM fr' g.key = (none, fr') ∧ fullK (keysOf fr') = n ∧ RI.pinsM fr' 1000 = 0 := by
  have hv := vacM_full h.full
  have hpin : pinnedM fr = false := by
    obtain ⟨f, hf, _, h2⟩ := h.2 p hp
    exact pinnedM_of hf (by rw [h2]; simp)
  obtain ⟨⟨a, g, fr', h'⟩, hr⟩ := freeM_some hv hpin (by rw [h.1]; exact hh)
  obtain ⟨s1, s2, s3, _, _⟩ := freeM_spec _ _ _ _ _ _ _ hr
  have hl' : fr'.length = n := by rw [strips_len s1, h.1]
  have hal : a < n := by rw [← hl']; exact (List.getElem?_eq_some_iff.1 s2).1
  have hkey : ∀ (j : Nat) (f : Fr Int), fr'[j]? = some (some f) → f.key = (j : Int) ∧ f.pins = if j < p then 1 else 0 := by
    intro j f hf
    obtain ⟨g0, e1, e2⟩ := strips_get s1 hf
    simp only [strip, Prod.mk.injEq] at e2
    have := h.key e1
    exact ⟨e2.1 ▸ this.1, e2.2.2 ▸ this.2⟩
  have hga := hkey a g s2
  have hpa : p ≤ a := by
    rw [beq_iff_eq] at s3
    rw [hga.2] at s3
    split at s3 <;> omega
  have hfull : AllFull (fr'.set a (some (⟨1000, 0, 0, true⟩ : Fr Int))) := by
    refine AllFull.set (fun j hj => ?_) _ _
    obtain ⟨f, hf⟩ := h.full j (by rw [← strips_len s1]; exact hj)
    cases hx : fr'[j]? with
    | none => rw [List.getElem?_eq_none_iff] at hx; omega
    | some o =>
      cases o with
      | some f' => exact ⟨f', rfl⟩
      | none =>
        have := congrArg (fun l => l[j]?) s1
        simp [strips, hx, hf] at this
  refine ⟨a, g, fr'.set a (some ⟨1000, 0, 0, true⟩), h', ?_, hga.1, hpa, hal, ?_, ?_, ?_⟩
  · simp only [putM, h.absent (k := 1000) (by omega), hv, hpin, hr]
    rfl
  · have : findF (fr'.set a (some (⟨1000, 0, 0, true⟩ : Fr Int))) g.key = none := findF_absent fun j f hf => by
      rw [List.getElem?_set] at hf
      by_cases e : a = j
      · subst e
        simp [hl', hal] at hf
        subst hf
        rw [hga.1]; simp; omega
      · simp only [e, if_false] at hf
        rw [(hkey j f hf).1, hga.1]; omega
    simp [getM, this]
  · rw [fullK_full hfull, List.length_set, hl']
  · have hget : (fr'.set a (some (⟨1000, 0, 0, true⟩ : Fr Int)))[a]? = some (some ⟨1000, 0, 0, true⟩) := by simp [hl', hal]
    unfold RI.pinsM
    cases e : findF (fr'.set a (some (⟨1000, 0, 0, true⟩ : Fr Int))) 1000 with
    | none => rfl
    | some x =>
      obtain ⟨i, f⟩ := x
      obtain ⟨_, g2, g3⟩ := findF_some e
      rw [List.getElem?_set] at g2
      by_cases ea : a = i
      · subst ea
        simp [hl', hal] at g2
        subst g2; rfl
      · simp only [ea, if_false] at g2
        have hl := (List.getElem?_eq_some_iff.1 g2).1
        have := (hkey i f g2).1
        rw [g3] at this
        omega

def RoomI (rb n p : Nat) (W w : World) : Prop := ∃ fr hand, Row n p fr ∧ RI.RingIs rb fr hand (allOf W) w
set_option maxRecDepth 100000 in
set_option maxHeartbeats 3200000 in
theorem room_walk (p : Option Addr) (len cap : Nat) (A : Nat → Int) (frames pinned : Int) (W : World) (ha : IntSlice W p len A) (_ : -9223372036854775808 ≤ frames) (_ : frames ≤ 9223372036854775807) (_ : -9223372036854775808 ≤ pinned) (_ : pinned ≤ 9223372036854775807) :
    Calls Try.prog 6 #[.slice p len cap, .int .i64 frames, .int .i64 pinned] W (Ret (.bool true) (RowKit.Below W.heap.size W)) := by
  obtain ⟨m, hm, hm0, hm1⟩ : ∃ m, wrap64 ((IntKind.u64.wrap frames).tmod 64) = m ∧ 0 ≤ m ∧ m < 64 := ⟨_, rfl, umod_bd frames 64 (by omega) (by omega)⟩
  obtain ⟨n, hn⟩ : ∃ n : Nat, (n : Int) = 1 + m := ⟨(1 + m).toNat, by omega⟩
  have hn3 : 1 ≤ n := by omega
  have hn62 : n ≤ 64 := by omega
  have hN := Lib.hid hn
  have Ha := Lib.hid ha
  have hlen := ha.1
  clear hn ha
  go_enter Try.func6, Try.ntmps6
  go_wp2_with fail
  refine (awake9 _ _ (sat_all W)).mono ?_
  rintro e w1 ⟨rfl, hs1⟩
  have hnew := RI.new_any _ (1 + m) w1 hs1
  rw [← hN.out, show (min (max (n : Int) 1) 64).toNat = n from by omega, ← fillI_zero] at hnew
  have Hnew := Lib.hid hnew
  clear hnew hs1
  go_upto_region 4 with (fail)
  rw [hm, ← hN.out]
  clear hm hN hm0 hm1
  go_wp2_with fail
  refine (Hnew.out).mono ?_
  rintro e w2 ⟨rb, rfl, h2⟩
  clear Hnew
  have hI : RI.RingIs rb (fillI n 0) 0 (allOf W) w2 := h2
  clear h2
  go_wp2_with fail
  go_loopw [8] (fun c wr => ∃ i : Nat, i ≤ n ∧ c = .int .i64 i ∧ RI.RingIs rb (fillI n i) 0 (allOf W) wr) (fun c _ => 100 - (intOf c).toNat)
  case atStart => exact ⟨0, by omega, rfl, hI⟩
  case round =>
    obtain ⟨i, hi, rfl, hI⟩ := hrel
    by_cases hlt : i < n
    · have hp := RI.put_any rb _ _ _ _ hI i i
      rw [fillI_put n i hlt] at hp
      have Hp := Lib.hid hp
      clear hI hp
      go_wp2_with fail
      refine (Hp.out).mono ?_
      rintro e w3 ⟨rfl, h3⟩
      simp only [RI.outV]
      have Fin := Lib.hid (h3.new (.cells #[.int .i64 0, .int .i64 0, .bool false] 39)).unF
      clear h3
      go_wp2_with fail
      go_roundw
      case rel => exact ⟨i + 1, by omega, by go_num, Fin.out⟩
      case measure => simp [intOf]; omega
    · obtain rfl : i = n := by omega
      have hI2 : RoomI rb i 0 W wr := ⟨doneI i 0, 0, done_row i, by rw [← fillI_full]; exact hI⟩
      clear hI hlt
      go_wp2_with fail
      go_loopw [11] (fun c wr => ∃ k : Nat, k ≤ len ∧ k ≤ 64 ∧ c = .int .i64 k ∧ RoomI rb i 0 W wr) (fun c _ => 100 - (intOf c).toNat)
      case atStart => exact ⟨0, by omega, by omega, rfl, hI2⟩
      case round =>
        obtain ⟨k, hk1, hk2, rfl, hI3⟩ := hrel
        by_cases hlt : k < len ∧ k < 64
        · obtain ⟨hl1, hl2⟩ := hlt
          obtain ⟨ba, off, rfl, hba, hA, _, _⟩ := (Ha.out).2 k hl1
          obtain ⟨fr, hand, hrow, hring⟩ := hI3
          have c0 := (hring.frame.cellOld (a := ⟨ba, off + k, none⟩) hba).trans hA
          obtain ⟨q, hq, hq0, hq1⟩ : ∃ q, wrap64 ((IntKind.u64.wrap (A k)).tmod (i : Int)) = q ∧ 0 ≤ q ∧ q < (i : Int) := ⟨_, rfl, umod_bd (A k) i (by omega) (by omega)⟩
          obtain ⟨x, hx⟩ : ∃ x : Nat, (x : Int) = q := ⟨q.toNat, by omega⟩
          obtain ⟨fr', hput, hrow'⟩ := hrow.again (k := x) (by omega) hand (-(x : Int))
          have hp := RI.put_any rb _ _ _ _ hring x (-(x : Int))
          rw [hput] at hp
          have Hp := Lib.hid hp
          have HR' := Lib.hid hrow'
          have HX := Lib.hid hx
          have hx0 : x < i := by omega
          clear hA hrow hring hput hrow' hp hx hq0 hq1
          go_upto_region 15 with (fail)
          rw [hq, ← HX.out]
          clear hq HX
          go_wp2_with fail
          refine (Hp.out).mono ?_
          rintro e w3 ⟨rfl, h3⟩
          simp only [RI.outV]
          have h4 := (h3.new (.cells #[.int .i64 0, .int .i64 0, .bool false] 39)).unF
          have hl := RI.len_any rb _ _ _ _ h4
          rw [fullK_full HR'.out.full, HR'.out.1] at hl
          have Hl := Lib.hid hl
          have H4 := Lib.hid h4
          clear h3 hl h4
          go_wp2_with fail
          refine (Hl.out).mono ?_
          rintro e w4 ⟨rfl, rfl⟩
          go_wp2_with fail
          go_roundw
          case rel => exact ⟨k + 1, by omega, by omega, by go_num, fr', hand, HR'.out, H4.out⟩
          case measure => simp [intOf]; omega
        · obtain ⟨m, hm, hm0, hm1⟩ : ∃ m, wrap64 ((IntKind.u64.wrap pinned).tmod ((i : Int) + 1)) = m ∧ 0 ≤ m ∧ m < (i : Int) + 1 := ⟨_, rfl, umod_bd pinned ((i : Int) + 1) (by omega) (by omega)⟩
          obtain ⟨pn, hpn⟩ : ∃ pn : Nat, (pn : Int) = m := ⟨m.toNat, by omega⟩
          have hpn1 : pn ≤ i := by omega
          have HPN := Lib.hid hpn
          have hx : ¬ (k < len) ∨ (k < len ∧ ¬ (k < 64)) := by omega
          clear hpn hlt hm0 hm1
          rcases hx with hx | ⟨hx1, hx⟩
          all_goals
            go_upto_region 19 with (fail)
            rw [hm, ← HPN.out]
            clear hm HPN
            go_wp2_with fail
            go_loopw [15] (fun c wr => ∃ j : Nat, j ≤ pn ∧ c = .int .i64 j ∧ RoomI rb i j W wr) (fun c _ => 100 - (intOf c).toNat)
            case atStart => exact ⟨0, by omega, rfl, hI3⟩
            case round =>
              obtain ⟨j, hj, rfl, fr, hand, hrow, hring⟩ := hrel
              by_cases hlt : j < pn
              · obtain ⟨fr', hpin, hrow'⟩ := hrow.pin (i := j) (by omega)
                have hp := RI.pin_any rb _ _ _ _ hring j hrow.le (by omega)
                rw [hpin] at hp
                have Hp := Lib.hid hp
                have HR' := Lib.hid hrow'
                clear hpin hrow hring hp hrow'
                go_wp2_with fail
                refine (Hp.out).mono ?_
                rintro e w3 ⟨rfl, h3⟩
                have hq := RI.pins_any rb _ _ _ _ h3 j
                rw [HR'.out.pins (by omega), if_pos (by omega)] at hq
                have Hq := Lib.hid hq
                have H3 := Lib.hid h3
                clear h3 hq
                go_wp2_with fail
                refine (Hq.out).mono ?_
                rintro e w4 ⟨rfl, rfl⟩
                go_wp2_with fail
                go_roundw
                case rel => exact ⟨j + 1, by omega, by go_num, fr', hand, HR'.out, H3.out⟩
                case measure => simp [intOf]; omega
              · obtain rfl : j = pn := by omega
                clear hI3 hlt
                by_cases hfull : j = i
                · subst hfull
                  have hp := RI.put_any rb _ _ _ _ hring 1000 0
                  rw [hrow.out_full hn62] at hp
                  have Hp := Lib.hid hp
                  have HR := Lib.hid hrow
                  clear hrow hring hp
                  go_wp2_with fail
                  refine (Hp.out).mono ?_
                  rintro e w3 ⟨rfl, h3⟩
                  simp only [RI.outV]
                  have h4 := (h3.new (.cells #[.int .i64 0, .int .i64 0, .bool false] 39)).unF
                  have hl := RI.len_any rb _ _ _ _ h4
                  rw [fullK_full HR.out.full, HR.out.1] at hl
                  have Hl := Lib.hid hl
                  have Fin := Lib.hid h4.frame.below
                  clear h3 h4 hl
                  go_wp2_with fail
                  refine (Hl.out).mono ?_
                  rintro e w4 ⟨rfl, rfl⟩
                  go_wp2_with fail
                  go_ret
                  exact ⟨rfl, Fin.out⟩
                · obtain ⟨a, g, fr', h', hput, hga, hpa, hai, hget, hfull2, hpins⟩ := hrow.out_one (by omega) hn62 (by have := hring.len.2.2; rw [hrow.1] at this; exact this)
                  have hp := RI.put_any rb _ _ _ _ hring 1000 0
                  rw [hput] at hp
                  have Hp := Lib.hid hp
                  have HG := Lib.hid hget
                  have HF := Lib.hid hfull2
                  have HP := Lib.hid hpins
                  have hne : ((j : Int) == (i : Int)) = false := by rw [beq_eq_false_iff_ne]; omega
                  have hk1' : (j : Int) ≤ g.key := by omega
                  have hk2' : g.key < (i : Int) := by omega
                  clear hput hga hget hfull2 hpins hrow hring hp hfull
                  go_wp2_with fail
                  refine (Hp.out).mono ?_
                  rintro e w3 ⟨rfl, h3⟩
                  simp only [RI.outV]
                  have h4 := h3.new (.cells #[.int .i64 g.key, .int .i64 g.val, .bool true] 39)
                  clear h3
                  go_upto_region 27 with (fail)
                  generalize w3.alloc _ = W3 at *
                  generalize w3.heap.size = ob at *
                  have hg := RI.get_any rb _ _ _ _ h4 g.key
                  rw [HG.out] at hg
                  have Hg := Lib.hid hg
                  have hf := h4.frame
                  have c0 : W3.cell? ⟨ob, 0, none⟩ = some (kI g.key) := by rw [cell_of hf.h0]; rfl
                  have c2 : W3.cell? ⟨ob, 2, none⟩ = some (.bool true) := by rw [cell_of hf.h0]; rfl
                  clear hf h4 hg
                  go_wp2_with fail
                  refine (Hg.out).mono ?_
                  rintro e w5 ⟨rfl, h5⟩
                  simp only [RI.valV, Option.isSome_none]
                  have hl := RI.len_any rb _ _ _ _ h5
                  rw [HF.out] at hl
                  have Hl := Lib.hid hl
                  have hq := RI.pins_any rb _ _ _ _ h5 1000
                  rw [HP.out] at hq
                  have Hq := Lib.hid hq
                  have hf := h5.frame
                  have c0' : w5.cell? ⟨ob, 0, none⟩ = some (kI g.key) := by rw [cell_of hf.h0]; rfl
                  have c2' : w5.cell? ⟨ob, 2, none⟩ = some (.bool true) := by rw [cell_of hf.h0]; rfl
                  have Fin := Lib.hid hf.tail.below
                  clear hf h5 hl hq
                  go_wp2_with fail
                  refine (Hl.out).mono ?_
                  rintro e w6 ⟨rfl, rfl⟩
                  go_wp2_with fail
                  refine (Hq.out).mono ?_
                  rintro e w7 ⟨rfl, rfl⟩
                  go_wp2_with fail
                  go_ret
                  exact ⟨rfl, Fin.out⟩
end Go.Proofs.Ytbjomkbiljpjmaa
