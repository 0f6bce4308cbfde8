/- Without a transaction every call is followed at once: LatchIdle walked. Conditions: none. -/
import Derived.Test.YtcndmiepbodpnaaLatch5
import Derived.Test.YtcndmiepbodpnaaArgs16
namespace Go.Proofs.Ytcndmiepbodpnaa
open Go Go.MapKept Go.RowKit Go.Proofs

section
variable {b : Nat} {D : Lks} {F : Heaplet} {w : World}
theorem LatchIs.new (h : LatchIs b D F w) (o : Obj) : LatchIs b D (.blk w.heap.size o :: F) (w.alloc o) := by
  obtain ⟨m, L, e, h⟩ := h
  exact ⟨m, L, e, h.new o⟩
theorem LatchIs.weaken {E F' : Heaplet} (h : LatchIs b D F w) (p : F.Perm (E ++ F')) : LatchIs b D F' w := by
  obtain ⟨m, L, e, h⟩ := h
  exact ⟨m, L, e, h.weaken p⟩
theorem LatchIs.unF {x : HItem} (h : LatchIs b D (x :: F) w) : LatchIs b D F w := h.weaken (E := [x]) (List.Perm.refl _)
theorem LatchIs.mono {w' : World} (h : LatchIs b D F w) (hb : Below w.heap.size w w') : LatchIs b D F w' := by
  obtain ⟨m, L, e, h⟩ := h
  exact ⟨m, L, e, h.mono hb⟩
theorem LatchIs.nodup (h : LatchIs b D F w) : (D.map (·.1)).Nodup := by
  obtain ⟨m, L, rfl, h⟩ := h
  rw [bare_keys]; exact h.nodup
end
theorem mem_put {V : Type} {p : Int} {v : V} : ∀ {D : List (Int × V)} {q : Int × V}, q ∈ putL p v D → q = (p, v) ∨ q ∈ D
  | [], q, h => by simp [putL] at h; exact .inl h
  | r :: D, q, h => by
    by_cases e : r.1 = p
    · simp only [putL, e, if_true] at h
      cases h with
      | head => exact .inl rfl
      | tail _ h => exact .inr (.tail _ h)
    · simp only [putL, e, if_false] at h
      cases h with
      | head => exact .inr (.head _)
      | tail _ h => exact (mem_put h).imp id (.tail _)
theorem mem_del {V : Type} {p : Int} {D : List (Int × V)} {q : Int × V} (h : q ∈ delL p D) : q ∈ D := (sub_delL p D).subset h
theorem len_put {V : Type} (p : Int) (v : V) (D : List (Int × V)) : (putL p v D).length ≤ D.length + 1 := by
  rw [length_putL]; split <;> omega
theorem len_del {V : Type} (p : Int) (D : List (Int × V)) : (delL p D).length ≤ D.length := (sub_delL p D).length_le
/-- No lock is needed, no call waits; the pages are ints; how many there are. -/
def IdleI (D : Lks) (n : Nat) : Prop := (∀ q ∈ D, q.2.used = 0 ∧ q.2.wait = 0 ∧ -9223372036854775808 ≤ q.1 ∧ q.1 ≤ 9223372036854775807) ∧ D.length ≤ n
theorem IdleI.grant {D : Lks} {n : Nat} (h : IdleI D n) {p : Int} (x : Bool) (h0 : -9223372036854775808 ≤ p) (h1 : p ≤ 9223372036854775807) : IdleI (grantM D p x) (n + 1) := by
  unfold grantM
  refine ⟨fun q hq => ?_, ?_⟩
  · rcases mem_put hq with rfl | hq
    · cases hk : getL p D with
      | none => exact ⟨rfl, rfl, h0, h1⟩
      | some k =>
        have := h.1 _ (getL_mem hk)
        exact ⟨this.1, this.2.1, h0, h1⟩
    · exact h.1 q hq
  · have := h.2
    exact Nat.le_trans (len_put _ _ _) (by omega)
theorem idle_call {D : Lks} {n : Nat} (h : IdleI D n) (hn : (D.map (·.1)).Nodup) (p : Int) (a : Bool) :
    IdleI (callM D p a).2 n ∧ hasM (callM D p a).2 p true = false ∧
    ((hasM D p false = false ∧ hasM D p true = false ∧ (callM D p a).1 = 0 ∧ hasM (callM D p a).2 p false = false) ∨
     (hasM D p false = true ∧ hasM D p true = false ∧ a = true ∧ (callM D p a).1 = 1 ∧ hasM (callM D p a).2 p false = false) ∨
     (hasM D p false = true ∧ hasM D p true = false ∧ a = false ∧ (callM D p a).1 = 0 ∧ hasM (callM D p a).2 p false = true) ∨
     (hasM D p false = true ∧ hasM D p true = true ∧ a = true ∧ (callM D p a).1 = 1 ∧ hasM (callM D p a).2 p false = false) ∨
     (hasM D p false = true ∧ hasM D p true = true ∧ a = false ∧ (callM D p a).1 = 2 ∧ hasM (callM D p a).2 p false = true)) := by
  unfold callM
  cases hk : getL p D with
  | none =>
    refine ⟨h, ?_, .inl ⟨?_, ?_, rfl, ?_⟩⟩ <;> simp [hasM, hk]
  | some k =>
    have hi := h.1 _ (getL_mem hk)
    obtain ⟨kx, ku, kw⟩ := k
    obtain ⟨rfl, rfl, hb⟩ := hi
    have hdel : IdleI (delL p D) n := ⟨fun q hq => h.1 q (mem_del hq), Nat.le_trans (len_del p D) h.2⟩
    have hdn : getL p (delL p D) = none := by rw [getL_delL p p D hn, if_pos rfl]
    have hput : IdleI (putL p ⟨false, 0, 0⟩ D) n := by
      refine ⟨fun q hq => ?_, ?_⟩
      · rcases mem_put hq with rfl | hq
        · exact ⟨rfl, rfl, hb⟩
        · exact h.1 q hq
      · rw [length_putL, hk]; exact h.2
    have hpn : getL p (putL p (⟨false, 0, 0⟩ : Lk) D) = some ⟨false, 0, 0⟩ := by rw [getL_putL, if_pos rfl]
    cases a <;> cases kx
    · refine ⟨by simpa using h, by simp [hasM, hk], .inr (.inr (.inl ⟨by simp [hasM, hk], by simp [hasM, hk], rfl, by simp, by simp [hasM, hk]⟩))⟩
    · refine ⟨by simpa using hput, by simp [hasM, hpn], .inr (.inr (.inr (.inr ⟨by simp [hasM, hk], by simp [hasM, hk], rfl, by simp, by simp [hasM, hpn]⟩)))⟩
    · refine ⟨by simpa using hdel, by simp [hasM, hdn], .inr (.inl ⟨by simp [hasM, hk], by simp [hasM, hk], rfl, by simp, by simp [hasM, hdn]⟩)⟩
    · refine ⟨by simpa using hdel, by simp [hasM, hdn], .inr (.inr (.inr (.inl ⟨by simp [hasM, hk], by simp [hasM, hk], rfl, by simp, by simp [hasM, hdn]⟩)))⟩
theorem idle_end {D : Lks} {n : Nat} (h : IdleI D n) : (endM D).1 = [] := by
  unfold endM letS
  rw [List.filterMap_eq_nil_iff]
  intro p hp
  cases hk : getL p D with
  | none => rfl
  | some k =>
    have := h.1 _ (getL_mem hk)
    have h0 : k.wait = 0 := this.2.1
    simp [letK, h0]
set_option maxRecDepth 100000 in
set_option maxHeartbeats 4000000 in
theorem idle_walk (p : Option Addr) (len cap : Nat) (V0 V1 : Nat → Int) (V2 : Nat → Bool) (W : World) (ha : Acts16 W p len V0 V1 V2) :
    Calls Try.prog 3 #[.slice p len cap] W fun e W' => e = .returned (.bool true) ∧ Below W.heap.size W W' := by
  have Ha := Lib.hid ha
  have hlen := ha.1
  clear ha
  go_enter Try.func3, Try.ntmps3
  go_wp2_with fail
  refine (awake16 (allOf W) W (sat_all W)).mono ?_
  rintro e w0 ⟨rfl, hs⟩
  go_wp2_with fail
  refine (latch_new (allOf W) w0 hs).mono ?_
  rintro e w1 ⟨b, rfl, h1⟩
  have HL := Lib.hid h1
  clear hs h1
  go_wp2_with fail
  go_loopw [4] (fun v4 wr => ∃ (k : Nat) (D : Lks), k ≤ len ∧ k ≤ 200 ∧ v4 = .int .i64 k ∧ IdleI D k ∧ LatchIs b D (allOf W) wr) (fun v4 _ => 200 - (RowKit.intOf v4).toNat)
  case atStart => exact ⟨0, [], by omega, by omega, rfl, ⟨by simp, by simp⟩, HL.out⟩
  case round =>
    obtain ⟨k, D, hk1, hk2, rfl, hI, hL⟩ := hrel
    clear HL
    by_cases hlt : k < len ∧ k < 200
    · obtain ⟨hlt1, hlt2⟩ := hlt
      obtain ⟨ba, off, rfl, hba, ⟨hA, _, _⟩, ⟨hB, hB0, hB1⟩, hC⟩ := (Ha.out).2 k hlt1
      have hs := hL.frame
      have c0 : wr.cell? ⟨ba, off + k * 3, none⟩ = some (kI (V0 k)) := (hs.cellOld (a := ⟨ba, off + k * 3, none⟩) hba).trans hA
      have c1 : wr.cell? ⟨ba, off + k * 3 + 1, none⟩ = some (kI (V1 k)) := (hs.cellOld (a := ⟨ba, off + k * 3 + 1, none⟩) hba).trans hB
      have c2 : wr.cell? ⟨ba, off + k * 3 + 2, none⟩ = some (.bool (V2 k)) := (hs.cellOld (a := ⟨ba, off + k * 3 + 2, none⟩) hba).trans hC
      have hn := hL.new (.cells #[kI (V0 k), kI (V1 k), .bool (V2 k)] 27)
      have HN := Lib.hid hn
      have HI := Lib.hid hI
      have HND := Lib.hid hL.nodup
      have j0 : (0 : Int) ≤ (k : Int) := by omega
      clear hA hB hC hs hn hL hI
      generalize V0 k = kind at *
      generalize V1 k = page at *
      generalize V2 k = xx at *
      by_cases hk : kind = 1
      · have hb : (kind == 1) = true := by simpa using hk
        clear hk
        go_wp2_with fail
        refine (grant_any b D _ page xx _ HN.out).mono ?_
        rintro e w5 ⟨rfl, h5⟩
        have H5 := Lib.hid h5.unF
        clear h5 c0 c1 c2
        go_wp2_with fail
        exact ⟨⟨k + 1, _, by omega, by omega, by simp, HI.out.grant xx hB0 hB1, H5.out⟩, by simp only [RowKit.intOf]; omega⟩
      · have hb : (kind == 1) = false := by simpa using hk
        clear hk
        obtain ⟨i1, i2, i3⟩ := idle_call HI.out HND.out page xx
        have hh1 := has_any b D _ page false _ HN.out
        have hh2 := has_any b D _ page true _ HN.out
        have hc := call_any b D _ page xx _ HN.out
        generalize callM D page xx = r at *
        generalize hasM D page false = had at *
        generalize hasM D page true = hadX at *
        obtain ⟨ra, D'⟩ := r
        simp only at i1 i2 i3 hc
        have I1 := Lib.hid i1
        have I2 := Lib.hid i2
        have HH1 := Lib.hid hh1
        have HH2 := Lib.hid hh2
        have HC := Lib.hid hc
        clear i1 i2 hh1 hh2 hc
        have hx2 : xx = true ∨ xx = false := by cases xx <;> simp
        rcases i3 with ⟨rfl, rfl, rfl, q⟩ | ⟨rfl, rfl, rfl, rfl, q⟩ | ⟨rfl, rfl, rfl, rfl, q⟩ | ⟨rfl, rfl, rfl, rfl, q⟩ | ⟨rfl, rfl, rfl, rfl, q⟩
        all_goals
          have Q := Lib.hid q
          clear q
        rcases hx2 with rfl | rfl
        all_goals
          go_wp2_with fail
          refine (HH1.out).mono ?_
          rintro e w5 ⟨rfl, rfl⟩
          go_wp2_with fail
          refine (HH2.out).mono ?_
          rintro e w5 ⟨rfl, rfl⟩
          go_wp2_with fail
          refine (HC.out).mono ?_
          rintro e w5 ⟨rfl, h5⟩
          have d1 : w5.cell? ⟨wr.heap.size, 1, none⟩ = some (kI page) := by rw [cell_of h5.frame.h0]; rfl
          first
            | have d2 : w5.cell? ⟨wr.heap.size, 2, none⟩ = some (.bool true) := by rw [cell_of h5.frame.h0]; rfl
            | have d2 : w5.cell? ⟨wr.heap.size, 2, none⟩ = some (.bool false) := by rw [cell_of h5.frame.h0]; rfl
          have H5 := Lib.hid h5
          have H5' := Lib.hid h5.unF
          clear h5 c0 c1 c2
          go_wp2_with fail
          refine (has_any b D' _ page _ w5 H5.out).mono ?_
          rintro e w6 ⟨rfl, rfl⟩
          first | rw [Q.out] | rw [I2.out]
          go_wp2_with fail
          refine (has_any b D' _ page _ w5 H5.out).mono ?_
          rintro e w6 ⟨rfl, rfl⟩
          first | rw [Q.out] | rw [I2.out]
          go_wp2_with fail
          exact ⟨⟨k + 1, D', by omega, by omega, by simp, ⟨I1.out.1, Nat.le_succ_of_le I1.out.2⟩, H5'.out⟩, by simp only [RowKit.intOf]; omega⟩
    · have hd : ¬ k < len ∨ ¬ k < 200 := by omega
      have he := end_any b D _ wr hL (fun q hq => (hI.1 q hq).2.2) (by have := hI.2; omega)
      rw [idle_end hI] at he
      have HE := Lib.hid he
      clear he hI hL hlt
      by_cases hlt1 : k < len
      all_goals
        go_wp2_with fail
        refine (HE.out).mono ?_
        rintro e w5 ⟨v, hh, rfl, hsl, h5⟩
        obtain ⟨a, ca, rfl⟩ := slice_form hsl
        have H5 := Lib.hid h5.frame.right.below
        simp only [List.length_nil]
        clear hsl h5
        go_wp2_with fail
        go_ret
        exact ⟨rfl, H5.out⟩
end Go.Proofs.Ytcndmiepbodpnaa
