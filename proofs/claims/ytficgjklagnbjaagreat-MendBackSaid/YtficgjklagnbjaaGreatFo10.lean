/- Texts put together: Me12, Me13, Later, Me14, Me15. Conditions: none. -/
import Derived.Deep.RegionHeld3
import Derived.Deep.AppendLies
import Derived.Test.YtficgjklagnbjaaGreatFo2
import Derived.Test.YtficgjklagnbjaaGreatFo9
namespace Go.Proofs.YtficgjklagnbjaaGreat
open Go Go.MapKept Go.RowKit Go.Proofs Go.Sort

def hasLsn (n : Int) (y : En) : Bool := y.lsn == n
/-- The next one to be undone, from an entry on. -/
def nextG : Nat → List En → En → En × Bool × Int
  | 0, _, _ => (zeroE, false, 0)
  | f + 1, own, x => if x.kind = 2 then if x.next = 0 then (zeroE, false, 0) else match own.find? (hasLsn x.next) with
      | none => (zeroE, false, 4)
      | some y => if 2 < y.kind then (zeroE, false, 4) else nextG f own y
    else if x.kind = 1 then (x, true, 0) else (zeroE, false, 0)
def nextM (own : List En) : En × Bool × Int := match own.getLast? with
  | none => (zeroE, false, 0)
  | some x => nextG (x.lsn.toNat + 1) own x
theorem find_of {α : Type} {P : α → Bool} {L : List α} {i : Nat} {x : α} (hx : L[i]? = some x) (hp : P x = true) (hno : ∀ k y, k < i → L[k]? = some y → P y = false) : L.find? P = some x := by
  rw [List.find?_eq_some_iff_getElem]
  obtain ⟨hi, e⟩ := List.getElem?_eq_some_iff.1 hx
  exact ⟨hp, i, hi, e, fun j hj => by have := hno j _ hj (List.getElem?_eq_getElem (by omega)); simp [this]⟩
theorem find_no {α : Type} {P : α → Bool} {L : List α} (h : idxF P L < 0) : L.find? P = none := by
  cases hf : L.find? P with
  | none => rfl
  | some x =>
    have h2 := idxF_any P L
    have : L.any P = true := List.any_eq_true.2 ⟨x, List.mem_of_find?_eq_some hf, List.find?_some hf⟩
    rw [this, decide_eq_true_iff] at h2
    omega
theorem good_next {x : En} (h : goodM x = true) (hk : x.kind = 2) : 0 ≤ x.next ∧ x.next < x.lsn := by
  unfold goodM at h
  rw [hk] at h
  unfold headM withinM at h
  simp at h
  omega
def lsnAt (g : Nat) (w : World) : Nat := match w.cell? ⟨g, 4, none⟩ with | some v => (RowKit.intOf v).toNat | none => 0
theorem lsnAt_of {g : Nat} {w : World} {x : En} {F : Heaplet} (s : Sat w (.blk g (eO x) :: F)) : lsnAt g w = x.lsn.toNat := by
  have h4 : w.cell? ⟨g, 4, none⟩ = some (kI x.lsn) := (enAt_of s.h0).2.2.2.2.1
  unfold lsnAt
  rw [h4]; rfl
theorem good_lsn0 {x : En} (h : goodM x = true) : 1 ≤ x.lsn := (goodM_lsn h).1
theorem next_results (tm : Array Value) (W9 : World) (g : Nat) (c : Int) (b : Bool) (y : En) (h1 : (tm[2]?).getD undef = .pointer (some ⟨g, 0, none⟩)) (h2 : (tm[3]?).getD undef = .bool b) (h3 : (tm[4]?).getD undef = .int .i64 c) (h : EnAt W9 g y) :
    (results Tryz.f35 tm).run Tryz.prog W9 = .ok (.tuple #[eV y, .bool b, .int .i64 c]) W9 := by
  obtain ⟨r0, r1, r2, r3, r4, r5, r6, r7, r8, r9, r10, r11, r12⟩ := h
  simp [results, Tryz.results35, go_sem, h1, h2, h3, r0, r1, r2, r3, r4, r5, r6, r7, r8, r9, r10, r11, r12]
set_option maxRecDepth 100000 in
theorem next1_any (y x : En) (cb : Nat) (w : World) (hc : EnAt w cb x) :
    Calls Tryz.prog 67 #[eV y, .pointer (some ⟨cb, 0, none⟩)] w (Ret (.bool (hasLsn x.next y)) (Below w.heap.size w)) := by
  suffices h : Calls Tryz.prog 67 #[eV y, .pointer (some ⟨cb, 0, none⟩)] w (Pur (.bool (hasLsn x.next y)) w) from h.mono (fun e w' => ret_below)
  unfold Pur hasLsn
  obtain ⟨z0, z1, z2, z3, z4, z5, z6, z7, z8, z9, z10, z11, z12⟩ := enAt_new w y
  obtain ⟨_, _, _, _, _, _, _, _, _, _, _, _, c12⟩ := hc.grown (Grown.alloc w (eO y))
  have HG := Lib.hid (Grown.alloc w (eO y))
  go_enter Tryz.func67, Tryz.ntmps67
  go_wp2_with fail
  go_ret
  exact ⟨rfl, HG.out⟩
set_option maxRecDepth 100000 in
set_option maxHeartbeats 4000000 in
theorem next_any {v : Value} {own : List En} {F : Heaplet} {w : World} (hv : EnsIn F v own) (s : Sat w F) (hl : own.length ≤ 100000) (hg : ∀ x ∈ own, goodM x = true) :
    Calls Tryz.prog 35 #[v] w (Ret (.tuple #[eV (nextM own).1, .bool (nextM own).2.1, kI (nextM own).2.2]) (Below w.heap.size w)) := by
  obtain ⟨rx, ri, re, hr⟩ : ∃ rx ri re, nextM own = (rx, ri, re) := ⟨_, _, _, rfl⟩
  rw [hr]
  have HR := Lib.hid hr
  have HGD := Lib.hid hg
  have HV := Lib.hid hv
  have hl9 : (own.length : Int) ≤ 100000 := by omega
  have HOLD : Hid (∀ w', Sat w' (allOf w) → Sat w' F) := Lib.hid (fun w' h => s.monoB (Sat.below h))
  have HFIN : Hid (∀ w', Sat w' (allOf w) → Below w.heap.size w w') := Lib.hid (fun w' h => Sat.below h)
  obtain ⟨AW, hAW⟩ : ∃ AW, allOf w = AW := ⟨_, rfl⟩
  have H0 : Hid (Sat (w.alloc (eO zeroE)) (.blk w.heap.size (eO zeroE) :: AW)) := Lib.hid (by rw [← hAW]; exact (sat_all w).new _)
  rw [hAW] at HOLD HFIN
  obtain ⟨W1, hW1⟩ : ∃ W1, w.alloc (eO zeroE) = W1 := ⟨_, rfl⟩
  rw [hW1] at H0
  have HW1 := Lib.hid hW1
  obtain ⟨PB, hPB⟩ : ∃ PB : World → Prop, Below w.heap.size w = PB := ⟨_, rfl⟩
  rw [hPB] at HFIN ⊢
  have HEND : Hid (∀ (W : World) (x : En), Sat W (.blk w.heap.size (eO x) :: AW) →
      (∀ tm : Array Value, (tm[2]?).getD undef = .pointer (some ⟨w.heap.size, 0, none⟩) → (tm[3]?).getD undef = .bool ri → (tm[4]?).getD undef = .int .i64 re → (results Tryz.f35 tm).run Tryz.prog (put13 W w.heap.size rx) = .ok (.tuple #[eV rx, .bool ri, .int .i64 re]) (put13 W w.heap.size rx)) ∧
      Ret (.tuple #[eV rx, .bool ri, kI re]) PB (.returned (.tuple #[eV rx, .bool ri, .int .i64 re])) (put13 W w.heap.size rx)) := Lib.hid (fun W x hW => by
    have h5 := sat_put13 (y := rx) hW
    exact ⟨fun tm h6 h7 h8 => next_results tm _ _ re ri rx h6 h7 h8 (enAt_of h5.h0), rfl, HFIN.out _ h5.tail⟩)
  obtain ⟨a, cap, rfl, hc⟩ := hv
  have HC := Lib.hid hc
  clear hc s hr hg hAW hPB hW1
  go_enter Tryz.func35, Tryz.ntmps35
  go_upto_region 1 with (fail)
  have hw : w.alloc (.cells #[kI 0, kI 0, kI 0, kI 0, kI 0, kI 0, kI 0, kI 0, .bool false, kS ⟨#[]⟩, .bool false, kS ⟨#[]⟩, kI 0] 58) = W1 := HW1.out
  rw [hw]
  clear hw HW1
  generalize w.heap.size = g at *
  cases hla : own.getLast? with
  | none =>
    have hn : own = [] := List.getLast?_eq_none_iff.1 hla
    subst hn
    have hq : (zeroE, false, (0 : Int)) = (rx, ri, re) := by rw [← HR.out]; rfl
    have h1 : zeroE = rx := congrArg Prod.fst hq
    have h2 : false = ri := congrArg (fun y => y.2.1) hq
    have h3 : 0 = re := congrArg (fun y => y.2.2) hq
    subst h1; subst h2; subst h3
    have HH := Lib.hid (HEND.out _ _ H0.out)
    obtain ⟨z0, z1, z2, z3, z4, z5, z6, z7, z8, z9, z10, z11, z12⟩ := enAt_of H0.out.h0
    have ff := unfrozen_of H0.out.h0
    clear hq hla HR HEND HGD HV HC HOLD HFIN H0
    simp only [List.length_nil]
    go_wp2_with fail
    exact bodyPost_ret (HH.out.1 _ rfl rfl rfl) rfl HH.out.2
  | some x0 =>
    have hne : own ≠ [] := by rintro rfl; simp at hla
    have hlen : 0 < own.length := List.length_pos_iff.2 hne
    have hx0 : own[own.length - 1]? = some x0 := by rw [← List.getLast?_eq_getElem?]; exact hla
    obtain ⟨n, hn⟩ : ∃ n, own.length - 1 = n := ⟨_, rfl⟩
    rw [hn] at hx0
    have hn1 : IntKind.i64.wrap ((own.length : Int) - 1) = (n : Int) := by rw [IntWalk.i64_in _ (by omega)]; omega
    have hn2 : wrap64 ((own.length : Int) - 1) = (n : Int) := by rw [IntWalk.wrap64_in _ (by omega)]; omega
    have hn0 : (0 : Int) ≤ (n : Int) := by omega
    have hn3 : (n : Int) < (own.length : Int) := by omega
    have hz : ((own.length : Int) == 0) = false := by rw [beq_eq_false_iff_ne]; omega
    have hw0 := HOLD.out _ H0.out.tail
    obtain ⟨eg, off, rfl, e0, e1, e2, e3, e4, e5, e6, e7, e8, e9, e10, e11, e12⟩ := HC.out _ hw0 n x0 hx0
    have ff := unfrozen_of H0.out.h0
    obtain ⟨z0, z1, z2, z3, z4, z5, z6, z7, z8, z9, z10, z11, z12⟩ := enAt_of H0.out.h0
    have HIN : Hid (∃ (f : Nat) (x : En), x ∈ own ∧ x.lsn.toNat < f ∧ nextG f own x = (rx, ri, re) ∧ Sat (put13 W1 g x0) (.blk g (eO x) :: AW)) := Lib.hid ⟨x0.lsn.toNat + 1, x0, List.mem_of_getElem? hx0, by omega, by rw [← HR.out]; unfold nextM; rw [hla], sat_put13 H0.out⟩
    clear hla hne hlen hx0 hn hw0 HR H0
    go_wp2_with fail
    clear z0 z1 z2 z3 z4 z5 z6 z7 z8 z9 z10 z11 z12 e0 e1 e2 e3 e4 e5 e6 e7 e8 e9 e10 e11 e12 ff hn1 hn2 hn0 hn3 hz
    go_loopw [] (fun wr => ∃ (f : Nat) (x : En), x ∈ own ∧ x.lsn.toNat < f ∧ nextG f own x = (rx, ri, re) ∧ Sat wr (.blk g (eO x) :: AW)) (fun wr => lsnAt g wr)
    case atStart => exact HIN.out
    case round =>
      clear HIN
      obtain ⟨f, x, hmem, hf, hg, hs⟩ := hrel
      obtain ⟨f', rfl⟩ : ∃ f', f = f' + 1 := ⟨f - 1, by omega⟩
      obtain ⟨z0, z1, z2, z3, z4, z5, z6, z7, z8, z9, z10, z11, z12⟩ := enAt_of hs.h0
      have ff := unfrozen_of hs.h0
      have hgx := HGD.out x hmem
      simp only [nextG] at hg
      have HS := Lib.hid hs
      by_cases k2 : x.kind = 2
      · have hk2 : (x.kind == 2) = true := by rw [k2]; rfl
        rw [if_pos k2] at hg
        have hnx := good_next hgx k2
        by_cases hn0 : x.next = 0
        · have hz : (x.next == 0) = true := by rw [hn0]; rfl
          rw [if_pos hn0] at hg
          have hq : (zeroE, false, (0 : Int)) = (rx, ri, re) := hg
          clear hg k2 hn0 hnx hgx hs
          have h1 : zeroE = rx := congrArg Prod.fst hq
          have h2 : false = ri := congrArg (fun y => y.2.1) hq
          have h3 : 0 = re := congrArg (fun y => y.2.2) hq
          subst h1; subst h2; subst h3
          have HH := Lib.hid (HEND.out _ _ HS.out)
          clear hq HS hmem hf HEND HGD HV HC HOLD HFIN
          go_wp2_with fail
          exact bodyPost_ret (HH.out.1 _ rfl rfl rfl) rfl HH.out.2

        · have hz : (x.next == 0) = false := beq_eq_false_iff_ne.2 hn0
          rw [if_neg hn0] at hg
          have hE1 : EnsIn (.blk g (eO x) :: AW) (.slice (some ⟨eg, off, none⟩) own.length cap) own := HV.out.mono (fun W h => HOLD.out W h.tail)
          have HIDX := Lib.hid (idx_next (cb := g) (P := hasLsn x.next) hE1 hs hl (fun y W hy hW => next1_any y x g W (enAt_of hW.h0)))
          obtain ⟨r, hr⟩ : ∃ r, idxF (hasLsn x.next) own = r := ⟨_, rfl⟩
          rw [hr] at HIDX
          have HR := Lib.hid (And.intro hr (And.intro hg (And.intro hnx hf)))
          clear hE1 hr hg hnx hf hgx hs k2 hn0
          go_wp2_with fail
          refine (HIDX.out).mono ?_
          rintro e w2 ⟨rfl, hb⟩
          have HS2 := Lib.hid (HS.out.monoB hb)
          clear hb HIDX z0 z1 z2 z3 z4 z5 z6 z7 z8 z9 z10 z11 z12 ff
          obtain ⟨z0, z1, z2, z3, z4, z5, z6, z7, z8, z9, z10, z11, z12⟩ := enAt_of HS2.out.h0
          have ff := unfrozen_of HS2.out.h0
          by_cases hr0 : r < 0
          · have hg := HR.out.2.1
            rw [find_no (by rw [HR.out.1]; exact hr0)] at hg
            have hq : (zeroE, false, (4 : Int)) = (rx, ri, re) := hg
            clear hg HR
            have h1 : zeroE = rx := congrArg Prod.fst hq
            have h2 : false = ri := congrArg (fun y => y.2.1) hq
            have h3 : 4 = re := congrArg (fun y => y.2.2) hq
            subst h1; subst h2; subst h3
            have HH := Lib.hid (HEND.out _ _ HS2.out)
            clear hq HS HS2 hmem HEND HGD HV HC HOLD HFIN
            go_wp2_with fail
            exact bodyPost_ret (HH.out.1 _ rfl rfl rfl) rfl HH.out.2

          · have hr0' : (r < 0) = False := eq_false hr0
            obtain ⟨i, y, rfl, hy, hyl, hno⟩ := idxF_some HR.out.1 (by omega)
            have hg := HR.out.2.1
            rw [find_of hy hyl hno] at hg
            simp only at hg
            have hi := (List.getElem?_eq_some_iff.1 hy).1
            have hi0 : (0 : Int) ≤ (i : Int) := by omega
            have hi1 : (i : Int) < (own.length : Int) := by omega
            have hw2 := HOLD.out _ HS2.out.tail
            obtain ⟨eg', off', ea, e0, e1, e2, e3, e4, e5, e6, e7, e8, e9, e10, e11, e12⟩ := HC.out _ hw2 i y hy
            cases ea
            have hyn : y.lsn = x.next := eq_of_beq hyl
            have hmy := List.mem_of_getElem? hy
            have hfx := HR.out.2.2
            clear hy hyl hno hw2 hr0
            by_cases ky : 2 < y.kind
            · rw [if_pos ky] at hg
              have hq : (zeroE, false, (4 : Int)) = (rx, ri, re) := hg
              clear hg HR hyn hmy hfx
              have h1 : zeroE = rx := congrArg Prod.fst hq
              have h2 : false = ri := congrArg (fun y => y.2.1) hq
              have h3 : 4 = re := congrArg (fun y => y.2.2) hq
              subst h1; subst h2; subst h3
              have HH := Lib.hid (HEND.out _ _ HS2.out)
              clear hq HS HS2 hmem HEND HGD HV HC HOLD HFIN
              go_wp2_with fail
              exact bodyPost_ret (HH.out.1 _ rfl rfl rfl) rfl HH.out.2

            · have ky' : (2 < y.kind) = False := eq_false ky
              rw [if_neg ky] at hg
              have h5 := sat_put13 (y := y) HS2.out
              have FIN : Hid ((∃ (f : Nat) (x : En), x ∈ own ∧ x.lsn.toNat < f ∧ nextG f own x = (rx, ri, re) ∧ Sat (put13 w2 g y) (.blk g (eO x) :: AW)) ∧ lsnAt g (put13 w2 g y) < lsnAt g wr) := Lib.hid ⟨⟨f', y, hmy, by have := good_lsn0 (HGD.out y hmy); omega, hg, h5⟩, by
                have := good_lsn0 (HGD.out y hmy)
                rw [lsnAt_of h5, lsnAt_of HS.out]; omega⟩
              clear hg HR hyn hmy hfx ky h5 HEND HGD HV HC HOLD HFIN HS HS2
              go_wp2_with fail
              exact FIN.out
      · have hk2 : (x.kind == 2) = false := beq_eq_false_iff_ne.2 k2
        rw [if_neg k2] at hg
        by_cases k1 : x.kind = 1
        · have hk1 : (x.kind == 1) = true := by rw [k1]; rfl
          have hk1' : (x.kind != 1) = false := by rw [bne, hk1]; rfl
          rw [if_pos k1] at hg
          have h1 : x = rx := congrArg Prod.fst hg
          have h2 : true = ri := congrArg (fun y => y.2.1) hg
          have h3 : 0 = re := congrArg (fun y => y.2.2) hg
          subst h1; subst h2; subst h3
          have HH := Lib.hid (HEND.out _ _ HS.out)
          clear hg k1 k2 hgx hs HS HEND HGD HV HC HOLD HFIN hmem hf
          go_wp2_with fail
          exact bodyPost_ret (HH.out.1 _ rfl rfl rfl) rfl HH.out.2
        · have hk1 : (x.kind == 1) = false := beq_eq_false_iff_ne.2 k1
          have hk1' : (x.kind != 1) = true := by rw [bne, hk1]; rfl
          rw [if_neg k1] at hg
          have hq : (zeroE, false, (0 : Int)) = (rx, ri, re) := hg
          clear hg k1 k2 hgx hs
          have h1 : zeroE = rx := congrArg Prod.fst hq
          have h2 : false = ri := congrArg (fun y => y.2.1) hq
          have h3 : 0 = re := congrArg (fun y => y.2.2) hq
          subst h1; subst h2; subst h3
          have HH := Lib.hid (HEND.out _ _ HS.out)
          clear hq HS hmem hf HEND HGD HV HC HOLD HFIN
          go_wp2_with fail
          exact bodyPost_ret (HH.out.1 _ rfl rfl rfl) rfl HH.out.2

end Go.Proofs.YtficgjklagnbjaaGreat
namespace Go.Proofs.YtficgjklagnbjaaGreat
open Go Go.MapKept Go.RowKit Go.Proofs Go.Sort

def backM (l : List En) (t : Tx) (down : Int) : En × Bool := if (!(nextM (ofM l t)).2.1 || !((nextM (ofM l t)).2.2 == 0) || decide ((nextM (ofM l t)).1.lsn ≤ down)) = true then (zeroE, false) else ((nextM (ofM l t)).1, true)
theorem ofM_good {l : List En} {t : Tx} {x : En} (h : x ∈ ofM l t) : goodM x = true := by
  have := (List.mem_filter.1 h).2
  simp only [Bool.and_eq_true] at this
  exact this.2
theorem back_results (tm : Array Value) (W9 : World) (g : Nat) (b : Bool) (y : En) (h1 : (tm[6]?).getD undef = .pointer (some ⟨g, 0, none⟩)) (h2 : (tm[7]?).getD undef = .bool b) (h : EnAt W9 g y) :
    (results Tryz.f18 tm).run Tryz.prog W9 = .ok (.tuple #[eV y, .bool b]) W9 := by
  obtain ⟨r0, r1, r2, r3, r4, r5, r6, r7, r8, r9, r10, r11, r12⟩ := h
  simp [results, Tryz.results18, go_sem, h1, h2, r0, r1, r2, r3, r4, r5, r6, r7, r8, r9, r10, r11, r12]
set_option maxRecDepth 100000 in
set_option maxHeartbeats 4000000 in
theorem back_any {v : Value} {l : List En} {F : Heaplet} {w : World} (t : Tx) (down : Int) (hE : EnsIn F v l) (s : Sat w F) (hl : l.length ≤ 100000) (hf : FitL l) :
    Calls Tryz.prog 18 #[v, tV t, kI down] w (Ret (.tuple #[eV (backM l t down).1, .bool (backM l t down).2]) (Below w.heap.size w)) := by
  obtain ⟨rx, rb, hr⟩ : ∃ rx rb, backM l t down = (rx, rb) := ⟨_, _, rfl⟩
  obtain ⟨nx, nb, ne, hn⟩ : ∃ nx nb ne, nextM (ofM l t) = (nx, nb, ne) := ⟨_, _, _, rfl⟩
  rw [hr]
  have hq : (rx, rb) = if (!nb || !(ne == 0) || decide (nx.lsn ≤ down)) = true then (zeroE, false) else (nx, true) := by
    rw [← hr]; unfold backM; rw [hn]
  have HQ := Lib.hid hq
  have HOLD : ∀ w', Sat w' (allOf w) → Sat w' F := fun w' h => s.monoB (Sat.below h)
  have HFIN : Hid (∀ w', Sat w' (allOf w) → Below w.heap.size w w') := Lib.hid (fun w' h => Sat.below h)
  have hs := ((sat_all w).new (.cells #[kI t.c, kI t.e, kI t.n] 56)).new (eO zeroE)
  rw [World.size_alloc] at hs
  have hE1 : EnsIn (.blk (w.heap.size + 1) (eO zeroE) :: .blk w.heap.size (.cells #[kI t.c, kI t.e, kI t.n] 56) :: allOf w) v l := hE.mono (fun w' h => HOLD w' h.tail.tail)
  have HOF := Lib.hid (Of_any v l t _ _ hs hE1 hl hf)
  have HNX : Hid (∀ (v' : Value) (h G : Heaplet) (W : World), EnSl v' (ofM l t) h → Sat W (h ++ G) → Calls Tryz.prog 35 #[v'] W (Ret (.tuple #[eV nx, .bool nb, kI ne]) (Below W.heap.size W))) := Lib.hid (fun v' h G W hv hW => by
    have := next_any (ens_in hv G) hW (by have := ofM_len l t; omega) (fun x hx => ofM_good hx)
    rw [hn] at this; exact this)
  have c0 : ((w.alloc (.cells #[kI t.c, kI t.e, kI t.n] 56)).alloc (eO zeroE)).cell? ⟨w.heap.size, 0, none⟩ = some (kI t.c) := by rw [cell_of hs.h1]; rfl
  have c1 : ((w.alloc (.cells #[kI t.c, kI t.e, kI t.n] 56)).alloc (eO zeroE)).cell? ⟨w.heap.size, 1, none⟩ = some (kI t.e) := by rw [cell_of hs.h1]; rfl
  have c2 : ((w.alloc (.cells #[kI t.c, kI t.e, kI t.n] 56)).alloc (eO zeroE)).cell? ⟨w.heap.size, 2, none⟩ = some (kI t.n) := by rw [cell_of hs.h1]; rfl
  obtain ⟨AW, hAW⟩ : ∃ AW, allOf w = AW := ⟨_, rfl⟩
  rw [hAW] at HFIN HOF
  obtain ⟨W1, hW1⟩ : ∃ W1, (w.alloc (.cells #[kI t.c, kI t.e, kI t.n] 56)).alloc (eO zeroE) = W1 := ⟨_, rfl⟩
  rw [hW1] at HOF c0 c1 c2
  have HW1 := Lib.hid hW1
  obtain ⟨PB, hPB⟩ : ∃ PB : World → Prop, Below w.heap.size w = PB := ⟨_, rfl⟩
  rw [hPB] at HFIN ⊢
  have HEND : Hid (∀ (W : World) (x : En) (G : Heaplet), Sat W (.blk (w.heap.size + 1) (eO x) :: (G ++ AW)) →
      (∀ tm : Array Value, (tm[6]?).getD undef = .pointer (some ⟨w.heap.size + 1, 0, none⟩) → (tm[7]?).getD undef = .bool rb → (results Tryz.f18 tm).run Tryz.prog (put13 W (w.heap.size + 1) rx) = .ok (.tuple #[eV rx, .bool rb]) (put13 W (w.heap.size + 1) rx)) ∧
      Ret (.tuple #[eV rx, .bool rb]) PB (.returned (.tuple #[eV rx, .bool rb])) (put13 W (w.heap.size + 1) rx)) := Lib.hid (fun W x G hW => by
    have h5 := sat_put13 (y := rx) hW
    exact ⟨fun tm h6 h7 => back_results tm _ _ rb rx h6 h7 (enAt_of h5.h0), rfl, HFIN.out _ h5.tail.right⟩)
  obtain ⟨a, cap, rfl, _⟩ := hE
  clear s hq hr hn hs hE1 hAW hPB hW1
  go_enter Tryz.func18, Tryz.ntmps18
  go_upto_region 1 with (fail)
  have hw : (w.alloc (.cells #[kI t.c, kI t.e, kI t.n] 56)).alloc (.cells #[kI 0, kI 0, kI 0, kI 0, kI 0, kI 0, kI 0, kI 0, .bool false, kS ⟨#[]⟩, .bool false, kS ⟨#[]⟩, kI 0] 58) = W1 := HW1.out
  rw [hw]
  clear hw HW1
  generalize w.heap.size = g at *
  go_wp2_with fail
  refine (HOF.out).mono ?_
  rintro e w2 ⟨v', h, rfl, hv', hs2⟩
  have HCALL := Lib.hid (HNX.out v' h _ w2 hv' hs2)
  have HS2 := Lib.hid hs2
  obtain ⟨oa, oc, rfl⟩ := sl_form hv'
  clear HNX hs2 hv' HOF c0 c1 c2
  go_wp2_with fail
  refine (HCALL.out).mono ?_
  rintro e w3 ⟨rfl, hb⟩
  have hs3 := HS2.out.monoB hb
  have hs4 : Sat (w3.alloc (eO nx)) (.blk (g + 1) (eO zeroE) :: ([] ++ AW)) := by (refine Sat.part (hs3.new (eO nx)) ?_; intro a; simp only [cnt_cons, cnt_append, List.nil_append]; omega)
  have hnx : (w3.alloc (eO nx)).heap[w3.heap.size]? = some (eO nx) := (hs3.new (eO nx)).h0
  have HH := Lib.hid (HEND.out _ zeroE [] hs4)
  have ff := unfrozen_of hs4.h0
  obtain ⟨z0, z1, z2, z3, z4, z5, z6, z7, z8, z9, z10, z11, z12⟩ := enAt_of hs4.h0
  obtain ⟨y0, y1, y2, y3, y4, y5, y6, y7, y8, y9, y10, y11, y12⟩ := enAt_of hnx
  clear hb HCALL HS2 HEND hs3 hs4 hnx HFIN HOLD
  cases nb with
  | false =>
    have hq := HQ.out
    rw [if_pos (by rfl)] at hq
    have h1 : rx = zeroE := congrArg Prod.fst hq
    have h2 : rb = false := congrArg Prod.snd hq
    subst h1; subst h2
    clear hq HQ
    go_wp2_with fail
    exact bodyPost_ret (HH.out.1 _ rfl rfl) rfl HH.out.2
  | true =>
    by_cases he : ne = 0
    · subst he
      by_cases hd : nx.lsn ≤ down
      · have hq := HQ.out
        rw [if_pos (by rw [decide_eq_true hd]; rfl)] at hq
        have h1 : rx = zeroE := congrArg Prod.fst hq
        have h2 : rb = false := congrArg Prod.snd hq
        subst h1; subst h2
        clear hq HQ
        go_wp2_with fail
        exact bodyPost_ret (HH.out.1 _ rfl rfl) rfl HH.out.2
      · have hd' : (nx.lsn ≤ down) = False := eq_false hd
        have hq := HQ.out
        rw [if_neg (by rw [decide_eq_false hd]; decide)] at hq
        have h1 : rx = nx := congrArg Prod.fst hq
        have h2 : rb = true := congrArg Prod.snd hq
        subst h1; subst h2
        clear hq HQ hd
        go_wp2_with fail
        exact bodyPost_ret (HH.out.1 _ rfl rfl) rfl HH.out.2
    · have hb1 : (ne == 0) = false := beq_eq_false_iff_ne.2 he
      have hb2 : (ne != 0) = true := by rw [bne, hb1]; rfl
      have hq := HQ.out
      rw [if_pos (by rw [hb1]; rfl)] at hq
      have h1 : rx = zeroE := congrArg Prod.fst hq
      have h2 : rb = false := congrArg Prod.snd hq
      subst h1; subst h2
      clear hq HQ he
      go_wp2_with fail
      exact bodyPost_ret (HH.out.1 _ rfl rfl) rfl HH.out.2
end Go.Proofs.YtficgjklagnbjaaGreat
namespace Go.Proofs.YtficgjklagnbjaaGreat
open Go

section
variable {P : Program} {w : World}
/-- At a step of a region that draws its order: the run of the append is known. -/
theorem step_append_run {ops : Array Oper} {o : Oper} {a : Act} {K : Act → World → Prop} {Q : Exit → Act → World → Prop} {E : Prop} (hgd : o.guard = none) (s x : Operand) (t1 t2 : TypeId)
    (ho : o.op = .call { callee := .builtin .append, args := #[s, x], argTypes := #[t1, t2] }) (v xv v' : Value) (w' : World) (hs : a.eval s = v) (hx : a.eval x = xv)
    (hr : ∀ ty, (Builtin.append_ #[t1, t2] ty #[v, xv]).run P w = .ok v' w') (hK : K (a.put o.dst v') w') :
    if Region.wanted o (yielded ops a.tmps) = true then Oper.wp P o a w K Q else E := by
  have hw : Region.wanted o (yielded ops a.tmps) = true := by simp [Region.wanted, hgd]
  rw [if_pos hw]
  unfold Oper.wp execOp
  simp only [ho, resolve, invoke, builtin, Sem.run_bind, Sem.run_pure, Result.andThen_ok, List.map_toArray, List.map_cons, List.map_nil, hs, hx, hr]
  exact hK
/-- A row of the outer slice: its value, what its cells hold, its own block. -/
abbrev LRow := Value × List Value × Heaplet
def LOk (T : TypeId) (L : List LRow) : Prop := ∀ x ∈ L, SliceIs T 1 x.1 x.2.1.length x.2.1 x.2.2
def lvals (L : List LRow) : Array Value := (L.map (·.1)).toArray
def lheap (L : List LRow) : Heaplet := L.flatMap (·.2.2)
theorem lheap_set : ∀ {L : List LRow} {i : Nat} {x : LRow} (y : LRow), L[i]? = some x → (lheap (L.set i y)).Perm (y.2.2 ++ lheap (L.eraseIdx i))
  | a :: L, 0, x, y, _ => by simp [lheap]
  | a :: L, i + 1, x, y, h => by
    have ih := lheap_set (L := L) (i := i) y (by simpa using h)
    simp only [lheap, List.set_cons_succ, List.flatMap_cons, List.eraseIdx_cons_succ] at ih ⊢
    exact (ih.append_left _).trans (by
      rw [← List.append_assoc, ← List.append_assoc]
      exact List.perm_append_comm.append_right _)
theorem lheap_get {L : List LRow} {i : Nat} {x : LRow} (h : L[i]? = some x) : (lheap L).Perm (x.2.2 ++ lheap (L.eraseIdx i)) := by
  have := lheap_set x h
  have e : L.set i x = L := by
    apply List.ext_getElem?
    intro j
    rw [List.getElem?_set]
    split
    · rename_i e; subst e
      have := (List.getElem?_eq_some_iff.1 h).1
      rw [if_pos this, h]
    · rfl
  rwa [e] at this
theorem lvals_get {L : List LRow} {i : Nat} {x : LRow} (h : L[i]? = some x) : (lvals L)[i]? = some x.1 := by simp [lvals, h]
theorem lvals_set (L : List LRow) (i : Nat) (y : LRow) : (lvals L).setIfInBounds i y.1 = lvals (L.set i y) := by simp [lvals, List.map_set]
theorem LOk.set {T : TypeId} {L : List LRow} (h : LOk T L) (i : Nat) {y : LRow} (hy : SliceIs T 1 y.1 y.2.1.length y.2.1 y.2.2) : LOk T (L.set i y) := by
  intro x hx
  rcases List.mem_or_eq_of_mem_set hx with hx | rfl
  · exact h x hx
  · exact hy
variable {T Tr t ty : TypeId} {i0 : TypeInfo} {z : Value} {bytes : Nat}
/-- One more element at the row i: the append is run, and stored back. -/
theorem later_push (ht : P.underlying t = some (.slice T)) (hi : P.info? T = some i0) (hz : i0.zero = some z) (hsize : i0.size = 1) (hby : i0.bytes = bytes) (hzs : z.cells.size = 1)
    {A G : Heaplet} {xb lb : Nat} {u : Value} {L : List LRow} {i : Nat} {v : Value} {l : List Value} {h : Heaplet} (hu : u.oneCell' = true)
    (hs : Sat w (A ++ (.blk xb (.cells #[u] T) :: .blk lb (.cells (lvals L) Tr) :: (lheap L ++ G)))) (hL : LOk T L) (hx : L[i]? = some (v, l, h)) (h63 : l.length + 1 ≤ maxLen) (hbytes : (l.length + 1) * bytes ≤ 140737488355328) :
    ∃ v' w' h', (∀ ty, (Builtin.append_ #[t, t] ty #[v, .slice (some ⟨xb, 0, none⟩) 1 1]).run P w = .ok v' w') ∧ LOk T (L.set i (v', l ++ [u], h')) ∧
      (∃ g cap, v' = .slice (some ⟨g, 0, none⟩) (l.length + 1) cap) ∧ w'.cell? ⟨lb, i, none⟩ = some v ∧ w'.frozen? ⟨lb, i, none⟩ = false ∧ Sat w' G ∧
      Sat (w'.setCell ⟨lb, i, none⟩ v') (A ++ (.blk lb (.cells (lvals (L.set i (v', l ++ [u], h'))) Tr) :: (lheap (L.set i (v', l ++ [u], h')) ++ G))) := by
  have hsl : SliceIs T 1 v l.length l h := hL _ (List.mem_of_getElem? hx)
  have s1 : Sat w (h ++ (A ++ (.blk xb (.cells #[u] T) :: .blk lb (.cells (lvals L) Tr) :: (lheap (L.eraseIdx i) ++ G)))) := by
    refine hs.perm ?_
    refine List.Perm.trans ?_ (List.perm_append_comm_assoc A h _)
    refine List.Perm.append_left A ?_
    refine List.Perm.trans ?_ (List.perm_append_comm_assoc [HItem.blk xb (.cells #[u] T), .blk lb (.cells (lvals L) Tr)] h _)
    refine List.Perm.append_left [HItem.blk xb (.cells #[u] T), .blk lb (.cells (lvals L) Tr)] ?_
    show (lheap L ++ G).Perm (h ++ (lheap (L.eraseIdx i) ++ G))
    rw [← List.append_assoc]
    exact (lheap_get hx).append_right G
  have hxb : w.heap[xb]? = some (.cells #[u] T) := s1.get (List.mem_append_right _ (List.mem_append_right _ (.head _)))
  have hnews : ∀ j q, ([u] : List Value)[j]? = some q → w.cell? ((⟨xb, 0, none⟩ : Addr).add j) = some q := by
    intro j q hq
    have hadd : (⟨xb, 0, none⟩ : Addr).add j = ⟨xb, j, none⟩ := by unfold Addr.add; split <;> simp_all
    rw [hadd, cell_of hxb]
    match j, hq with
    | 0, hq => simpa using hq
    | j + 1, hq => simp at hq
  obtain ⟨v', w', h', hr, hsl', hsat⟩ := sat_append (P := P) (ty := 0) ht hi hz hsize hby hzs (by decide) hsl s1 ⟨xb, 0, none⟩ 1 1 [u] rfl hnews (by simpa using hu) (by decide) h63 hbytes
  have hlb : w'.heap[lb]? = some (.cells (lvals L) Tr) := hsat.get (List.mem_append_right _ (List.mem_append_right _ (.tail _ (.head _))))
  have hl1 : SliceIs T 1 v' (l ++ [u]).length (l ++ [u]) h' := by rw [List.length_append]; exact hsl'
  refine ⟨v', w', h', fun ty => hr, hL.set i hl1, ?_, ?_, ?_, ?_, ?_⟩
  · rcases hsl'.2 with ⟨_, hn, _⟩ | ⟨g, cap, cur, rfl, _⟩
    · omega
    · exact ⟨_, _, rfl⟩
  · rw [cell_of hlb]; exact lvals_get hx
  · exact unfrozen_of hlb i
  · exact hsat.right.right.tail.tail.right
  · have s2 : Sat w' (.blk lb (.cells (lvals L) Tr) :: (A ++ (lheap (L.set i (v', l ++ [u], h')) ++ G))) := by
      have s3 := hsat.perm (List.perm_append_comm_assoc h' A _)
      have s4 := s3.perm (List.Perm.append_left A (List.perm_middle (l₁ := h')))
      have s5 := (s4.perm (List.perm_middle (l₁ := A))).tail
      have s6 := s5.perm (List.Perm.append_left A (List.perm_middle (l₁ := h')))
      refine (s6.perm (List.perm_middle (l₁ := A))).perm ?_
      refine List.Perm.cons _ (List.Perm.append_left A ?_)
      rw [← List.append_assoc]
      exact (lheap_set (v', l ++ [u], h') hx).symm.append_right G
    have s7 := s2.setCell (i := i) v'
    rw [lvals_set L i (v', l ++ [u], h')] at s7
    exact s7.perm (List.perm_middle (l₁ := A)).symm
end
end Go.Proofs.YtficgjklagnbjaaGreat
namespace Go.Proofs.YtficgjklagnbjaaGreat
open Go Go.MapKept Go.RowKit Go.Proofs Go.Sort

abbrev udO (lv pv sv : Value) : Obj := .cells #[lv, pv, sv] 85
set_option maxRecDepth 100000 in
set_option maxHeartbeats 4000000 in
theorem add_any {lv pv sv : Value} {l : List En} {h G : Heaplet} {w : World} {b : Nat} (x : En) (hv : EnSl lv l h) (s : Sat w (.blk b (udO lv pv sv) :: (h ++ G))) (hl : l.length + 1 ≤ 200000) :
    Calls Tryz.prog 90 #[.pointer (some ⟨b, 0, none⟩), eV x] w (Ret (.tuple #[]) fun w' => ∃ lv' h', EnSl lv' (l ++ [x]) h' ∧ Sat w' (.blk b (udO lv' pv sv) :: (h' ++ G))) := by
  have s1 := s.new (eO x)
  obtain ⟨a0, c0, rfl⟩ := sl_form hv
  obtain ⟨z0, z1, z2, z3, z4, z5, z6, z7, z8, z9, z10, z11, z12⟩ := enAt_new w x
  have t0 : (w.alloc (eO x)).cell? ⟨b, 0, none⟩ = some (.slice a0 l.length c0) := by rw [cell_of s1.h1]; rfl
  have HS1 := Lib.hid s1
  have HV := Lib.hid hv
  clear s s1 hv
  go_enter Tryz.func90, Tryz.ntmps90
  go_upto_region 1 with (fail)
  generalize w.alloc (.cells #[kI x.kind, kI x.t.c, kI x.t.e, kI x.t.n, kI x.lsn, kI x.prev, kI x.page, kI x.slot, .bool x.wu, kS x.wd, .bool x.iu, kS x.idt, kI x.next] 58) = W1 at *
  generalize w.heap.size = g1 at *
  have hND := (HS1.out.new (eO x)).drew
  obtain ⟨v3, w3, h3, hap, hv3, hs3⟩ := en_push (A := [.blk g1 (eO x), .blk b (udO (.slice a0 l.length c0) pv sv)]) x HV.out hND hl
  have hs4 : Sat w3 (.blk b (udO (.slice a0 l.length c0) pv sv) :: (h3 ++ G)) := Sat.tail hs3
  have k1 : w3.cell? ⟨b, 0, none⟩ = some (.slice a0 l.length c0) := by rw [cell_of hs4.h0]; rfl
  have k2 : w3.frozen? ⟨b, 0, none⟩ = false := unfrozen_of hs4.h0 0
  have k3 : (W1.alloc (.cells #[kI x.kind, kI x.t.c, kI x.t.e, kI x.t.n, kI x.lsn, kI x.prev, kI x.page, kI x.slot, .bool x.wu, kS x.wd, .bool x.iu, kS x.idt, kI x.next] 58)).cell? ⟨b, 0, none⟩ = some (.slice a0 l.length c0) := by rw [cell_of (HS1.out.new (eO x)).h2]; rfl
  have hs6 := hs4.setCell (i := 0) v3
  have hap : ∀ ty, (Builtin.append_ #[29, 29] ty #[.slice a0 l.length c0, .slice (some ⟨W1.heap.size, 0, none⟩) 1 1]).run Tryz.prog (W1.alloc (.cells #[kI x.kind, kI x.t.c, kI x.t.e, kI x.t.n, kI x.lsn, kI x.prev, kI x.page, kI x.slot, .bool x.wu, kS x.wd, .bool x.iu, kS x.idt, kI x.next] 58)).drew = .ok v3 w3 := hap
  have HAP := Lib.hid hap
  obtain ⟨a3, c3, rfl⟩ := sl_form hv3
  have e3 : (l ++ [x]).length = l.length + 1 := by simp
  have FIN : Hid (EnSl (.slice a3 (l.length + 1) c3) (l ++ [x]) h3 ∧ Sat (w3.setCell ⟨b, 0, none⟩ (.slice a3 (l.length + 1) c3)) (.blk b (udO (.slice a3 (l.length + 1) c3) pv sv) :: (h3 ++ G))) := Lib.hid (by rw [← e3]; exact And.intro hv3 hs6)

  clear hap hv3 hs3 hs4 hs6 hND HS1 HV e3
  go_region_law ((refine step_append_run (by rfl) _ _ _ _ (by rfl) _ _ _ w3 (by rfl) (by rfl) HAP.out ?_))
  all_goals
    go_wp2_with fail
    refine bodyPost_end (results_none rfl _ _ _) rfl ?_
    exact ⟨rfl, _, h3, FIN.out.1, FIN.out.2⟩
end Go.Proofs.YtficgjklagnbjaaGreat
namespace Go.Proofs.YtficgjklagnbjaaGreat
open Go Go.MapKept Go.RowKit Go.Proofs Go.Sort

set_option maxRecDepth 100000 in
set_option maxHeartbeats 4000000 in
theorem last_any {lv pv sv : Value} {l : List En} {G : Heaplet} {w : World} {b : Nat} (t : Tx) (x : En) (hE : EnsIn G lv l) (s : Sat w (.blk b (udO lv pv sv) :: G)) (hl : l.length ≤ 100000) (hf : FitL l) (hx : (ofM l t).getLast? = some x) :
    Calls Tryz.prog 89 #[.pointer (some ⟨b, 0, none⟩), tV t] w (Ret (kI x.lsn) (Below w.heap.size w)) := by
  have hs := s.new (.cells #[kI t.c, kI t.e, kI t.n] 56)
  have hsa := (sat_all w).new (.cells #[kI t.c, kI t.e, kI t.n] 56)
  obtain ⟨a0, c0, rfl, _⟩ := hE0 hE
  have HFIN : Hid (∀ W, Sat W (allOf (w.alloc (.cells #[kI t.c, kI t.e, kI t.n] 56))) → Below w.heap.size w W) := Lib.hid (fun W h => Sat.below ((hsa.monoB (Sat.below h)).tail))
  have HS := Lib.hid hs
  have HE := Lib.hid hE
  have H0 := Lib.hid (sat_all (w.alloc (.cells #[kI t.c, kI t.e, kI t.n] 56)))
  have HOLD : Hid (∀ W, Sat W (allOf (w.alloc (.cells #[kI t.c, kI t.e, kI t.n] 56))) → Sat W (.blk w.heap.size (.cells #[kI t.c, kI t.e, kI t.n] 56) :: .blk b (udO (.slice a0 l.length c0) pv sv) :: G)) := Lib.hid (fun W h => hs.monoB (Sat.below h))
  obtain ⟨PB, hPB⟩ : ∃ PB : World → Prop, Below w.heap.size w = PB := ⟨_, rfl⟩
  rw [hPB] at HFIN ⊢
  clear s hs hsa hE hPB
  go_enter Tryz.func89, Tryz.ntmps89
  go_upto_region 1 with (fail)
  generalize w.alloc (.cells #[kI t.c, kI t.e, kI t.n] 56) = W1 at *
  generalize w.heap.size = g at *
  obtain ⟨AW, hAW⟩ : ∃ AW, allOf W1 = AW := ⟨_, rfl⟩
  rw [hAW] at HFIN H0 HOLD
  clear hAW
  have hcell : ∀ W, Sat W AW → W.cell? ⟨b, 0, none⟩ = some (.slice a0 l.length c0) ∧ W.cell? ⟨g, 0, none⟩ = some (kI t.c) ∧ W.cell? ⟨g, 1, none⟩ = some (kI t.e) ∧ W.cell? ⟨g, 2, none⟩ = some (kI t.n) := fun W hW => by
    have h := HOLD.out W hW
    exact ⟨by rw [cell_of h.h1]; rfl, by rw [cell_of h.h0]; rfl, by rw [cell_of h.h0]; rfl, by rw [cell_of h.h0]; rfl⟩
  have HC := Lib.hid hcell
  have K1 := Lib.hid (hcell _ H0.out)
  have K2 := Lib.hid (hcell _ H0.out.drew)
  have HOF : Hid (∀ W, Sat W AW → Calls Tryz.prog 36 #[.slice a0 l.length c0, tV t] W fun e w' => ∃ v' h, e = .returned v' ∧ EnSl v' (ofM l t) h ∧ Sat w' (h ++ AW)) := Lib.hid (fun W hW => Of_any _ l t AW W hW (HE.out.mono (fun W' h => (HOLD.out W' h).tail.tail)) hl hf)
  clear hcell HE HS
  have hne : 0 < (ofM l t).length := by
    rcases Nat.eq_zero_or_pos (ofM l t).length with h | h
    · rw [List.length_eq_zero_iff.1 h] at hx; simp at hx
    · exact h
  have hx0 : (ofM l t)[(ofM l t).length - 1]? = some x := by rw [← List.getLast?_eq_getElem?]; exact hx
  have hlen := ofM_len l t
  obtain ⟨n, hn⟩ : ∃ n, (ofM l t).length - 1 = n := ⟨_, rfl⟩
  rw [hn] at hx0
  have HN := Lib.hid (And.intro hx0 (And.intro hn (And.intro hne hlen)))
  clear hx hx0 hn hne hlen
  go_region_held3 (fun w' => w'.cell? ⟨b, 0, none⟩ = some (.slice a0 l.length c0) ∧ w'.cell? ⟨g, 0, none⟩ = some (kI t.c) ∧ w'.cell? ⟨g, 1, none⟩ = some (kI t.e) ∧ w'.cell? ⟨g, 2, none⟩ = some (kI t.n))
    (first | exact K1.out | exact K2.out | exact K6.out)
    (first | (go_at_call 36; refine (HOF.out _ H0.out.drew).mono ?_; rintro e w6 ⟨v', h, rfl, hv', hs6⟩; have K6 := Lib.hid (HC.out _ hs6.right); have HV := Lib.hid (And.intro hv' hs6)))
  all_goals
    have hv6 := HV.out.1
    obtain ⟨oa, oc, hoe, hcc⟩ := ens_in hv6 AW
    subst hoe
    obtain ⟨eg, off, rfl, e0, e1, e2, e3, e4, e5, e6, e7, e8, e9, e10, e11, e12⟩ := hcc _ HV.out.2 n x HN.out.1
    have HB := Lib.hid (HFIN.out _ HV.out.2.right)
    have hN := HN.out.2
    have hn1 : IntKind.i64.wrap (((ofM l t).length : Int) - 1) = (n : Int) := by rw [IntWalk.i64_in _ (by omega)]; omega
    have hn2 : wrap64 (((ofM l t).length : Int) - 1) = (n : Int) := by rw [IntWalk.wrap64_in _ (by omega)]; omega
    have hn0 : (0 : Int) ≤ (n : Int) := by omega
    have hn3 : (n : Int) < ((ofM l t).length : Int) := by omega
    clear hv6 hcc HV hN HN HFIN HOLD HC HOF H0 K1 K2 K6
    go_wp2_with fail
    go_ret
    exact ⟨rfl, HB.out⟩
end Go.Proofs.YtficgjklagnbjaaGreat
