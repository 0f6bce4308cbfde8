/- Texts put together: Tx18, Tx19. Conditions: none. -/
import Derived.Deep.RegionHeld3
import Derived.Deep.DeepCutAuto
import Derived.Test.YtgocmnejlbfplaaGreatDoorTy26
import Derived.Test.YtgocmnejlbfplaaGreatDoorTy27
import Derived.Test.YtgocmnejlbfplaaGreatDoorTy28
namespace Go.Proofs.YtgocmnejlbfplaaGreatDoor
open Go Go.MapKept Go.RowKit Go.Proofs

attribute [local go_sem] Oper.semAt_some

/-- An act. -/
structure Ax where
  kind : Int
  n : Int
  b : UInt8
  ls : List Lf
  fl : Nat
  fa : Nat → Int
abbrev axC (x : Ax) (la : Option Addr) (lc : Nat) (fp : Option Addr) (fc : Nat) : Array Value := #[kI x.kind, kI x.n, .int .u8 (x.b.toNat : Int), .slice la x.ls.length lc, .slice fp x.fl fc]
/-- A sector of one byte. -/
def fillB (c : UInt8) : ByteArray := ⟨(List.replicate 256 c).toArray⟩
def fillC (c : UInt8) (k : Nat) : Array Value := ((List.replicate k (Value.int .u8 (c.toNat : Int))) ++ List.replicate (256 - k) (Value.int .u8 0)).toArray
theorem fillC_step (c : UInt8) (k : Nat) (h : k < 256) : (fillC c k).setIfInBounds k (Value.int .u8 (c.toNat : Int)) = fillC c (k + 1) := by
  unfold fillC
  rw [List.setIfInBounds_toArray]
  congr 1
  rw [List.set_append, List.length_replicate, if_neg (by omega), Nat.sub_self]
  obtain ⟨r, hr⟩ : ∃ r, 256 - k = r + 1 := ⟨256 - k - 1, by omega⟩
  rw [hr, List.replicate_succ, List.set_cons_zero, show 256 - (k + 1) = r from by omega, List.replicate_succ', List.append_assoc]
  rfl
theorem fillC_get (c : UInt8) (k j : Nat) (h : k < 256) (hj : j < 256) : ∃ v, (fillC c k)[j]? = some v := by
  have : (fillC c k).size = 256 := by unfold fillC; simp; omega
  exact ⟨_, Array.getElem?_eq_getElem (by omega)⟩
theorem fillC_full (c : UInt8) (j : Nat) (hj : j < 256) : (fillC c 256)[j]? = some (Value.int .u8 (c.toNat : Int)) := by
  unfold fillC
  rw [List.getElem?_toArray, List.getElem?_append_left (by rw [List.length_replicate]; exact hj), List.getElem?_replicate, if_pos hj]
theorem fillB_size (c : UInt8) : (fillB c).size = 256 := by
  show (List.replicate 256 c).toArray.size = 256
  rw [List.size_toArray, List.length_replicate]
def nX (n : Int) : Nat := (IntKind.u64.wrap n % 2000).toNat
def secX (x : Ax) : ByteArray := match x.ls with
  | [] => fillB x.b
  | p :: _ => if goodP p.2 = true then secM (nX p.1) p.2 else fillB x.b
theorem secX_size (x : Ax) : (secX x).size = 256 := by
  unfold secX
  split
  · exact fillB_size _
  · split
    · rename_i h; exact secM_size h
    · exact fillB_size _
set_option maxRecDepth 100000 in
set_option maxHeartbeats 4000000 in
theorem sectorX_any {x : Ax} {la fp : Option Addr} {lc fc : Nat} {F : Heaplet} {w : World} (hv : LvAt F (.slice la x.ls.length lc) x.ls) (s : Sat w F) (hf : FitP x.ls) :
    Calls Tryz.prog 19 #[.agg (axC x la lc fp fc)] w (fun e w' => e = .returned (.string (secX x)) ∧ Below w.heap.size w w') := by
  obtain ⟨SX, hSX⟩ : ∃ SX, secX x = SX := ⟨_, rfl⟩
  rw [hSX]
  obtain ⟨kind, n, c, ls, fl, fa⟩ := x
  simp only at *
  obtain ⟨F2, hF2⟩ : ∃ F2, allOf w = F2 := ⟨_, rfl⟩
  have s2 : Sat w F2 := by rw [← hF2]; exact sat_all w
  have hFF : ∀ W, Sat W F2 → Sat W F := fun W hW => by rw [← hF2] at hW; exact s.monoB hW.below
  have HB : Hid (∀ W, Sat W F2 → Below w.heap.size w W) := Lib.hid (fun W hW => by rw [← hF2] at hW; exact hW.below)
  have hs1 := s2.new (.cells #[kI kind, kI n, .int .u8 (c.toNat : Int), .slice la ls.length lc, .slice fp fl fc] 39)
  obtain ⟨bx, hbx⟩ : ∃ bx, w.heap.size = bx := ⟨_, rfl⟩
  rw [hbx] at hs1
  have HCX : Hid (∀ W, Sat W (.blk bx (.cells #[kI kind, kI n, .int .u8 (c.toNat : Int), .slice la ls.length lc, .slice fp fl fc] 39) :: F2) → W.cell? ⟨bx, 2, none⟩ = some (.int .u8 (c.toNat : Int)) ∧ W.cell? ⟨bx, 3, none⟩ = some (.slice la ls.length lc)) := Lib.hid (fun W hW => ⟨by rw [cell_of hW.h0]; rfl, by rw [cell_of hW.h0]; rfl⟩)
  have HS1 := Lib.hid hs1
  obtain ⟨x2, x3⟩ := HCX.out _ hs1
  obtain ⟨z, hz⟩ : ∃ z, (match ls with | [] => false | p :: _ => goodP p.2) = z := ⟨_, rfl⟩
  have hsx : z = false → SX = fillB c := fun h => by
    rw [← hSX]
    cases ls with
    | nil => rfl
    | cons p t =>
      show (if goodP p.2 = true then _ else _) = _
      rw [if_neg (by rw [show goodP p.2 = z from hz, h]; simp)]
  have hst : z = true → ∃ p t, ls = p :: t ∧ goodP p.2 = true ∧ SX = secM (nX p.1) p.2 := fun h => by
    cases ls with
    | nil => rw [← hz] at h; cases h
    | cons p t =>
      have hg : goodP p.2 = true := by rw [show goodP p.2 = z from hz, h]
      refine ⟨p, t, rfl, hg, ?_⟩
      rw [← hSX]
      show (if goodP p.2 = true then _ else _) = _
      rw [if_pos hg]
  have HSX := Lib.hid (And.intro hsx hst)
  have HZ := Lib.hid hz
  have HV := Lib.hid hv
  have HFP := Lib.hid hf
  have HFF := Lib.hid hFF
  obtain ⟨ll, hll⟩ : ∃ ll, ls.length = ll := ⟨_, rfl⟩
  have HLL := Lib.hid hll
  show Calls Tryz.prog 19 #[.agg #[kI kind, kI n, .int .u8 (c.toNat : Int), .slice la ls.length lc, .slice fp fl fc]] w _
  rw [hll] at hs1 HS1 HCX x2 x3 ⊢
  clear hSX hv s hf s2 hFF hF2 hz hsx hst hll hs1
  go_enter Tryz.func19, Tryz.ntmps19
  go_upto_region 1 with (fail)
  generalize w.alloc (.cells #[.int .i64 kind, .int .i64 n, .int .u8 (c.toNat : Int), .slice la ll lc, .slice fp fl fc] 39) = W1 at *
  go_cut [16] (fun v16 wx => v16 = .bool z ∧ Sat wx (.blk bx (.cells #[kI kind, kI n, .int .u8 (c.toNat : Int), .slice la ll lc, .slice fp fl fc] 39) :: F2))
  case first =>
    cases ls with
    | nil =>
      obtain rfl : z = false := HZ.out.symm
      obtain rfl : ll = 0 := HLL.out.symm
      go_wp2_with fail
      go_meet
      exact ⟨rfl, HS1.out⟩
    | cons p tl =>
      obtain ⟨a, cap, e, hc⟩ := HV.out
      cases e
      obtain ⟨g, off, sv, rfl, hsv, hu⟩ := hc 0 p rfl
      have hfp := HFP.out p (.head _)
      obtain ⟨u0, u1, u2⟩ := hu _ (HFF.out _ HS1.out.tail)
      obtain ⟨pn, q⟩ := p
      simp only [Nat.zero_mul, Nat.add_zero] at hsv hfp u0 u1 u2
      obtain ⟨sa, sc, rfl, _⟩ := id hsv
      have hgq : goodP q = z := HZ.out
      have HGD := Lib.hid (rgood_any (hsv.mono (F' := .blk bx (.cells #[kI kind, kI n, .int .u8 (c.toNat : Int), .slice (some ⟨g, off, none⟩) ll lc, .slice fp fl fc] 39) :: F2) (fun W hW => HFF.out W hW.tail)) HS1.out hfp.1 hfp.2.1 hfp.2.2)
      rw [hgq] at HGD
      have hlen : (0 : Int) < (ll : Int) := by have := HLL.out; simp only [List.length_cons] at this; omega
      have hlen2 : 0 < ll := by omega
      clear hc hu hfp hgq hsv
      go_wp2_with (go_at_call 48; refine (HGD.out).mono ?_; rintro e w2 ⟨rfl, hg⟩; have HS2 := Lib.hid (HS1.out.grown hg); clear hg)
      go_meet
      exact ⟨rfl, HS2.out⟩
  case rest =>
    obtain ⟨rfl, hs⟩ := hcut
    clear HS1 x2 x3
    have HS2 := Lib.hid hs
    obtain ⟨x2, x3⟩ := HCX.out _ hs
    clear hs
    cases z with
    | true =>
      obtain ⟨p, tl, hls, hg, hsx⟩ := HSX.out.2 rfl
      subst hls
      obtain ⟨a, cap, e, hc⟩ := HV.out
      cases e
      obtain ⟨g, off, sv, rfl, hsv, hu⟩ := hc 0 p rfl
      obtain ⟨pn, q⟩ := p
      simp only [Nat.zero_mul, Nat.add_zero] at hsv hg hsx hu
      obtain ⟨sa, sc, rfl, _⟩ := id hsv
      have hK : ∀ W, Sat W (.blk bx (.cells #[kI kind, kI n, .int .u8 (c.toNat : Int), .slice (some ⟨g, off, none⟩) ll lc, .slice fp fl fc] 39) :: F2) → W.cell? ⟨bx, 3, none⟩ = some (.slice (some ⟨g, off, none⟩) ll lc) ∧ W.cell? ⟨g, off, none⟩ = some (kI pn) ∧ W.cell? ⟨g, off + 1, none⟩ = some (kI q.lsn) ∧ W.cell? ⟨g, off + 2, none⟩ = some (.slice sa q.slots.length sc) := fun W hW => ⟨(HCX.out W hW).2, hu W (HFF.out W hW.tail)⟩
      have HSE : Hid (∀ W, Sat W (.blk bx (.cells #[kI kind, kI n, .int .u8 (c.toNat : Int), .slice (some ⟨g, off, none⟩) ll lc, .slice fp fl fc] 39) :: F2) → Calls Tryz.prog 38 #[.int .i64 (nX pn : Int), pgV q.lsn (.slice sa q.slots.length sc)] W (fun e w' => e = .returned (.string SX) ∧ Sat w' (.blk bx (.cells #[kI kind, kI n, .int .u8 (c.toNat : Int), .slice (some ⟨g, off, none⟩) ll lc, .slice fp fl fc] 39) :: F2))) := Lib.hid (fun W hW => by
        rw [hsx]
        refine (rsector_any (nX pn) (by unfold nX; omega) hg hsv (HFF.out W hW.tail)).mono ?_
        rintro e w' ⟨rfl, hb⟩
        exact ⟨rfl, hW.monoB hb⟩)
      have hlen : (0 : Int) < (ll : Int) := by have := HLL.out; simp only [List.length_cons] at this; omega
      have hlen2 : 0 < ll := by omega
      have HCC := Lib.hid hK
      have K1 := Lib.hid (hK _ HS2.out)
      have K2 := Lib.hid (hK _ HS2.out.drew)
      have HD1 := Lib.hid HS2.out.drew
      have m0 : (0 : Int) ≤ IntKind.u64.wrap pn := by rw [IntKind.wrap_u64]; omega
      have m1 : (IntKind.u64.wrap pn).tmod 2000 = (nX pn : Int) := by unfold nX; rw [Int.tmod_eq_emod_of_nonneg m0]; omega
      have m2 : (nX pn : Int) < 2000 := by unfold nX; omega
      have m3 : (0 : Int) ≤ (nX pn : Int) := by omega
      have m4 : IntKind.i64.wrap (nX pn : Int) = (nX pn : Int) := IntWalk.i64_in _ (by omega)
      clear hc hu hsv hg hsx hK x2 x3
      go_upto_region 2 with (fail)
      generalize nX pn = nx at *
      go_region_held3 (fun w' => w'.cell? ⟨bx, 3, none⟩ = some (.slice (some ⟨g, off, none⟩) ll lc) ∧ w'.cell? ⟨g, off, none⟩ = some (kI pn) ∧ w'.cell? ⟨g, off + 1, none⟩ = some (kI q.lsn) ∧ w'.cell? ⟨g, off + 2, none⟩ = some (.slice sa q.slots.length sc))
        (with_reducible first | exact K1.out | exact K2.out | exact K3.out)
        (first
          | (go_at_call 38
             with_reducible refine (HSE.out _ HD1.out).mono ?_
             rintro e w7 ⟨rfl, hs7⟩
             have HS8 := Lib.hid hs7
             have K3 := Lib.hid (HCC.out _ hs7)
             clear hs7))
      all_goals
        have HE := Lib.hid (HB.out _ HS8.out.tail)
        clear K1 K2 K3 HCC HSE
        go_wp2_with fail
        go_ret
        exact ⟨rfl, HE.out⟩
    | false =>
      have hsx := HSX.out.1 rfl
      subst hsx
      have hmk : ∀ w, (Instr.makeSlice 78 (.int .i64 256) (.int .i64 256)).run Tryz.prog w = .ok (.slice (some ⟨w.heap.size, 0, none⟩) 256 256) (w.alloc (.cells (fillC c 0) 5)) := fun _ => by
        unfold fillC
        kernel_rfl
      have HS3 := Lib.hid (HS2.out.new (.cells (fillC c 0) 5))
      have hc0 : (0 : Int) ≤ (c.toNat : Int) := by omega
      have hc1 : (c.toNat : Int) < 256 := by have := c.toNat_lt; omega
      clear x2 x3
      go_upto_block 0 with (fail)
      clear hmk
      generalize wc.alloc (.cells (fillC c 0) 5) = W4 at *
      generalize wc.heap.size = g4 at *
      go_wp2_with fail
      go_loopw [4] (fun i wr => ∃ k : Nat, k ≤ 256 ∧ i = .int .i64 (k : Int) ∧ Sat wr (.blk g4 (.cells (fillC c k) 5) :: .blk bx (.cells #[kI kind, kI n, .int .u8 (c.toNat : Int), .slice la ll lc, .slice fp fl fc] 39) :: F2)) (fun i _ => 256 - (intOf i).toNat)
      case atStart => exact ⟨0, by omega, rfl, HS3.out⟩
      case round =>
        clear HS3 HS2
        obtain ⟨k, hk, rfl, hs⟩ := hrel
        obtain ⟨x2, _⟩ := HCX.out _ hs.tail
        by_cases hlt : k < 256
        · obtain ⟨v, hv⟩ := fillC_get c k k hlt hlt
          have ck : wr.cell? ⟨g4, k, none⟩ = some v := by rw [cell_of hs.h0]; exact hv
          have fk : wr.frozen? ⟨g4, k, none⟩ = false := unfrozen_of hs.h0 k
          have hs2 := hs.setCell (i := k) (Value.int .u8 (c.toNat : Int))
          rw [fillC_step c k hlt] at hs2
          have HS2 := Lib.hid hs2
          have hk0 : (0 : Int) ≤ (k : Int) := by omega
          have hk1 : (k : Int) < 256 := by omega
          clear hs hs2 hv
          go_wp2_with fail
          exact ⟨⟨k + 1, by omega, by simp, HS2.out⟩, by simp only [intOf]; omega⟩
        · have hke : k = 256 := by omega
          subst hke
          have hcv := run_convert_bytes_back (P := Tryz.prog) wr 78 9 5 ⟨g4, 0, none⟩ 256 (List.replicate 256 c) Tryz.underlying78 Tryz.underlying5 Tryz.underlying9 (fun j hj => by
            rw [addr_add', cell_of hs.h0]
            rw [List.length_replicate] at hj
            rw [List.getElem_replicate]
            exact fillC_full c j hj)
          rw [List.length_replicate] at hcv
          change _ = Result.ok (Value.string (fillB c)) wr at hcv
          have HE := Lib.hid (HB.out _ hs.tail.tail)
          clear hs x2
          go_wp2_with fail
          go_ret
          exact ⟨rfl, HE.out⟩
end Go.Proofs.YtgocmnejlbfplaaGreatDoor
namespace Go.Proofs.YtgocmnejlbfplaaGreatDoor
open Go Go.MapKept Go.RowKit Go.Proofs

attribute [local go_sem] Oper.semAt_some

theorem offM_count (M : PM) : (offM M).count = M.count := by
  unfold offM
  split <;> rfl
theorem onM_count (M : PM) (f : Nat → Int) : (onM M f).count = M.count := by
  unfold onM
  split <;> rfl
theorem writeM_count (M : PM) (n : Int) (s : ByteArray) : (writeM M n s).2.count = M.count := by
  unfold writeM
  split
  · rfl
  · split
    · rfl
    · exact (act_queue _).2.2
theorem syncM_count (M : PM) : (syncM M).2.count = M.count := by
  unfold syncM
  split
  · rfl
  · split
    · exact (act_queue _).2.2
    · exact (act_queue M).2.2
theorem loadP_count (S : TS) (M : PM) (n : Nat) : (loadP S M n).2.2.2.count = M.count := by
  unfold loadP
  split
  · split <;> rfl
  · split
    · rfl
    · split
      · exact writeM_count _ _ _
      · exact writeM_count _ _ _
theorem loads_count (S : TS) (M : PM) : ∀ n, (loads S M n).2.2.2.count = M.count := by
  intro n
  induction n with
  | zero => rfl
  | succ n ih =>
    unfold loads
    split
    · exact ih
    · exact (loadP_count _ _ _).trans ih
theorem openP_count (M : PM) (frm twins pages : Int) : (openP M frm twins pages).2.2.count = M.count := by
  unfold openP
  split
  · rfl
  · split
    · rfl
    · split
      · exact loads_count _ _ _
      · split
        · exact (syncM_count _).trans (loads_count _ _ _)
        · simp only
          split
          · exact (syncM_count _).trans (loads_count _ _ _)
          · exact loads_count _ _ _
theorem loadP_good (S : TS) (M : PM) (n : Nat) (p : Pg) (h : p ∈ (loadP S M n).2.2.1.pages) : p ∈ S.pages ∨ goodP p = true := by
  have key : ∀ (S : TS) (q : Pg), goodP q = true → p ∈ (S.push q).pages → p ∈ S.pages ∨ goodP p = true := fun S q hq hp => by
    rcases List.mem_append.1 hp with h | h
    · exact .inl h
    · rw [List.mem_singleton.1 h]; exact .inr hq
  unfold loadP at h
  split at h
  · split at h
    · rename_i q hq; exact key S q (pageM_good hq) h
    · exact key S _ goodP_empty h
  · split at h
    · exact key S _ goodP_empty h
    · rename_i q hq
      split at h
      · exact .inl h
      · exact key (S.die true) q (copiedN_good hq) h
theorem loads_good (S : TS) (M : PM) : ∀ n, ∀ p ∈ (loads S M n).2.2.1.pages, p ∈ S.pages ∨ goodP p = true := by
  intro n
  induction n with
  | zero => intro p h; exact .inl h
  | succ n ih =>
    intro p h
    unfold loads at h
    split at h
    · exact ih p h
    · rcases loadP_good _ _ _ p h with h | h
      · exact ih p h
      · exact .inr h
/-- What a store is when it has been opened. -/
structure Fine (frm twins : Int) (S : TS) : Prop where
  fr : S.frm = frm
  tw : S.twins = twins
  f0 : 0 ≤ frm
  f1 : frm ≤ 1000000
  t0 : 1 ≤ twins
  t1 : twins ≤ 64
  pg : S.pages.length ≤ 1024
  gd : ∀ p ∈ S.pages, goodP p = true
theorem openP_fine {M : PM} {frm twins pages : Int} (hc : M.count ≤ 16384) {S : TS} (h : (openP M frm twins pages).1 = some S) : Fine frm twins S := by
  unfold openP at h
  split at h
  · cases h
  · rename_i hn
    split at h
    · cases h
    · split at h
      · cases h
      · split at h
        · cases h
        · simp only at h
          split at h
          · cases h
            obtain ⟨h1, h2, _, h4, _⟩ := loads_keep ⟨frm, twins, [], M.life, false⟩ M pages.toNat
            refine ⟨h1, h2, by omega, by omega, by omega, by omega, ?_, fun p hp => ?_⟩
            · have : (loads ⟨frm, twins, [], M.life, false⟩ M pages.toNat).2.2.1.pages.length ≤ 0 + pages.toNat := h4
              show (loads ⟨frm, twins, [], M.life, false⟩ M pages.toNat).2.2.1.pages.length ≤ 1024
              omega
            · rcases loads_good _ _ _ p hp with h | h
              · cases h
              · exact h
          · cases h
theorem openP_ok {b : Nat} {M : PM} (h : PlOk b M) (hb : b + 1100 ≤ 100000) (frm twins pages : Int) : PlOk (b + 1100) (openP M frm twins pages).2.2 := by
  unfold openP
  split
  · exact h.mono (by omega) hb
  · rename_i hn
    have hk := loads_ok (S := ⟨frm, twins, [], M.life, false⟩) h pages.toNat (by omega)
    split
    · exact h.mono (by omega) hb
    · split
      · exact hk.mono (by omega) hb
      · split
        · exact (hk.sync (by omega)).mono (by omega) hb
        · simp only
          split
          · exact (hk.sync (by omega)).mono (by omega) hb
          · exact hk.mono (by omega) hb
theorem layQ_count : ∀ (ws : List (Int × ByteArray)) (M : PM), (layQ M ws).2.count = M.count
  | [], M => syncM_count M
  | x :: t, M => by
    show (if (writeM M x.1 x.2).1 ≠ 0 then writeM M x.1 x.2 else layQ (writeM M x.1 x.2).2 t).2.count = _
    split
    · exact writeM_count _ _ _
    · exact (layQ_count t _).trans (writeM_count _ _ _)
theorem writeT_count (S : TS) (M : PM) (L : List Lf) : (writeT S M L).2.2.count = M.count := by
  unfold writeT
  split
  · rfl
  · split
    · rfl
    · split
      · rfl
      · split
        · exact layQ_count _ _
        · split
          · exact (layQ_count _ _).trans (layQ_count _ _)
          · exact (layQ_count _ _).trans (layQ_count _ _)
theorem writeT_ok {b : Nat} {S : TS} {M : PM} {L : List Lf} (h : PlOk b M) (hb : b + 300 ≤ 100000) (hl : L.length ≤ 100) (hp : S.pages.length ≤ 1024) : PlOk (b + 300) (writeT S M L).2.2 := by
  unfold writeT
  split
  · exact h.mono (by omega) hb
  · split
    · exact h.mono (by omega) hb
    · rename_i hft
      split
      · exact h.mono (by omega) hb
      · have hlk : LfOk L := fun p hp' => by
          have h1 : fitPM S.pages.length [] L = true := by
            cases hq : fitPM S.pages.length [] L with
            | true => rfl
            | false => exact absurd (by unfold fitsT; rw [hq]; rfl) hft
          have := fitPM_true h1 p hp'
          exact ⟨this.2.2, this.1, by omega⟩
        have h1 := layQ_ok h (wsOf_size (pl := fun i => S.frm + (i : Int)) hlk) (by rw [wsOf_len]; omega)
        rw [wsOf_len] at h1
        split
        · exact h1.mono (by omega) hb
        · have h2 := layQ_ok h1 (wsOf_size (pl := plH S L) hlk) (by rw [wsOf_len]; omega)
          rw [wsOf_len] at h2
          split
          · exact h2.mono (by omega) hb
          · exact h2.mono (by omega) hb
theorem putT_memL : ∀ (L : List Lf) (S : TS) (p : Pg), p ∈ (putT S L).pages → p ∈ S.pages ∨ ∃ q ∈ L, p = q.2
  | [], _, _, h => .inl h
  | q :: L, S, p, h => by
    rcases putT_memL L (S.set q.1.toNat q.2) p h with h | ⟨r, hr, e⟩
    · rcases List.mem_or_eq_of_mem_set h with h | h
      · exact .inl h
      · exact .inr ⟨q, .head _, h⟩
    · exact .inr ⟨r, .tail _ hr, e⟩
theorem writeT_fine {frm twins : Int} {S : TS} {M : PM} {L : List Lf} (h : Fine frm twins S) : Fine frm twins (writeT S M L).2.1 := by
  have hdie : ∀ d, Fine frm twins (S.die d) := fun d => ⟨h.fr, h.tw, h.f0, h.f1, h.t0, h.t1, h.pg, h.gd⟩
  unfold writeT
  split
  · exact h
  · split
    · exact h
    · rename_i hft
      split
      · exact h
      · split
        · exact hdie true
        · split
          · exact hdie true
          · obtain ⟨k1, k2, k3, _, _⟩ := putT_keep L (S.die false)
            refine ⟨k1.trans h.fr, k2.trans h.tw, h.f0, h.f1, h.t0, h.t1, ?_, fun p hp => ?_⟩
            · show (putT (S.die false) L).pages.length ≤ 1024
              rw [k3]; exact h.pg
            · rcases putT_memL L _ p hp with h1 | ⟨q, hq, rfl⟩
              · exact h.gd p h1
              · have h1 : fitPM S.pages.length [] L = true := by
                  cases hq : fitPM S.pages.length [] L with
                  | true => rfl
                  | false => exact absurd (by unfold fitsT; rw [hq]; rfl) hft
                exact (fitPM_true h1 q hq).2.2
theorem fateTo_memL (f : Nat → Int) (q D : List (Int × ByteArray)) {x : Int × ByteArray} : ∀ k, x ∈ fateTo f q D k → x ∈ D ∨ x ∈ q ∨ x.2 = ⟨#[]⟩ := by
  intro k
  induction k with
  | zero => intro h; exact .inl h
  | succ k ih =>
    intro h
    unfold fateTo at h
    split at h
    · rename_i y hy
      unfold stepF at h
      split at h
      · rcases putL_mem h with h | h
        · exact .inr (.inl (by rw [h]; exact List.mem_of_getElem? hy))
        · exact ih h
      · split at h
        · rcases putL_mem h with h | h
          · exact .inr (.inr (by rw [h]))
          · exact ih h
        · exact ih h
    · exact ih h
theorem PlOk.onX {b : Nat} {M : PM} (h : PlOk b M) (f : Nat → Int) : PlOk b (onM M f) := by
  unfold onM
  split
  · refine ⟨fun x hx => ?_, (fun x hx => by cases hx), ?_⟩
    · rcases fateTo_memL f M.queue M.secs _ hx with h1 | h1 | h1
      · exact h.1 x h1
      · exact .inr (h.2.1 x h1)
      · rw [h1]; exact .inl rfl
    · have := h.2.2
      simp only [List.length_nil]
      omega
  · exact h
theorem PlOk.armX {b : Nat} {M : PM} (h : PlOk b M) {n : Int} (hn : n ≤ 9223372036854775807) : PlOk b (armM M n) := by
  refine ⟨h.1, h.2.1, ?_⟩
  have := h.2.2
  unfold armM
  simp only
  omega
theorem PlateIs.split {pb : Nat} {M : PM} {G : Heaplet} {w : World} (h : PlateIs pb M G w) : ∃ A, (∀ W G', Sat W (A ++ G') → PlateIs pb M G' W) ∧ Sat w (A ++ G) := by
  obtain ⟨m, es, clk, qv, qh, g1, g2, hs⟩ := h
  refine ⟨.blk pb (plateObj M m qv) :: .blk m (.map es clk) :: qh, fun W G' hW => ⟨m, es, clk, qv, qh, g1, g2, hW⟩, hs⟩
theorem StIs.split {tb pb : Nat} {S : TS} {M : PM} {G : Heaplet} {w : World} (h : StIs tb pb S M G w) : ∃ A, (∀ W G', Sat W (A ++ G') → StIs tb pb S M G' W) ∧ Sat w (A ++ G) := by
  obtain ⟨pv, R, h', K, h1, h2, hp⟩ := h
  obtain ⟨A, hA, hs⟩ := hp.split
  refine ⟨A ++ (.blk tb (stO S pb pv) :: (h' ++ K)), fun W G' hW => ⟨pv, R, h', K, h1, h2, hA W _ (hW.part (fun a => ?_))⟩, hs.part (fun a => ?_)⟩
  · simp only [cnt_cons, cnt_append, List.append_assoc, List.cons_append]; omega
  · simp only [cnt_cons, cnt_append, List.append_assoc, List.cons_append]; omega
theorem RQ.split {pb : Nat} {M : PM} {G : Heaplet} {w : World} (h : RQ pb M G w) : ∃ A, (∀ W G', Sat W (A ++ G') → RQ pb M G' W) ∧ Sat w (A ++ G) := by
  obtain ⟨⟨H, hH, hs⟩, hb⟩ := h
  exact ⟨H, fun W G' hW => ⟨⟨H, hH, hW⟩, hb⟩, hs⟩
theorem RSt.split {E : Heaplet} {tb pb : Nat} {S : TS} {M : PM} {G : Heaplet} {w : World} (h : RSt E tb pb S M G w) : ∃ A, (∀ W G', Sat W (A ++ (E ++ G')) → RSt E tb pb S M G' W) ∧ Sat w (A ++ (E ++ G)) := by
  obtain ⟨pv, R, h', K, h1, h2, hp⟩ := h
  obtain ⟨A, hA, hs⟩ := hp.split
  refine ⟨A ++ (.blk tb (rsO S pb pv) :: (h' ++ K)), fun W G' hW => ⟨pv, R, h', K, h1, h2, hA W _ (hW.part (fun a => ?_))⟩, hs.part (fun a => ?_)⟩
  · simp only [cnt_cons, cnt_append, List.append_assoc, List.cons_append]; omega
  · simp only [cnt_cons, cnt_append, List.append_assoc, List.cons_append]; omega
abbrev ptrV (t : Option Nat) : Value := .pointer (t.map fun b => ⟨b, 0, none⟩)
/-- The program's side: a store, or a plate alone. -/
def AIs (t : Option Nat) (db : Nat) (o : Option TS) (M : PM) (G : Heaplet) (w : World) : Prop := match o, t with
  | some S, some tb => StIs tb db S M G w
  | none, none => PlateIs db M G w
  | _, _ => False
/-- The document's side. -/
def BIs (E : Heaplet) (t : Option Nat) (ub : Nat) (o : Option TS) (M : PM) (G : Heaplet) (w : World) : Prop := match o, t with
  | some S, some tb => RSt E tb ub S M G w
  | none, none => RQ ub M (E ++ G) w
  | _, _ => False
theorem AIs.split {t : Option Nat} {db : Nat} {o : Option TS} {M : PM} {G : Heaplet} {w : World} (h : AIs t db o M G w) : ∃ A, (∀ W G', Sat W (A ++ G') → AIs t db o M G' W) ∧ Sat w (A ++ G) := by
  cases o with
  | none => cases t with
    | none => exact PlateIs.split h
    | some tb => exact h.elim
  | some S => cases t with
    | none => exact h.elim
    | some tb => exact StIs.split h
theorem BIs.split {E : Heaplet} {t : Option Nat} {ub : Nat} {o : Option TS} {M : PM} {G : Heaplet} {w : World} (h : BIs E t ub o M G w) : ∃ A, (∀ W G', Sat W (A ++ (E ++ G')) → BIs E t ub o M G' W) ∧ Sat w (A ++ (E ++ G)) := by
  cases o with
  | none => cases t with
    | none =>
      obtain ⟨A, h1, h2⟩ := RQ.split h
      exact ⟨A, fun W G' hW => h1 W _ hW, h2⟩
    | some tb => exact h.elim
  | some S => cases t with
    | none => exact h.elim
    | some tb => exact RSt.split h
/-- Both in one world, with what came in. -/
def TwoIs (E : Heaplet) (s v : Option Nat) (db ub : Nat) (o : Option TS) (M : PM) (G : Heaplet) (w : World) : Prop := ∃ A B, (∀ W G', Sat W (A ++ G') → AIs s db o M G' W) ∧ (∀ W G', Sat W (B ++ (E ++ G')) → BIs E v ub o M G' W) ∧ Sat w (A ++ (B ++ (E ++ G)))
/-- The program does something. -/
theorem TwoIs.left {E : Heaplet} {s v : Option Nat} {db ub : Nat} {o : Option TS} {M : PM} {G : Heaplet} {w : World} (h : TwoIs E s v db ub o M G w) : ∃ B, (∀ W G', Sat W (B ++ (E ++ G')) → BIs E v ub o M G' W) ∧ AIs s db o M (B ++ (E ++ G)) w := by
  obtain ⟨A, B, hA, hB, hs⟩ := h
  exact ⟨B, hB, hA _ _ hs⟩
/-- The document does something behind it. -/
theorem AIs.right {E : Heaplet} {s v : Option Nat} {db ub : Nat} {o o' : Option TS} {M M' : PM} {B G : Heaplet} {w : World} (h : AIs s db o' M' (B ++ (E ++ G)) w) (hB : ∀ W G', Sat W (B ++ (E ++ G')) → BIs E v ub o M G' W) : ∃ A, (∀ W G', Sat W (A ++ G') → AIs s db o' M' G' W) ∧ BIs E v ub o M (A ++ G) w := by
  obtain ⟨A, hA, hs⟩ := h.split
  exact ⟨A, hA, hB _ _ (hs.part (fun a => by simp only [cnt_append]; omega))⟩
/-- Both are there again. -/
theorem BIs.both {E : Heaplet} {s v : Option Nat} {db ub : Nat} {o : Option TS} {M : PM} {A G : Heaplet} {w : World} (h : BIs E v ub o M (A ++ G) w) (hA : ∀ W G', Sat W (A ++ G') → AIs s db o M G' W) : TwoIs E s v db ub o M G w := by
  obtain ⟨B, hB, hs⟩ := h.split
  exact ⟨A, B, hA, hB, hs.part (fun a => by simp only [cnt_append]; omega)⟩
theorem TwoIs.frame {E : Heaplet} {s v : Option Nat} {db ub : Nat} {o : Option TS} {M : PM} {G : Heaplet} {w : World} (h : TwoIs E s v db ub o M G w) : Sat w G := by
  obtain ⟨A, B, _, _, hs⟩ := h
  exact hs.right.right.right
theorem TwoIs.env {E : Heaplet} {s v : Option Nat} {db ub : Nat} {o : Option TS} {M : PM} {G : Heaplet} {w : World} (h : TwoIs E s v db ub o M G w) : Sat w E := by
  obtain ⟨A, B, _, _, hs⟩ := h
  exact Sat.lft (F := G) hs.right.right
theorem TwoIs.below {E : Heaplet} {s v : Option Nat} {db ub : Nat} {o : Option TS} {M : PM} {G : Heaplet} {w w' : World} (h : TwoIs E s v db ub o M G w) (hb : Below w.heap.size w w') : TwoIs E s v db ub o M G w' := by
  obtain ⟨A, B, hA, hB, hs⟩ := h
  exact ⟨A, B, hA, hB, hs.monoB hb⟩
theorem TwoIs.part {E : Heaplet} {s v : Option Nat} {db ub : Nat} {o : Option TS} {M : PM} {G G' : Heaplet} {w : World} (h : TwoIs E s v db ub o M G w) (hc : ∀ a, cnt a G' ≤ cnt a G) : TwoIs E s v db ub o M G' w := by
  obtain ⟨A, B, hA, hB, hs⟩ := h
  exact ⟨A, B, hA, hB, hs.part (fun a => by have := hc a; simp only [cnt_append]; omega)⟩
theorem TwoIs.new {E : Heaplet} {s v : Option Nat} {db ub : Nat} {o : Option TS} {M : PM} {G : Heaplet} {w : World} (h : TwoIs E s v db ub o M G w) (x : Obj) : TwoIs E s v db ub o M (.blk w.heap.size x :: G) (w.alloc x) := by
  obtain ⟨A, B, hA, hB, hs⟩ := h
  exact ⟨A, B, hA, hB, (hs.new x).part (fun a => by simp only [cnt_append, cnt_cons]; omega)⟩
end Go.Proofs.YtgocmnejlbfplaaGreatDoor
