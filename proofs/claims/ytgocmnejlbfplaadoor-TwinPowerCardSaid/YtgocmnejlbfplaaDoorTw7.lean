/- The copy of a page: copied walked. Conditions: none. -/
import Derived.Test.YtgocmnejlbfplaaDoorTw6
import Derived.Test.YtgocmnejlbfplaaDoorSub
namespace Go.Proofs.YtgocmnejlbfplaaDoor
open Go Go.MapKept Go.RowKit Go.Proofs

attribute [local go_sem] Oper.semAt_some

/-- A part of the frame. -/
theorem StIs.part {tb pb : Nat} {S : TS} {M : PM} {G G' : Heaplet} {w : World} (h : StIs tb pb S M G w) (hc : ∀ a, cnt a G' ≤ cnt a G) : StIs tb pb S M G' w := by
  obtain ⟨pv, R, h', K, h1, h2, m, es, clk, qv, qh, g1, g2, hs⟩ := h
  refine ⟨pv, R, h', K, h1, h2, m, es, clk, qv, qh, g1, g2, hs.part (fun a => ?_)⟩
  have := hc a
  simp only [cnt_cons, cnt_append]
  omega
theorem StIs.new {tb pb : Nat} {S : TS} {M : PM} {G : Heaplet} {w : World} (h : StIs tb pb S M G w) (o : Obj) : StIs tb pb S M (.blk w.heap.size o :: G) (w.alloc o) := by
  obtain ⟨Z, _, _, hz, hmk, _⟩ := h.view
  exact hmk _ [.blk w.heap.size o] (hz.new o)
/-- A block of the frame is written. -/
theorem StIs.setF {tb pb g i : Nat} {S : TS} {M : PM} {G : Heaplet} {w : World} {c : Array Value} {t : TypeId} {z : Nat × Nat} (h : StIs tb pb S M (.blk g (.cells c t z) :: G) w) (v : Value) : StIs tb pb S M (.blk g (.cells (c.setIfInBounds i v) t z) :: G) (w.setCell ⟨g, i, none⟩ v) := by
  obtain ⟨pv, R, h', K, h1, h2, hp⟩ := h
  have p : ∀ x : HItem, (HItem.blk tb (stO S pb pv) :: (h' ++ (K ++ (x :: G)))).Perm (x :: HItem.blk tb (stO S pb pv) :: (h' ++ (K ++ G))) := fun x => by
    have := List.perm_middle (l₁ := HItem.blk tb (stO S pb pv) :: (h' ++ K)) (l₂ := G) (a := x)
    simpa using this
  exact ⟨pv, R, h', K, h1, h2, ((hp.permF (p _)).setF v).permF (p _).symm⟩
/-- What lies on a plate is whole sectors, or torn ones. -/
def PlOk (b : Nat) (M : PM) : Prop := (∀ x ∈ M.secs, x.2.size = 0 ∨ x.2.size = 256) ∧ (∀ x ∈ M.queue, x.2.size = 256) ∧ (M.queue.length ≤ b ∧ b ≤ 100000 ∧ 1 ≤ M.count ∧ 0 ≤ M.life ∧ M.life ≤ b ∧ 0 ≤ M.acts ∧ M.acts ≤ b ∧ M.armed ≤ 9223372036854775807)
theorem PlOk.read {bd : Nat} {M : PM} (h : PlOk bd M) {n : Int} (h0 : (readM M n).2 = 0) : (readM M n).1.size = 256 := by
  unfold readM at *
  by_cases hr : readyM M n ≠ 0
  · rw [if_pos hr] at h0
    exact absurd h0 hr
  · rw [if_neg hr] at h0 ⊢
    cases hl : lastM n M.queue with
    | some s =>
      simp only
      unfold lastM at hl
      rw [Option.map_eq_some_iff] at hl
      obtain ⟨x, hx, rfl⟩ := hl
      exact h.2.1 x (by have := List.mem_of_find?_eq_some hx; rwa [List.mem_reverse] at this)
    | none =>
      rw [hl] at h0
      simp only at h0 ⊢
      cases hg : getL n M.secs with
      | none =>
        show (List.replicate 256 (0 : UInt8)).toArray.size = 256
        rw [List.size_toArray, List.length_replicate]
      | some s =>
        rw [hg] at h0
        simp only at h0 ⊢
        by_cases hz : s.size = 0
        · rw [if_pos hz] at h0
          exact absurd h0 (by decide)
        · rw [if_neg hz]
          have := h.1 _ (getL_mem hg)
          simp only at this ⊢
          omega
/-- The better of two. -/
def better (b : Option Pg) (p : Pg) : Option Pg := match b with
  | none => some p
  | some q => if q.lsn < p.lsn then some p else some q
def took (b o : Option Pg) : Option Pg := match o with
  | none => b
  | some p => better b p
/-- One copy more is looked at. -/
def copyStep (n : Nat) (b : Option Pg) (r : ByteArray × Int) : Option Pg := if r.2 ≠ 0 then b else took b (pageM n r.1)
def copiedN (M : PM) (frm : Int) (n k : Nat) : Option Pg := (List.range k).foldl (fun b (i : Nat) => copyStep n b (readM M (frm + (i : Int)))) none
theorem copiedN_succ (M : PM) (frm : Int) (n k : Nat) : copiedN M frm n (k + 1) = copyStep n (copiedN M frm n k) (readM M (frm + (k : Int))) := by
  unfold copiedN
  rw [List.range_succ, List.foldl_append]
  rfl
def bestP (b : Option Pg) : Pg := b.getD emptyP
/-- The image, whether there is one. -/
def CpRet (b : Option Pg) (tb pb : Nat) (S : TS) (M : PM) (G : Heaplet) (e : Ending) (w' : World) : Prop := ∃ sv h, e = .returned (.tuple #[pgV (bestP b).lsn sv, .bool b.isSome]) ∧ StIs tb pb S M (h ++ G) w' ∧ SlAt h sv (bestP b).slots
theorem copied_results (tm : Array Value) (W9 : World) (g : Nat) (n : Int) (c : Bool) (sv : Value) (h1 : (tm[4]?).getD undef = .pointer (some ⟨g, 0, none⟩)) (h2 : (tm[5]?).getD undef = .bool c) (r0 : W9.cell? ⟨g, 0, none⟩ = some (kI n)) (r1 : W9.cell? ⟨g, 1, none⟩ = some sv) :
    (results Tryd.f37 tm).run Tryd.prog W9 = .ok (.tuple #[pgV n sv, .bool c]) W9 := by
  simp [results, Tryd.results37, go_sem, h1, h2, r0, r1]
theorem StIs.read {tb pb : Nat} {S : TS} {M : PM} {G : Heaplet} {w : World} (h : StIs tb pb S M G w) {bd : Nat} (hk : PlOk bd M) (n : Int) : Calls Tryd.prog 18 #[.pointer (some ⟨pb, 0, none⟩), .int .i64 n] w (Ret (.tuple #[.string (readM M n).1, .int .i64 (readM M n).2]) (StIs tb pb S M G)) := by
  obtain ⟨pv, R, h', K, h1, h2, hp⟩ := h
  refine (read_any pb M _ n w hp (by have := hk.2.2; omega)).mono ?_
  rintro e w' ⟨rfl, hp'⟩
  exact ⟨rfl, pv, R, h', K, h1, h2, hp'⟩
set_option maxRecDepth 100000 in
set_option maxHeartbeats 4000000 in
theorem copied_any {tb pb : Nat} {S : TS} {M : PM} {G : Heaplet} {w : World} (h : StIs tb pb S M G w) {bd : Nat} (hk : PlOk bd M) (n : Nat) (hn : n < 1000000) (hf : 0 ≤ S.frm ∧ S.frm ≤ 1000000) (ht : 0 ≤ S.twins ∧ S.twins ≤ 64) :
    Calls Tryd.prog 37 #[.pointer (some ⟨tb, 0, none⟩), .int .i64 (n : Int)] w (CpRet (copiedN M S.frm n S.twins.toNat) tb pb S M G) := by
  obtain ⟨tw, htw⟩ : ∃ tw : Nat, S.twins = (tw : Int) := ⟨S.twins.toNat, by omega⟩
  obtain ⟨Z, a, cap, hz, hmk, hcl, hrw⟩ := h.view
  have h1 := hz.new (.cells #[kI 0, .slice none 0 0] 25)
  obtain ⟨bb, hbb⟩ : ∃ bb, w.heap.size = bb := ⟨_, rfl⟩
  rw [hbb] at h1
  have HS1 : Hid (StIs tb pb S M (.blk bb (.cells #[kI 0, .slice none 0 0] 25) :: ([] ++ G)) (w.alloc (.cells #[kI 0, .slice none 0 0] 25))) := Lib.hid (hmk _ [.blk bb (.cells #[kI 0, .slice none 0 0] 25)] h1)
  rw [htw, Int.toNat_natCast]
  have tw64 : (tw : Int) ≤ 64 := by omega
  have tw0 : (0 : Int) ≤ (tw : Int) := by omega
  have c2 : (w.alloc (.cells #[kI 0, .slice none 0 0] 25)).cell? ⟨tb, 2, none⟩ = some (kI (tw : Int)) := by
    obtain ⟨_, _, _, _, _, _, e2, _⟩ := HS1.out.cells
    rw [e2, htw]
  have HK := Lib.hid hk
  obtain ⟨f0, f1⟩ := hf
  clear h hz hmk hcl hrw h1 hk ht
  go_enter Tryd.func37, Tryd.ntmps37
  go_wp2_with fail
  go_loopw [5, 15] (fun v5 v15 wr => ∃ (k : Nat) (sv : Value) (hb : Heaplet), k ≤ tw ∧ v15 = .int .i64 k ∧ v5 = .bool (copiedN M S.frm n k).isSome ∧ SlAt hb sv (bestP (copiedN M S.frm n k)).slots ∧ StIs tb pb S M (.blk bb (.cells #[kI (bestP (copiedN M S.frm n k)).lsn, sv] 25) :: (hb ++ G)) wr) (fun _ v15 _ => 1000 - (intOf v15).toNat)
  case atStart => exact ⟨0, .slice none 0 0, [], by omega, rfl, rfl, SlAt.nil _ _ _, HS1.out⟩
  case round =>
    clear HS1 c2
    obtain ⟨k, sv, hb, hkt, rfl, rfl, hsl, hs⟩ := hrel
    have k0 : (0 : Int) ≤ (k : Int) := by omega
    obtain ⟨bs, hbs⟩ : ∃ bs, copiedN M S.frm n k = bs := ⟨_, rfl⟩
    rw [hbs] at hsl hs ⊢
    by_cases hlt : k < tw
    · have k1 : (k : Int) < (tw : Int) := by omega
      have hsum : IntKind.i64.wrap (S.frm + (k : Int)) = S.frm + (k : Int) := IntWalk.i64_in _ (by omega)
      have HST := Lib.hid (copiedN_succ M S.frm n k)
      rw [hbs] at HST
      obtain ⟨rd, hrd⟩ : ∃ rd, readM M (S.frm + (k : Int)) = rd := ⟨_, rfl⟩
      have hcell : ∀ W, StIs tb pb S M (.blk bb (.cells #[kI (bestP bs).lsn, sv] 25) :: (hb ++ G)) W → W.cell? ⟨tb, 0, none⟩ = some (.pointer (some ⟨pb, 0, none⟩)) ∧ W.cell? ⟨tb, 1, none⟩ = some (kI S.frm) := fun W hW => by
        obtain ⟨_, _, _, _, e0, e1, _⟩ := hW.cells
        exact ⟨e0, e1⟩
      have HC := Lib.hid hcell
      have hs' : StIs tb pb S M (.blk bb (.cells #[kI (bestP bs).lsn, sv] 25) :: (hb ++ G)) wr.drew := hs.below (Grown.drewN wr 1).below
      have K1 := Lib.hid (hcell _ hs)
      have K2 : Hid (wr.drew.cell? ⟨tb, 0, none⟩ = some (.pointer (some ⟨pb, 0, none⟩)) ∧ wr.drew.cell? ⟨tb, 1, none⟩ = some (kI S.frm)) := Lib.hid (hcell _ hs')
      have HRD := Lib.hid (StIs.read hs' HK.out (S.frm + (k : Int)))
      rw [hrd] at HRD
      have HR2 := Lib.hid hrd
      have HSL := Lib.hid hsl
      clear hcell hs hs' hrd hsl
      go_upto_region 4 with (fail)
      obtain ⟨rs, re⟩ := rd
      go_cut [7, 8] (fun v7 v8 wx => v7 = .string rs ∧ v8 = .int .i64 re ∧ StIs tb pb S M (.blk bb (.cells #[kI (bestP bs).lsn, sv] 25) :: (hb ++ G)) wx)
      case first =>
        go_region_held3 (fun w' => w'.cell? ⟨tb, 0, none⟩ = some (.pointer (some ⟨pb, 0, none⟩)) ∧ w'.cell? ⟨tb, 1, none⟩ = some (kI S.frm))
          (with_reducible first | exact K1.out | exact K2.out | exact K3.out)
          (first
            | (go_at_call 18
               with_reducible refine (HRD.out).mono ?_
               rintro e w3 ⟨rfl, hs3⟩
               have HS3 := Lib.hid hs3
               have K3 := Lib.hid (HC.out _ hs3)))
        all_goals
          clear K1 K2 K3 HC HRD hsum hs3
          go_wp2_with fail
          go_meet
          exact ⟨rfl, rfl, HS3.out⟩
      case rest =>
        obtain ⟨rfl, rfl, hs⟩ := hcut
        clear K1 K2 HC HRD hsum
        by_cases hre : re = 0
        · subst hre
          have hsz : rs.size = 256 := by
            have := HK.out.read (n := S.frm + (k : Int)) (by rw [HR2.out])
            rw [HR2.out] at this
            exact this
          obtain ⟨Z, _, _, hz, hmk, _⟩ := hs.view
          have HPG := Lib.hid (page_any n (by omega) rs hsz Z wc hz)
          have HMK := Lib.hid hmk
          have hst : copiedN M S.frm n (k + 1) = took bs (pageM n rs) := by rw [HST.out, HR2.out]; unfold copyStep; rw [if_neg (by simp)]
          have HS0 := Lib.hid hs
          clear hz hmk hs hsz HST HR2
          cases hpm : pageM n rs with
          | none =>
            rw [hpm] at HPG hst
            have HNX : Hid (copiedN M S.frm n (k + 1) = bs) := Lib.hid hst
            clear hst hpm
            go_upto_region 7 with (go_at_call 35; refine (HPG.out).mono ?_; rintro e w3 ⟨sv3, h3, hs3, rfl⟩; have HS3 := Lib.hid ((HMK.out w3 [] hs3.right).new (.cells #[kI 0, .slice none 0 0] 25)); clear hs3)
            have FIN := Lib.hid (HS3.out.part (G' := .blk bb (.cells #[kI (bestP bs).lsn, sv] 25) :: (hb ++ G)) (fun a => by simp only [cnt_cons, cnt_append, cnt_nil, List.nil_append]; omega))
            clear HS3 HS0
            go_wp2_with fail
            exact ⟨⟨k + 1, sv, hb, by omega, by simp, by rw [HNX.out], by rw [HNX.out]; exact HSL.out, by rw [HNX.out]; exact FIN.out⟩, by simp only [intOf]; omega⟩
          | some p =>
            rw [hpm] at HPG hst
            have HNX : Hid (copiedN M S.frm n (k + 1) = better bs p) := Lib.hid hst
            clear hst hpm
            go_upto_region 7 with (go_at_call 35; refine (HPG.out).mono ?_; rintro e w3 ⟨sv3, h3, hs3, rfl, hsl3⟩; obtain ⟨sa3, sc3, rfl, _⟩ := id hsl3; have HSL3 := Lib.hid hsl3; have HS3 := Lib.hid ((HMK.out w3 h3 hs3).new (.cells #[kI p.lsn, .slice sa3 p.slots.length sc3] 25)); clear hs3 hsl3)
            have HS4 := Lib.hid (HS3.out.part (G' := .blk bb (.cells #[kI (bestP bs).lsn, sv] 25) :: .blk w3.heap.size (.cells #[kI p.lsn, .slice sa3 p.slots.length sc3] 25) :: (h3 ++ (hb ++ G))) (fun a => by simp only [cnt_cons, cnt_append]; omega))
            have g0 := (two_at HS3.out.frame).1
            have g1 := (two_at HS3.out.frame).2.1
            obtain ⟨e0, e1, ef⟩ := two_at HS4.out.frame
            generalize w3.alloc (.cells #[kI p.lsn, .slice sa3 p.slots.length sc3] 25) = W5 at *
            generalize w3.heap.size = gb at *
            have h9 := (HS4.out.setF (i := 0) (kI p.lsn)).setF (i := 1) (.slice sa3 p.slots.length sc3)
            have HSET : Hid (StIs tb pb S M (.blk bb (.cells #[kI p.lsn, .slice sa3 p.slots.length sc3] 25) :: (h3 ++ G)) ((W5.setCell ⟨bb, 0, none⟩ (kI p.lsn)).setCell ⟨bb, 1, none⟩ (.slice sa3 p.slots.length sc3))) := Lib.hid (StIs.part (show StIs tb pb S M (.blk bb (.cells #[kI p.lsn, .slice sa3 p.slots.length sc3] 25) :: .blk gb (.cells #[kI p.lsn, .slice sa3 p.slots.length sc3] 25) :: (h3 ++ (hb ++ G))) _ from h9) (fun a => by simp only [cnt_cons, cnt_append]; omega))
            have HKEEP := Lib.hid (HS4.out.part (G' := .blk bb (.cells #[kI (bestP bs).lsn, sv] 25) :: (hb ++ G)) (fun a => by simp only [cnt_cons, cnt_append]; omega))
            clear HS3 HS4 HS0 h9 HPG HMK
            cases bs with
            | none =>
              go_wp2_with fail
              exact ⟨⟨k + 1, .slice sa3 p.slots.length sc3, h3, by omega, by simp, by rw [HNX.out]; rfl, by rw [HNX.out]; exact HSL3.out, by rw [HNX.out]; exact HSET.out⟩, by simp only [intOf]; omega⟩
            | some q =>
              have eq1 : (bestP (some q)) = q := rfl
              rw [eq1] at e0 HKEEP HSL
              by_cases hq : q.lsn < p.lsn
              · have hbt : better (some q) p = some p := by show (if q.lsn < p.lsn then some p else some q) = _; rw [if_pos hq]
                go_wp2_with fail
                exact ⟨⟨k + 1, .slice sa3 p.slots.length sc3, h3, by omega, by simp, by rw [HNX.out, hbt]; rfl, by rw [HNX.out, hbt]; exact HSL3.out, by rw [HNX.out, hbt]; exact HSET.out⟩, by simp only [intOf]; omega⟩
              · have hbt : better (some q) p = some q := by show (if q.lsn < p.lsn then some p else some q) = _; rw [if_neg hq]
                have hq2 : (q.lsn < p.lsn) = False := eq_false hq
                clear hq
                go_wp2_with fail
                exact ⟨⟨k + 1, sv, hb, by omega, by simp, by rw [HNX.out, hbt], by rw [HNX.out, hbt]; exact HSL.out, by rw [HNX.out, hbt]; exact HKEEP.out⟩, by simp only [intOf]; omega⟩
        · have hr1 : (re == 0) = false := by rw [beq_eq_false_iff_ne]; exact hre
          have hr2 : (re != 0) = true := by rw [bne, hr1]; rfl
          have HNX : Hid (copiedN M S.frm n (k + 1) = bs) := Lib.hid (by rw [HST.out, HR2.out]; unfold copyStep; rw [if_pos hre])
          have FIN := Lib.hid hs
          clear hs HST
          go_wp2_with fail
          exact ⟨⟨k + 1, sv, hb, by omega, by simp, by rw [HNX.out], by rw [HNX.out]; exact HSL.out, by rw [HNX.out]; exact FIN.out⟩, by simp only [intOf]; omega⟩
    · obtain rfl : k = tw := by omega
      have k1 : ((k : Int) < (k : Int)) = False := eq_false (by omega)
      rw [hbs]
      obtain ⟨sa, sc, rfl, _⟩ := id hsl
      obtain ⟨c0, c1, ff⟩ := two_at hs.frame
      have h9 := (hs.setF (i := 0) (kI (bestP bs).lsn)).setF (i := 1) (.slice sa (bestP bs).slots.length sc)
      have h10 : StIs tb pb S M (.blk bb (.cells #[kI (bestP bs).lsn, .slice sa (bestP bs).slots.length sc] 25) :: (hb ++ G)) ((wr.setCell ⟨bb, 0, none⟩ (kI (bestP bs).lsn)).setCell ⟨bb, 1, none⟩ (.slice sa (bestP bs).slots.length sc)) := h9
      have R9 := Lib.hid (two_at h10.frame)
      have FIN := Lib.hid (h10.part (G' := hb ++ G) (fun a => by simp only [cnt_cons, cnt_append]; omega))
      have HSL := Lib.hid hsl
      obtain ⟨bi, hbi⟩ : ∃ bi, bs.isSome = bi := ⟨_, rfl⟩
      have HBI := Lib.hid hbi
      rw [hbi]
      have HBS := Lib.hid hbs
      clear h9 h10 hs hsl hbi hkt hlt hbs
      go_wp2_with fail
      exact bodyPost_ret (v := .tuple #[pgV (bestP bs).lsn (.slice sa (bestP bs).slots.length sc), .bool bi]) (copied_results _ _ bb (bestP bs).lsn bi _ rfl rfl R9.out.1 R9.out.2.1) rfl ⟨.slice sa (bestP bs).slots.length sc, hb, by rw [HBS.out, HBI.out], FIN.out, by rw [HBS.out]; exact HSL.out⟩
end Go.Proofs.YtgocmnejlbfplaaDoor
