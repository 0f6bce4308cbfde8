/- Texts put together: Tw7, Tw8, Tw9. Conditions: none. -/
import Derived.Test.YtgocmnejlbfplaaGreatDoorTy4
import Derived.Test.YtgocmnejlbfplaaGreatDoorTy7
import Derived.Test.YtgocmnejlbfplaaGreatDoorTy17
namespace Go.Proofs.YtgocmnejlbfplaaGreatDoor
open Go Go.MapKept Go.RowKit Go.Proofs

attribute [local go_sem] Oper.semAt_some

/-- A part of the frame. -/
theorem StIs.part {tb pb : Nat} {S : TS} {M : PM} {G G' : Heaplet} {w : World} (h : StIs tb pb S M G w) (hc : ∀ a, cnt a G' ≤ cnt a G) : StIs tb pb S M G' w := by
  obtain ⟨pv, R, h', K, h1, h2, m, es, clk, qv, qh, g1, g2, hs⟩ := h
  refine ⟨pv, R, h', K, h1, h2, m, es, clk, qv, qh, g1, g2, hs.part (fun a => ?_)⟩
  have := hc a
  simp only [cnt_cons, cnt_append]
  omega
theorem StIs.new {tb pb : Nat} {S : TS} {M : PM} {G : Heaplet} {w : World} (h : StIs tb pb S M G w) (o : Obj) : StIs tb pb S M (.blk w.heap.size o :: G) (w.alloc o) := by
  obtain ⟨Z, _, _, hz, hmk, _⟩ := h.view
  exact hmk _ [.blk w.heap.size o] (hz.new o)
/-- A block of the frame is written. -/
theorem StIs.setF {tb pb g i : Nat} {S : TS} {M : PM} {G : Heaplet} {w : World} {c : Array Value} {t : TypeId} {z : Nat × Nat} (h : StIs tb pb S M (.blk g (.cells c t z) :: G) w) (v : Value) : StIs tb pb S M (.blk g (.cells (c.setIfInBounds i v) t z) :: G) (w.setCell ⟨g, i, none⟩ v) := by
  obtain ⟨pv, R, h', K, h1, h2, hp⟩ := h
  have p : ∀ x : HItem, (HItem.blk tb (stO S pb pv) :: (h' ++ (K ++ (x :: G)))).Perm (x :: HItem.blk tb (stO S pb pv) :: (h' ++ (K ++ G))) := fun x => by
    have := List.perm_middle (l₁ := HItem.blk tb (stO S pb pv) :: (h' ++ K)) (l₂ := G) (a := x)
    simpa using this
  exact ⟨pv, R, h', K, h1, h2, ((hp.permF (p _)).setF v).permF (p _).symm⟩
/-- What lies on a plate is whole sectors, or torn ones. -/
def PlOk (b : Nat) (M : PM) : Prop := (∀ x ∈ M.secs, x.2.size = 0 ∨ x.2.size = 256) ∧ (∀ x ∈ M.queue, x.2.size = 256) ∧ (M.queue.length ≤ b ∧ b ≤ 100000 ∧ 1 ≤ M.count ∧ 0 ≤ M.life ∧ M.life ≤ b ∧ 0 ≤ M.acts ∧ M.acts ≤ b ∧ M.armed ≤ 9223372036854775807)
theorem PlOk.read {bd : Nat} {M : PM} (h : PlOk bd M) {n : Int} (h0 : (readM M n).2 = 0) : (readM M n).1.size = 256 := by
  unfold readM at *
  by_cases hr : readyM M n ≠ 0
  · rw [if_pos hr] at h0
    exact absurd h0 hr
  · rw [if_neg hr] at h0 ⊢
    cases hl : lastM n M.queue with
    | some s =>
      simp only
      unfold lastM at hl
      rw [Option.map_eq_some_iff] at hl
      obtain ⟨x, hx, rfl⟩ := hl
      exact h.2.1 x (by have := List.mem_of_find?_eq_some hx; rwa [List.mem_reverse] at this)
    | none =>
      rw [hl] at h0
      simp only at h0 ⊢
      cases hg : getL n M.secs with
      | none =>
        show (List.replicate 256 (0 : UInt8)).toArray.size = 256
        rw [List.size_toArray, List.length_replicate]
      | some s =>
        rw [hg] at h0
        simp only at h0 ⊢
        by_cases hz : s.size = 0
        · rw [if_pos hz] at h0
          exact absurd h0 (by decide)
        · rw [if_neg hz]
          have := h.1 _ (getL_mem hg)
          simp only at this ⊢
          omega
/-- The better of two. -/
def better (b : Option Pg) (p : Pg) : Option Pg := match b with
  | none => some p
  | some q => if q.lsn < p.lsn then some p else some q
def took (b o : Option Pg) : Option Pg := match o with
  | none => b
  | some p => better b p
/-- One copy more is looked at. -/
def copyStep (n : Nat) (b : Option Pg) (r : ByteArray × Int) : Option Pg := if r.2 ≠ 0 then b else took b (pageM n r.1)
def copiedN (M : PM) (frm : Int) (n k : Nat) : Option Pg := (List.range k).foldl (fun b (i : Nat) => copyStep n b (readM M (frm + (i : Int)))) none
theorem copiedN_succ (M : PM) (frm : Int) (n k : Nat) : copiedN M frm n (k + 1) = copyStep n (copiedN M frm n k) (readM M (frm + (k : Int))) := by
  unfold copiedN
  rw [List.range_succ, List.foldl_append]
  rfl
def bestP (b : Option Pg) : Pg := b.getD emptyP
/-- The image, whether there is one. -/
def CpRet (b : Option Pg) (tb pb : Nat) (S : TS) (M : PM) (G : Heaplet) (e : Ending) (w' : World) : Prop := ∃ sv h, e = .returned (.tuple #[pgV (bestP b).lsn sv, .bool b.isSome]) ∧ StIs tb pb S M (h ++ G) w' ∧ SlAt h sv (bestP b).slots
theorem copied_results (tm : Array Value) (W9 : World) (g : Nat) (n : Int) (c : Bool) (sv : Value) (h1 : (tm[4]?).getD undef = .pointer (some ⟨g, 0, none⟩)) (h2 : (tm[5]?).getD undef = .bool c) (r0 : W9.cell? ⟨g, 0, none⟩ = some (kI n)) (r1 : W9.cell? ⟨g, 1, none⟩ = some sv) :
    (results Tryz.f60 tm).run Tryz.prog W9 = .ok (.tuple #[pgV n sv, .bool c]) W9 := by
  simp [results, Tryz.results60, go_sem, h1, h2, r0, r1]
theorem StIs.read {tb pb : Nat} {S : TS} {M : PM} {G : Heaplet} {w : World} (h : StIs tb pb S M G w) {bd : Nat} (hk : PlOk bd M) (n : Int) : Calls Tryz.prog 27 #[.pointer (some ⟨pb, 0, none⟩), .int .i64 n] w (Ret (.tuple #[.string (readM M n).1, .int .i64 (readM M n).2]) (StIs tb pb S M G)) := by
  obtain ⟨pv, R, h', K, h1, h2, hp⟩ := h
  refine (read_any pb M _ n w hp (by have := hk.2.2; omega)).mono ?_
  rintro e w' ⟨rfl, hp'⟩
  exact ⟨rfl, pv, R, h', K, h1, h2, hp'⟩
set_option maxRecDepth 100000 in
set_option maxHeartbeats 4000000 in
theorem copied_any {tb pb : Nat} {S : TS} {M : PM} {G : Heaplet} {w : World} (h : StIs tb pb S M G w) {bd : Nat} (hk : PlOk bd M) (n : Nat) (hn : n < 1000000) (hf : 0 ≤ S.frm ∧ S.frm ≤ 1000000) (ht : 0 ≤ S.twins ∧ S.twins ≤ 64) :
    Calls Tryz.prog 60 #[.pointer (some ⟨tb, 0, none⟩), .int .i64 (n : Int)] w (CpRet (copiedN M S.frm n S.twins.toNat) tb pb S M G) := by
  obtain ⟨tw, htw⟩ : ∃ tw : Nat, S.twins = (tw : Int) := ⟨S.twins.toNat, by omega⟩
  obtain ⟨Z, a, cap, hz, hmk, hcl, hrw⟩ := h.view
  have h1 := hz.new (.cells #[kI 0, .slice none 0 0] 48)
  obtain ⟨bb, hbb⟩ : ∃ bb, w.heap.size = bb := ⟨_, rfl⟩
  rw [hbb] at h1
  have HS1 : Hid (StIs tb pb S M (.blk bb (.cells #[kI 0, .slice none 0 0] 48) :: ([] ++ G)) (w.alloc (.cells #[kI 0, .slice none 0 0] 48))) := Lib.hid (hmk _ [.blk bb (.cells #[kI 0, .slice none 0 0] 48)] h1)
  rw [htw, Int.toNat_natCast]
  have tw64 : (tw : Int) ≤ 64 := by omega
  have tw0 : (0 : Int) ≤ (tw : Int) := by omega
  have c2 : (w.alloc (.cells #[kI 0, .slice none 0 0] 48)).cell? ⟨tb, 2, none⟩ = some (kI (tw : Int)) := by
    obtain ⟨_, _, _, _, _, _, e2, _⟩ := HS1.out.cells
    rw [e2, htw]
  have HK := Lib.hid hk
  obtain ⟨f0, f1⟩ := hf
  clear h hz hmk hcl hrw h1 hk ht
  go_enter Tryz.func60, Tryz.ntmps60
  go_wp2_with fail
  go_loopw [5, 15] (fun v5 v15 wr => ∃ (k : Nat) (sv : Value) (hb : Heaplet), k ≤ tw ∧ v15 = .int .i64 k ∧ v5 = .bool (copiedN M S.frm n k).isSome ∧ SlAt hb sv (bestP (copiedN M S.frm n k)).slots ∧ StIs tb pb S M (.blk bb (.cells #[kI (bestP (copiedN M S.frm n k)).lsn, sv] 48) :: (hb ++ G)) wr) (fun _ v15 _ => 1000 - (intOf v15).toNat)
  case atStart => exact ⟨0, .slice none 0 0, [], by omega, rfl, rfl, SlAt.nil _ _ _, HS1.out⟩
  case round =>
    clear HS1 c2
    obtain ⟨k, sv, hb, hkt, rfl, rfl, hsl, hs⟩ := hrel
    have k0 : (0 : Int) ≤ (k : Int) := by omega
    obtain ⟨bs, hbs⟩ : ∃ bs, copiedN M S.frm n k = bs := ⟨_, rfl⟩
    rw [hbs] at hsl hs ⊢
    by_cases hlt : k < tw
    · have k1 : (k : Int) < (tw : Int) := by omega
      have hsum : IntKind.i64.wrap (S.frm + (k : Int)) = S.frm + (k : Int) := IntWalk.i64_in _ (by omega)
      have HST := Lib.hid (copiedN_succ M S.frm n k)
      rw [hbs] at HST
      obtain ⟨rd, hrd⟩ : ∃ rd, readM M (S.frm + (k : Int)) = rd := ⟨_, rfl⟩
      have hcell : ∀ W, StIs tb pb S M (.blk bb (.cells #[kI (bestP bs).lsn, sv] 48) :: (hb ++ G)) W → W.cell? ⟨tb, 0, none⟩ = some (.pointer (some ⟨pb, 0, none⟩)) ∧ W.cell? ⟨tb, 1, none⟩ = some (kI S.frm) := fun W hW => by
        obtain ⟨_, _, _, _, e0, e1, _⟩ := hW.cells
        exact ⟨e0, e1⟩
      have HC := Lib.hid hcell
      have hs' : StIs tb pb S M (.blk bb (.cells #[kI (bestP bs).lsn, sv] 48) :: (hb ++ G)) wr.drew := hs.below (Grown.drewN wr 1).below
      have K1 := Lib.hid (hcell _ hs)
      have K2 : Hid (wr.drew.cell? ⟨tb, 0, none⟩ = some (.pointer (some ⟨pb, 0, none⟩)) ∧ wr.drew.cell? ⟨tb, 1, none⟩ = some (kI S.frm)) := Lib.hid (hcell _ hs')
      have HRD := Lib.hid (StIs.read hs' HK.out (S.frm + (k : Int)))
      rw [hrd] at HRD
      have HR2 := Lib.hid hrd
      have HSL := Lib.hid hsl
      clear hcell hs hs' hrd hsl
      go_upto_region 4 with (fail)
      obtain ⟨rs, re⟩ := rd
      go_cut [7, 8] (fun v7 v8 wx => v7 = .string rs ∧ v8 = .int .i64 re ∧ StIs tb pb S M (.blk bb (.cells #[kI (bestP bs).lsn, sv] 48) :: (hb ++ G)) wx)
      case first =>
        go_region_held3 (fun w' => w'.cell? ⟨tb, 0, none⟩ = some (.pointer (some ⟨pb, 0, none⟩)) ∧ w'.cell? ⟨tb, 1, none⟩ = some (kI S.frm))
          (with_reducible first | exact K1.out | exact K2.out | exact K3.out)
          (first
            | (go_at_call 27
               with_reducible refine (HRD.out).mono ?_
               rintro e w3 ⟨rfl, hs3⟩
               have HS3 := Lib.hid hs3
               have K3 := Lib.hid (HC.out _ hs3)))
        all_goals
          clear K1 K2 K3 HC HRD hsum hs3
          go_wp2_with fail
          go_meet
          exact ⟨rfl, rfl, HS3.out⟩
      case rest =>
        obtain ⟨rfl, rfl, hs⟩ := hcut
        clear K1 K2 HC HRD hsum
        by_cases hre : re = 0
        · subst hre
          have hsz : rs.size = 256 := by
            have := HK.out.read (n := S.frm + (k : Int)) (by rw [HR2.out])
            rw [HR2.out] at this
            exact this
          obtain ⟨Z, _, _, hz, hmk, _⟩ := hs.view
          have HPG := Lib.hid (page_any n (by omega) rs hsz Z wc hz)
          have HMK := Lib.hid hmk
          have hst : copiedN M S.frm n (k + 1) = took bs (pageM n rs) := by rw [HST.out, HR2.out]; unfold copyStep; rw [if_neg (by simp)]
          have HS0 := Lib.hid hs
          clear hz hmk hs hsz HST HR2
          cases hpm : pageM n rs with
          | none =>
            rw [hpm] at HPG hst
            have HNX : Hid (copiedN M S.frm n (k + 1) = bs) := Lib.hid hst
            clear hst hpm
            go_upto_region 7 with (go_at_call 58; refine (HPG.out).mono ?_; rintro e w3 ⟨sv3, h3, hs3, rfl⟩; have HS3 := Lib.hid ((HMK.out w3 [] hs3.right).new (.cells #[kI 0, .slice none 0 0] 48)); clear hs3)
            have FIN := Lib.hid (HS3.out.part (G' := .blk bb (.cells #[kI (bestP bs).lsn, sv] 48) :: (hb ++ G)) (fun a => by simp only [cnt_cons, cnt_append, List.nil_append]; omega))
            clear HS3 HS0
            go_wp2_with fail
            exact ⟨⟨k + 1, sv, hb, by omega, by simp, by rw [HNX.out], by rw [HNX.out]; exact HSL.out, by rw [HNX.out]; exact FIN.out⟩, by simp only [intOf]; omega⟩
          | some p =>
            rw [hpm] at HPG hst
            have HNX : Hid (copiedN M S.frm n (k + 1) = better bs p) := Lib.hid hst
            clear hst hpm
            go_upto_region 7 with (go_at_call 58; refine (HPG.out).mono ?_; rintro e w3 ⟨sv3, h3, hs3, rfl, hsl3⟩; obtain ⟨sa3, sc3, rfl, _⟩ := id hsl3; have HSL3 := Lib.hid hsl3; have HS3 := Lib.hid ((HMK.out w3 h3 hs3).new (.cells #[kI p.lsn, .slice sa3 p.slots.length sc3] 48)); clear hs3 hsl3)
            have HS4 := Lib.hid (HS3.out.part (G' := .blk bb (.cells #[kI (bestP bs).lsn, sv] 48) :: .blk w3.heap.size (.cells #[kI p.lsn, .slice sa3 p.slots.length sc3] 48) :: (h3 ++ (hb ++ G))) (fun a => by simp only [cnt_cons, cnt_append]; omega))
            have g0 := (two_at HS3.out.frame).1
            have g1 := (two_at HS3.out.frame).2.1
            obtain ⟨e0, e1, ef⟩ := two_at HS4.out.frame
            generalize w3.alloc (.cells #[kI p.lsn, .slice sa3 p.slots.length sc3] 48) = W5 at *
            generalize w3.heap.size = gb at *
            have h9 := (HS4.out.setF (i := 0) (kI p.lsn)).setF (i := 1) (.slice sa3 p.slots.length sc3)
            have HSET : Hid (StIs tb pb S M (.blk bb (.cells #[kI p.lsn, .slice sa3 p.slots.length sc3] 48) :: (h3 ++ G)) ((W5.setCell ⟨bb, 0, none⟩ (kI p.lsn)).setCell ⟨bb, 1, none⟩ (.slice sa3 p.slots.length sc3))) := Lib.hid (StIs.part (show StIs tb pb S M (.blk bb (.cells #[kI p.lsn, .slice sa3 p.slots.length sc3] 48) :: .blk gb (.cells #[kI p.lsn, .slice sa3 p.slots.length sc3] 48) :: (h3 ++ (hb ++ G))) _ from h9) (fun a => by simp only [cnt_cons, cnt_append]; omega))
            have HKEEP := Lib.hid (HS4.out.part (G' := .blk bb (.cells #[kI (bestP bs).lsn, sv] 48) :: (hb ++ G)) (fun a => by simp only [cnt_cons, cnt_append]; omega))
            clear HS3 HS4 HS0 h9 HPG HMK
            cases bs with
            | none =>
              go_wp2_with fail
              exact ⟨⟨k + 1, .slice sa3 p.slots.length sc3, h3, by omega, by simp, by rw [HNX.out]; rfl, by rw [HNX.out]; exact HSL3.out, by rw [HNX.out]; exact HSET.out⟩, by simp only [intOf]; omega⟩
            | some q =>
              have eq1 : (bestP (some q)) = q := rfl
              rw [eq1] at e0 HKEEP HSL
              by_cases hq : q.lsn < p.lsn
              · have hbt : better (some q) p = some p := by show (if q.lsn < p.lsn then some p else some q) = _; rw [if_pos hq]
                go_wp2_with fail
                exact ⟨⟨k + 1, .slice sa3 p.slots.length sc3, h3, by omega, by simp, by rw [HNX.out, hbt]; rfl, by rw [HNX.out, hbt]; exact HSL3.out, by rw [HNX.out, hbt]; exact HSET.out⟩, by simp only [intOf]; omega⟩
              · have hbt : better (some q) p = some q := by show (if q.lsn < p.lsn then some p else some q) = _; rw [if_neg hq]
                have hq2 : (q.lsn < p.lsn) = False := eq_false hq
                clear hq
                go_wp2_with fail
                exact ⟨⟨k + 1, sv, hb, by omega, by simp, by rw [HNX.out, hbt], by rw [HNX.out, hbt]; exact HSL.out, by rw [HNX.out, hbt]; exact HKEEP.out⟩, by simp only [intOf]; omega⟩
        · have hr1 : (re == 0) = false := by rw [beq_eq_false_iff_ne]; exact hre
          have hr2 : (re != 0) = true := by rw [bne, hr1]; rfl
          have HNX : Hid (copiedN M S.frm n (k + 1) = bs) := Lib.hid (by rw [HST.out, HR2.out]; unfold copyStep; rw [if_pos hre])
          have FIN := Lib.hid hs
          clear hs HST
          go_wp2_with fail
          exact ⟨⟨k + 1, sv, hb, by omega, by simp, by rw [HNX.out], by rw [HNX.out]; exact HSL.out, by rw [HNX.out]; exact FIN.out⟩, by simp only [intOf]; omega⟩
    · obtain rfl : k = tw := by omega
      have k1 : ((k : Int) < (k : Int)) = False := eq_false (by omega)
      rw [hbs]
      obtain ⟨sa, sc, rfl, _⟩ := id hsl
      obtain ⟨c0, c1, ff⟩ := two_at hs.frame
      have h9 := (hs.setF (i := 0) (kI (bestP bs).lsn)).setF (i := 1) (.slice sa (bestP bs).slots.length sc)
      have h10 : StIs tb pb S M (.blk bb (.cells #[kI (bestP bs).lsn, .slice sa (bestP bs).slots.length sc] 48) :: (hb ++ G)) ((wr.setCell ⟨bb, 0, none⟩ (kI (bestP bs).lsn)).setCell ⟨bb, 1, none⟩ (.slice sa (bestP bs).slots.length sc)) := h9
      have R9 := Lib.hid (two_at h10.frame)
      have FIN := Lib.hid (h10.part (G' := hb ++ G) (fun a => by simp only [cnt_cons, cnt_append]; omega))
      have HSL := Lib.hid hsl
      obtain ⟨bi, hbi⟩ : ∃ bi, bs.isSome = bi := ⟨_, rfl⟩
      have HBI := Lib.hid hbi
      rw [hbi]
      have HBS := Lib.hid hbs
      clear h9 h10 hs hsl hbi hkt hlt hbs
      go_wp2_with fail
      exact bodyPost_ret (v := .tuple #[pgV (bestP bs).lsn (.slice sa (bestP bs).slots.length sc), .bool bi]) (copied_results _ _ bb (bestP bs).lsn bi _ rfl rfl R9.out.1 R9.out.2.1) rfl ⟨.slice sa (bestP bs).slots.length sc, hb, by rw [HBS.out, HBI.out], FIN.out, by rw [HBS.out]; exact HSL.out⟩
end Go.Proofs.YtgocmnejlbfplaaGreatDoor
namespace Go.Proofs.YtgocmnejlbfplaaGreatDoor
open Go Go.MapKept Go.RowKit Go.Proofs

attribute [local go_sem] Oper.semAt_some

/-- All bytes are nought. -/
def zeroB (s : ByteArray) : Bool := s.data.toList.all (· == 0)
theorem dropWhile_nil {l : List UInt8} : l.dropWhile (· == 0) = [] ↔ l.all (· == 0) = true := by
  induction l with
  | nil => simp
  | cons b l ih =>
    by_cases h : b = 0
    · subst h; simpa using ih
    · simp [h]
theorem dropWhile_head {b : UInt8} {r : List UInt8} : ∀ {l : List UInt8}, l.dropWhile (· == 0) = b :: r → b ≠ 0
  | [], h => by simp at h
  | c :: l, h => by
    by_cases hc : c = 0
    · subst hc
      exact dropWhile_head (l := l) (by simpa using h)
    · simp only [List.dropWhile_cons, beq_iff_eq, hc, if_false, List.cons.injEq] at h
      rw [← h.1]; exact hc
theorem trim_zero (s : ByteArray) : (((⟨(Lib.trimB s.data.toList 0).toArray⟩ : ByteArray).toList == []) : Bool) = zeroB s := by
  rw [ba_nil]
  have e : ((⟨(Lib.trimB s.data.toList 0).toArray⟩ : ByteArray).size = 0) ↔ Lib.trimB s.data.toList 0 = [] := by
    show (Lib.trimB s.data.toList 0).toArray.size = 0 ↔ _
    rw [List.size_toArray, List.length_eq_zero_iff]
  unfold zeroB
  by_cases h : s.data.toList.all (· == 0) = true
  · rw [h]
    refine decide_eq_true (e.2 ?_)
    unfold Lib.trimB Lib.trimRightB
    have h1 : (s.data.toList.reverse).dropWhile (· == 0) = [] := dropWhile_nil.2 (by rw [List.all_reverse]; exact h)
    rw [h1]; rfl
  · rw [Bool.not_eq_true] at h
    rw [h]
    refine decide_eq_false (fun h2 => ?_)
    have h3 := e.1 h2
    unfold Lib.trimB Lib.trimLeftB at h3
    have h4 := dropWhile_nil.1 h3
    unfold Lib.trimRightB at h4
    rw [List.all_reverse] at h4
    cases hq : (s.data.toList.reverse).dropWhile (· == 0) with
    | nil =>
      have := dropWhile_nil.1 hq
      rw [List.all_reverse, h] at this
      cases this
    | cons b r =>
      rw [hq] at h4
      simp only [List.all_cons, Bool.and_eq_true, beq_iff_eq] at h4
      exact dropWhile_head hq h4.1
theorem PlOk.mono {b b' : Nat} {M : PM} (h : PlOk b M) (hb : b ≤ b') (h2 : b' ≤ 100000) : PlOk b' M := by
  obtain ⟨h1, h3, h4⟩ := h
  exact ⟨h1, h3, by omega⟩
theorem PlOk.off {b : Nat} {M : PM} (h : PlOk b M) (hb : b + 1 ≤ 100000) : PlOk (b + 1) (offM M) := by
  obtain ⟨h1, h3, h4⟩ := h
  unfold offM
  split
  · exact ⟨h1, h3, by omega⟩
  · exact ⟨h1, h3, by simp only; omega⟩
theorem PlOk.act {b : Nat} {M : PM} (h : PlOk b M) (hb : b + 1 ≤ 100000) : PlOk (b + 1) (actM M).2 := by
  obtain ⟨h1, h3, h4⟩ := h
  unfold actM
  split
  · split
    · unfold offM
      split
      · exact ⟨h1, h3, by simp only; omega⟩
      · exact ⟨h1, h3, by simp only; omega⟩
    · exact ⟨h1, h3, by simp only; omega⟩
  · exact ⟨h1, h3, by simp only; omega⟩
theorem PlOk.write {b : Nat} {M : PM} (h : PlOk b M) (hb : b + 1 ≤ 100000) (n : Int) (s : ByteArray) (hs : s.size = 256) : PlOk (b + 1) (writeM M n s).2 := by
  unfold writeM
  split
  · exact h.mono (by omega) hb
  · rw [if_neg (by omega)]
    obtain ⟨h1, h3, h4⟩ := h
    have key : ∀ (M' : PM), M'.secs = M.secs → M'.queue = M.queue ++ [(n, s)] → M'.count = M.count → M'.life = M.life → M'.acts = M.acts → M'.armed = M.armed → PlOk (b + 1) (actM M').2 := by
      intro M' e1 e2 e3 e4 e5 e6
      have hq : ∀ x ∈ M'.queue, x.2.size = 256 := by
        rw [e2]
        intro x hx
        rcases List.mem_append.1 hx with hx | hx
        · exact h3 x hx
        · rw [List.mem_singleton.1 hx]; exact hs
      have hl : M'.queue.length = M.queue.length + 1 := by rw [e2]; simp
      unfold actM
      split
      · split
        · unfold offM
          split
          · exact ⟨by rw [e1]; exact h1, hq, by simp only; omega⟩
          · exact ⟨by simp only; rw [e1]; exact h1, hq, by simp only; omega⟩
        · exact ⟨by simp only; rw [e1]; exact h1, hq, by simp only; omega⟩
      · exact ⟨by simp only; rw [e1]; exact h1, hq, by simp only; omega⟩
    exact key (pushM M n s) rfl rfl rfl rfl rfl rfl
theorem putL_mem {k : Int} {v : ByteArray} {x : Int × ByteArray} : ∀ {D : List (Int × ByteArray)}, x ∈ putL k v D → x = (k, v) ∨ x ∈ D
  | [], h => .inl (by simpa [putL] using h)
  | p :: r, h => by
    simp only [putL] at h
    split at h
    · rcases List.mem_cons.1 h with h | h
      · exact .inl h
      · exact .inr (.tail _ h)
    · rcases List.mem_cons.1 h with h | h
      · exact .inr (by rw [h]; exact .head _)
      · rcases putL_mem h with h | h
        · exact .inl h
        · exact .inr (.tail _ h)
theorem putAll_mem {x : Int × ByteArray} : ∀ {q D : List (Int × ByteArray)}, x ∈ putAll D q → x ∈ q ∨ x ∈ D
  | [], _, h => .inr h
  | y :: q, D, h => by
    have h' : x ∈ putAll (putL y.1 y.2 D) q := h
    rcases putAll_mem h' with h | h
    · exact .inl (.tail _ h)
    · rcases putL_mem h with h | h
      · exact .inl (by rw [h]; exact .head _)
      · exact .inr h
theorem PlOk.sync {b : Nat} {M : PM} (h : PlOk b M) (hb : b + 1 ≤ 100000) : PlOk (b + 1) (syncM M).2 := by
  unfold syncM
  split
  · exact h.mono (by omega) hb
  · split
    · exact h.act hb
    · obtain ⟨h1, h3, h4⟩ := h.act hb
      refine ⟨fun x hx => ?_, fun x hx => by simp at hx, by simp only [List.length_nil]; omega⟩
      rcases putAll_mem hx with hx | hx
      · exact .inr (h.2.1 x hx)
      · exact h.1 x hx
end Go.Proofs.YtgocmnejlbfplaaGreatDoor
namespace Go.Proofs.YtgocmnejlbfplaaGreatDoor
open Go Go.MapKept Go.RowKit Go.Proofs

attribute [local go_sem] Oper.semAt_some

theorem infoPg : (Tryz.prog.info? 48).map (fun i => (i.zero, i.size, i.bytes)) = some (some (.agg #[kI 0, .slice none 0 0]), 2, 32) := by kernel_rfl
def TS.push (S : TS) (p : Pg) : TS := { S with pages := S.pages ++ [p] }
def TS.die (S : TS) (d : Bool) : TS := { S with dead := d }
/-- A page more. -/
theorem StIs.push {tb pb : Nat} {S : TS} {M : PM} {G hb : Heaplet} {w : World} {x : Nat} {p : Pg} {a : Option Addr} {cap : Nat} (h : StIs tb pb S M (.blk x (.cells #[kI p.lsn, .slice a p.slots.length cap] 48) :: (hb ++ G)) w) (hsl : SlAt hb (.slice a p.slots.length cap) p.slots) (hl : S.pages.length + 1 ≤ 200000) :
    ∃ pv v' w', w.cell? ⟨tb, 3, none⟩ = some pv ∧ (∀ ty, (Builtin.append_ #[68, 68] ty #[pv, .slice (some ⟨x, 0, none⟩) 1 1]).run Tryz.prog w = .ok v' w') ∧ (w'.cell? ⟨tb, 3, none⟩ = some pv ∧ Sat w' G) ∧ (∀ i, w'.frozen? ⟨tb, i, none⟩ = false) ∧ StIs tb pb (S.push p) M G (w'.setCell ⟨tb, 3, none⟩ v') ∧ ∃ a' c', v' = .slice a' (S.pages.length + 1) c' := by
  obtain ⟨pv, R, h', K, h1, h2, m, es, clk, qv, qh, g1, g2, hs⟩ := h
  obtain ⟨i0, hin, hz, hsize, hby⟩ := info_parts infoPg
  have s2 : Sat w (.blk x (.cells (prC (p.lsn, .slice a p.slots.length cap)).toArray 48) :: ([] ++ (h' ++ (.blk tb (stO S pb pv) :: .blk pb (plateObj M m qv) :: .blk m (.map es clk) :: (qh ++ ((hb ++ K) ++ G)))))) := by
    have s' : Sat w (HItem.blk pb (plateObj M m qv) :: .blk m (.map es clk) :: (qh ++ (.blk tb (stO S pb pv) :: (h' ++ (K ++ (.blk x (.cells (prC (p.lsn, .slice a p.slots.length cap)).toArray 48) :: (hb ++ G))))))) := hs
    refine Sat.part s' ?_
    intro a
    simp only [cnt_cons, cnt_append, cnt_nil]
    omega
  obtain ⟨v', w', hn, hap, hv', hs'⟩ := sl_push (P := Tryz.prog) prC_len Tryz.underlying68 hin hz hsize hby rfl (by decide) h1 (p.lsn, .slice a p.slots.length cap) s2 (by intro u hu; simp only [prC, List.mem_cons, List.not_mem_nil, or_false] at hu; rcases hu with rfl | rfl <;> rfl) (by unfold maxLen; rw [h2.1]; omega) (by rw [h2.1]; omega)
  have hs3 : Sat w' (.blk tb (stO S pb pv) :: .blk pb (plateObj M m qv) :: .blk m (.map es clk) :: (qh ++ (hn ++ ((hb ++ K) ++ G)))) := by
    refine Sat.part hs' ?_
    intro a
    simp only [cnt_cons, cnt_append, cnt_nil]
    omega
  have hs4 := hs3.setCell (i := 3) v'
  refine ⟨pv, v', w', ?_, hap, ⟨by rw [cell_of hs3.h0]; rfl, hs3.tail.tail.tail.right.right.right⟩, unfrozen_of hs3.h0, ?_, ?_⟩
  · have : Sat w (.blk tb (stO S pb pv) :: (h' ++ (K ++ (.blk x (.cells #[kI p.lsn, .slice a p.slots.length cap] 48) :: (hb ++ G))))) := hs.tail.tail.right
    rw [cell_of this.h0]; rfl
  · refine ⟨v', R ++ [(p.lsn, .slice a p.slots.length cap)], hn, hb ++ K, hv', ⟨by simp [TS.push, h2.1], fun i r q hr hq => ?_⟩, m, es, clk, qv, qh, g1, g2, ?_⟩
    · by_cases hil : i < R.length
      · rw [List.getElem?_append_left hil] at hr
        have hq' : S.pages[i]? = some q := by
          have : (S.pages ++ [p])[i]? = some q := hq
          rwa [List.getElem?_append_left (by rw [← h2.1]; exact hil)] at this
        obtain ⟨e1, e2⟩ := h2.2 i r q hr hq'
        exact ⟨e1, e2.mono (fun W hW => hW.right)⟩
      · rw [List.getElem?_append_right (by omega)] at hr
        have hq' : (S.pages ++ [p])[i]? = some q := hq
        rw [List.getElem?_append_right (by rw [← h2.1]; omega)] at hq'
        have h0 : i - R.length = 0 := by
          have := (List.getElem?_eq_some_iff.1 hr).1
          simp only [List.length_cons, List.length_nil] at this
          omega
        rw [h0] at hr
        rw [← h2.1, h0] at hq'
        cases hr; cases hq'
        exact ⟨rfl, hsl.mono (fun W hW => Sat.lft hW)⟩
    · have e5 : (#[.pointer (some ⟨pb, 0, none⟩), kI S.frm, kI S.twins, pv, kI S.life, .bool S.dead] : Array Value).setIfInBounds 3 v' = #[.pointer (some ⟨pb, 0, none⟩), kI S.frm, kI S.twins, v', kI S.life, .bool S.dead] := rfl
      rw [e5] at hs4
      have hs5 : Sat (w'.setCell ⟨tb, 3, none⟩ v') (.blk tb (stO (S.push p) pb v') :: .blk pb (plateObj M m qv) :: .blk m (.map es clk) :: (qh ++ (hn ++ ((hb ++ K) ++ G)))) := hs4
      refine Sat.part hs5 ?_
      intro a
      simp only [cnt_cons, cnt_append]
      omega
  · obtain ⟨a', c', e⟩ := sl_form hv'
    exact ⟨a', c', by rw [e, List.length_append, h2.1]; rfl⟩
/-- The store's word 'dead' is written. -/
theorem StIs.setDead {tb pb : Nat} {S : TS} {M : PM} {G : Heaplet} {w : World} (h : StIs tb pb S M G w) (d : Bool) : StIs tb pb (S.die d) M G (w.setCell ⟨tb, 5, none⟩ (.bool d)) := by
  obtain ⟨pv, R, h', K, h1, h2, hp⟩ := h
  exact ⟨pv, R, h', K, h1, h2, hp.setF (i := 5) (.bool d)⟩
/-- What load comes to: the error, whether it can be read, the store, the plate. -/
def loadP (S : TS) (M : PM) (n : Nat) : Int × Bool × TS × PM :=
  if (readM M (S.frm + S.twins + (n : Int))).2 = 0 then match pageM n (readM M (S.frm + S.twins + (n : Int))).1 with
    | some p => (0, true, S.push p, M)
    | none => (0, zeroB (readM M (S.frm + S.twins + (n : Int))).1, S.push emptyP, M)
  else match copiedN M S.frm n S.twins.toNat with
    | none => (0, false, S.push emptyP, M)
    | some p => if (writeM M (S.frm + S.twins + (n : Int)) (secM n p)).1 ≠ 0 then ((writeM M (S.frm + S.twins + (n : Int)) (secM n p)).1, false, S, (writeM M (S.frm + S.twins + (n : Int)) (secM n p)).2)
      else (0, true, (S.die true).push p, (writeM M (S.frm + S.twins + (n : Int)) (secM n p)).2)
theorem pageM_good {n : Nat} {s : ByteArray} {p : Pg} (h : pageM n s = some p) : goodP p = true := (pageB_some h).1
theorem copiedN_good {M : PM} {f : Int} {n : Nat} {p : Pg} : ∀ {k : Nat}, copiedN M f n k = some p → goodP p = true := by
  intro k
  induction k generalizing p with
  | zero => intro h; cases h
  | succ k ih =>
    intro h
    rw [copiedN_succ] at h
    unfold copyStep at h
    split at h
    · exact ih h
    · cases hp : pageM n (readM M (f + (k : Int))).1 with
      | none => rw [hp] at h; exact ih h
      | some q =>
        rw [hp] at h
        have h' : better (copiedN M f n k) q = some p := h
        cases hc : copiedN M f n k with
        | none =>
          rw [hc] at h'
          cases h'
          exact pageM_good hp
        | some r =>
          rw [hc] at h'
          have h2 : (if r.lsn < q.lsn then some q else some r) = some p := h'
          split at h2
          · cases h2; exact pageM_good hp
          · cases h2; exact ih hc
theorem StIs.write {tb pb : Nat} {S : TS} {M : PM} {G : Heaplet} {w : World} (h : StIs tb pb S M G w) {bd : Nat} (hk : PlOk bd M) (n : Int) (s : ByteArray) : Calls Tryz.prog 18 #[.pointer (some ⟨pb, 0, none⟩), .int .i64 n, .string s] w (Ret (.int .i64 (writeM M n s).1) (StIs tb pb S (writeM M n s).2 G)) := by
  obtain ⟨pv, R, h', K, h1, h2, hp⟩ := h
  obtain ⟨_, _, k1⟩ := hk
  refine (write_any pb M _ n s w hp (by omega) (by omega) (by omega) (by omega)).mono ?_
  rintro e w' ⟨rfl, hp'⟩
  exact ⟨rfl, pv, R, h', K, h1, h2, hp'⟩
end Go.Proofs.YtgocmnejlbfplaaGreatDoor
