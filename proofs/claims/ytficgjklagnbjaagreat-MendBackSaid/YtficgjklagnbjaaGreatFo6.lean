/- Texts put together: Me2, Me3. Conditions: none. -/
import Derived.Deep.RegionHeld3
import Derived.Test.YtficgjklagnbjaaGreatFo5
namespace Go.Proofs.YtficgjklagnbjaaGreat
open Go Go.MapKept Go.RowKit Go.Proofs Go.Sort

theorem ba_iff (a b : ByteArray) : a.toList = b.toList ↔ a = b := by
  constructor
  · intro h
    rw [ByteArray.toList_eq, ByteArray.toList_eq] at h
    exact ba_ext h
  · intro h; rw [h]
theorem ba_eq_iff (a b : ByteArray) : (a.toList == b.toList) = decide (a = b) := by
  by_cases h : a = b
  · rw [decide_eq_true h, h]; exact beq_self_eq_true _
  · rw [decide_eq_false h]
    exact beq_eq_false_iff_ne.2 (fun e => h ((ba_iff a b).1 e))
theorem ne_sl (a b : Sl) (w : World) : (binOp .neq 41 (slV a) (slV b)).run Tryz.prog w = .ok (.bool (decide (a ≠ b))) w := by
  obtain ⟨a1, a2⟩ := a
  obtain ⟨b1, b2⟩ := b
  have h := ba_eq_iff a2 b2
  have hi := ba_iff a2 b2
  have e : decide ((a1, a2) ≠ (b1, b2)) = !((a1 == b1) && decide (a2 = b2)) := by
    by_cases h1 : a1 = b1 <;> by_cases h2 : a2 = b2 <;> simp [h1, h2]
  rw [e, ← h]
  simp [go_sem]
  repeat' split
  all_goals
    simp_all
set_option maxRecDepth 100000 in
theorem guard_sl (a b : Sl) (w : World) (x y : Operand) : (eqGuard .neq 41 x y (slV a) (slV b)).run Tryz.prog w = .ok () w := by
  obtain ⟨a1, a2⟩ := a
  obtain ⟨b1, b2⟩ := b
  simp [go_sem, eqGuard]
/-- An image, whether it was changed, an error. -/
def RdRet (q : Pg) (d : Bool) (c : Int) (F : Heaplet) (e : Ending) (w' : World) : Prop := ∃ sv h, e = .returned (.tuple #[pgV q.lsn sv, .bool d, .int .i64 c]) ∧ Sat w' (h ++ F) ∧ SlAt h sv q.slots
set_option maxRecDepth 100000 in
theorem redo_results (tm : Array Value) (W9 : World) (g : Nat) (n c : Int) (d : Bool) (sv : Value) (h1 : (tm[4]?).getD undef = .pointer (some ⟨g, 0, none⟩)) (h5 : (tm[5]?).getD undef = .bool d) (h2 : (tm[6]?).getD undef = .int .i64 c) (r0 : W9.cell? ⟨g, 0, none⟩ = some (kI n)) (r1 : W9.cell? ⟨g, 1, none⟩ = some sv) :
    (results Tryz.f38 tm).run Tryz.prog W9 = .ok (.tuple #[pgV n sv, .bool d, .int .i64 c]) W9 := by
  simp [results, Tryz.results38, go_sem, h1, h2, h5, r0, r1]
theorem sat3 {w : World} {h F : Heaplet} {x y z : HItem} (s : Sat w (h ++ (x :: y :: z :: F))) : Sat w (x :: y :: z :: (h ++ F)) := s.perm (List.perm_append_comm_assoc h [x, y, z] F)
set_option maxRecDepth 100000 in
set_option maxHeartbeats 4000000 in
theorem redo_any {v : Value} {p : Pg} {F : Heaplet} {w : World} (x : En) (hv : SlAt F v p.slots) (s : Sat w F) (hl : p.slots.length ≤ 1000) (hd : ∀ x ∈ p.slots, x.2.size ≤ 1000000) (hn : -9223372036854775808 ≤ p.lsn ∧ p.lsn ≤ 9223372036854775807) (hx : -9223372036854775808 ≤ x.lsn ∧ x.lsn ≤ 9223372036854775807) :
    Calls Tryz.prog 38 #[pgV p.lsn v, eV x] w (RdRet (redoM p x).1 (redoM p x).2.1 (redoM p x).2.2 F) := by
  have hs1 := ((s.new (.cells #[kI p.lsn, v] 52)).new (eO x)).new (.cells #[kI 0, .slice none 0 0] 52)
  rw [World.size_alloc, World.size_alloc] at hs1
  have hv1 : SlAt (.blk (w.heap.size + 1 + 1) (.cells #[kI 0, .slice none 0 0] 52) :: .blk (w.heap.size + 1) (eO x) :: .blk w.heap.size (.cells #[kI p.lsn, v] 52) :: F) v p.slots := hv.mono (fun w hw => hw.tail.tail.tail)
  have HG := Lib.hid (pgood_any hv1 hs1 hl hd hn)
  have HS := Lib.hid hs1
  have HV1 := Lib.hid hv1
  have c0 : (((w.alloc (.cells #[kI p.lsn, v] 52)).alloc (eO x)).alloc (.cells #[kI 0, .slice none 0 0] 52)).cell? ⟨w.heap.size, 0, none⟩ = some (kI p.lsn) := by rw [cell_of hs1.h2]; rfl
  have c1 : (((w.alloc (.cells #[kI p.lsn, v] 52)).alloc (eO x)).alloc (.cells #[kI 0, .slice none 0 0] 52)).cell? ⟨w.heap.size, 1, none⟩ = some v := by rw [cell_of hs1.h2]; rfl
  obtain ⟨gp, hgp⟩ : ∃ gp, goodP p = gp := ⟨_, rfl⟩
  obtain ⟨gx, hgx⟩ : ∃ gx, goodM x = gx := ⟨_, rfl⟩
  obtain ⟨cx, hcx⟩ : ∃ cx, chgM x = cx := ⟨_, rfl⟩
  obtain ⟨q, d, c, hres⟩ : ∃ q d c, redoM p x = (q, d, c) := ⟨_, _, _, rfl⟩
  rw [hgp] at HG
  rw [hres]
  have HGX : Hid (∀ W, Calls Tryz.prog 37 #[eV x] W (Pur (.bool gx) W)) := Lib.hid (fun W => by rw [← hgx]; exact good_any x W hx.1 hx.2)
  have HCX : Hid (∀ W, Calls Tryz.prog 72 #[eV x] W (Pur (.bool cx) W)) := Lib.hid (fun W => by rw [← hcx]; exact changes_any x W)
  have HR := Lib.hid (And.intro hgp (And.intro hgx (And.intro hcx hres)))
  have HD := Lib.hid (And.intro hd (And.intro hl hn))
  have HVF := Lib.hid hv
  obtain ⟨a, cap, e, _⟩ := hv
  subst e
  clear s hs1 hv1 hgp hgx hcx hres hd
  go_enter Tryz.func38, Tryz.ntmps38
  go_upto_region 1 with (fail)
  change Hid (Sat (((w.alloc (.cells #[kI p.lsn, .slice a p.slots.length cap] 52)).alloc (eO x)).alloc (.cells #[kI 0, .slice none 0 0] 52)) _) at HS
  generalize ((w.alloc (.cells #[kI p.lsn, .slice a p.slots.length cap] 52)).alloc (eO x)).alloc (.cells #[kI 0, .slice none 0 0] 52) = W1 at *
  generalize w.heap.size = g at *
  have hln : (p.slots.length : Int) ≤ 1000 := by omega
  obtain ⟨bad, hbad⟩ : ∃ bad, (!gp || !gx || !cx) = bad := ⟨_, rfl⟩
  have HBAD := Lib.hid hbad
  clear hbad
  go_cut [9] from 10 to 22 (fun v9 wx => v9 = .bool bad ∧ Grown W1 wx)
  case first =>
    have HE := Lib.hid (enAt_of HS.out.h1)
    clear HS HV1 HVF HR
    go_wp2_with fail
    refine (HG.out).mono ?_
    rintro e w1 ⟨rfl, hg⟩
    have HE1 := Lib.hid (HE.out.grown hg)
    have G1 := Lib.hid hg
    clear hg HE HG c0 c1
    cases gp with
    | false =>
      obtain rfl : true = bad := by rw [← HBAD.out]; rfl
      clear HBAD
      go_wp2_with fail
      go_meet
      exact ⟨rfl, G1.out⟩
    | true =>
      obtain ⟨z0, z1, z2, z3, z4, z5, z6, z7, z8, z9, z10, z11, z12⟩ := HE1.out
      go_wp2_with fail
      refine (HGX.out _).mono ?_
      rintro e w2 ⟨rfl, hg⟩
      have HE2 := Lib.hid (HE1.out.grown hg)
      have G2 := Lib.hid (G1.out.trans hg)
      clear hg HE1 G1 HGX z0 z1 z2 z3 z4 z5 z6 z7 z8 z9 z10 z11 z12
      cases gx with
      | false =>
        obtain rfl : true = bad := by rw [← HBAD.out]; rfl
        clear HBAD
        go_wp2_with fail
        go_meet
        exact ⟨rfl, G2.out⟩
      | true =>
        obtain ⟨z0, z1, z2, z3, z4, z5, z6, z7, z8, z9, z10, z11, z12⟩ := HE2.out
        go_wp2_with fail
        refine (HCX.out _).mono ?_
        rintro e w3 ⟨rfl, hg⟩
        have G3 := Lib.hid (G2.out.trans hg)
        clear hg HE2 G2 HCX z0 z1 z2 z3 z4 z5 z6 z7 z8 z9 z10 z11 z12
        obtain rfl : (!cx) = bad := by rw [← HBAD.out]; rfl
        clear HBAD
        go_wp2_with fail
        go_meet
        exact ⟨rfl, G3.out⟩
  case rest =>
  obtain ⟨rfl, hg⟩ := hcut
  have HS4 := Lib.hid (HS.out.grown hg)
  generalize wc = w1 at *
  have d0 : w1.cell? ⟨g, 0, none⟩ = some (kI p.lsn) := by rw [cell_of HS4.out.h2]; rfl
  have d1 : w1.cell? ⟨g, 1, none⟩ = some (.slice a p.slots.length cap) := by rw [cell_of HS4.out.h2]; rfl
  have e0 : w1.cell? ⟨g + 1 + 1, 0, none⟩ = some (kI 0) := by rw [cell_of HS4.out.h0]; rfl
  have e1 : w1.cell? ⟨g + 1 + 1, 1, none⟩ = some (.slice none 0 0) := by rw [cell_of HS4.out.h0]; rfl
  have f00 : w1.frozen? ⟨g + 1 + 1, 0, none⟩ = false := unfrozen_of HS4.out.h0 0
  have f01 : w1.frozen? ⟨g + 1 + 1, 1, none⟩ = false := unfrozen_of HS4.out.h0 1
  have HE := Lib.hid (enAt_of HS4.out.h1)
  have HFIN : Hid (∀ (w1 : World) (c' : Int), Sat w1 (.blk (g + 1 + 1) (.cells #[kI 0, .slice none 0 0] 52) :: .blk (g + 1) (eO x) :: .blk g (.cells #[kI p.lsn, .slice a p.slots.length cap] 52) :: F) → (q, d, c) = (emptyP, false, c') →
      (∀ tm : Array Value, (tm[4]?).getD undef = .pointer (some ⟨g + 1 + 1, 0, none⟩) → (tm[5]?).getD undef = .bool false → (tm[6]?).getD undef = .int .i64 c' → (results Tryz.f38 tm).run Tryz.prog ((w1.setCell ⟨g + 1 + 1, 0, none⟩ (kI 0)).setCell ⟨g + 1 + 1, 1, none⟩ (.slice none 0 0)) = .ok (.tuple #[pgV q.lsn (.slice none 0 0), .bool d, .int .i64 c]) ((w1.setCell ⟨g + 1 + 1, 0, none⟩ (kI 0)).setCell ⟨g + 1 + 1, 1, none⟩ (.slice none 0 0))) ∧
      RdRet q d c F (.returned (.tuple #[pgV q.lsn (.slice none 0 0), .bool d, .int .i64 c])) ((w1.setCell ⟨g + 1 + 1, 0, none⟩ (kI 0)).setCell ⟨g + 1 + 1, 1, none⟩ (.slice none 0 0))) := Lib.hid (by
    intro w1 c' hs hq
    have h1 : q = emptyP := congrArg Prod.fst hq
    have h2 : d = false := congrArg (fun y => y.2.1) hq
    have h3 : c = c' := congrArg (fun y => y.2.2) hq
    subst h1; subst h2; subst h3
    have hs5 := (hs.setCell (i := 0) (kI 0)).setCell (i := 1) (.slice none 0 0)
    exact ⟨fun tm h4 h5 h6 => redo_results tm _ (g + 1 + 1) 0 c false (.slice none 0 0) h4 h5 h6 (by rw [cell_of hs5.h0]; rfl) (by rw [cell_of hs5.h0]; rfl), .slice none 0 0, [], rfl, hs5.tail.tail.tail, SlAt.nil _ _ _⟩)
  clear hg HG HS c0 c1 HGX HCX
  cases bad with
  | true =>
    have hq : (q, d, c) = (emptyP, false, 1) := by
      rw [← HR.out.2.2.2]
      unfold redoM
      rw [if_pos]
      rw [HR.out.1, HR.out.2.1, HR.out.2.2.1]
      exact HBAD.out
    obtain ⟨h1, h2⟩ := HFIN.out w1 1 HS4.out hq
    have HH := Lib.hid (And.intro h1 h2)
    clear hq h1 h2 HR HD HVF HV1 HE HFIN
    go_wp2_with fail
    exact bodyPost_ret (HH.out.1 _ rfl rfl rfl) rfl HH.out.2
  | false =>
    have hq0 : (q, d, c) = if x.lsn ≤ p.lsn then (p, false, 0) else if atM p x.slot ≠ x.was then (emptyP, false, 21) else if (putM p x.slot x.is).2 ≠ 0 then (emptyP, false, (putM p x.slot x.is).2) else (⟨x.lsn, (putM p x.slot x.is).1.slots⟩, true, 0) := by
      rw [← HR.out.2.2.2]
      unfold redoM
      rw [if_neg]
      rw [HR.out.1, HR.out.2.1, HR.out.2.2.1, HBAD.out]
      decide
    have HQ := Lib.hid hq0
    clear hq0 HR HBAD
    by_cases hle : x.lsn ≤ p.lsn
    · have hq := HQ.out
      rw [if_pos hle] at hq
      have h1 : q = p := congrArg Prod.fst hq
      have h2 : d = false := congrArg (fun y => y.2.1) hq
      have h3 : c = 0 := congrArg (fun y => y.2.2) hq
      subst h1; subst h2; subst h3
      obtain ⟨z0, z1, z2, z3, z4, z5, z6, z7, z8, z9, z10, z11, z12⟩ := HE.out
      have HCL := Lib.hid (clone_sl HV1.out HS4.out HD.out.2.1)
      clear hq HQ HFIN HV1 HVF z0 z1 z2 z3 z5 z6 z7 z8 z9 z10 z11 z12
      go_wp2_with fail
      refine (HCL.out).mono ?_
      rintro e w2 ⟨v', h, rfl, hv', hs2⟩
      have hs3 := sat3 hs2
      have b0 : w2.cell? ⟨g, 0, none⟩ = some (kI q.lsn) := by rw [cell_of hs3.h2]; rfl
      have b1 : w2.cell? ⟨g, 1, none⟩ = some (.slice a q.slots.length cap) := by rw [cell_of hs3.h2]; rfl
      have bf : w2.frozen? ⟨g, 1, none⟩ = false := unfrozen_of hs3.h2 1
      have hs4 := (hs3.rot3.setCell (i := 1) v').unrot3
      have e0 : (w2.setCell ⟨g, 1, none⟩ v').cell? ⟨g + 1 + 1, 0, none⟩ = some (kI 0) := by rw [cell_of hs4.h0]; rfl
      have e1 : (w2.setCell ⟨g, 1, none⟩ v').cell? ⟨g + 1 + 1, 1, none⟩ = some (.slice none 0 0) := by rw [cell_of hs4.h0]; rfl
      have f00 : (w2.setCell ⟨g, 1, none⟩ v').frozen? ⟨g + 1 + 1, 0, none⟩ = false := unfrozen_of hs4.h0 0
      have f01 : (w2.setCell ⟨g, 1, none⟩ v').frozen? ⟨g + 1 + 1, 1, none⟩ = false := unfrozen_of hs4.h0 1
      have b2 : (w2.setCell ⟨g, 1, none⟩ v').cell? ⟨g, 0, none⟩ = some (kI q.lsn) := by rw [cell_of hs4.h2]; rfl
      have b3 : (w2.setCell ⟨g, 1, none⟩ v').cell? ⟨g, 1, none⟩ = some v' := by rw [cell_of hs4.h2]; rfl
      have hs5 := (hs4.setCell (i := 0) (kI q.lsn)).setCell (i := 1) v'
      have HFI : Hid ((∀ tm : Array Value, (tm[4]?).getD undef = .pointer (some ⟨g + 1 + 1, 0, none⟩) → (tm[5]?).getD undef = .bool false → (tm[6]?).getD undef = .int .i64 0 → (results Tryz.f38 tm).run Tryz.prog (((w2.setCell ⟨g, 1, none⟩ v').setCell ⟨g + 1 + 1, 0, none⟩ (kI q.lsn)).setCell ⟨g + 1 + 1, 1, none⟩ v') = .ok (.tuple #[pgV q.lsn v', .bool false, .int .i64 0]) (((w2.setCell ⟨g, 1, none⟩ v').setCell ⟨g + 1 + 1, 0, none⟩ (kI q.lsn)).setCell ⟨g + 1 + 1, 1, none⟩ v')) ∧
          RdRet q false 0 F (.returned (.tuple #[pgV q.lsn v', .bool false, .int .i64 0])) (((w2.setCell ⟨g, 1, none⟩ v').setCell ⟨g + 1 + 1, 0, none⟩ (kI q.lsn)).setCell ⟨g + 1 + 1, 1, none⟩ v')) := Lib.hid
        ⟨fun tm h4 h5 h6 => redo_results tm _ (g + 1 + 1) q.lsn 0 false v' h4 h5 h6 (by rw [cell_of hs5.h0]; rfl) (by rw [cell_of hs5.h0]; rfl), v', h, rfl, hs5.tail.tail.tail, by simpa using slAt_own hv' []⟩
      obtain ⟨av, cv, rfl⟩ := sl_form hv'
      clear HCL hv' hs2 hs3 hs4 hs5 HS4 HE d0 d1 z4
      go_wp2_with fail
      exact bodyPost_ret (HFI.out.1 _ rfl rfl rfl) rfl HFI.out.2
    · have hq := HQ.out
      rw [if_neg hle] at hq
      have HQ2 := Lib.hid hq
      have hle2 : (x.lsn ≤ p.lsn) = False := eq_false hle
      obtain ⟨av, hav⟩ : ∃ av, atM p x.slot = av := ⟨_, rfl⟩
      have hcell : ∀ W, Sat W (.blk (g + 1 + 1) (.cells #[kI 0, .slice none 0 0] 52) :: .blk (g + 1) (eO x) :: .blk g (.cells #[kI p.lsn, .slice a p.slots.length cap] 52) :: F) → W.cell? ⟨g, 0, none⟩ = some (kI p.lsn) ∧ W.cell? ⟨g, 1, none⟩ = some (.slice a p.slots.length cap) ∧ W.cell? ⟨g + 1, 7, none⟩ = some (kI x.slot) ∧ W.cell? ⟨g + 1, 8, none⟩ = some (.bool x.wu) ∧ W.cell? ⟨g + 1, 9, none⟩ = some (kS x.wd) :=
        fun W hW => ⟨by rw [cell_of hW.h2]; rfl, by rw [cell_of hW.h2]; rfl, by rw [cell_of hW.h1]; rfl, by rw [cell_of hW.h1]; rfl, by rw [cell_of hW.h1]; rfl⟩
      have HAT : Hid (∀ W, Sat W (.blk (g + 1 + 1) (.cells #[kI 0, .slice none 0 0] 52) :: .blk (g + 1) (eO x) :: .blk g (.cells #[kI p.lsn, .slice a p.slots.length cap] 52) :: F) → Calls Tryz.prog 16 #[pgV p.lsn (.slice a p.slots.length cap), .int .i64 x.slot] W (Ret (slV av) (Below W.heap.size W))) := Lib.hid (fun W hW => by rw [← hav]; exact at_any x.slot HV1.out hW HD.out.2.1 HD.out.1 HD.out.2.2)
      have hne := fun W => ne_sl av x.was W
      have hgd : ∀ W, (eqGuard .neq 41 (.tmp 39) (.tmp 41) (slV av) (slV x.was)).run Tryz.prog W = .ok () W := fun W => guard_sl _ _ _ _ _
      have HNE := Lib.hid hne
      have K1 := Lib.hid (hcell _ HS4.out)
      have K2 := Lib.hid (hcell _ HS4.out.drew)
      have HC := Lib.hid hcell
      have HAV := Lib.hid hav
      obtain ⟨z0, z1, z2, z3, z4, z5, z6, z7, z8, z9, z10, z11, z12⟩ := HE.out
      clear hq HQ hle hcell hav hne HE z0 z1 z2 z3 z5 z6 z7 z10 z11 z12 z8 z9
      go_upto_region 6 with (fail)
      clear z4
      go_cut [35] from 36 to 43 (fun v35 wx => v35 = .bool (decide (av ≠ x.was)) ∧ Sat wx (.blk (g + 1 + 1) (.cells #[kI 0, .slice none 0 0] 52) :: .blk (g + 1) (eO x) :: .blk g (.cells #[kI p.lsn, .slice a p.slots.length cap] 52) :: F))
      case first =>
        have hne := HNE.out
        clear HFIN HQ2 HVF HV1 HNE d0 d1 e0 e1 f00 f01
        generalize decide (av ≠ x.was) = bb at *
        go_region_held3 (fun w' => w'.cell? ⟨g, 0, none⟩ = some (kI p.lsn) ∧ w'.cell? ⟨g, 1, none⟩ = some (.slice a p.slots.length cap) ∧ w'.cell? ⟨g + 1, 7, none⟩ = some (kI x.slot) ∧ w'.cell? ⟨g + 1, 8, none⟩ = some (.bool x.wu) ∧ w'.cell? ⟨g + 1, 9, none⟩ = some (kS x.wd))
          (first | exact K1.out | exact K2.out | exact K6.out)
          (first | (go_at_call 16; refine (HAT.out _ HS4.out.drew).mono ?_; rintro e w6 ⟨rfl, hb6⟩; have HS6 := Lib.hid (HS4.out.drew.monoB hb6); have K6 := Lib.hid (HC.out _ HS6.out)))
        all_goals
          go_wp2_with fail
          go_meet
          exact ⟨rfl, HS6.out⟩
      case rest =>
        obtain ⟨rfl, hs⟩ := hcut
        have hk := HC.out _ hs
        have HSC := Lib.hid hs
        have e0 : wc.cell? ⟨g + 1 + 1, 0, none⟩ = some (kI 0) := by rw [cell_of hs.h0]; rfl
        have e1 : wc.cell? ⟨g + 1 + 1, 1, none⟩ = some (.slice none 0 0) := by rw [cell_of hs.h0]; rfl
        have f00 : wc.frozen? ⟨g + 1 + 1, 0, none⟩ = false := unfrozen_of hs.h0 0
        have f01 : wc.frozen? ⟨g + 1 + 1, 1, none⟩ = false := unfrozen_of hs.h0 1
        clear hs K1 K2 HC HAT d0 d1 HS4
        by_cases hdiff : av ≠ x.was
        · rw [decide_eq_true hdiff]
          have hq := HQ2.out
          rw [HAV.out, if_pos hdiff] at hq
          obtain ⟨h1, h2⟩ := HFIN.out wc 21 HSC.out hq
          have HH := Lib.hid (And.intro h1 h2)
          clear hq h1 h2 HD HVF HV1 HFIN HQ2 hk hgd HNE hdiff
          go_wp2_with fail
          exact bodyPost_ret (HH.out.1 _ rfl rfl rfl) rfl HH.out.2
        · rw [decide_eq_false hdiff]
          have hq := HQ2.out
          rw [HAV.out, if_neg hdiff] at hq
          have HPUT := Lib.hid (put_any x.slot x.is HV1.out HSC.out HD.out.2.1 HD.out.1 HD.out.2.2)
          obtain ⟨pq, pc, hpq⟩ : ∃ pq pc, putM p x.slot x.is = (pq, pc) := ⟨_, _, rfl⟩
          rw [hpq] at HPUT hq
          simp only at hq
          have HQ3 := Lib.hid hq
          obtain ⟨k0, k1, k2, _, _⟩ := hk
          obtain ⟨z0, z1, z2, z3, z4, z5, z6, z7, z8, z9, z10, z11, z12⟩ := enAt_of HSC.out.h1
          clear hq hpq HQ2 HAV HNE hgd hdiff HVF z0 z1 z2 z3 z4 z5 z6 z8 z9 z12 e0 e1 f00 f01
          go_wp2_with fail
          refine (HPUT.out).mono ?_
          rintro e w2 ⟨sv, h, rfl, hs2, hsv⟩
          have hs3 := sat3 hs2
          have HSV := Lib.hid hsv
          have HS3 := Lib.hid hs3
          obtain ⟨sa, sc, rfl, _⟩ := hsv
          clear hs2 hs3 HPUT
          by_cases hpc : pc = 0
          · have hq := HQ3.out
            rw [if_neg (by rw [hpc]; decide)] at hq
            subst hpc
            have hs4 := HS3.out.new (.cells #[kI pq.lsn, .slice sa pq.slots.length sc] 52)
            have hs5 := HS3.out.new (.cells #[kI x.lsn, .slice sa pq.slots.length sc] 52)
            have r4 : (w2.alloc (.cells #[kI pq.lsn, .slice sa pq.slots.length sc] 52)).cell? ⟨g + 1, 4, none⟩ = some (kI x.lsn) := by rw [cell_of hs4.h2]; rfl
            have q0 : (w2.alloc (.cells #[kI x.lsn, .slice sa pq.slots.length sc] 52)).cell? ⟨g + 1 + 1, 0, none⟩ = some (kI 0) := by rw [cell_of hs5.h1]; rfl
            have q1 : (w2.alloc (.cells #[kI x.lsn, .slice sa pq.slots.length sc] 52)).cell? ⟨g + 1 + 1, 1, none⟩ = some (.slice none 0 0) := by rw [cell_of hs5.h1]; rfl
            have f0 : (w2.alloc (.cells #[kI x.lsn, .slice sa pq.slots.length sc] 52)).frozen? ⟨g + 1 + 1, 0, none⟩ = false := unfrozen_of hs5.h1 0
            have f1 : (w2.alloc (.cells #[kI x.lsn, .slice sa pq.slots.length sc] 52)).frozen? ⟨g + 1 + 1, 1, none⟩ = false := unfrozen_of hs5.h1 1
            have hsv2 : SlAt h (.slice sa pq.slots.length sc) pq.slots := HSV.out
            have hs6 := ((hs5.swap).setCell (i := 0) (kI x.lsn)).setCell (i := 1) (.slice sa pq.slots.length sc)
            have HFI : Hid ((∀ tm : Array Value, (tm[4]?).getD undef = .pointer (some ⟨g + 1 + 1, 0, none⟩) → (tm[5]?).getD undef = .bool true → (tm[6]?).getD undef = .int .i64 0 → (results Tryz.f38 tm).run Tryz.prog (((w2.alloc (.cells #[kI x.lsn, .slice sa pq.slots.length sc] 52)).setCell ⟨g + 1 + 1, 0, none⟩ (kI x.lsn)).setCell ⟨g + 1 + 1, 1, none⟩ (.slice sa pq.slots.length sc)) = .ok (.tuple #[pgV q.lsn (.slice sa pq.slots.length sc), .bool d, .int .i64 c]) (((w2.alloc (.cells #[kI x.lsn, .slice sa pq.slots.length sc] 52)).setCell ⟨g + 1 + 1, 0, none⟩ (kI x.lsn)).setCell ⟨g + 1 + 1, 1, none⟩ (.slice sa pq.slots.length sc))) ∧
                RdRet q d c F (.returned (.tuple #[pgV q.lsn (.slice sa pq.slots.length sc), .bool d, .int .i64 c])) (((w2.alloc (.cells #[kI x.lsn, .slice sa pq.slots.length sc] 52)).setCell ⟨g + 1 + 1, 0, none⟩ (kI x.lsn)).setCell ⟨g + 1 + 1, 1, none⟩ (.slice sa pq.slots.length sc))) := Lib.hid (by
              have h1 : q = ⟨x.lsn, pq.slots⟩ := congrArg Prod.fst hq
              have h2 : d = true := congrArg (fun y => y.2.1) hq
              have h3 : c = 0 := congrArg (fun y => y.2.2) hq
              subst h1; subst h2; subst h3
              refine ⟨fun tm h4 h5 h6 => redo_results tm _ (g + 1 + 1) x.lsn 0 true _ h4 h5 h6 (by rw [cell_of hs6.h0]; rfl) (by rw [cell_of hs6.h0]; rfl), _, h, rfl, ?_, hsv2⟩
              exact Sat.right (h' := [_, _, _, _]) hs6)
            clear hs4 hs5 hs6 hq hsv2 HSV HS3
            go_wp2_with fail
            exact bodyPost_ret (HFI.out.1 _ rfl rfl rfl) rfl HFI.out.2
          · have hb1 : (pc == 0) = false := beq_eq_false_iff_ne.2 hpc
            have hb2 : (pc != 0) = true := by rw [bne, hb1]; rfl
            have hq := HQ3.out
            rw [if_pos hpc] at hq
            have hs5 := HS3.out.new (.cells #[kI pq.lsn, .slice sa pq.slots.length sc] 52)
            have q0 : (w2.alloc (.cells #[kI pq.lsn, .slice sa pq.slots.length sc] 52)).cell? ⟨g + 1 + 1, 0, none⟩ = some (kI 0) := by rw [cell_of hs5.h1]; rfl
            have q1 : (w2.alloc (.cells #[kI pq.lsn, .slice sa pq.slots.length sc] 52)).cell? ⟨g + 1 + 1, 1, none⟩ = some (.slice none 0 0) := by rw [cell_of hs5.h1]; rfl
            have f0 : (w2.alloc (.cells #[kI pq.lsn, .slice sa pq.slots.length sc] 52)).frozen? ⟨g + 1 + 1, 0, none⟩ = false := unfrozen_of hs5.h1 0
            have f1 : (w2.alloc (.cells #[kI pq.lsn, .slice sa pq.slots.length sc] 52)).frozen? ⟨g + 1 + 1, 1, none⟩ = false := unfrozen_of hs5.h1 1
            have hs6 := ((hs5.swap).setCell (i := 0) (kI 0)).setCell (i := 1) (.slice none 0 0)
            have HFI : Hid ((∀ tm : Array Value, (tm[4]?).getD undef = .pointer (some ⟨g + 1 + 1, 0, none⟩) → (tm[5]?).getD undef = .bool false → (tm[6]?).getD undef = .int .i64 pc → (results Tryz.f38 tm).run Tryz.prog (((w2.alloc (.cells #[kI pq.lsn, .slice sa pq.slots.length sc] 52)).setCell ⟨g + 1 + 1, 0, none⟩ (kI 0)).setCell ⟨g + 1 + 1, 1, none⟩ (.slice none 0 0)) = .ok (.tuple #[pgV q.lsn (.slice none 0 0), .bool d, .int .i64 c]) (((w2.alloc (.cells #[kI pq.lsn, .slice sa pq.slots.length sc] 52)).setCell ⟨g + 1 + 1, 0, none⟩ (kI 0)).setCell ⟨g + 1 + 1, 1, none⟩ (.slice none 0 0))) ∧
                RdRet q d c F (.returned (.tuple #[pgV q.lsn (.slice none 0 0), .bool d, .int .i64 c])) (((w2.alloc (.cells #[kI pq.lsn, .slice sa pq.slots.length sc] 52)).setCell ⟨g + 1 + 1, 0, none⟩ (kI 0)).setCell ⟨g + 1 + 1, 1, none⟩ (.slice none 0 0))) := Lib.hid (by
              have h1 : q = emptyP := congrArg Prod.fst hq
              have h2 : d = false := congrArg (fun y => y.2.1) hq
              have h3 : c = pc := congrArg (fun y => y.2.2) hq
              subst h1; subst h2; subst h3
              refine ⟨fun tm h4 h5 h6 => redo_results tm _ (g + 1 + 1) 0 c false _ h4 h5 h6 (by rw [cell_of hs6.h0]; rfl) (by rw [cell_of hs6.h0]; rfl), _, h, rfl, ?_, SlAt.nil _ _ _⟩
              exact Sat.right (h' := [_, _, _, _]) hs6)
            clear hs5 hs6 hq hpc HSV HS3
            go_wp2_with fail
            exact bodyPost_ret (HFI.out.1 _ rfl rfl rfl) rfl HFI.out.2
end Go.Proofs.YtficgjklagnbjaaGreat
namespace Go.Proofs.YtficgjklagnbjaaGreat
open Go Go.MapKept Go.RowKit Go.Proofs Go.Sort

abbrev put13 (W : World) (g : Nat) (y : En) : World := ((((((((((((W.setCell ⟨g, 0, none⟩ (kI y.kind)).setCell ⟨g, 1, none⟩ (kI y.t.c)).setCell ⟨g, 2, none⟩ (kI y.t.e)).setCell ⟨g, 3, none⟩ (kI y.t.n)).setCell ⟨g, 4, none⟩ (kI y.lsn)).setCell ⟨g, 5, none⟩ (kI y.prev)).setCell ⟨g, 6, none⟩ (kI y.page)).setCell ⟨g, 7, none⟩ (kI y.slot)).setCell ⟨g, 8, none⟩ (.bool y.wu)).setCell ⟨g, 9, none⟩ (kS y.wd)).setCell ⟨g, 10, none⟩ (.bool y.iu)).setCell ⟨g, 11, none⟩ (kS y.idt)).setCell ⟨g, 12, none⟩ (kI y.next)
theorem sat_put13 {W : World} {g : Nat} {x y : En} {F : Heaplet} (s : Sat W (.blk g (eO x) :: F)) : Sat (put13 W g y) (.blk g (eO y) :: F) := by
  have s0 : Sat _ (.blk g (.cells #[kI y.kind, kI x.t.c, kI x.t.e, kI x.t.n, kI x.lsn, kI x.prev, kI x.page, kI x.slot, .bool x.wu, kS x.wd, .bool x.iu, kS x.idt, kI x.next] 58) :: F) := s.setCell (i := 0) (kI y.kind)
  have s1 : Sat _ (.blk g (.cells #[kI y.kind, kI y.t.c, kI x.t.e, kI x.t.n, kI x.lsn, kI x.prev, kI x.page, kI x.slot, .bool x.wu, kS x.wd, .bool x.iu, kS x.idt, kI x.next] 58) :: F) := s0.setCell (i := 1) (kI y.t.c)
  have s2 : Sat _ (.blk g (.cells #[kI y.kind, kI y.t.c, kI y.t.e, kI x.t.n, kI x.lsn, kI x.prev, kI x.page, kI x.slot, .bool x.wu, kS x.wd, .bool x.iu, kS x.idt, kI x.next] 58) :: F) := s1.setCell (i := 2) (kI y.t.e)
  have s3 : Sat _ (.blk g (.cells #[kI y.kind, kI y.t.c, kI y.t.e, kI y.t.n, kI x.lsn, kI x.prev, kI x.page, kI x.slot, .bool x.wu, kS x.wd, .bool x.iu, kS x.idt, kI x.next] 58) :: F) := s2.setCell (i := 3) (kI y.t.n)
  have s4 : Sat _ (.blk g (.cells #[kI y.kind, kI y.t.c, kI y.t.e, kI y.t.n, kI y.lsn, kI x.prev, kI x.page, kI x.slot, .bool x.wu, kS x.wd, .bool x.iu, kS x.idt, kI x.next] 58) :: F) := s3.setCell (i := 4) (kI y.lsn)
  have s5 : Sat _ (.blk g (.cells #[kI y.kind, kI y.t.c, kI y.t.e, kI y.t.n, kI y.lsn, kI y.prev, kI x.page, kI x.slot, .bool x.wu, kS x.wd, .bool x.iu, kS x.idt, kI x.next] 58) :: F) := s4.setCell (i := 5) (kI y.prev)
  have s6 : Sat _ (.blk g (.cells #[kI y.kind, kI y.t.c, kI y.t.e, kI y.t.n, kI y.lsn, kI y.prev, kI y.page, kI x.slot, .bool x.wu, kS x.wd, .bool x.iu, kS x.idt, kI x.next] 58) :: F) := s5.setCell (i := 6) (kI y.page)
  have s7 : Sat _ (.blk g (.cells #[kI y.kind, kI y.t.c, kI y.t.e, kI y.t.n, kI y.lsn, kI y.prev, kI y.page, kI y.slot, .bool x.wu, kS x.wd, .bool x.iu, kS x.idt, kI x.next] 58) :: F) := s6.setCell (i := 7) (kI y.slot)
  have s8 : Sat _ (.blk g (.cells #[kI y.kind, kI y.t.c, kI y.t.e, kI y.t.n, kI y.lsn, kI y.prev, kI y.page, kI y.slot, .bool y.wu, kS x.wd, .bool x.iu, kS x.idt, kI x.next] 58) :: F) := s7.setCell (i := 8) (.bool y.wu)
  have s9 : Sat _ (.blk g (.cells #[kI y.kind, kI y.t.c, kI y.t.e, kI y.t.n, kI y.lsn, kI y.prev, kI y.page, kI y.slot, .bool y.wu, kS y.wd, .bool x.iu, kS x.idt, kI x.next] 58) :: F) := s8.setCell (i := 9) (kS y.wd)
  have s10 : Sat _ (.blk g (.cells #[kI y.kind, kI y.t.c, kI y.t.e, kI y.t.n, kI y.lsn, kI y.prev, kI y.page, kI y.slot, .bool y.wu, kS y.wd, .bool y.iu, kS x.idt, kI x.next] 58) :: F) := s9.setCell (i := 10) (.bool y.iu)
  have s11 : Sat _ (.blk g (.cells #[kI y.kind, kI y.t.c, kI y.t.e, kI y.t.n, kI y.lsn, kI y.prev, kI y.page, kI y.slot, .bool y.wu, kS y.wd, .bool y.iu, kS y.idt, kI x.next] 58) :: F) := s10.setCell (i := 11) (kS y.idt)
  have s12 : Sat _ (.blk g (.cells #[kI y.kind, kI y.t.c, kI y.t.e, kI y.t.n, kI y.lsn, kI y.prev, kI y.page, kI y.slot, .bool y.wu, kS y.wd, .bool y.iu, kS y.idt, kI y.next] 58) :: F) := s11.setCell (i := 12) (kI y.next)
  exact s12
set_option maxRecDepth 100000 in
theorem turn_results (tm : Array Value) (W9 : World) (g : Nat) (c : Int) (y : En) (h1 : (tm[6]?).getD undef = .pointer (some ⟨g, 0, none⟩)) (h2 : (tm[7]?).getD undef = .int .i64 c) (h : EnAt W9 g y) :
    (results Tryz.f19 tm).run Tryz.prog W9 = .ok (.tuple #[eV y, .int .i64 c]) W9 := by
  obtain ⟨r0, r1, r2, r3, r4, r5, r6, r7, r8, r9, r10, r11, r12⟩ := h
  simp [results, Tryz.results19, go_sem, h1, h2, r0, r1, r2, r3, r4, r5, r6, r7, r8, r9, r10, r11, r12]
set_option maxRecDepth 100000 in
set_option maxHeartbeats 4000000 in
theorem turn_any (x : En) (lsn prev : Int) (w : World) (hx : -9223372036854775808 ≤ x.lsn ∧ x.lsn ≤ 9223372036854775807) (hl : -9223372036854775808 ≤ lsn ∧ lsn ≤ 9223372036854775807) :
    Calls Tryz.prog 19 #[eV x, kI lsn, kI prev] w (Ret (.tuple #[eV (turnM x lsn prev).1, kI (turnM x lsn prev).2]) (Below w.heap.size w)) := by
  obtain ⟨y, c, hy⟩ : ∃ y c, turnM x lsn prev = (y, c) := ⟨_, _, rfl⟩
  obtain ⟨z, hz⟩ : ∃ z, turnE x lsn prev = z := ⟨_, rfl⟩
  obtain ⟨gx, hgx⟩ : ∃ gx, goodM x = gx := ⟨_, rfl⟩
  obtain ⟨gz, hgz⟩ : ∃ gz, goodM z = gz := ⟨_, rfl⟩
  rw [hy]
  have HGX : Hid (∀ W, Calls Tryz.prog 37 #[eV x] W (Pur (.bool gx) W)) := Lib.hid (fun W => by rw [← hgx]; exact good_any x W hx.1 hx.2)
  have HGZ : Hid (∀ W, Calls Tryz.prog 37 #[eV z] W (Pur (.bool gz) W)) := Lib.hid (fun W => by rw [← hgz]; exact good_any z W (by rw [← hz]; exact hl.1) (by rw [← hz]; exact hl.2))
  have hyq : (y, c) = if (!gx || !(x.kind == 1) || !gz) = true then (zeroE, 1) else (z, 0) := by
    rw [← hy]; unfold turnM; rw [hz, hgx, hgz]
  have HY := Lib.hid hyq
  have hs := (((((sat_all w).new (eO x)).new (eO zeroE)).new (eO z)).drew).drew
  rw [World.size_alloc, World.size_alloc] at hs
  have HS := Lib.hid hs
  obtain ⟨W1, hW1⟩ : ∃ W1, ((((w.alloc (eO x)).alloc (eO zeroE)).alloc (eO z)).drew).drew = W1 := ⟨_, rfl⟩
  rw [hW1] at HS
  have HW1 : Hid (((((w.alloc (eO x)).alloc (eO zeroE)).alloc (eO (turnE x lsn prev))).drew).drew = W1) := Lib.hid (by rw [hz]; exact hW1)
  have HFIN : Hid (∀ (W : World), Sat W (.blk (w.heap.size + 1 + 1) (eO z) :: .blk (w.heap.size + 1) (eO zeroE) :: .blk w.heap.size (eO x) :: allOf w) →
      (∀ tm : Array Value, (tm[6]?).getD undef = .pointer (some ⟨w.heap.size + 1, 0, none⟩) → (tm[7]?).getD undef = .int .i64 c → (results Tryz.f19 tm).run Tryz.prog (put13 W (w.heap.size + 1) y) = .ok (.tuple #[eV y, .int .i64 c]) (put13 W (w.heap.size + 1) y)) ∧
      Ret (.tuple #[eV y, kI c]) (Below w.heap.size w) (.returned (.tuple #[eV y, .int .i64 c])) (put13 W (w.heap.size + 1) y)) := Lib.hid (by
    intro W hW
    have h5 := sat_put13 (y := y) hW.swap
    exact ⟨fun tm h6 h7 => turn_results tm _ _ c y h6 h7 (enAt_of h5.h0), rfl, Sat.below h5.tail.tail.tail⟩)
  clear hy hyq hs hW1 hgx hgz
  obtain ⟨PB, hPB⟩ : ∃ PB : Ending → World → Prop, Ret (.tuple #[eV y, kI c]) (Below w.heap.size w) = PB := ⟨_, rfl⟩
  rw [hPB] at HFIN ⊢
  obtain ⟨AW, hAW⟩ : ∃ AW, allOf w = AW := ⟨_, rfl⟩
  rw [hAW] at HFIN HS
  clear hPB hAW
  go_enter Tryz.func19, Tryz.ntmps19
  go_upto_region 2 with (fail)
  go_big_region
  go_upto_region 3 with (fail)
  go_big_region
  have hw : (((w.alloc (.cells #[kI x.kind, kI x.t.c, kI x.t.e, kI x.t.n, kI x.lsn, kI x.prev, kI x.page, kI x.slot, .bool x.wu, kS x.wd, .bool x.iu, kS x.idt, kI x.next] 58)).alloc (.cells #[kI 0, kI 0, kI 0, kI 0, kI 0, kI 0, kI 0, kI 0, .bool false, kS ⟨#[]⟩, .bool false, kS ⟨#[]⟩, kI 0] 58)).alloc (.cells #[kI 2, kI x.t.c, kI x.t.e, kI x.t.n, kI lsn, kI prev, kI x.page, kI x.slot, .bool x.iu, kS x.idt, .bool x.wu, kS x.wd, kI x.prev] 58)).drew.drew = W1 := HW1.out
  rw [hw]
  clear hw HW1
  go_upto_region 4 with (fail)
  generalize w.heap.size = g at *
  obtain ⟨bad, hbad⟩ : ∃ bad, (!gx || !(x.kind == 1) || !gz) = bad := ⟨_, rfl⟩
  have HBAD := Lib.hid hbad
  have hyb := HY.out
  rw [hbad] at hyb
  have HYB := Lib.hid hyb
  clear hbad hyb HY
  go_cut [36] from 24 to 37 (fun v36 wx => v36 = .bool bad ∧ Grown W1 wx)
  case first =>
    clear HFIN HYB
    obtain ⟨p0, p1, p2, p3, p4, p5, p6, p7, p8, p9, p10, p11, p12⟩ := enAt_of HS.out.h2
    go_wp2_with fail
    refine (HGX.out _).mono ?_
    rintro e w1 ⟨rfl, hg⟩
    have G1 := Lib.hid hg
    have HS1 := Lib.hid (HS.out.grown hg)
    clear hg HGX p0 p1 p2 p3 p4 p5 p6 p7 p8 p9 p10 p11 p12
    cases gx with
    | false =>
      obtain rfl : true = bad := by rw [← HBAD.out]; rfl
      clear HBAD
      go_wp2_with fail
      go_meet
      exact ⟨rfl, G1.out⟩
    | true =>
      obtain ⟨q0, q1, q2, q3, q4, q5, q6, q7, q8, q9, q10, q11, q12⟩ := enAt_of HS1.out.h2
      obtain ⟨kb, hkb⟩ : ∃ kb, (x.kind == 1) = kb := ⟨_, rfl⟩
      have hkb2 : (x.kind != 1) = !kb := by rw [bne, hkb]
      have hbd := HBAD.out
      rw [hkb] at hbd
      have HBD := Lib.hid hbd
      clear hbd HBAD
      cases kb with
      | false =>
        obtain rfl : true = bad := by rw [← HBD.out]; rfl
        clear HBD
        go_wp2_with fail
        go_meet
        exact ⟨rfl, G1.out⟩
      | true =>
        obtain ⟨r0, r1, r2, r3, r4, r5, r6, r7, r8, r9, r10, r11, r12⟩ := enAt_of HS1.out.h0
        go_wp2_with fail
        refine (HGZ.out _).mono ?_
        rintro e w3 ⟨rfl, hg⟩
        have G3 := Lib.hid (G1.out.trans hg)
        clear hg HGZ G1 q0 q1 q2 q3 q4 q5 q6 q7 q8 q9 q10 q11 q12 r0 r1 r2 r3 r4 r5 r6 r7 r8 r9 r10 r11 r12
        obtain rfl : (!gz) = bad := by rw [← HBD.out]; rfl
        clear HBD
        go_wp2_with fail
        go_meet
        exact ⟨rfl, G3.out⟩
  case rest =>
  obtain ⟨rfl, hg⟩ := hcut
  have HS4 := Lib.hid (HS.out.grown hg)
  have hs4 := HS4.out
  obtain ⟨hf1, hf2⟩ := HFIN.out wc hs4
  have HH := Lib.hid (And.intro hf1 hf2)
  obtain ⟨s0, s1, s2, s3, s4, s5, s6, s7, s8, s9, s10, s11, s12⟩ := enAt_of hs4.h1
  obtain ⟨t0, t1, t2, t3, t4, t5, t6, t7, t8, t9, t10, t11, t12⟩ := enAt_of hs4.h0
  have f0 := unfrozen_of hs4.h1
  cases bad with
  | true =>
    have h1 : y = zeroE := congrArg Prod.fst HYB.out
    have h2 : c = 1 := congrArg Prod.snd HYB.out
    subst h1; subst h2
    clear hf1 hf2 hs4 HYB HBAD HFIN HS HGX HGZ hg
    go_wp2_with fail
    exact bodyPost_ret (HH.out.1 _ rfl rfl) rfl HH.out.2
  | false =>
    have h1 : y = z := congrArg Prod.fst HYB.out
    have h2 : c = 0 := congrArg Prod.snd HYB.out
    subst h1; subst h2
    clear hf1 hf2 hs4 HYB HBAD HFIN HS HGX HGZ hg
    go_wp2_with fail
    exact bodyPost_ret (HH.out.1 _ rfl rfl) rfl HH.out.2
end Go.Proofs.YtficgjklagnbjaaGreat
