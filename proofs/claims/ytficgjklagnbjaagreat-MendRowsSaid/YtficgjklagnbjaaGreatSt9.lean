/- All records of many pages: mend.Rows walked. Conditions: none. -/
import Derived.Test.YtficgjklagnbjaaGreatSt8
namespace Go.Proofs.YtficgjklagnbjaaGreat
open Go Go.MapKept Go.RowKit Go.Proofs Go.Shelf Go.Sort St

attribute [local go_sem] Oper.semAt_some

def inR (n : Int) : Bool := decide (0 ≤ n) && decide (n < 1024)
def rowsA (P : List Lf) : List Rw := P.flatMap fun p => if inR p.1 = true then rowsL p else []
def seenA (P : List Lf) : List Int := P.foldl (fun S p => if inR p.1 = true then p.1 :: S else S) []
theorem rowsA_snoc (P : List Lf) (p : Lf) : rowsA (P ++ [p]) = rowsA P ++ (if inR p.1 = true then rowsL p else []) := by simp [rowsA]
theorem seenA_snoc (P : List Lf) (p : Lf) : seenA (P ++ [p]) = (if inR p.1 = true then p.1 :: seenA P else seenA P) := by simp [seenA, List.foldl_append]
theorem mem_seenA' {n : Int} : ∀ {P : List Lf} {S : List Int}, n ∈ P.foldl (fun S p => if inR p.1 = true then p.1 :: S else S) S → n ∈ S ∨ ∃ p ∈ P, p.1 = n := by
  intro P
  induction P with
  | nil => exact fun h => .inl h
  | cons p P ih =>
    intro S h
    rcases ih h with h | ⟨x, hx, e⟩
    · by_cases hp : inR p.1 = true
      · simp only [hp, if_true, List.mem_cons] at h
        rcases h with rfl | h
        · exact .inr ⟨p, .head _, rfl⟩
        · exact .inl h
      · simp only [hp] at h
        exact .inl h
    · exact .inr ⟨x, .tail _ hx, e⟩
theorem mem_seenA {n : Int} {P : List Lf} (h : n ∈ seenA P) : ∃ p ∈ P, p.1 = n := by
  rcases mem_seenA' h with h | h
  · cases h
  · exact h
/-- The marks that loops over functions left, and their blocks. -/
def MkS (ds : List Nat) : List Deferred := ds.map fun D => { target := .collected D, args := #[] }
def MkH (ds : List Nat) : Heaplet := ds.map fun D => .blk D (.deferred (some []))
theorem Sat.add {w : World} {F : Heaplet} {D : Nat} {o : Obj} (s : Sat w F) (h : w.heap[D]? = some o) (hn : ∀ o', HItem.blk D o' ∉ F) : Sat w (.blk D o :: F) := by
  refine ⟨fun x hx => ?_, ?_⟩
  · cases hx with
    | head => exact h
    | tail _ hx => exact s.1 x hx
  · have e : (HItem.blk D o :: F).filterMap HItem.no = D :: F.filterMap HItem.no := rfl
    rw [e]
    refine List.nodup_cons.2 ⟨fun hm => ?_, s.2⟩
    obtain ⟨y, hy, ey⟩ := List.mem_filterMap.1 hm
    cases y with
    | env w0 => cases ey
    | blk c o' =>
      simp only [HItem.no, Option.some.injEq] at ey
      subst ey
      exact hn _ hy
theorem Sat.addC {w : World} {F : Heaplet} {D B : Nat} (s : Sat w F) (h : w.heap[D]? = some (.deferred (some []))) (hu : UnderC B F) (hB : B ≤ D) : Sat w (.blk D (.deferred (some [])) :: F) := by
  refine s.add h (fun o' hm => ?_)
  rcases hu D o' hm with h1 | h1
  · omega
  · have h2 := s.get hm
    rw [h] at h2
    cases h2
    cases h1
theorem Sat.putO {w : World} {F : Heaplet} {D : Nat} {o : Obj} (s : Sat w (.blk D o :: F)) (o' : Obj) : Sat (w.putObj D o') F := by
  refine ⟨fun x hx => ?_, s.tail.2⟩
  have h := s.tail.1 x hx
  have hg := grownBy_putObj' w D o'
  cases x with
  | blk b o1 =>
    have hlt : b < w.heap.size := (Array.getElem?_eq_some_iff.1 h).1
    exact (hg.block b hlt (fun e => s.ne hx (Option.some.inj e))).trans h
  | env w0 =>
    exact ⟨hg.os.trans h.1, hg.tape.trans h.2.1, hg.output.trans h.2.2⟩
theorem leaves_marks {K : Fence} {n : Nat} {fn : Func} {tmps : Array Value} {R : Ending → World → Prop} {G : Heaplet} : ∀ (ds : List Nat) (W : World), Sat W (MkH ds ++ G) → (∀ W', Sat W' G → LeavesInM K n Tryz.prog fn tmps R [] .returning W') → LeavesInM K n Tryz.prog fn tmps R (MkS ds) .returning W := by
  intro ds
  induction ds with
  | nil => exact fun W s h => h W s
  | cons D ds ih =>
    intro W s h
    refine ⟨by simp, .inl ⟨D, _, rfl, run_takeDeferred s.h0, ih _ ?_ h⟩⟩
    exact s.putO _
/-- Between two rounds of the inner loop: the rows so far. -/
def RoJ (B ob : Nat) (acc : List Rw) (n : Int) (G : Heaplet) (pre : List (Int × ByteArray)) (W : World) : Prop :=
  B ≤ W.heap.size ∧ ∃ v h, RwSl v (acc ++ pre.map fun x => (n, x.1, x.2)) h ∧ Sat W (h ++ (.blk ob (.cells #[v] 70) :: G))
theorem RoJ.under {B ob : Nat} {R : List Rw} {G : Heaplet} {v : Value} {h : Heaplet} (hG : ∀ b o, HItem.blk b o ∈ G → b < B) (hv : RwSl v R h) : UnderC B (h ++ (.blk ob (.cells #[v] 70) :: G)) := by
  intro b o hm
  rcases List.mem_append.1 hm with hm | hm
  · exact .inr (slice_cells hv b o hm)
  · cases hm with
    | head => exact .inr rfl
    | tail _ hm => exact .inl (hG b o hm)
theorem RoJ.grown {B ob : Nat} {acc : List Rw} {n : Int} {G : Heaplet} {pre : List (Int × ByteArray)} {W W' : World} {row : Option Nat} (hG : ∀ b o, HItem.blk b o ∈ G → b < B) (h : RoJ B ob acc n G pre W) (hg : W.grownBy W' row)
    (hr : ∀ r, row = some r → B ≤ r ∧ ∃ o : Obj, W.heap[r]? = some o ∧ o.isCells = false) : RoJ B ob acc n G pre W' := by
  obtain ⟨h1, v, h, hv, hs⟩ := h
  exact ⟨Nat.le_trans h1 hg.size, v, h, hv, hs.ownGrownC (RoJ.under hG hv) hg hr⟩
/-- Between two rounds of the outer loop. -/
def RoSt (P : List Lf) (F : Heaplet) (ob mb i : Nat) (ds : List Nat) (W : World) : Prop := ∃ vr h, RwSl vr (rowsA (P.take i)) h ∧ SeenAt mb (seenA (P.take i)) (.blk ob (.cells #[vr] 70) :: (h ++ (MkH ds ++ F))) W
def RoAct (P : List Lf) (a : Option Addr) (cap ob mb i : Nat) (ds : List Nat) (A : Act) : Prop := ∃ u1 u5 u6 u7 u8 u9 u13 u14 u15 u16 u17 u18 u19 u20 u21 u22 u23 u24 u25 u26 u27 u28 u29 u30 u31 u32 u33 u34 u35 u36 u37 u38 u39 u40 u41 u42 u43 u44 u45 u46 u47 u48 u49 : Value, A = { tmps := #[.slice a P.length cap, u1, .slice none 0 0, .pointer (some ⟨ob, 0, none⟩), .map (some mb), u5, u6, u7, u8, u9, .slice a P.length cap, .int .i64 (P.length : Int), .int .i64 (i : Int), u13, u14, u15, u16, u17, u18, u19, u20, u21, u22, u23, u24, u25, u26, u27, u28, u29, u30, u31, u32, u33, u34, u35, u36, u37, u38, u39, u40, u41, u42, u43, u44, u45, u46, u47, u48, u49], defers := MkS ds }
def RoAll (P : List Lf) (F : Heaplet) (a : Option Addr) (cap ob mb : Nat) (A : Act) (W : World) : Prop := ∃ (i : Nat) (ds : List Nat), i ≤ P.length ∧ RoSt P F ob mb i ds W ∧ RoAct P a cap ob mb i ds A
theorem rowsS_len (p : Pg) (h : p.slots.length ≤ 1000) : (rowsS p).length ≤ 1000 := by
  unfold rowsS
  split
  · unfold rowsU
    refine Nat.le_trans (List.length_filterMap_le _ _) ?_
    rw [List.length_zipIdx, List.length_take]
    omega
  · simp
theorem rowsA_len : ∀ (P : List Lf), FitP P → (rowsA P).length ≤ P.length * 1000 := by
  intro P
  induction P with
  | nil => intro _; simp [rowsA]
  | cons p P ih =>
    intro hf
    have h1 := ih (fun x hx => hf x (.tail _ hx))
    have h2 := hf p (.head _)
    have h3 : (rowsS p.2).length ≤ 1000 := rowsS_len p.2 h2.1
    have h4 : rowsA (p :: P) = (if inR p.1 = true then rowsL p else []) ++ rowsA P := rfl
    rw [h4, List.length_append, List.length_cons]
    have h5 : (if inR p.1 = true then rowsL p else []).length ≤ 1000 := by
      split
      · rw [rowsL, List.length_map]; exact h3
      · simp
    omega
set_option maxRecDepth 100000 in
set_option maxHeartbeats 8000000 in
theorem rows_any {v : Value} {P : List Lf} {F : Heaplet} {w : World} (hv : LvAt F v P) (s : Sat w F) (hl : P.length ≤ 90) (hf : FitP P) (hd : ∀ (i j : Nat) (p q : Lf), P[i]? = some p → P[j]? = some q → i < j → p.1 ≠ q.1) :
    Calls Tryz.prog 23 #[v] w fun e w' => ∃ rv R h, e = .returned rv ∧ RwSl rv R h ∧ Sat w' (h ++ F) ∧ R.Pairwise (Le rk) ∧ Sd rk rs (rowsA P) R := by
  obtain ⟨a, cap, rfl, hc⟩ := hv
  have HC := Lib.hid hc
  have HF := Lib.hid hf
  have HD := Lib.hid hd
  have hl9 : (P.length : Int) ≤ 90 := by omega
  have hmm := @run_makeMap Tryz.prog
  have H0 : Hid (RoSt P F w.heap.size (w.heap.size + 1) 0 [] ((w.alloc (.cells #[.slice none 0 0] 70)).alloc (.map #[] 0))) := Lib.hid ⟨.slice none 0 0, [], SliceIs.nil _ _, #[], 0, [], mapOk_new kI_key kI_inj, (fun k => rfl), by
    have h0 := (s.new (.cells #[.slice none 0 0] 70)).new (.map #[] 0)
    rw [World.size_alloc] at h0
    exact h0⟩
  clear hc s hf hd
  refine (callsIn_wide (n := 9)).1 ?_
  refine callsIn_of_wp_marks Tryz.func23 rfl trivial ?_ rfl
  simp only [Tryz.ntmps23, List.size_toArray, List.length_cons, List.length_nil, Nat.reduceAdd, Nat.reduceSub, Array.replicate_succ, Array.replicate_zero, List.push_toArray, List.append_toArray, List.nil_append, List.cons_append]
  refine wpIn_wide.2 ?_
  go_wp2_with fail
  have hsz : (w.alloc (.cells #[.slice none 0 0] 70)).heap.size = w.heap.size + 1 := by simp
  try rw [hsz]
  clear hsz
  generalize (w.alloc (.cells #[.slice none 0 0] 70)).alloc (.map #[] 0) = W0 at *
  generalize w.heap.size = ob at *
  obtain ⟨mb, hmb⟩ : ∃ mb, ob + 1 = mb := ⟨_, rfl⟩
  rw [hmb] at H0
  try rw [hmb]
  clear hmb hmm
  refine wp_loop (fun A W => RoAll P F a cap ob mb A W) (fun A _ => 2000 - (RowKit.intOf (A.tmps.getD 12 undef)).toNat) ⟨0, [], Nat.zero_le _, H0.out, _, _, _, _, _, _, _, _, _, _, _, _, _, _, _, _, _, _, _, _, _, _, _, _, _, _, _, _, _, _, _, _, _, _, _, _, _, _, _, _, _, _, _, rfl⟩ ?_
  clear H0
  rintro A W ⟨i, ds, hi, ⟨vr, h, hvr, hse⟩, u1, u5, u6, u7, u8, u9, u13, u14, u15, u16, u17, u18, u19, u20, u21, u22, u23, u24, u25, u26, u27, u28, u29, u30, u31, u32, u33, u34, u35, u36, u37, u38, u39, u40, u41, u42, u43, u44, u45, u46, u47, u48, u49, rfl⟩
  by_cases hil : i < P.length
  · have i0 : (0 : Int) ≤ (i : Int) := by omega
    have i1 : (i : Int) < (P.length : Int) := by omega
    obtain ⟨p, hp⟩ : ∃ p, P[i]? = some p := ⟨_, List.getElem?_eq_getElem hil⟩
    obtain ⟨g, off, sv, rfl, hsv, hu⟩ := HC.out i p hp
    have hsF : Sat W F := Sat.right (h' := MkH ds) (Sat.right (h' := h) hse.frame.tail)
    obtain ⟨e0, e1, e2⟩ := hu W hsF
    have htk : P.take (i + 1) = P.take i ++ [p] := by rw [List.take_add_one, hp]; rfl
    have hfp := HF.out p (List.mem_of_getElem? hp)
    have hnew : (seenA (P.take i)).contains p.1 = false := by
      cases hcc : (seenA (P.take i)).contains p.1 with
      | false => rfl
      | true =>
        obtain ⟨x, hx, ex⟩ := mem_seenA (List.contains_iff_mem.1 hcc)
        obtain ⟨j, hj⟩ := List.mem_iff_getElem?.1 hx
        have hji : j < i := by
          have := (List.getElem?_eq_some_iff.1 hj).1
          rw [List.length_take] at this
          omega
        rw [List.getElem?_take_of_lt hji] at hj
        exact absurd ex (HD.out j i x p hj hp hji)
    have hal := rowsA_len (P.take i) (fun x hx => HF.out x (List.mem_of_mem_take hx))
    have hal2 : (P.take i).length ≤ 90 := by rw [List.length_take]; omega
    obtain ⟨acc, hacc⟩ : ∃ acc, rowsA (P.take i) = acc := ⟨_, rfl⟩
    have hal3 : acc.length ≤ 90000 := by rw [← hacc]; omega
    rw [hacc] at hvr
    obtain ⟨S, hS⟩ : ∃ S, seenA (P.take i) = S := ⟨_, rfl⟩
    rw [hS] at hse hnew
    have hra : rowsA (P.take (i + 1)) = acc ++ (if inR p.1 = true then rowsL p else []) := by rw [htk, rowsA_snoc, hacc]
    have hrs : seenA (P.take (i + 1)) = (if inR p.1 = true then p.1 :: S else S) := by rw [htk, seenA_snoc, hS]
    obtain ⟨n, q⟩ := p
    simp only at hsv e0 e1 e2 hfp hnew hra hrs
    obtain ⟨sa, sc, rfl, _⟩ := id hsv
    have hse1 := hse.new (.cells #[kI n, kI q.lsn, .slice sa q.slots.length sc] 54)
    have x0 : (W.alloc (.cells #[kI n, kI q.lsn, .slice sa q.slots.length sc] 54)).cell? ⟨W.heap.size, 0, none⟩ = some (kI n) := by rw [cell_of hse1.frame.h0]; rfl
    have HS1 := Lib.hid hse1
    have HRA := Lib.hid (And.intro hra (And.intro hrs (And.intro htk (And.intro hacc hS))))
    have HVR := Lib.hid hvr
    have HSV := Lib.hid hsv
    have HFP := Lib.hid hfp
    have HAL := Lib.hid hal3
    have hlk := hse1.look n
    rw [hnew] at hlk
    have hi9 : i + 1 ≤ P.length ∧ i < 1000 := by omega
    have HI := Lib.hid hi9
    obtain ⟨s1, s2⟩ := sum_at (a := i) (i := 1) (p := i + 1) rfl (by omega)
    clear hu hsF htk hfp hnew hal hal2 hal3 hacc hvr hS hra hrs hsv hse1 hi hp hi9 hse HC HF HD hil
    by_cases hlo : n < 0
    · have hn1 : n < 0 := hlo
      go_upto_region 6 with (fail)
      clear e0 e1 e2
      generalize W.alloc (.cells #[kI n, kI q.lsn, .slice sa q.slots.length sc] 54) = W3 at *
      generalize W.heap.size = xb at *
      have hir : inR n = false := by unfold inR; rw [decide_eq_false (by omega)]; rfl
      have FIN : Hid (RoSt P F ob mb (i + 1) ds W3) := Lib.hid ⟨vr, h, by rw [HRA.out.1, hir, if_neg (by simp), List.append_nil]; exact HVR.out, by rw [HRA.out.2.1, hir, if_neg (by simp)]; exact HS1.out.part (fun a => by simp only [cnt_cons]; omega)⟩
      clear HS1 HRA HVR HSV HFP HAL hir
      go_wp2_with fail
      clear s1 s2
      exact ⟨⟨i + 1, ds, HI.out.1, FIN.out, _, _, _, _, _, _, _, _, _, _, _, _, _, _, _, _, _, _, _, _, _, _, _, _, _, _, _, _, _, _, _, _, _, _, _, _, _, _, _, _, _, _, _, rfl⟩, by have := HI.out.2; simp only [RowKit.intOf]; simp; omega⟩
    · have hn1 : (n < 0) = False := eq_false hlo
      by_cases hhi : 1024 ≤ n
      · have hn2 : 1024 ≤ n := hhi
        go_upto_region 6 with (fail)
        clear e0 e1 e2
        generalize W.alloc (.cells #[kI n, kI q.lsn, .slice sa q.slots.length sc] 54) = W3 at *
        generalize W.heap.size = xb at *
        have hir : inR n = false := by unfold inR; rw [decide_eq_false (p := n < 1024) (by omega), Bool.and_false]
        have FIN : Hid (RoSt P F ob mb (i + 1) ds W3) := Lib.hid ⟨vr, h, by rw [HRA.out.1, hir, if_neg (by simp), List.append_nil]; exact HVR.out, by rw [HRA.out.2.1, hir, if_neg (by simp)]; exact HS1.out.part (fun a => by simp only [cnt_cons]; omega)⟩
        clear HS1 HRA HVR HSV HFP HAL hir
        go_wp2_with fail
        clear s1 s2
        exact ⟨⟨i + 1, ds, HI.out.1, FIN.out, _, _, _, _, _, _, _, _, _, _, _, _, _, _, _, _, _, _, _, _, _, _, _, _, _, _, _, _, _, _, _, _, _, _, _, _, _, _, _, _, _, _, _, rfl⟩, by have := HI.out.2; simp only [RowKit.intOf]; simp; omega⟩
      · have hn2 : (1024 ≤ n) = False := eq_false hhi
        have HIR : Hid (inR n = true) := Lib.hid (by unfold inR; rw [decide_eq_true (by omega), decide_eq_true (by omega)]; rfl)
        clear hlo hhi
        go_upto_region 6 with (fail)
        clear e0 e1 e2
        generalize W.alloc (.cells #[kI n, kI q.lsn, .slice sa q.slots.length sc] 54) = W3 at *
        generalize W.heap.size = xb at *
        obtain ⟨W4, hupd, hse4⟩ := HS1.out.put n
        obtain ⟨es, clk, D, hm1, hm2, s4⟩ := hse4
        have HM := Lib.hid (And.intro hm1 hm2)
        have y0 : W4.cell? ⟨xb, 0, none⟩ = some (kI n) := by rw [cell_of s4.h1]; rfl
        have y1 : W4.cell? ⟨xb, 1, none⟩ = some (kI q.lsn) := by rw [cell_of s4.h1]; rfl
        have y2 : W4.cell? ⟨xb, 2, none⟩ = some (.slice sa q.slots.length sc) := by rw [cell_of s4.h1]; rfl
        have HS4 := Lib.hid s4
        clear hm1 hm2 s4 HS1
        go_wp2_with (go_at_call 39; refine (srows_any _ _ _ _ _).mono ?_; rintro e w5 ⟨rfl, rfl⟩)
        clear y0 y1 y2 x0 hlk hupd
        have hs5 := HS4.out.new (.cells #[kI q.lsn, .slice sa q.slots.length sc] 52)
        have hbx : W4.heap.size < (W4.alloc (.cells #[kI q.lsn, .slice sa q.slots.length sc] 52)).heap.size := by simp
        generalize W4.alloc (.cells #[kI q.lsn, .slice sa q.slots.length sc] 52) = W5 at *
        have hs6 : Sat W5 (.blk W4.heap.size (.cells #[kI q.lsn, .slice sa q.slots.length sc] 52) :: F) := by (refine Sat.part hs5 ?_; intro a; simp only [cnt_cons, cnt_append, cnt_nil, List.cons_append, List.nil_append, List.append_eq]; omega)
        have hst := rows_stops (9 - 1) (by omega) W4.heap.size q (.slice sa q.slots.length sc) F W5 hs6 HSV.out HFP.out.1 HFP.out.2.1 HFP.out.2.2
        generalize W4.heap.size = bx at *
        have HS5 := Lib.hid hs5
        clear hs5 hs6 HS4
        have hGG : ∀ b o, HItem.blk b o ∈ (.blk bx (.cells #[kI q.lsn, .slice sa q.slots.length sc] 52) :: .blk mb (.map es clk) :: .blk xb (.cells #[kI n, kI q.lsn, .slice sa q.slots.length sc] 54) :: (MkH ds ++ F)) → b < W5.heap.size := by
          have hs7 : Sat W5 (.blk bx (.cells #[kI q.lsn, .slice sa q.slots.length sc] 52) :: .blk mb (.map es clk) :: .blk xb (.cells #[kI n, kI q.lsn, .slice sa q.slots.length sc] 54) :: (MkH ds ++ F)) := by (refine Sat.part HS5.out ?_; intro a; simp only [cnt_cons, cnt_append, cnt_nil, List.cons_append, List.nil_append, List.append_eq]; omega)
          exact fun b o hm => hs7.lt hm
        have hGK : ∀ b o, HItem.blk b o ∈ (.blk bx (.cells #[kI q.lsn, .slice sa q.slots.length sc] 52) :: F) → b < W5.heap.size := by
          have hs7 : Sat W5 (.blk bx (.cells #[kI q.lsn, .slice sa q.slots.length sc] 52) :: F) := by (refine Sat.part HS5.out ?_; intro a; simp only [cnt_cons, cnt_append, cnt_nil, List.cons_append, List.nil_append, List.append_eq]; omega)
          exact fun b o hm => hs7.lt hm
        have HGG := Lib.hid hGG
        have HGK := Lib.hid hGK
        have hI0 : RoJ W5.heap.size ob acc n (.blk bx (.cells #[kI q.lsn, .slice sa q.slots.length sc] 52) :: .blk mb (.map es clk) :: .blk xb (.cells #[kI n, kI q.lsn, .slice sa q.slots.length sc] 54) :: (MkH ds ++ F)) [] W5 := ⟨Nat.le_refl _, vr, h, by rw [List.map_nil, List.append_nil]; exact HVR.out, by (refine Sat.part HS5.out ?_; intro a; simp only [cnt_cons, cnt_append, cnt_nil, List.cons_append, List.nil_append, List.append_eq]; omega)⟩
        have HI0 := Lib.hid hI0
        clear hI0 hGG hGK HS5
        refine (wpIn_wide (n := 9)).1 ?_
        apply wpIn_rangeFunc_ownG (F := Fence.wide) (n := 9) rfl (by omega) (gf := 74) (lb := #[.pointer (some ⟨bx, 0, none⟩)]) rfl trivial (enters_of Tryz.func74 (by kernel_rfl) rfl)
          hst KH.trans (fun W l o o' hl h1 h2 _ => KH.put HGK.out W l o o' hl h1 h2) (Below.refl _ _) (fun _ => rfl)
          (RoJ W5.heap.size ob acc n (.blk bx (.cells #[kI q.lsn, .slice sa q.slots.length sc] 52) :: .blk mb (.map es clk) :: .blk xb (.cells #[kI n, kI q.lsn, .slice sa q.slots.length sc] 54) :: (MkH ds ++ F)))
          (fun _ _ _ => False)
          (fun s W W' row hI hg hr => hI.grown HGG.out hg hr)
          (fun c s W W' row hI _ _ => hI)
          HI0.out _ ?assign ?body ?done ?stop
        case assign =>
          intro l x W K hK
          have HK := Lib.hid hK
          clear hK
          gi_wp2
          exact HK.out
        case stop => exact fun D c pre W _ _ h => h.elim
        case body =>
          rintro l pre x W ⟨hB, v, h, hv, hs⟩ hlt
          obtain ⟨R, hsR, hR⟩ := hs.rest
          rw [List.append_assoc] at hsR
          have c0 : W.cell? ⟨ob, 0, none⟩ = some v := by rw [cell_of (hs.right.h0)]; rfl
          have c1 : W.cell? ⟨xb, 0, none⟩ = some (kI n) := by rw [cell_of (hs.right.get (b := xb) (o := .cells #[kI n, kI q.lsn, .slice sa q.slots.length sc] 54) (by simp))]; rfl
          have hlen : pre.length ≤ 1000 := by have := rowsS_len q HFP.out.1; omega
          have hal3 := HAL.out
          obtain ⟨v5, w5, h5, hap, hv5, hs5⟩ := rw_pushX ((n, x.1, x.2) : Rw) hv (hsR.new (.cells #[kI n, kI x.1, kS x.2] 73)) (by rw [List.length_append, List.length_map]; omega)
          have hs5b : Sat w5 (.blk ob (.cells #[v] 70) :: .blk W.heap.size (.cells #[kI n, kI x.1, kS x.2] 73) :: (h5 ++ ((.blk bx (.cells #[kI q.lsn, .slice sa q.slots.length sc] 52) :: .blk mb (.map es clk) :: .blk xb (.cells #[kI n, kI q.lsn, .slice sa q.slots.length sc] 54) :: (MkH ds ++ F)) ++ R))) := by (refine Sat.part hs5 ?_; intro a; simp only [cnt_cons, cnt_append, cnt_nil, List.cons_append, List.nil_append, List.append_eq]; omega)
          have d0 : w5.frozen? ⟨ob, 0, none⟩ = false := unfrozen_of hs5b.h0 0
          have d1 : w5.cell? ⟨ob, 0, none⟩ = some v := by rw [cell_of hs5b.h0]; rfl
          have hs6a : Sat (w5.setCell ⟨ob, 0, none⟩ v5) (.blk ob (.cells #[v5] 70) :: .blk W.heap.size (.cells #[kI n, kI x.1, kS x.2] 73) :: (h5 ++ ((.blk bx (.cells #[kI q.lsn, .slice sa q.slots.length sc] 52) :: .blk mb (.map es clk) :: .blk xb (.cells #[kI n, kI q.lsn, .slice sa q.slots.length sc] 54) :: (MkH ds ++ F)) ++ R))) := hs5b.setCell (i := 0) v5
          have hs6 : Sat (w5.setCell ⟨ob, 0, none⟩ v5) ((h5 ++ (.blk ob (.cells #[v5] 70) :: .blk bx (.cells #[kI q.lsn, .slice sa q.slots.length sc] 52) :: .blk mb (.map es clk) :: .blk xb (.cells #[kI n, kI q.lsn, .slice sa q.slots.length sc] 54) :: (MkH ds ++ F))) ++ R) := by (refine Sat.part hs6a ?_; intro a; simp only [cnt_cons, cnt_append, cnt_nil, List.cons_append, List.nil_append, List.append_eq]; omega)
          have hsz : W.heap.size ≤ (w5.setCell ⟨ob, 0, none⟩ v5).heap.size := Nat.le_of_lt (hs6a.tail.lt (.head _))
          have hko : KeepsOthers W (w5.setCell ⟨ob, 0, none⟩ v5) := by
            refine Sat.keepsOthers hR hs hs6 (fun k o hm => ?_) hsz
            rcases List.mem_append.1 hm with hm | hm
            · exact .inl (slice_cells hv k o hm)
            · cases hm with
              | head => exact .inl rfl
              | tail _ hm => exact .inr (List.mem_append_right _ (.tail _ hm))
          have hI6 : RoJ W5.heap.size ob acc n (.blk bx (.cells #[kI q.lsn, .slice sa q.slots.length sc] 52) :: .blk mb (.map es clk) :: .blk xb (.cells #[kI n, kI q.lsn, .slice sa q.slots.length sc] 54) :: (MkH ds ++ F)) (pre ++ [x]) (w5.setCell ⟨ob, 0, none⟩ v5) := ⟨Nat.le_trans hB hsz, v5, h5, by rw [List.map_append, ← List.append_assoc]; exact hv5, hs6.sub (List.sublist_append_left _ _)⟩
          have hKH : KH (.blk bx (.cells #[kI q.lsn, .slice sa q.slots.length sc] 52) :: F) W (w5.setCell ⟨ob, 0, none⟩ v5) := ⟨hsz, fun _ => by (refine Sat.part hs6 ?_; intro a; simp only [cnt_cons, cnt_append, cnt_nil, List.cons_append, List.nil_append, List.append_eq]; omega)⟩
          obtain ⟨a5, cp5, rfl⟩ := sl_form hv5
          obtain ⟨n5, hn5⟩ : ∃ n5, ((acc ++ List.map (fun x : Int × ByteArray => ((n, x.1, x.2) : Rw)) pre) ++ [((n, x.1, x.2) : Rw)]).length = n5 := ⟨_, rfl⟩
          rw [hn5] at hap hko hI6 hKH
          obtain ⟨va, vc, rfl⟩ := sl_form hv
          obtain ⟨n6, hn6⟩ : ∃ n6, (acc ++ List.map (fun x : Int × ByteArray => ((n, x.1, x.2) : Rw)) pre).length = n6 := ⟨_, rfl⟩
          rw [hn6] at hap c0 d1
          clear hsz hs6 hs6a hn5 hn6 hal3
          have HAP := Lib.hid hap
          have FIN := Lib.hid (And.intro hko (And.intro hKH hI6))
          clear hap hv5 hs5 hs5b hko hI6 hKH hR hsR hs hv hst hlen hlt
          gi_wp2_with (refine wpListIn_append_run rfl _ _ _ _ rfl _ _ _ _ rfl rfl HAP.out ?_)
          exact ⟨FIN.out.1.from _, FIN.out.2.1, FIN.out.2.2⟩
        case done =>
          rintro D xs W hD hSS ⟨hB, v, h', hv, hs⟩ hKD
          have hS' : xs = rowsS q := hSS
          subst hS'
          have hs2 : Sat W (.blk D (.deferred (some [])) :: (h' ++ (.blk ob (.cells #[v] 70) :: (.blk bx (.cells #[kI q.lsn, .slice sa q.slots.length sc] 52) :: .blk mb (.map es clk) :: .blk xb (.cells #[kI n, kI q.lsn, .slice sa q.slots.length sc] 54) :: (MkH ds ++ F))))) := hs.addC hKD (RoJ.under HGG.out hv) hD
          have FIN : Hid (RoSt P F ob mb (i + 1) (D :: ds) W) := Lib.hid ⟨v, h', by rw [HRA.out.1, HIR.out, if_pos rfl]; exact hv, es, clk, _, HM.out.1, by rw [HRA.out.2.1, HIR.out, if_pos rfl]; exact HM.out.2, by
            have e9 : MkH (D :: ds) = .blk D (.deferred (some [])) :: MkH ds := rfl
            rw [e9]
            (refine Sat.part hs2 ?_; intro a; simp only [cnt_cons, cnt_append, cnt_nil, List.cons_append, List.nil_append, List.append_eq]; omega)⟩
          have e8 : ({ target := .collected D, args := #[] } : Deferred) :: MkS ds = MkS (D :: ds) := rfl
          clear hs hs2 hv hSS hst hKD hD hB HRA HVR HSV HFP HAL HM HIR HGG HGK HI0
          go_wp2_with fail
          clear s1 s2
          exact ⟨⟨i + 1, D :: ds, HI.out.1, FIN.out, _, _, _, _, _, _, _, _, _, _, _, _, _, _, _, _, _, _, _, _, _, _, _, _, _, _, _, _, _, _, _, _, _, _, _, _, _, _, _, _, _, _, _, rfl⟩, by have := HI.out.2; simp only [RowKit.intOf]; simp; omega⟩
  · have i1 : ((i : Int) < (P.length : Int)) = False := eq_false (by omega)
    obtain rfl : i = P.length := by omega
    rw [List.take_length] at hvr hse
    obtain ⟨es, clk, D, _, _, s0⟩ := hse
    have hal := rowsA_len P HF.out
    have hal3 : (rowsA P).length ≤ 90000 := by omega
    obtain ⟨R0, hR0⟩ : ∃ R0, rowsA P = R0 := ⟨_, rfl⟩
    rw [hR0] at hvr hal3
    have c0 : W.cell? ⟨ob, 0, none⟩ = some vr := by rw [cell_of s0.h1]; rfl
    have s1 : Sat W (h ++ (.blk ob (.cells #[vr] 70) :: (MkH ds ++ F))) := by (refine Sat.part s0 ?_; intro a; simp only [cnt_cons, cnt_append, cnt_nil, List.cons_append, List.nil_append, List.append_eq]; omega)
    obtain ⟨N, hN⟩ : ∃ N, R0.length = N := ⟨_, rfl⟩
    have HSO : ∃ va vc, vr = .slice va N vc ∧ Calls Tryz.prog 40 #[.slice va N vc, rcF] W (fun e w' => ∃ R h', e = .returned (.tuple #[]) ∧ (R.Pairwise (Le rk) ∧ Sd rk rs R0 R ∧ R.length = N) ∧ RwSl (.slice va N vc) R h' ∧ Sat w' (h' ++ (.blk ob (.cells #[vr] 70) :: (MkH ds ++ F)))) := by
      by_cases hN1 : N ≤ 1
      · obtain ⟨va, vc, e⟩ := sl_form hvr
        rw [hN] at e
        refine ⟨va, vc, e, (sort_one va N vc rcF W hN1).mono ?_⟩
        rintro e1 w1 ⟨rfl, rfl⟩
        refine ⟨R0, h, rfl, ⟨?_, Sd.refl _, hN⟩, by rw [← e]; exact hvr, s1⟩
        match R0, hN with
        | [], _ => exact List.Pairwise.nil
        | [x], _ => exact List.pairwise_singleton _ _
        | x :: y :: r, hN => simp at hN; omega
      · obtain ⟨gg, vc, e⟩ := sl_some hvr (by omega)
        rw [hN] at e
        refine ⟨_, vc, e, (sortS_any (by rw [← e]; exact hvr) s1 hN (by omega)).mono ?_⟩
        rintro e1 w1 ⟨R, h', h1, h2, h3, h4⟩
        exact ⟨R, h', h1, h2, h3, h4⟩
    obtain ⟨va, vc, rfl, hso⟩ := HSO
    have HSO := Lib.hid hso
    have HR0 := Lib.hid hR0
    clear hso hvr s0 s1 hal hal3 hR0 hN HC HF HD hi hil
    go_wp2_with (go_at_call 40; refine (HSO.out).mono ?_; rintro e w9 ⟨R, h9, rfl, hp9, hv9, hs9⟩; have c9 : w9.cell? ⟨ob, 0, none⟩ = some (.slice va N vc) := (by rw [cell_of hs9.right.h0]; rfl); have FIN := Lib.hid (And.intro hp9 (And.intro hv9 hs9)); clear hp9 hv9 hs9)
    clear c0 c9 HSO
    refine leaves_marks (G := h9 ++ F) ds _ (by (refine Sat.part FIN.out.2.2 ?_; intro a; simp only [cnt_cons, cnt_append, cnt_nil, List.cons_append, List.nil_append, List.append_eq]; omega)) ?_
    intro w' hs'
    exact ⟨.slice va N vc, results_tmp (t := 2) rfl _ _ _, .slice va N vc, R, h9, rfl, FIN.out.2.1, hs', FIN.out.1.1, by rw [HR0.out]; exact FIN.out.1.2.1⟩
end Go.Proofs.YtficgjklagnbjaaGreat
