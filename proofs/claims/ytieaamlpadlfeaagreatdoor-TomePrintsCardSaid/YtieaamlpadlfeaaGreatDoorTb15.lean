/- A script's steps: tome.Script walked. Conditions: none. -/
import Derived.Test.YtieaamlpadlfeaaGreatDoorTb14
namespace Go.Proofs.YtieaamlpadlfeaaGreatDoor
open Go Go.MapKept Go.RowKit Go.Proofs Go.Shelf

attribute [local go_sem] Oper.semAt_some

/-- A world that holds what another held is no smaller. -/
theorem size_le_of {W W' : World} {H R : Heaplet} (hR : ∀ k o, W.heap[k]? = some o → (∀ o', HItem.blk k o' ∉ H) → HItem.blk k o ∈ R) (s' : Sat W' (H ++ R)) : W.heap.size ≤ W'.heap.size := by
  refine Decidable.byContradiction fun hc => ?_
  have hk : W'.heap.size < W.heap.size := by omega
  have hg : W.heap[W'.heap.size]? = some W.heap[W'.heap.size] := Array.getElem?_eq_getElem hk
  by_cases hm : ∃ o', HItem.blk W'.heap.size o' ∈ H
  · obtain ⟨o', hm⟩ := hm
    have := s'.lt (List.mem_append_left _ hm)
    omega
  · have := s'.lt (List.mem_append_right _ (hR _ _ hg (fun o' h => hm ⟨o', h⟩)))
    omega
/-- The iterator's variables lie as they lay. -/
theorem kpb_of {b : Nat} {X Y : Value} {W W' : World} {K K' : Heaplet} (s : Sat W (.blk b (.cells #[X] 9) :: .blk (b + 1) (.cells #[Y] 9) :: .blk (b + 2) (.cells #[.int .i64 0] 3) :: K)) (s' : Sat W' (.blk b (.cells #[X] 9) :: .blk (b + 1) (.cells #[Y] 9) :: .blk (b + 2) (.cells #[.int .i64 0] 3) :: K')) : KpB b W W' := by
  intro k h1 h2
  have h3 : k = b ∨ k = b + 1 ∨ k = b + 2 := by omega
  rcases h3 with rfl | rfl | rfl
  · exact s'.h0.trans s.h0.symm
  · exact s'.h1.trans s.h1.symm
  · exact s'.h2.trans s.h2.symm
set_option maxRecDepth 100000 in
theorem script_results (tm : Array Value) (W9 : World) (A2 A3 : Nat) (v : Value) (n c : Int) (h1 : (tm[2]?).getD undef = .pointer (some ⟨A2, 0, none⟩)) (h2 : (tm[3]?).getD undef = .pointer (some ⟨A3, 0, none⟩)) (h3 : (tm[4]?).getD undef = .int .i64 c)
    (c1 : W9.cell? ⟨A2, 0, none⟩ = some v) (c2 : W9.cell? ⟨A3, 0, none⟩ = some (kI n)) :
    (results Tryz.f11 tm).run Tryz.prog W9 = .ok (.tuple #[v, kI n, .int .i64 c]) W9 := by
  simp [results, Tryz.results11, go_sem, h1, h2, h3, c1, c2]
/-- The function is left: the rounds' mark is taken, the results are read. -/
theorem script_end {PB : Ending → World → Prop} {B A2 A3 D : Nat} {v : Value} {n c : Int} {K : Heaplet} {W2 : World} {a : Act} (hd : a.defers = [{ target := .collected D, args := #[] }]) (h1 : (a.tmps[2]?).getD undef = .pointer (some ⟨A2, 0, none⟩)) (h2 : (a.tmps[3]?).getD undef = .pointer (some ⟨A3, 0, none⟩)) (h3 : (a.tmps[4]?).getD undef = .int .i64 c)
    (hs : Sat W2 (.blk A2 (.cells #[v] 36) :: .blk A3 (.cells #[kI n] 3) :: K)) (hu : UnderC B (.blk A2 (.cells #[v] 36) :: .blk A3 (.cells #[kI n] 3) :: K)) (hK : W2.heap[D]? = some (.deferred (some []))) (hD : B ≤ D) (hfin : ∀ W', Sat W' K → PB (.returned (.tuple #[v, kI n, .int .i64 c])) W') :
    bodyPostM Fence.wide 9 Tryz.prog Tryz.f11 PB Exit.ret a W2 := by
  have hs3 : Sat (W2.putObj D (.deferred none)) (.blk A2 (.cells #[v] 36) :: .blk A3 (.cells #[kI n] 3) :: K) := hs.ownGrownC hu (grownBy_putObj' W2 D (.deferred none)) (fun r e => by cases e; exact ⟨hD, _, hK, rfl⟩)
  show LeavesInM _ _ _ _ _ _ a.defers .returning W2
  rw [hd]
  refine ⟨by simp, .inl ⟨D, _, rfl, run_takeDeferred hK, ?_⟩⟩
  refine ⟨_, script_results _ _ A2 A3 v n c h1 h2 h3 ?_ ?_, hfin _ hs3.tail.tail⟩
  · exact (cell_of hs3.h0 0).trans rfl
  · exact (cell_of hs3.h1 0).trans rfl
set_option maxRecDepth 100000 in
set_option maxHeartbeats 4000000 in
theorem script_long {F : Heaplet} {w : World} (s : Sat w F) (x : Bs) (hx : 131072 < x.length) : Calls Tryz.prog 11 #[kL x] w (ScriptRet F 5 [] 0) := by
  have h1 := (s.new (.cells #[.slice none 0 0] 36)).new (.cells #[kI 0] 3)
  rw [World.size_alloc] at h1
  have FIN := Lib.hid h1
  have hx9 : (131072 : Int) < (x.length : Int) := by omega
  clear s h1 hx
  refine (callsIn_wide (n := 9)).1 ?_
  refine callsIn_of_wp_marks Tryz.func11 rfl trivial ?_ rfl
  simp only [Tryz.ntmps11, List.size_toArray, List.length_cons, List.length_nil, Nat.reduceAdd, Nat.reduceSub, Array.replicate_succ, Array.replicate_zero, List.push_toArray, List.append_toArray, List.nil_append, List.cons_append]
  refine wpIn_wide.2 ?_
  go_wp2_with fail
  refine ⟨_, script_results _ _ w.heap.size (w.heap.size + 1) (.slice none 0 0) 0 5 rfl rfl rfl ?_ ?_, _, [], rfl, StAt.nil _ _ _, FIN.out.tail.tail⟩
  · exact (cell_of FIN.out.h1 0).trans rfl
  · exact (cell_of FIN.out.h0 0).trans rfl
set_option maxRecDepth 100000 in
set_option maxHeartbeats 4000000 in
theorem script_any {F : Heaplet} {w : World} (hL : LibF F) (s : Sat w F) (x : Bs) (hx : x.length ≤ 100000) :
    Calls Tryz.prog 11 #[kL x] w (if (scriptS (cutL 10 x)).1.length ≤ 600 then ScriptRet F 0 (scriptS (cutL 10 x)).1 (scriptS (cutL 10 x)).2 else ScriptRet F 51 [] 0) := by
  obtain ⟨PB, hPB⟩ : ∃ PB : Ending → World → Prop, (if (scriptS (cutL 10 x)).1.length ≤ 600 then ScriptRet F 0 (scriptS (cutL 10 x)).1 (scriptS (cutL 10 x)).2 else ScriptRet F 51 [] 0) = PB := ⟨_, rfl⟩
  rw [hPB]
  have HPB := Lib.hid hPB
  clear hPB
  have HLF := Lib.hid hL
  have HS := Lib.hid s
  have h2 := (s.new (.cells #[.slice none 0 0] 36)).new (.cells #[kI 0] 3)
  rw [World.size_alloc] at h2
  have H2 := Lib.hid h2
  have HX := Lib.hid hx
  have hx9 : (x.length : Int) ≤ 100000 := by omega
  clear hL s h2 hx
  refine (callsIn_wide (n := 9)).1 ?_
  refine callsIn_of_wp_marks Tryz.func11 rfl trivial ?_ rfl
  simp only [Tryz.ntmps11, List.size_toArray, List.length_cons, List.length_nil, Nat.reduceAdd, Nat.reduceSub, Array.replicate_succ, Array.replicate_zero, List.push_toArray, List.append_toArray, List.nil_append, List.cons_append]
  refine wpIn_wide.2 ?_
  go_wp2_with (go_at_call 29; refine (SplitSeq_any x _).mono ?_; rintro e w4 ⟨rfl, h4⟩; have h5 := h4 _ H2.out; simp only [World.size_alloc] at h5; have H4 := Lib.hid h5; clear h4 h5)
  (try simp only [World.size_alloc])
  generalize w.heap.size + 1 + 1 = b at *
  generalize hA2 : w.heap.size = A2 at *
  obtain ⟨YS, hYS⟩ : ∃ YS, cutL 10 x = YS := ⟨_, rfl⟩
  have HLN : Hid (∀ y ∈ YS, y.length ≤ 100000) := Lib.hid (fun y hy => by
    rw [← hYS] at hy
    exact Nat.le_trans (cut_len 10 x y hy) HX.out)
  have HYL : Hid (YS.length ≤ 100001) := Lib.hid (by
    rw [← hYS]
    have := cut_count 10 x
    have := HX.out
    omega)
  have hs0 : Sat w4 (seqH b x) := H4.out.lft
  have hbl : b < w4.heap.size := hs0.lt (.head _)
  have hA2l : A2 + 1 < w4.heap.size := H4.out.right.lt (.head _)
  have hb2 : b + 2 < w4.heap.size := hs0.lt (.tail _ (.tail _ (.head _)))
  have hst := seq_lines (9 - 1) (by omega) b x w4 hs0 (by have := HX.out; omega)
  rw [hYS] at hst HPB
  have HF : Hid (∀ c o, HItem.blk c o ∈ F → c < w4.heap.size) := Lib.hid (fun c o hm => by
    have h9 : Sat w4 F := H4.out.right.tail.tail
    exact h9.lt hm)
  have HI0 : Hid (ScI w4.heap.size A2 (A2 + 1) b F [] w4) := Lib.hid ⟨Nat.le_refl _, [], .slice none 0 0, [], [], kL x, rfl, SOwn.nil, by
    show Sat w4 (.blk A2 (.cells #[.slice none 0 0] 36) :: .blk (A2 + 1) (.cells #[kI 0] 3) :: .blk b (.cells #[kL x] 9) :: .blk (b + 1) (.cells #[.string ⟨#[10]⟩] 9) :: .blk (b + 2) (.cells #[.int .i64 0] 3) :: F)
    refine Sat.part H4.out ?_
    intro a
    simp only [cnt_cons, List.cons_append, List.nil_append]
    omega⟩
  clear hs0 hYS H2 HS H4
  refine (wpIn_wide (n := 9)).1 ?_
  apply wp_range_box (F := Fence.wide) (n := 9) (gf := 61) (lb := #[.pointer (some ⟨b + 1, 0, none⟩), .pointer (some ⟨b, 0, none⟩), .pointer (some ⟨b + 2, 0, none⟩)]) (w0 := w4) (Kp := KpB b) (ys := YS) (B := b) rfl trivial (by omega) rfl (enters_of Tryz.func61 (by kernel_rfl) rfl)
    hst KpB.trans (fun W l o o' hl ho k h1 h2 => World.putObj_heap_other (by omega)) (Below.refl _ _) hbl (fun _ => rfl)
    (ScI w4.heap.size A2 (A2 + 1) b F)
    (fun s W W' row hI hg hr => hI.grown HF.out hg hr)
    (fun s W u hI => hI.box u)
    HI0.out _ ?assign ?body ?done
  case assign =>
    intro l x W K hK
    have HK := Lib.hid hK
    clear hK
    gi_wp2
    exact HK.out
  case body =>
    rintro l pre y W ⟨hB, rows, v, h, hf, X, hrw, hv, hs⟩ hpre
    have hyl : y.length ≤ 100000 := HLN.out y (hpre.subset (by simp))
    have hpl : pre.length ≤ 100000 := by
      have h1 := hpre.length_le
      have h2 := HYL.out
      simp only [List.length_append, List.length_singleton] at h1
      omega
    have hsn := scriptS_snoc pre y
    have hsl := scriptS_len pre
    have hrl : rows.length = (scriptS pre).1.length := by rw [← hrw, List.length_map]
    have HBB := Lib.hid hB
    clear hst HLN HYL HPB HI0 hpre
    by_cases hm : mute y = true
    · rw [if_pos hm] at hsn
      have FIN : Hid (ScI w4.heap.size A2 (A2 + 1) b F (pre ++ [y]) W) := Lib.hid ⟨hB, rows, v, h, hf, X, by rw [hsn]; exact hrw, hv, by rw [hsn]; exact hs⟩
      clear hB hrw hv hs hsn hsl hrl hpl
      by_cases hy0 : y = []
      · subst hy0
        clear hm hyl
        gi_wp2_with fail
        exact ⟨KeepsFrom.refl _ _, fun _ _ _ => rfl, FIN.out⟩
      · obtain ⟨c, t, rfl⟩ : ∃ c t, y = c :: t := by
          cases y with
          | nil => exact absurd rfl hy0
          | cons c t => exact ⟨c, t, rfl⟩
        have hc : c = 35 := by simpa [mute] using hm
        subst hc
        clear hm hyl hy0
        gi_wp2_with fail
        exact ⟨KeepsFrom.refl _ _, fun _ _ _ => rfl, FIN.out⟩
    · rw [if_neg hm] at hsn
      obtain ⟨c, t, rfl⟩ : ∃ c t, y = c :: t := by
        cases y with
        | nil => exact absurd rfl hm
        | cons c t => exact ⟨c, t, rfl⟩
      have k35 : ((c.toNat : Int) == 35) = false := by
        rw [beq_eq_false_iff_ne]
        intro e
        refine hm ?_
        have : c = 35 := UInt8.toNat_inj.1 (by show c.toNat = 35; omega)
        simp [mute, this]
      obtain ⟨sk, hsk⟩ : ∃ sk, (scriptS pre).2 = sk := ⟨_, rfl⟩
      rw [hsk] at hs hsn hsl
      obtain ⟨R, hsR, hR⟩ := hs.rest
      have hgt : ∀ (h : 0 < (⟨(c :: t).toArray⟩ : ByteArray).size), (⟨(c :: t).toArray⟩ : ByteArray)[0]'h = c := fun _ => rfl
      have HPAR := Lib.hid (parse_any (HLF.out.mono (fun W hW => by
        have h9 := hW.lft.tail.tail.tail.tail.tail
        exact h9.right.right)) hsR (c :: t) (by omega))
      obtain ⟨PO, hPO⟩ : ∃ PO, parseR (wordsL (c :: t)) = PO := ⟨_, rfl⟩
      rw [hPO] at HPAR hsn
      have HR := Lib.hid hR
      have HSW := Lib.hid hs
      have HV := Lib.hid hv
      have HRW := Lib.hid hrw
      have HSN := Lib.hid hsn
      have HBN := Lib.hid (And.intro hrl (And.intro hsl hpl))
      clear hm hB hrw hv hs hsn hsl hrl hpl hPO hR hsR hsk hyl
      cases PO with
      | none =>
        gi_wp2_with fail
        refine ⟨trivial, ?_⟩
        refine (CallsIn.inRound l (callsIn_wide.2 HPAR.out)).mono ?_
        rintro e w5 ⟨rfl, h5⟩
        have h6 := h5.new zeroO
        have h7 : Sat (w5.alloc zeroO) (.blk (A2 + 1) (.cells #[kI sk] 3) :: .blk A2 (.cells #[v] 36) :: .blk b (.cells #[X] 9) :: .blk (b + 1) (.cells #[.string ⟨#[10]⟩] 9) :: .blk (b + 2) (.cells #[.int .i64 0] 3) :: (h ++ (hf ++ (F ++ R)))) := (by (refine Sat.part h6 ?_; intro a; simp only [cnt_cons, cnt_append, List.cons_append]; omega))
        have e0 : (w5.alloc zeroO).cell? ⟨A2 + 1, 0, none⟩ = some (kI sk) := by rw [cell_of h7.h0]; rfl
        have e1 : (w5.alloc zeroO).frozen? ⟨A2 + 1, 0, none⟩ = false := unfrozen_of h7.h0 0
        have h8 := h7.setCell (i := 0) (kI ((sk : Int) + 1))
        have h9 : Sat ((w5.alloc zeroO).setCell ⟨A2 + 1, 0, none⟩ (kI ((sk : Int) + 1))) ((.blk A2 (.cells #[v] 36) :: .blk (A2 + 1) (.cells #[kI ((sk : Int) + 1)] 3) :: .blk b (.cells #[X] 9) :: .blk (b + 1) (.cells #[.string ⟨#[10]⟩] 9) :: .blk (b + 2) (.cells #[.int .i64 0] 3) :: (h ++ (hf ++ F))) ++ R) := by
          have h8' : Sat _ (.blk (A2 + 1) (.cells #[kI ((sk : Int) + 1)] 3) :: .blk A2 (.cells #[v] 36) :: .blk b (.cells #[X] 9) :: .blk (b + 1) (.cells #[.string ⟨#[10]⟩] 9) :: .blk (b + 2) (.cells #[.int .i64 0] 3) :: (h ++ (hf ++ (F ++ R)))) := h8
          (refine Sat.part h8' ?_; intro a; simp only [cnt_cons, cnt_append, List.cons_append]; omega)
        have hsz : W.heap.size ≤ ((w5.alloc zeroO).setCell ⟨A2 + 1, 0, none⟩ (kI ((sk : Int) + 1))).heap.size := by
          have h1 : W.heap.size ≤ w5.heap.size := size_le_of HR.out h5
          simp [World.setCell]
          omega
        have hko := Sat.keepsOthers HR.out HSW.out h9 (fun k o hm => by
          cases hm with
          | head => exact .inl rfl
          | tail _ hm =>
            cases hm with
            | head => exact .inl rfl
            | tail _ hm => exact .inr (.tail _ (.tail _ hm))) hsz
        have hkp : KpB b W ((w5.alloc zeroO).setCell ⟨A2 + 1, 0, none⟩ (kI ((sk : Int) + 1))) := kpb_of HSW.out.tail.tail h9.lft.tail.tail
        have FIN := Lib.hid (And.intro hko (And.intro hkp (show ScI w4.heap.size A2 (A2 + 1) b F (pre ++ [c :: t]) _ from ⟨Nat.le_trans HBB.out hsz, rows, v, h, hf, X, by rw [HSN.out]; exact HRW.out, HV.out, by rw [HSN.out]; exact h9.lft⟩)))
        have s0 : (0 : Int) ≤ (sk : Int) := by omega
        have s9 : (sk : Int) ≤ 200000 := by have := HBN.out; omega
        clear h5 h6 h7 h8 h9 hsz hko hkp
        gi_wp2_with fail
        exact ⟨FIN.out.1.from _, FIN.out.2.1, FIN.out.2.2⟩
      | some st =>
        gi_wp2_with fail
        refine ⟨trivial, ?_⟩
        refine (CallsIn.inRound l (callsIn_wide.2 HPAR.out)).mono ?_
        rintro e w5 hpr
        obtain ⟨fv, ph, rfl, hft, h5⟩ := hpr
        have hsz5 := size_le_of (W' := w5) HR.out h5.right
        obtain ⟨ph2, hco, hft2, h5b⟩ := hft.shrink h5
        obtain ⟨fa, fc, rfl, -⟩ := id hft2
        obtain ⟨q0, q1, q2, q3, q4, ⟨q5, q6, q7, q8⟩⟩ := st
        have h6 := h5b.new (stepO q0 q1 q2 q3 (.slice fa q4.length fc) q5 q6 q7 q8)
        have h7 := h6.new (.cells (fT (.slice fa q4.length fc, ⟨q0, q1, q2, q3, q4, ⟨q5, q6, q7, q8⟩⟩)).toArray 26)
        rw [World.size_alloc] at h7
        have e0 : (w5.alloc (stepO q0 q1 q2 q3 (.slice fa q4.length fc) q5 q6 q7 q8)).cell? ⟨A2, 0, none⟩ = some v := by
          have h9 : Sat _ (.blk A2 (.cells #[v] 36) :: _) := h6.tail.right
          rw [cell_of h9.h0]; rfl
        obtain ⟨y0, y1, y2, y3, y4, y5, y6, y7, y8⟩ := nine_of h6
        obtain ⟨a', cap', w7, h', hap, hv', h8⟩ := SOwn.push (x := w5.heap.size + 1) (G := .blk w5.heap.size (stepO q0 q1 q2 q3 (.slice fa q4.length fc) q5 q6 q7 q8) :: .blk A2 (.cells #[v] 36) :: .blk (A2 + 1) (.cells #[kI sk] 3) :: .blk b (.cells #[X] 9) :: .blk (b + 1) (.cells #[.string ⟨#[10]⟩] 9) :: .blk (b + 2) (.cells #[.int .i64 0] 3) :: (hf ++ (ph2 ++ (F ++ R)))) (⟨q0, q1, q2, q3, q4, ⟨q5, q6, q7, q8⟩⟩ : StepM) HV.out hft2 hco (by (refine Sat.part h7 ?_; intro a; simp only [cnt_cons, cnt_append, List.cons_append]; omega)) (by have := HBN.out; omega)
        have hlt5 : w5.heap.size < w7.heap.size := h8.lt (List.mem_append_right _ (.head _))
        have h9 : Sat w7 (.blk A2 (.cells #[v] 36) :: .blk (A2 + 1) (.cells #[kI sk] 3) :: .blk b (.cells #[X] 9) :: .blk (b + 1) (.cells #[.string ⟨#[10]⟩] 9) :: .blk (b + 2) (.cells #[.int .i64 0] 3) :: (h' ++ ((hf ++ ph2) ++ (F ++ R)))) := (by (refine Sat.part h8 ?_; intro a; simp only [cnt_cons, cnt_append]; omega))
        have e1 : w7.frozen? ⟨A2, 0, none⟩ = false := unfrozen_of h9.h0 0
        have e2 : w7.cell? ⟨A2, 0, none⟩ = some v := by rw [cell_of h9.h0]; rfl
        have h10 := h9.setCell (i := 0) (.slice a' (rows.length + 1) cap')
        have h11 : Sat (w7.setCell ⟨A2, 0, none⟩ (.slice a' (rows.length + 1) cap')) ((.blk A2 (.cells #[Value.slice a' (rows.length + 1) cap'] 36) :: .blk (A2 + 1) (.cells #[kI sk] 3) :: .blk b (.cells #[X] 9) :: .blk (b + 1) (.cells #[.string ⟨#[10]⟩] 9) :: .blk (b + 2) (.cells #[.int .i64 0] 3) :: (h' ++ ((hf ++ ph2) ++ F))) ++ R) := by
          have h10' : Sat _ (.blk A2 (.cells #[Value.slice a' (rows.length + 1) cap'] 36) :: .blk (A2 + 1) (.cells #[kI sk] 3) :: .blk b (.cells #[X] 9) :: .blk (b + 1) (.cells #[.string ⟨#[10]⟩] 9) :: .blk (b + 2) (.cells #[.int .i64 0] 3) :: (h' ++ ((hf ++ ph2) ++ (F ++ R)))) := h10
          (refine Sat.part h10' ?_; intro a; simp only [cnt_cons, cnt_append, List.cons_append]; omega)
        have hsz : W.heap.size ≤ (w7.setCell ⟨A2, 0, none⟩ (.slice a' (rows.length + 1) cap')).heap.size := by
          simp only [World.setCell, Array.size_modify]
          omega
        have hko := Sat.keepsOthers HR.out HSW.out h11 (fun k o hm => by
          cases hm with
          | head => exact .inl rfl
          | tail _ hm =>
            refine (List.mem_append.1 (?_ : HItem.blk k o ∈ ([.blk (A2 + 1) (.cells #[kI sk] 3), .blk b (.cells #[X] 9), .blk (b + 1) (.cells #[.string ⟨#[10]⟩] 9), .blk (b + 2) (.cells #[.int .i64 0] 3)] : Heaplet) ++ (h ++ (hf ++ F)))).elim (fun h9 => ?_) (fun h9 => (List.mem_append.1 h9).elim (fun h9 => .inl (slice_cells HV.out.1 k o h9)) (fun h9 => .inr ?_))
            · exact hm
            · simp only [List.mem_cons, HItem.blk.injEq, List.not_mem_nil, or_false] at h9
              rcases h9 with ⟨_, rfl⟩ | ⟨_, rfl⟩ | ⟨_, rfl⟩ | ⟨_, rfl⟩ <;> exact .inl rfl
            · refine .tail _ (.tail _ (.tail _ (.tail _ (.tail _ ?_))))
              refine List.mem_append_right _ ?_
              rcases List.mem_append.1 h9 with h9 | h9
              · exact List.mem_append_left _ (List.mem_append_left _ h9)
              · exact List.mem_append_right _ h9) hsz
        have hkp : KpB b W (w7.setCell ⟨A2, 0, none⟩ (.slice a' (rows.length + 1) cap')) := kpb_of HSW.out.tail.tail h11.lft.tail.tail
        have hsk2 : ((scriptS (pre ++ [c :: t])).2 : Int) = sk := by rw [HSN.out]
        have FIN := Lib.hid (And.intro hko (And.intro hkp (show ScI w4.heap.size A2 (A2 + 1) b F (pre ++ [c :: t]) _ from ⟨Nat.le_trans HBB.out hsz, _, _, h', _, X, by rw [HSN.out, List.map_append, HRW.out]; rfl, hv', by rw [hsk2]; exact h11.lft⟩)))
        have HAP : Hid (∀ ty, (Builtin.append_ #[36, 36] ty #[v, .slice (some ⟨w5.heap.size + 1, 0, none⟩) 1 1]).run Tryz.prog ((w5.alloc (stepO q0 q1 q2 q3 (.slice fa q4.length fc) q5 q6 q7 q8)).alloc (.cells #[kI q0, kI q1, .bool q2, kI q3, .slice fa q4.length fc, kI q5, kI q6, kI q7, kL q8] 26)) = .ok (.slice a' (rows.length + 1) cap') w7) := Lib.hid hap
        clear h5 h5b h6 h7 h8 h9 h10 h11 hsz hko hkp hap hv' hft hft2 hco hsk2
        gi_wp2_with (refine wpListIn_append_run rfl _ _ _ _ rfl _ _ _ _ rfl rfl HAP.out ?_)
        exact ⟨FIN.out.1.from _, FIN.out.2.1, FIN.out.2.2⟩
  case done =>
    rintro D W hD ⟨hB, rows, v, h, hf, X, hrw, hv, hs⟩ hK
    obtain ⟨va, vc, rfl⟩ := sl_form hv.1
    have hrl : rows.length = (scriptS YS).1.length := by rw [← hrw, List.length_map]
    rw [← hrl, ← hrw] at HPB
    generalize (scriptS YS).2 = sk at hs HPB
    have e0 : W.cell? ⟨A2, 0, none⟩ = some (.slice va rows.length vc) := by rw [cell_of hs.h0]; rfl
    have e1 : W.cell? ⟨A2 + 1, 0, none⟩ = some (kI sk) := by rw [cell_of hs.h1]; rfl
    have e2 : W.frozen? ⟨A2, 0, none⟩ = false := unfrozen_of hs.h0 0
    have e3 : W.frozen? ⟨A2 + 1, 0, none⟩ = false := unfrozen_of hs.h1 0
    have HS := Lib.hid hs
    have HV := Lib.hid hv
    have HK := Lib.hid hK
    clear hst HLN HYL HI0 hrl hrw hs hv hK
    by_cases h600 : rows.length ≤ 600
    · rw [if_pos h600] at HPB
      have k0 : ((600 : Int) < (rows.length : Int)) = False := eq_false (by omega)
      have hrl9 : (rows.length : Int) ≤ 600 := by omega
      have f1 : (W.drew.setCell ⟨A2, 0, none⟩ (.slice va rows.length vc)).cell? ⟨A2 + 1, 0, none⟩ = some (kI sk) := by
        have := HS.out.drew.setCell (i := 0) (.slice va rows.length vc)
        rw [cell_of this.h1]; rfl
      have f2 : (W.drew.setCell ⟨A2, 0, none⟩ (.slice va rows.length vc)).frozen? ⟨A2 + 1, 0, none⟩ = false := by
        have := HS.out.drew.setCell (i := 0) (.slice va rows.length vc)
        exact unfrozen_of this.h1 0
      have hs2 := (HS.out.drew.setCell (i := 0) (.slice va rows.length vc)).swap.setCell (i := 0) (kI sk)
      have hK2 : (((W.drew).setCell ⟨A2, 0, none⟩ (.slice va rows.length vc)).setCell ⟨A2 + 1, 0, none⟩ (kI sk)).heap[D]? = some (.deferred (some [])) := by
        rw [other_setCell _ _ _ _ (by omega), other_setCell _ _ _ _ (by omega)]
        exact HK.out
      have HS2 := Lib.hid (And.intro hs2.swap hK2)
      clear hs2 hK2
      go_upto_region 12 with (fail)
      refine wp_region_noPanic ?_
      go_region_law (fail)
      all_goals
        refine NoPanic.normal ?_
        go_wp2_with fail
        refine script_end (K := .blk b (.cells #[X] 9) :: .blk (b + 1) (.cells #[.string ⟨#[10]⟩] 9) :: .blk (b + 2) (.cells #[.int .i64 0] 3) :: (h ++ (hf ++ F))) rfl rfl rfl rfl HS2.out.1 (ScI.under HF.out HV.out) HS2.out.2 hD (fun W' hW => ?_)
        rw [← HPB.out]
        refine ⟨_, h ++ hf, rfl, HV.out.at, ?_⟩
        rw [List.append_assoc]
        exact hW.tail.tail.tail
    · rw [if_neg h600] at HPB
      have k0 : (600 : Int) < (rows.length : Int) := by omega
      clear h600
      have hs2 := (HS.out.setCell (i := 0) (.slice none 0 0)).swap.setCell (i := 0) (kI 0)
      have hK2 : (((W).setCell ⟨A2, 0, none⟩ (.slice none 0 0)).setCell ⟨A2 + 1, 0, none⟩ (kI 0)).heap[D]? = some (.deferred (some [])) := by
        rw [other_setCell _ _ _ _ (by omega), other_setCell _ _ _ _ (by omega)]
        exact HK.out
      have HS2 := Lib.hid (And.intro hs2.swap hK2)
      clear hs2 hK2
      go_wp2_with fail
      refine script_end (K := .blk b (.cells #[X] 9) :: .blk (b + 1) (.cells #[.string ⟨#[10]⟩] 9) :: .blk (b + 2) (.cells #[.int .i64 0] 3) :: (h ++ (hf ++ F))) rfl rfl rfl rfl HS2.out.1 (ScI.under HF.out HV.out) HS2.out.2 hD (fun W' hW => ?_)
      rw [← HPB.out]
      exact ⟨_, [], rfl, StAt.nil _ _ _, hW.tail.tail.tail.right.right⟩
end Go.Proofs.YtieaamlpadlfeaaGreatDoor
