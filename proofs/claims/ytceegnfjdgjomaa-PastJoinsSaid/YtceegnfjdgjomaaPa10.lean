/- A map's names, gathered and sorted. Conditions: none. -/
import Derived.Test.YtceegnfjdgjomaaPa9
namespace Go.Proofs.Ytceegnfjdgjomaa
open Go Go.MapKept Go.RowKit Go.Proofs Go.Sort Go.Shelf

attribute [local go_sem] Oper.semAt_some

theorem Sat.sub {w : World} {H H' : Heaplet} (s : Sat w H) (h : H'.Sublist H) : Sat w H' :=
  ⟨fun x hx => s.1 x (h.subset hx), s.2.sublist (h.filterMap _)⟩
/-- All other blocks of a world. -/
theorem Sat.rest {W : World} {H : Heaplet} (s : Sat W H) : ∃ R : Heaplet, Sat W (H ++ R) ∧ ∀ k o, W.heap[k]? = some o → (∀ o', HItem.blk k o' ∉ H) → HItem.blk k o ∈ R := by
  refine ⟨((List.range W.heap.size).filter fun k => !(H.filterMap HItem.no).contains k).map fun k => .blk k (W.heap[k]?.getD default), ⟨fun x hx => ?_, ?_⟩, fun k o hk hn => ?_⟩
  · rcases List.mem_append.1 hx with hx | hx
    · exact s.1 x hx
    · obtain ⟨k, hk, rfl⟩ := List.mem_map.1 hx
      have hlt := List.mem_range.1 (List.mem_filter.1 hk).1
      show W.heap[k]? = some _
      rw [Array.getElem?_eq_getElem hlt]
      rfl
  · rw [List.filterMap_append, List.filterMap_map]
    have e : (List.filterMap (HItem.no ∘ fun k => HItem.blk k (W.heap[k]?.getD default)) ((List.range W.heap.size).filter fun k => !(H.filterMap HItem.no).contains k)) = (List.range W.heap.size).filter fun k => !(H.filterMap HItem.no).contains k := by
      have : (HItem.no ∘ fun k => HItem.blk k (W.heap[k]?.getD default)) = some := by funext k; rfl
      rw [this, List.filterMap_some]
    rw [e]
    refine List.nodup_append.2 ⟨s.2, List.nodup_range.sublist List.filter_sublist, ?_⟩
    intro a ha b hb e
    subst e
    have := (List.mem_filter.1 hb).2
    simp only [Bool.not_eq_true', List.contains_eq_mem, decide_eq_false_iff_not] at this
    exact this ha
  · have hlt := (Array.getElem?_eq_some_iff.1 hk).1
    refine List.mem_map.2 ⟨k, List.mem_filter.2 ⟨List.mem_range.2 hlt, ?_⟩, by rw [hk]; rfl⟩
    simp only [Bool.not_eq_true', List.contains_eq_mem, decide_eq_false_iff_not]
    intro hm
    obtain ⟨x, hx, e⟩ := List.mem_filterMap.1 hm
    cases x with
    | blk b o' =>
      simp only [HItem.no, Option.some.injEq] at e
      subst e
      exact hn o' hx
    | env w0 => cases e
theorem Sat.keepsOthers {W W' : World} {H H' R : Heaplet} (hR : ∀ k o, W.heap[k]? = some o → (∀ o', HItem.blk k o' ∉ H) → HItem.blk k o ∈ R) (s : Sat W H) (s' : Sat W' (H' ++ R)) (hH : ∀ k o, HItem.blk k o ∈ H → o.isCells = true ∨ HItem.blk k o ∈ H') (hsz : W.heap.size ≤ W'.heap.size) : KeepsOthers W W' := by
  refine ⟨hsz, fun k o hk ho => ?_⟩
  by_cases hm : ∃ o', HItem.blk k o' ∈ H
  · obtain ⟨o', hm⟩ := hm
    have e : o' = o := by
      have := s.get hm
      rw [hk] at this
      exact (Option.some.inj this).symm
    subst e
    rcases hH k o' hm with h | h
    · rw [h] at ho; cases ho
    · exact s'.get (List.mem_append_left _ h)
  · exact s'.get (List.mem_append_right _ (hR k o hk (fun o' h => hm ⟨o', h⟩)))
theorem above_of_all {W W' : World} {g : Nat} {o : Obj} (h : Sat W' (.blk g o :: allOf W)) : W.heap.size ≤ g := by
  by_cases hg : g < W.heap.size
  · exact absurd rfl (h.ne (c := g) (o' := W.heap[g]?.getD default) (.tail _ (List.mem_map.2 ⟨g, List.mem_range.2 hg, rfl⟩)))
  · omega
theorem allOf_lt {w : World} {k : Nat} {o : Obj} (h : HItem.blk k o ∈ allOf w) : k < w.heap.size := by
  cases h with
  | tail _ h =>
    obtain ⟨i, hi, e⟩ := List.mem_map.1 h
    cases e
    exact List.mem_range.1 hi
/-- New blocks beside all that lay: beside whatever lay. -/
theorem Sat.news {w w' : World} {h F : Heaplet} (s : Sat w' (h ++ allOf w)) (hF : Sat w F) : Sat w' (h ++ F) := by
  have hb := s.right.below
  have hF' := hF.monoB hb
  have hn := s.2
  rw [List.filterMap_append] at hn
  refine ⟨fun x hx => ?_, ?_⟩
  · rcases List.mem_append.1 hx with hx | hx
    · exact s.1 x (List.mem_append_left _ hx)
    · exact hF'.1 x hx
  · rw [List.filterMap_append]
    refine List.nodup_append.2 ⟨(List.nodup_append.1 hn).1, hF.2, ?_⟩
    intro a ha b hb2 e
    subst e
    obtain ⟨y, hy, ey⟩ := List.mem_filterMap.1 hb2
    cases y with
    | env w0 => cases ey
    | blk c o =>
      simp only [HItem.no, Option.some.injEq] at ey
      subst ey
      have hlt : c < w.heap.size := hF.lt hy
      refine (List.nodup_append.1 hn).2.2 c ha c ?_ rfl
      exact List.mem_filterMap.2 ⟨.blk c (w.heap[c]?.getD default), .tail _ (List.mem_map.2 ⟨c, List.mem_range.2 hlt, rfl⟩), rfl⟩
/-- Cells wherever they lie; all else below B. -/
def UnderC (B : Nat) (H : Heaplet) : Prop := ∀ b o, HItem.blk b o ∈ H → b < B ∨ o.isCells = true
theorem Sat.ownGrownC {B : Nat} {w w' : World} {H : Heaplet} {row : Option Nat} (s : Sat w H) (hu : UnderC B H) (hg : w.grownBy w' row) (hr : ∀ r, row = some r → B ≤ r ∧ ∃ o : Obj, w.heap[r]? = some o ∧ o.isCells = false) : Sat w' H := by
  refine ⟨fun x hx => ?_, s.2⟩
  have h := s.1 x hx
  cases x with
  | blk b o =>
    have hlt : b < w.heap.size := (Array.getElem?_eq_some_iff.1 h).1
    refine (hg.block b hlt (fun e => ?_)).trans h
    obtain ⟨h1, o', h3, h4⟩ := hr b e.symm
    rcases hu b o hx with h2 | h2
    · omega
    · have h' : w.heap[b]? = some o := h
      rw [h'] at h3
      cases h3
      rw [h2] at h4
      cases h4
  | env w0 => exact ⟨hg.os.trans h.1, hg.tape.trans h.2.1, hg.output.trans h.2.2⟩
theorem slice_cells {T : TypeId} {sz n : Nat} {v : Value} {cs : List Value} {h : Heaplet} (hs : SliceIs T sz v n cs h) : ∀ k o, HItem.blk k o ∈ h → o.isCells = true := by
  intro k o hm
  rcases hs.2 with ⟨_, _, rfl⟩ | ⟨g, cap, cur, _, _, _, _, _, rfl⟩
  · cases hm
  · simp only [List.mem_singleton, HItem.blk.injEq] at hm
    rw [hm.2]; rfl
/-- As 'tx_push'; the element's own block stays known. -/
theorem tx_pushX {R : List Tx} {v : Value} {h F : Heaplet} {w : World} {x : Nat} (q : Tx) (hv : TSl v R h) (s : Sat w (.blk x (.cells #[kI q.c, kI q.e, kI q.n] 23) :: (h ++ F))) (hlen : R.length + 1 ≤ 200000) :
    ∃ v' w' h', (∀ ty, (Builtin.append_ #[30, 30] ty #[v, .slice (some ⟨x, 0, none⟩) 1 1]).run Try.prog w = .ok v' w') ∧ TSl v' (R ++ [q]) h' ∧ Sat w' (.blk x (.cells #[kI q.c, kI q.e, kI q.n] 23) :: (h' ++ F)) := by
  obtain ⟨i0, hi, hz, hsize, hby⟩ := info_parts infoTx
  have s1 : Sat w (h ++ (.blk x (.cells #[kI q.c, kI q.e, kI q.n] 23) :: F)) := s.perm (List.perm_middle).symm
  have hx := s.h0
  have hnews : ∀ j u, (tC q)[j]? = some u → w.cell? ((⟨x, 0, none⟩ : Addr).add j) = some u := by
    intro j u hu
    have hadd : (⟨x, 0, none⟩ : Addr).add j = ⟨x, j, none⟩ := by unfold Addr.add; split <;> simp_all
    rw [hadd, cell_of hx]
    simpa using hu
  obtain ⟨v', w', h', hr, hsl, hsat⟩ := sat_append (P := Try.prog) (ty := 0) Try.underlying30 hi hz hsize hby rfl (by decide) hv s1 ⟨x, 0, none⟩ 1 1 (tC q) rfl hnews (one_t q) (by decide) (by unfold maxLen; omega) (by omega)
  refine ⟨v', w', h', fun ty => hr, ?_, hsat.perm List.perm_middle⟩
  have e : (R ++ [q]).flatMap tC = R.flatMap tC ++ tC q := by rw [List.flatMap_append]; simp
  show SliceIs _ _ _ _ _ _
  rw [e, List.length_append]
  exact hsl
theorem wpListIn_append_run {F : Fence} {n : Nat} {P : Program} {w : World} {ops : Array Oper} {rest : List Oper} {o : Oper} {a : Act} {Q : Exit → Act → World → Prop} (hgd : o.guard = none) (s x : Operand) (t1 t2 : TypeId)
    (ho : o.op = .call { callee := .builtin .append, args := #[s, x], argTypes := #[t1, t2] }) (v xv v' : Value) (w' : World) (hs : a.eval s = v) (hx : a.eval x = xv)
    (hr : ∀ ty, (Builtin.append_ #[t1, t2] ty #[v, xv]).run P w = .ok v' w') (hK : wpListIn F n P ops Q rest (a.put o.dst v') w') : wpListIn F n P ops Q (o :: rest) a w := by
  refine wpListIn_plain hgd fun K' hK' => ?_
  unfold Oper.wpIn
  refine ⟨by simp [Oper.about, ho, resolve, Target.leads, Sem.run_pure], ?_⟩
  rw [Oper.semAt_plain F _ _ (by rw [ho]; intro c hc'; cases hc')]
  simp only [execOp, ho, resolve, invoke, builtin, Sem.run_bind, Sem.run_pure, Result.andThen_ok, List.map_toArray, List.map_cons, List.map_nil, hs, hx, hr]
  exact hK' _ _ hK
/-- Between two rounds: what has come so far. -/
def ApI (B bx : Nat) (w : World) (pre : List Tx) (W : World) : Prop :=
  B ≤ W.heap.size ∧ ∃ v h, TSl v pre h ∧ Sat W (h ++ (.blk bx (.cells #[v] 30) :: allOf w))
theorem ApI.under {B bx : Nat} {w : World} {pre : List Tx} {v : Value} {h : Heaplet} (hw : w.heap.size ≤ B) (hv : TSl v pre h) : UnderC B (h ++ (.blk bx (.cells #[v] 30) :: allOf w)) := by
  intro b o hm
  rcases List.mem_append.1 hm with hm | hm
  · exact .inr (slice_cells hv b o hm)
  · cases hm with
    | head => exact .inr rfl
    | tail _ hm => exact .inl (Nat.lt_of_lt_of_le (allOf_lt hm) hw)
theorem ApI.grown {B bx : Nat} {w : World} {pre : List Tx} {W W' : World} {row : Option Nat} (hw : w.heap.size ≤ B) (h : ApI B bx w pre W) (hg : W.grownBy W' row)
    (hr : ∀ r, row = some r → B ≤ r ∧ ∃ o : Obj, W.heap[r]? = some o ∧ o.isCells = false) : ApI B bx w pre W' := by
  obtain ⟨h1, v, h, hv, hs⟩ := h
  exact ⟨Nat.le_trans h1 hg.size, v, h, hv, hs.ownGrownC (ApI.under hw hv) hg hr⟩
set_option maxRecDepth 100000 in
set_option maxHeartbeats 4000000 in
theorem append_keys (Bm b : Nat) (es : Array MapEntry) (clk : Nat) (D : List (Tx × Int)) (w : World) (hBm : w.cell? ⟨Bm, 0, none⟩ = some (.map (some b))) (hb : w.heap[b]? = some (.map es clk)) (hm : MapOkS tV kI es clk D) (hl : D.length ≤ 100000) :
    Calls Try.prog 48 #[.slice none 0 0, .func (.func 41) #[] #[.pointer (some ⟨Bm, 0, none⟩)]] w fun e w' =>
      ∃ v R h, e = .returned v ∧ R.Perm (D.map (·.1)) ∧ TSl v R h ∧ Sat w' (h ++ allOf w) := by
  refine (callsIn_wide (n := 9)).1 ?_
  refine callsIn_of_wp_marks Try.func48 rfl trivial ?_ rfl
  simp only [Try.ntmps48, List.size_toArray, List.length_cons, List.length_nil, Nat.reduceAdd, Nat.reduceSub, Array.replicate_succ, Array.replicate_zero, List.push_toArray, List.append_toArray, List.nil_append, List.cons_append]
  have hgr : Below w.heap.size w (w.alloc (.cells #[.slice none 0 0] 30)) := (Below.refl _ w).alloc (Nat.le_refl _) _
  have hst := keysT_stops (9 - 1) (by omega) Bm b es clk D (w.alloc (.cells #[.slice none 0 0] 30)) ((hgr.cell (p := ⟨Bm, 0, none⟩) (World.block_lt_of_cell? w ⟨Bm, 0, none⟩ hBm)).trans hBm) ((hgr.block b (Array.getElem?_eq_some_iff.1 hb).1).trans hb) hm
  have hs0 := (sat_all w).new (.cells #[.slice none 0 0] 30)
  have hI0 : ApI (w.alloc (.cells #[.slice none 0 0] 30)).heap.size w.heap.size w [] (w.alloc (.cells #[.slice none 0 0] 30)) := ⟨Nat.le_refl _, .slice none 0 0, [], SliceIs.nil _ _, hs0⟩
  have HI0 := Lib.hid hI0
  have hwB : w.heap.size ≤ (w.alloc (.cells #[.slice none 0 0] 30)).heap.size := by simp
  have HWB := Lib.hid hwB
  clear hgr hs0 hI0 hBm hb hwB
  gi_wp2_with fail
  generalize w.alloc (.cells #[.slice none 0 0] 30) = W1 at *
  apply wpIn_rangeFunc_ownH (F := Fence.wide) (n := 9) rfl (by omega) (gf := 41) (lb := #[.pointer (some ⟨Bm, 0, none⟩)]) rfl trivial (enters_of Try.func41 (by kernel_rfl) rfl)
    hst walksK_t walksK_b (Below.refl _ _) (fun _ => rfl)
    (ApI W1.heap.size w.heap.size w)
    (fun _ _ _ => False)
    (fun s W W' row hI hg hr => hI.grown HWB.out hg hr)
    (fun c s W W' row hI _ _ => hI)
    HI0.out
    (fun x a' W => ∃ Bx, W1.heap.size ≤ Bx ∧ W.heap[Bx]? = some (.cells #[kI x.c, kI x.e, kI x.n] 23) ∧ a' = { tmps := #[.slice none 0 0, .func (.func 41) #[] #[.pointer (some ⟨Bm, 0, none⟩)], .pointer (some ⟨w.heap.size, 0, none⟩), undef, .slice none 0 0, .pointer (some ⟨Bx, 0, none⟩), .func (.func 41) #[] #[.pointer (some ⟨Bm, 0, none⟩)], tV x, undef, undef, undef, undef, undef], defers := [] })
    (fun x a' s W W' row hI hg hr => by
      obtain ⟨Bx, e1, e2, e3⟩ := hI
      refine ⟨Bx, e1, (hg.block Bx (Array.getElem?_eq_some_iff.1 e2).1 (fun e => ?_)).trans e2, e3⟩
      obtain ⟨o, h1, h2⟩ := (hr Bx e.symm).2
      rw [e2] at h1; cases h1; cases h2) ?assign ?body ?done ?stop
  case assign =>
    rintro l pre x W K hI hK
    have HK := Lib.hid hK
    have HI := Lib.hid hI
    clear hK hI
    gi_wp2
    have hN := World.alloc_heap_new W (.cells #[kI x.c, kI x.e, kI x.n] 23)
    refine HK.out _ _ ((KeepsOthers.alloc _ _).from _) (KeepsWalks.alloc _ _) (HI.out.grown HWB.out (World.grownBy_alloc W _ none) (fun r e => by cases e)) ⟨W.heap.size, HI.out.1, hN, rfl⟩
  case body =>
    rintro l pre x a' W hl ⟨r, hr⟩ ⟨hB, v, h, hv, hs⟩ ⟨Bx, hBx, hcx, rfl⟩ hlt
    have b0 : W.cell? ⟨Bx, 0, none⟩ = some (kI x.c) := by rw [cell_of hcx]; rfl
    have b1 : W.cell? ⟨Bx, 1, none⟩ = some (kI x.e) := by rw [cell_of hcx]; rfl
    have b2 : W.cell? ⟨Bx, 2, none⟩ = some (kI x.n) := by rw [cell_of hcx]; rfl
    have c0 : W.cell? ⟨w.heap.size, 0, none⟩ = some v := by rw [cell_of (hs.right.h0)]; rfl
    obtain ⟨R, hsR, hR⟩ := hs.rest
    rw [List.append_assoc] at hsR
    obtain ⟨v5, w5, h5, hap, hv5, hs5⟩ := tx_pushX x hv (hsR.new (.cells #[kI x.c, kI x.e, kI x.n] 23)) (by omega)
    have d0 : w5.frozen? ⟨w.heap.size, 0, none⟩ = false := unfrozen_of hs5.tail.right.h0 0
    have d1 : w5.cell? ⟨w.heap.size, 0, none⟩ = some v := by rw [cell_of hs5.tail.right.h0]; rfl
    have hs6 : Sat (w5.setCell ⟨w.heap.size, 0, none⟩ v5) ((.blk W.heap.size (.cells #[kI x.c, kI x.e, kI x.n] 23) :: (h5 ++ (.blk w.heap.size (.cells #[v5] 30) :: allOf w))) ++ R) := by
      have h1 : Sat w5 (.blk w.heap.size (.cells #[v] 30) :: (.blk W.heap.size (.cells #[kI x.c, kI x.e, kI x.n] 23) :: (h5 ++ (allOf w ++ R)))) := by
        refine hs5.perm ?_
        exact ((List.perm_middle (l₁ := h5)).cons _).trans (List.Perm.swap _ _ _)
      have h2 := h1.setCell (i := 0) v5
      rw [List.cons_append, List.append_assoc]
      refine h2.perm ?_
      exact (List.Perm.swap _ _ _).trans ((List.perm_middle (l₁ := h5)).symm.cons _)
    have hsz : W.heap.size ≤ (w5.setCell ⟨w.heap.size, 0, none⟩ v5).heap.size := Nat.le_of_lt (hs6.lt (.head _))
    have hko : KeepsOthers W (w5.setCell ⟨w.heap.size, 0, none⟩ v5) := by
      refine Sat.keepsOthers hR hs hs6 (fun k o hm => ?_) hsz
      rcases List.mem_append.1 hm with hm | hm
      · exact .inl (slice_cells hv k o hm)
      · cases hm with
        | head => exact .inl rfl
        | tail _ hm => exact .inr (.tail _ (List.mem_append_right _ (.tail _ hm)))
    have hI6 : ApI W1.heap.size w.heap.size w (pre ++ [x]) (w5.setCell ⟨w.heap.size, 0, none⟩ v5) := ⟨Nat.le_trans hB hsz, v5, h5, hv5, (hs6.sub (List.sublist_append_left _ _)).tail⟩
    obtain ⟨a5, cp5, rfl⟩ := sl_form hv5
    obtain ⟨n5, hn5⟩ : ∃ n5, (pre ++ [x]).length = n5 := ⟨_, rfl⟩
    rw [hn5] at hap hko hI6
    clear hsz hs6 hn5
    have HAP := Lib.hid hap
    have FIN := Lib.hid (And.intro hko hI6)
    clear hap hv5 hs5 hko hI6 hR hsR hs hv hst hcx hr
    gi_wp2_with (refine wpListIn_append_run rfl _ _ _ _ rfl _ _ _ _ rfl rfl HAP.out ?_)
    exact ⟨FIN.out.1.from _, FIN.out.1.walks, FIN.out.2⟩
  case stop => exact fun D c pre W _ _ h => h.elim
  case done =>
    rintro D xs W hD hS ⟨hB, v, h, hv, hs⟩ hKD
    have hs2 : Sat (W.putObj D (.deferred none)) (h ++ (.blk w.heap.size (.cells #[v] 30) :: allOf w)) := hs.ownGrownC (ApI.under HWB.out hv) (grownBy_putObj' W D (.deferred none)) (fun r e => by cases e; exact ⟨hD, _, hKD, rfl⟩)
    have c0 : W.cell? ⟨w.heap.size, 0, none⟩ = some v := by rw [cell_of hs.right.h0]; rfl
    have FIN := Lib.hid (And.intro hS (And.intro hv (hs2.perm List.perm_middle).tail))
    clear hs hs2 hv hS hst hm
    gi_wp2
    refine ⟨by simp, .inl ⟨_, _, rfl, run_takeDeferred hKD, ?_⟩⟩
    refine ⟨_, results_tmp rfl _ _ _, v, xs, h, rfl, FIN.out.1, FIN.out.2.1, FIN.out.2.2⟩
end Go.Proofs.Ytceegnfjdgjomaa
