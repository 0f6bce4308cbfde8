/- The ring gone over: All (made by ring.gen.py out of ring5.body.txt). Conditions: none. -/
import Derived.Test.YtbjomkbiljpjmaaRingS4
import Derived.Test.YtbjomkbiljpjmaaPAll
import Derived.Test.YtbjomkbiljpjmaaSl
import Derived.StillTailTactics
import Derived.Deep.CutBlock
import Derived.Deep.DeepCutAuto
namespace Go.Proofs.Ytbjomkbiljpjmaa.RS
open Go Go.MapKept Go.RowKit Go.Proofs Go.Proofs.Ytbjomkbiljpjmaa Go.Shelf

attribute [local go_sem] Oper.semAt_some

/-- What a ring has, by its frames. -/
def nowR (fr : Frs X) : List (Fr X) := fr.filterMap id
def rowsR (fr : Frs X) : List (Int × X) := (nowR fr).map fun f => (f.key, f.val)
theorem nowR_len (fr : Frs X) : (nowR fr).length ≤ fr.length := List.length_filterMap_le _ _
theorem rowsR_len (fr : Frs X) : (rowsR fr).length = (nowR fr).length := by simp [rowsR]
theorem nowR_none {fr : Frs X} {i : Nat} (h : fr[i]? = some none) : nowR (fr.take (i + 1)) = nowR (fr.take i) := by
  unfold nowR
  rw [List.take_add_one, h, List.filterMap_append]
  simp
theorem nowR_some {fr : Frs X} {i : Nat} {f : Fr X} (h : fr[i]? = some (some f)) : nowR (fr.take (i + 1)) = nowR (fr.take i) ++ [f] := by
  unfold nowR
  rw [List.take_add_one, h, List.filterMap_append]
  simp
abbrev fF (f : Fr X) : List Value := [kI f.key, kS f.val, kI f.pins, .bool f.fresh]
theorem fF_len (f : Fr X) : (fF f).length = 4 := rfl
abbrev FrSl (v : Value) (l : List (Fr X)) (h : Heaplet) : Prop := SliceIs 102 4 v l.length (l.flatMap fF) h
theorem infoF : (Try.prog.info? 102).map (fun i => (i.zero, i.size, i.bytes)) = some (some (.agg #[.int .i64 0, kS ⟨#[]⟩, .int .i64 0, .bool false]), 4, 40) := by kernel_rfl
theorem fr_push {w : World} {v : Value} {l : List (Fr X)} {h A B : Heaplet} {x : Nat} (q : Fr X) (hv : FrSl v l h) (s : Sat w (.blk x (.cells #[kI q.key, kS q.val, kI q.pins, .bool q.fresh] 102) :: (A ++ (h ++ B)))) (hl : l.length + 1 ≤ 1000000) :
    ∃ v' w' h', (∀ ty, (Builtin.append_ #[108, 108] ty #[v, .slice (some ⟨x, 0, none⟩) 1 1]).run Try.prog w = .ok v' w') ∧ FrSl v' (l ++ [q]) h' ∧ Sat w' (A ++ (h' ++ B)) := by
  obtain ⟨i0, hi, hz, hsize, hby⟩ := info_parts infoF
  exact sl_push (P := Try.prog) fF_len Try.underlying108 hi hz hsize hby rfl (by decide) hv q s (fun u hu => by
    simp only [List.mem_cons, List.not_mem_nil, or_false] at hu
    rcases hu with rfl | rfl | rfl | rfl <;> rfl) (by unfold maxLen; omega) (by omega)
theorem ring_all (b : Nat) (w : World) : Calls Try.prog 39 #[.pointer (some ⟨b, 0, none⟩)] w fun e w' =>
    e = .returned (.func (.func 60) #[] #[.pointer (some ⟨w.heap.size, 0, none⟩)]) ∧ w' = w.alloc (.cells #[.pointer (some ⟨b, 0, none⟩)] 48) := by
  go_enter Try.func39, Try.ntmps39
  go_wp2
  go_ret
  exact ⟨rfl, rfl⟩
theorem KeepsAbove.cellK {B g i : Nat} {W W' : World} {u : Value} (h : KeepsAbove B W W') (hB : B ≤ g) (hc : W.cell? ⟨g, i, none⟩ = some u) : W'.cell? ⟨g, i, none⟩ = some u := by
  cases hg : W.heap[g]? with
  | none => simp [World.cell?, hg] at hc
  | some o =>
    cases o with
    | cells c t z => rw [cellA h hB hg, ← cell_of hg]; exact hc
    | _ => simp [World.cell?, hg] at hc
theorem keepsAbove_below {B : Nat} {W W' : World} (h : Below W.heap.size W W') : KeepsAbove B W W' :=
  ⟨h.size, fun k o _ hk _ => (h.block k (Array.getElem?_eq_some_iff.1 hk).1).trans hk⟩
set_option maxRecDepth 100000 in
set_option maxHeartbeats 4000000 in
theorem ring_all_stops (n : Nat) (hn : 1 ≤ n) (Bx rb : Nat) (L : Lst X) (hand : Nat) (F : Heaplet) (w0 : World) (hBx : w0.cell? ⟨Bx, 0, none⟩ = some (.pointer (some ⟨rb, 0, none⟩))) (h : RingP rb (ptrs L) L hand F w0) :
    SeqStopsK Fence.wide n Try.prog 60 #[.pointer (some ⟨Bx, 0, none⟩)] (fun x : Int × X => #[kI x.1, kS x.2]) (KeepsAbove w0.heap.size) (fun ys => ys = rowsR (bare L)) (fun pre => pre <+: rowsR (bare L)) L.length w0 := by
  intro l J Jx W hW hJ hJx hY h0
  obtain ⟨fb, m, es, clk, D, hm, hpl, hmb, c0, c1, c2, cf⟩ := h.open
  have h64 := h.1.2.2.1
  have cB : W.cell? ⟨Bx, 0, none⟩ = some (.pointer (some ⟨rb, 0, none⟩)) := (hW.cell (p := ⟨Bx, 0, none⟩) (World.block_lt_of_cell? w0 ⟨Bx, 0, none⟩ hBx)).trans hBx
  have cb : W.cell? ⟨rb, 0, none⟩ = some (.slice (some ⟨fb, 0, none⟩) L.length L.length) := (hW.cell (p := ⟨rb, 0, none⟩) (World.block_lt_of_cell? w0 ⟨rb, 0, none⟩ c0)).trans c0
  have HFB : Hid (∀ (i : Nat) o, L[i]? = some o → fb < W.heap.size ∧ W.cell? ⟨fb, i, none⟩ = some (ptr o)) := Lib.hid fun i o hi => by
    have e := cf i
    rw [ptrs_get hi] at e
    have hlt := World.block_lt_of_cell? w0 ⟨fb, i, none⟩ e
    exact ⟨Nat.lt_of_lt_of_le hlt hW.size, (hW.cell (p := ⟨fb, i, none⟩) hlt).trans e⟩
  have HFR : Hid (∀ (i b : Nat) f, L[i]? = some (some (b, f)) → W.heap[b]? = some (frObj kS 102 f)) := Lib.hid fun i b f hi => by
    have e := h.frameCell hi
    exact (hW.block b (Array.getElem?_eq_some_iff.1 e).1).trans e
  have HSZ := Lib.hid hW.size
  clear hm hpl hmb c0 c1 c2 cf h hBx hW
  refine callsIn_of_wp Try.func60 rfl trivial ?_ rfl
  simp only [Try.ntmps60, List.size_toArray, List.length_cons, List.length_nil, Nat.reduceAdd, Nat.reduceSub, Array.replicate_succ, Array.replicate_zero, List.push_toArray, List.append_toArray, List.nil_append, List.cons_append]
  refine wpIn_wide.2 ?_
  have hn0 : FrSl (.slice none 0 0) (nowR ((bare L).take 0)) [] := SliceIs.nil _ _
  have H0 := Lib.hid (And.intro hn0 (sat_all W))
  clear hn0
  go_upto_block 0 with (fail)
  go_cut [3] (fun v3 wx => ∃ h, FrSl v3 (nowR (bare L)) h ∧ Sat wx (h ++ allOf W))
  case first =>
    go_wp2_with fail
    go_loopw [3, 15] (fun v3 v15 wr => ∃ (r : Nat) (h : Heaplet), r ≤ L.length ∧ v15 = .int .i64 r ∧ FrSl v3 (nowR ((bare L).take r)) h ∧ Sat wr (h ++ allOf W)) (fun _ v _ => 1000 - (intOf v).toNat)
    case atStart => exact ⟨0, _, by omega, rfl, H0.out.1, H0.out.2⟩
    case round =>
      clear H0
      obtain ⟨r, h, hr, rfl, hv, hs⟩ := hrel
      have r0 : (0 : Int) ≤ (r : Int) := by omega
      have hL64 : (L.length : Int) ≤ 64 := by omega
      obtain ⟨a3, c3, rfl⟩ := sl_form hv
      by_cases hlr : r < L.length
      · have r1 : (r : Int) < (L.length : Int) := by omega
        obtain ⟨o, ho⟩ : ∃ o, L[r]? = some o := ⟨_, List.getElem?_eq_getElem hlr⟩
        have hcell : wr.cell? ⟨fb, r, none⟩ = some (ptr o) := (hs.right.cellOld (a := ⟨fb, r, none⟩) (HFB.out r o ho).1).trans (HFB.out r o ho).2
        have hbg := bare_get ho
        cases o with
        | none =>
          have hcel : wr.cell? ⟨fb, r, none⟩ = some (.pointer none) := hcell
          clear hcell
          have hst := nowR_none hbg
          rw [← hst] at hv
          have FIN := Lib.hid (And.intro hv hs)
          rw [hst] at FIN
          have HST := Lib.hid hst
          generalize nowR ((bare L).take r) = ol at *
          clear hv hs hst hbg ho
          go_wp2_with fail
          go_roundw
          case rel => exact ⟨r + 1, h, by omega, by simp, by rw [HST.out]; exact FIN.out.1, FIN.out.2⟩
          case measure => simp only [intOf]; omega
        | some bf =>
          obtain ⟨b, f⟩ := bf
          have hcel : wr.cell? ⟨fb, r, none⟩ = some (.pointer (some ⟨b, 0, none⟩)) := hcell
          clear hcell
          have hst : nowR ((bare L).take (r + 1)) = nowR ((bare L).take r) ++ [f] := nowR_some hbg
          have hblk := (hs.right.old (i := b) (Array.getElem?_eq_some_iff.1 (HFR.out r b f ho)).1).trans (HFR.out r b f ho)
          have e0 : wr.cell? ⟨b, 0, none⟩ = some (kI f.key) := by rw [cell_of hblk]; rfl
          have e1 : wr.cell? ⟨b, 1, none⟩ = some (kS f.val) := by rw [cell_of hblk]; rfl
          have e2 : wr.cell? ⟨b, 2, none⟩ = some (kI f.pins) := by rw [cell_of hblk]; rfl
          have e3 : wr.cell? ⟨b, 3, none⟩ = some (.bool f.fresh) := by rw [cell_of hblk]; rfl
          have hll : (nowR ((bare L).take r)).length + 1 ≤ 1000000 := by
            have h1 := nowR_len ((bare L).take r)
            rw [List.length_take] at h1
            omega
          obtain ⟨v4, w4, h4, hap, hv4, hs4⟩ := fr_push (A := []) (B := allOf W) f hv (hs.new (.cells #[kI f.key, kS f.val, kI f.pins, .bool f.fresh] 102)) hll
          rw [← hst] at hv4
          have HAP := Lib.hid hap
          have FIN := Lib.hid (And.intro hv4 (show Sat w4 (h4 ++ allOf W) from hs4))
          generalize (nowR ((bare L).take r)).length = ol at *
          clear hv hs hst hbg ho hap hv4 hs4 hblk
          go_wp2_with (at_builtin; refine wpList_append_run rfl _ _ _ _ rfl _ _ _ _ rfl rfl HAP.out ?_)
          go_roundw
          case rel => exact ⟨r + 1, h4, by omega, by simp, FIN.out.1, FIN.out.2⟩
          case measure => simp only [intOf]; omega
      · obtain rfl : r = L.length := by omega
        have et : (bare L).take L.length = bare L := by rw [← (show (bare L).length = L.length by simp [bare])]; exact List.take_length
        have hv : FrSl (.slice a3 (nowR ((bare L).take L.length)).length c3) (nowR (bare L)) h := by rw [et] at hv ⊢; exact hv
        clear et
        have FIN := Lib.hid (And.intro hv hs)
        clear hv hs hlr
        go_wp2_with fail
        go_meet
        exact ⟨h, FIN.out.1, FIN.out.2⟩
  case rest =>
    clear H0
    obtain ⟨h3, hv3, hs3⟩ := hcut
    have hJ3 : J [] wc := hJ [] W wc none h0 (grown_of_below hs3.right.below) (fun r e => by cases e)
    obtain ⟨a, cap, ev, hel⟩ := sl_cells fF_len hv3 hs3
    have hga : ∀ g, a = some ⟨g, 0, none⟩ → w0.heap.size ≤ g := by
      intro g ea
      subst ea
      rcases hv3.2 with ⟨e2, _⟩ | ⟨g', cap', cur, e2, _, _, _, _, rfl⟩
      · rw [ev] at e2; cases e2
      · rw [ev] at e2
        cases e2
        have := above_of_all (W := W) (W' := wc) (g := g) hs3
        have := HSZ.out
        omega
    subst ev
    have HEL : Hid (∀ (j : Nat) f, (nowR (bare L))[j]? = some f → ∃ g, a = some ⟨g, 0, none⟩ ∧ ∀ wr, KeepsAbove w0.heap.size wc wr → wr.cell? ⟨g, j * 4, none⟩ = some (kI f.key) ∧ wr.cell? ⟨g, j * 4 + 1, none⟩ = some (kS f.val) ∧ wr.cell? ⟨g, j * 4 + 2, none⟩ = some (kI f.pins) ∧ wr.cell? ⟨g, j * 4 + 3, none⟩ = some (.bool f.fresh)) := Lib.hid fun j f hf => by
      obtain ⟨g, ea, _, hu⟩ := hel j f hf
      refine ⟨g, ea, fun wr hk => ?_⟩
      have hg := hga g ea
      have u0 := hu 0 _ rfl
      simp only [Nat.add_zero] at u0
      exact ⟨KeepsAbove.cellK hk hg u0, KeepsAbove.cellK hk hg (hu 1 _ rfl), KeepsAbove.cellK hk hg (hu 2 _ rfl), KeepsAbove.cellK hk hg (hu 3 _ rfl)⟩
    clear hel hga hv3 hs3
    have HROW : Hid (rowsR (bare L) = (nowR (bare L)).map fun f => (f.key, f.val)) := Lib.hid rfl
    have hnl : (nowR (bare L)).length ≤ L.length := by have := nowR_len (bare L); simpa [bare] using this
    have hrl := rowsR_len (bare L)
    generalize hrows : rowsR (bare L) = rows at *
    generalize nowR (bare L) = now at *
    have HRW := Lib.hid hrows
    clear hrows
    go_upto_block 2 with (fail)
    refine (wpIn_wide (n := n)).1 ?_
    gi_wp2_with fail
    gi_loopw [30] (fun c wr => ∃ j : Nat, j ≤ now.length ∧ c = .int .i64 j ∧ J (rows.take j) wr ∧ KeepsAbove w0.heap.size wc wr) (fun c _ => now.length - (intOf c).toNat)
    case atStart => exact ⟨0, by omega, rfl, hJ3, KeepsAbove.refl _ _⟩
    case round =>
      obtain ⟨j, hj, rfl, hJs, hk⟩ := hrel
      clear hJ3
      have j0 : (0 : Int) ≤ (j : Int) := by omega
      have hDl : (now.length : Int) ≤ 64 := by omega
      by_cases hlt : j < now.length
      · have j1 : (j : Int) < (now.length : Int) := by omega
        obtain ⟨f, hf⟩ : ∃ f, now[j]? = some f := ⟨_, List.getElem?_eq_getElem hlt⟩
        obtain ⟨g, rfl, hcell⟩ := HEL.out j f hf
        obtain ⟨d0, d1, d2, d3⟩ := hcell wr hk
        gi_wp2_with fail
        have hx : rows[j]? = some (f.key, f.val) := by rw [HROW.out, List.getElem?_map, hf]; rfl
        have hal : Below wr.heap.size wr (wr.alloc (.cells #[kI f.key, kS f.val, kI f.pins, .bool f.fresh] 102)) := (Below.refl _ wr).alloc (Nat.le_refl _) _
        have hJ4 := hJ _ wr _ none hJs (grown_of_below hal) (fun r e => by cases e)
        have hk4 := hk.trans (keepsAbove_below hal)
        obtain ⟨fn, tmps, assign, body, hy, hR'⟩ := hY _ (f.key, f.val) _ hJ4 (by rw [List.length_take]; omega)
        have htk : rows.take j ++ [(f.key, f.val)] = rows.take (j + 1) := by rw [List.take_add_one, hx]; rfl
        rw [htk] at hR'
        have HK := Lib.hid hk4
        clear hcell htk hx hJs hk hk4 hJ4 hal hf d0 d1 d2 d3
        gi_wp2
        refine hR'.mono ?_
        rintro e W4 (⟨rfl, hJ4, hk4⟩ | ⟨rfl, hJx4⟩)
        · gi_wp2
          go_roundw
          case rel => exact ⟨j + 1, by omega, by simp, hJ4, HK.out.trans hk4⟩
          case measure => simp only [intOf]; omega
        · gi_wp2
          refine bodyPost_ret (results_none rfl _ _ _) rfl ?_
          exact ⟨⟨_, rfl⟩, .inr ⟨_, by rw [HRW.out]; exact List.take_prefix _ _, hJx4⟩⟩
      · obtain rfl : j = now.length := by omega
        have hJe : J rows wr := by
          have : rows.take now.length = rows := by rw [← hrl]; exact List.take_length
          rw [← this]; exact hJs
        clear hJs
        gi_wp2
        go_end0
        exact ⟨⟨_, rfl⟩, .inl ⟨_, rfl, by rw [HRW.out]; exact hJe⟩⟩
end Go.Proofs.Ytbjomkbiljpjmaa.RS
