/- The purse gone over: All. Conditions: none. -/
import Derived.Test.YtbjomkbiljpjmaaSortK10
import Derived.Test.YtbjomkbiljpjmaaPurse
import Derived.RangeFuncNested
import Derived.RangeFuncBound
import Derived.RangeFuncCalls
import Derived.RangeFuncLeaves
import Derived.RangeFuncBox
import Derived.Shelf.Abstract
import Derived.Shelf.RegionOpen
import Derived.WalkKit
import Derived.OwnWalkIn
import Derived.TacticsInMore
import Derived.LoopNIn
import Derived.LoopIn
namespace Go.Proofs.Ytbjomkbiljpjmaa
open Go Go.MapKept Go.RowKit Go.Proofs Go.Shelf

attribute [local go_sem] Oper.semAt_some

/-- Whatever is cells or a map from block B on lies as it lay. -/
def KeepsAbove (B : Nat) (W W' : World) : Prop := W.heap.size ≤ W'.heap.size ∧ ∀ k o, B ≤ k → W.heap[k]? = some o → (o.isCells = true ∨ o.isWalk = true) → W'.heap[k]? = some o
theorem KeepsAbove.refl (B : Nat) (W : World) : KeepsAbove B W W := ⟨Nat.le_refl _, fun _ _ _ h _ => h⟩
theorem KeepsAbove.trans {B : Nat} {X Y Z : World} (h : KeepsAbove B X Y) (k : KeepsAbove B Y Z) : KeepsAbove B X Z :=
  ⟨Nat.le_trans h.1 k.1, fun i o hB hi ho => k.2 i o hB (h.2 i o hB hi ho) ho⟩
theorem KeepsAbove.put (B : Nat) (W : World) (l : Nat) (o o' : Obj) (h : W.heap[l]? = some o) (h1 : o.isCells = false) (h2 : o.isWalk = false) : KeepsAbove B W (W.putObj l o') := by
  refine ⟨(grownBy_putObj' W l o').size, fun k p hB hk hp => ?_⟩
  by_cases e : k = l
  · subst e
    rw [h] at hk
    cases hk
    rcases hp with hp | hp
    · rw [h1] at hp; cases hp
    · rw [h2] at hp; cases hp
  · rw [World.putObj_heap_other (by omega)]; exact hk
theorem KeepsAbove.setCell {B g : Nat} (h : g < B) (W : World) (i : Nat) (v : Value) : KeepsAbove B W (W.setCell ⟨g, i, none⟩ v) := by
  have hh : ∀ k, k ≠ g → (W.setCell ⟨g, i, none⟩ v).heap[k]? = W.heap[k]? := by
    intro k hk
    simp only [World.setCell, Array.getElem?_modify]
    rw [if_neg (fun e => hk e.symm)]
  refine ⟨by simp [World.setCell], fun k o hB hk _ => ?_⟩
  rw [hh k (by omega)]; exact hk
theorem grown_of_below {W W' : World} (h : Below W.heap.size W W') : W.grownBy W' none :=
  ⟨h.os, h.tape, h.output, h.size, fun k hk _ => h.block k hk⟩
theorem cellA {B : Nat} {W W' : World} (h : KeepsAbove B W W') {g i : Nat} {c : Array Value} {t : TypeId} {z : Nat × Nat} (hB : B ≤ g) (hg : W.heap[g]? = some (.cells c t z)) : W'.cell? ⟨g, i, none⟩ = c[i]? :=
  cell_of (h.2 g _ hB hg (.inl rfl)) i
theorem above_of_all {W W' : World} {g : Nat} {o : Obj} (h : Sat W' (.blk g o :: allOf W)) : W.heap.size ≤ g := by
  by_cases hg : g < W.heap.size
  · exact absurd rfl (h.ne (c := g) (o' := W.heap[g]?.getD default) (.tail _ (List.mem_map.2 ⟨g, List.mem_range.2 hg, rfl⟩)))
  · omega

theorem zeroI (w : World) : (zeroValue 3).run Try.prog w = .ok (.int .i64 0) w := by kernel_rfl
/-- Who, rising, and how much. -/
def rowsP (D : List (Int × Int)) : List (Int × Int) := (sortK (D.map (·.1))).map fun k => (k, of D k)
theorem rowsP_len (D : List (Int × Int)) : (rowsP D).length = D.length := by
  unfold rowsP
  rw [List.length_map, (sortK_perm _).length_eq, List.length_map]
set_option maxRecDepth 100000 in
set_option maxHeartbeats 4000000 in
theorem purse_all_stops (n : Nat) (hn : 1 ≤ n) (Bx b m : Nat) (es : Array MapEntry) (clk : Nat) (D : List (Int × Int)) (w0 : World) (hBx : w0.cell? ⟨Bx, 0, none⟩ = some (.pointer (some ⟨b, 0, none⟩))) (hb : w0.cell? ⟨b, 0, none⟩ = some (.map (some m)))
    (hmp : w0.heap[m]? = some (.map es clk)) (hm : MapOk (.int .i64) kI kI es clk D) (hr : ∀ p ∈ D, -9223372036854775808 ≤ p.1 ∧ p.1 ≤ 9223372036854775807) (hl : D.length ≤ 1000000) :
    SeqStopsK Fence.wide n Try.prog 63 #[.pointer (some ⟨Bx, 0, none⟩)] (fun x : Int × Int => #[kI x.1, kI x.2]) (KeepsAbove w0.heap.size) (fun ys => ys = rowsP D) (fun pre => pre <+: rowsP D) D.length w0 := by
  intro l J Jx W hW hJ hJx hY h0
  have cB : W.cell? ⟨Bx, 0, none⟩ = some (.pointer (some ⟨b, 0, none⟩)) := (hW.cell (p := ⟨Bx, 0, none⟩) (World.block_lt_of_cell? w0 ⟨Bx, 0, none⟩ hBx)).trans hBx
  have cb : W.cell? ⟨b, 0, none⟩ = some (.map (some m)) := (hW.cell (p := ⟨b, 0, none⟩) (World.block_lt_of_cell? w0 ⟨b, 0, none⟩ hb)).trans hb
  have hmW : W.heap[m]? = some (.map es clk) := (hW.block m (Array.getElem?_eq_some_iff.1 hmp).1).trans hmp
  have hcl := AnyW.maps_Clone Try.cloneM m es clk W hmW
  have HCL := Lib.hid hcl
  have HM := Lib.hid hm
  have HR := Lib.hid hr
  have HW := Lib.hid hW
  have HMW := Lib.hid hmW
  clear hcl hm hr hBx hb hmp hW hmW
  refine callsIn_of_wp Try.func63 rfl trivial ?_ rfl
  simp only [Try.ntmps63, List.size_toArray, List.length_cons, List.length_nil, Nat.reduceAdd, Nat.reduceSub, Array.replicate_succ, Array.replicate_zero, List.push_toArray, List.append_toArray, List.nil_append, List.cons_append]
  gi_wp2_with fail
  refine ⟨trivial, ?_⟩
  refine (callsIn_wide.2 HCL.out).mono ?_
  rintro e W1 ⟨rfl, rfl⟩
  gi_wp2_with fail
  refine ⟨trivial, ?_⟩
  refine (callsIn_wide.2 (keys_purse _ _)).mono ?_
  rintro e W2 ⟨rfl, rfl⟩
  gi_wp2_with fail
  have s2 : Sat ((W.alloc (.map es clk)).alloc (.cells #[.map (some W.heap.size)] (Try.keysA_ren.t 23))) (.blk (W.heap.size + 1) (.cells #[.map (some W.heap.size)] (Try.keysA_ren.t 23)) :: .blk W.heap.size (.map es clk) :: allOf W) := by
    have := ((sat_all W).new (.map es clk)).new (.cells #[.map (some W.heap.size)] (Try.keysA_ren.t 23))
    rw [World.size_alloc] at this
    exact this
  have hsk := sorted_purse HM.out (W.heap.size + 1) W.heap.size _ (by rw [cell_of s2.h0]; rfl) s2.h1 HR.out hl
  have HS2 := Lib.hid s2
  have hbel2 : Below W.heap.size W ((W.alloc (.map es clk)).alloc (.cells #[.map (some W.heap.size)] (Try.keysA_ren.t 23))) := ((Below.refl _ W).alloc (Nat.le_refl _) _).alloc (by simp) _
  have HB2 := Lib.hid hbel2
  have hsz2 : ((W.alloc (.map es clk)).alloc (.cells #[.map (some W.heap.size)] (Try.keysA_ren.t 23))).heap.size = W.heap.size + 2 := by simp
  have HZ2 := Lib.hid hsz2
  clear s2 hbel2 hsz2
  generalize (W.alloc (.map es clk)).alloc (.cells #[.map (some W.heap.size)] (Try.keysA_ren.t 23)) = W2 at *
  refine ⟨trivial, ?_⟩
  refine (callsIn_wide.2 hsk).mono ?_
  rintro e W3 ⟨v, h, rfl, hsl, hsat, hb3⟩
  have hall := hsat _ HS2.out
  have hm3 : W3.heap[W.heap.size]? = some (.map es clk) := hall.right.h1
  have hbelW : Below W.heap.size W W3 := HB2.out.trans (hb3.mono (by rw [HZ2.out]; omega))
  have hJ3 : J [] W3 := hJ [] W W3 none h0 (grown_of_below hbelW) (fun r e => by cases e)
  have hv : ∃ a cap, v = .slice a D.length cap ∧ ∀ j x, (rowsP D)[j]? = some x → ∃ g, a = some ⟨g, 0, none⟩ ∧ W.heap.size ≤ g ∧ ∀ {wr}, KeepsAbove w0.heap.size W3 wr → wr.cell? ⟨g, j, none⟩ = some (kI x.1) := by
    rcases hsl.2 with ⟨rfl, e0, rfl⟩ | ⟨g, cap, cur, rfl, hnc, hcm, hcs, htake, rfl⟩
    · refine ⟨none, 0, by rw [e0], fun j x hx => ?_⟩
      have := (List.getElem?_eq_some_iff.1 hx).1
      rw [rowsP_len] at this
      omega
    · refine ⟨_, cap, rfl, fun j x hx => ⟨g, rfl, ?_, fun {wr} hk => ?_⟩⟩
      · have h3 := hsat _ (sat_all W2)
        have := above_of_all (W := W2) (W' := W3) (g := g) h3
        rw [HZ2.out] at this
        omega
      · have h3 := hsat _ (sat_all W2)
        have hg := above_of_all (W := W2) (W' := W3) (g := g) h3
        rw [HZ2.out] at hg
        rw [cellA hk (by have := HW.out.size; omega) h3.h0]
        unfold rowsP at hx
        rw [List.getElem?_map] at hx
        have e1 : ((sortK (D.map (·.1))).map kI)[j]? = some (kI x.1) := by
          rw [List.getElem?_map]
          cases hk : (sortK (D.map (·.1)))[j]? with
          | none => rw [hk] at hx; cases hx
          | some k =>
            rw [hk] at hx
            simp only [Option.map_some, Option.some.injEq] at hx
            subst hx
            rfl
        rw [← htake, List.getElem?_take] at e1
        split at e1
        · rwa [Array.getElem?_toList] at e1
        · cases e1
  obtain ⟨a, cap, rfl, hel⟩ := hv
  have HEL := Lib.hid hel
  have HM3 := Lib.hid hm3
  clear hall hm3 hel hsl hsat hb3 hsk hbelW HMW HS2 HB2 HZ2
  gi_wp2_with fail
  gi_loopw [17] (fun c wr => ∃ j : Nat, j ≤ D.length ∧ c = .int .i64 j ∧ J ((rowsP D).take j) wr ∧ KeepsAbove w0.heap.size W3 wr) (fun c _ => D.length - (intOf c).toNat)
  case atStart => exact ⟨0, by omega, rfl, hJ3, KeepsAbove.refl _ _⟩
  case round =>
    obtain ⟨j, hj, rfl, hJs, hk⟩ := hrel
    clear hJ3
    have j0 : (0 : Int) ≤ (j : Int) := by omega
    have hDl : (D.length : Int) ≤ 1000000 := by omega
    by_cases hlt : j < D.length
    · have j1 : (j : Int) < (D.length : Int) := by omega
      obtain ⟨x, hx⟩ : ∃ x, (rowsP D)[j]? = some x := ⟨_, List.getElem?_eq_getElem (by rw [rowsP_len]; exact hlt)⟩
      obtain ⟨g, rfl, _, hcell⟩ := HEL.out j x hx
      have c0 := hcell hk
      have hmr : wr.heap[W.heap.size]? = some (.map es clk) := hk.2 _ _ HW.out.size HM3.out (.inr rfl)
      have hlk := run_lookup_ok (P := Try.prog) (t := 83) (kt := 3) (et := 3) (z := .int .i64 0) Try.underlying83 Try.underlying3 (zeroI wr) hmr HM.out x.1
      have hx2 : ((getL x.1 D).map kI).getD (.int .i64 0) = kI x.2 := by
        unfold rowsP at hx
        rw [List.getElem?_map] at hx
        cases hq : (sortK (D.map (·.1)))[j]? with
        | none => rw [hq] at hx; cases hx
        | some k =>
          rw [hq] at hx
          simp only [Option.map_some, Option.some.injEq] at hx
          subst hx
          show ((getL k D).map kI).getD (kI 0) = kI (of D k)
          unfold of
          cases getL k D <;> rfl
      rw [hx2] at hlk
      obtain ⟨fn, tmps, assign, body, hy, hR'⟩ := hY _ x wr hJs (by rw [List.length_take, rowsP_len]; omega)
      have htk : (rowsP D).take j ++ [x] = (rowsP D).take (j + 1) := by rw [List.take_add_one, hx]; rfl
      rw [htk] at hR'
      have HK := Lib.hid hk
      clear hcell hmr hx2 htk hx hJs hk
      gi_wp2
      refine hR'.mono ?_
      rintro e W4 (⟨rfl, hJ4, hk4⟩ | ⟨rfl, hJx4⟩)
      · gi_wp2
        go_roundw
        case rel => exact ⟨j + 1, by omega, by simp, hJ4, HK.out.trans hk4⟩
        case measure => simp only [intOf]; omega
      · gi_wp2
        refine bodyPost_ret (results_none rfl _ _ _) rfl ?_
        exact ⟨⟨_, rfl⟩, .inr ⟨_, List.take_prefix _ _, hJx4⟩⟩
    · obtain rfl : j = D.length := by omega
      have hJe : J (rowsP D) wr := by
        have : (rowsP D).take D.length = rowsP D := by rw [← rowsP_len D]; exact List.take_length
        rw [← this]; exact hJs
      clear hJs
      gi_wp2
      go_end0
      exact ⟨⟨_, rfl⟩, .inl ⟨_, rfl, hJe⟩⟩
end Go.Proofs.Ytbjomkbiljpjmaa
