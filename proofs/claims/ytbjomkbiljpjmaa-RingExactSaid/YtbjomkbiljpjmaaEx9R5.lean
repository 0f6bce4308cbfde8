/- The document's ring walked: New, All; both rings in one world. Conditions: none. -/
import Derived.Test.YtbjomkbiljpjmaaEx9R4
namespace Go.Proofs.Ytbjomkbiljpjmaa
open Go Go.MapKept Go.RowKit Go.Proofs

theorem PinsLe.nn {fr : FrsS} {n : Int} (h : RS.PinsLe fr n) : PinsNN fr := fun i f hf => (h i f hf).1
theorem rput_any (ub g : Nat) (fr : FrsS) (hand : Nat) (F : Heaplet) (w : World) (h : RefF ub g fr hand F w) (hnn : PinsNN fr) (k : Int) (v : ByteArray) :
    Calls Try.prog 33 #[.pointer (some ⟨ub, 0, none⟩), .int .i64 k, kS v] w (Ret (.tuple #[outR (putM fr hand k v).1.1, .bool (putM fr hand k v).1.2]) (RefF ub g (putM fr hand k v).2.1 (putM fr hand k v).2.2 F)) := by
  unfold putM
  cases hk : findF fr k with
  | some x =>
    obtain ⟨i, f⟩ := x
    exact rput_found ub g fr hand F w h k v i f hk
  | none =>
    cases hv : vacM fr with
    | some i => exact rput_vacant ub g fr hand F w h k v i hk hv
    | none =>
      cases hp : pinnedM fr with
      | true => exact rput_full ub g fr hand F w h k v hk hv hp hnn
      | false =>
        obtain ⟨⟨a, f, fr', hand'⟩, hr⟩ := freeM_some hv hp h.1.2.2
        simp only [hr, Bool.false_eq_true, if_false]
        exact rput_evict ub g fr hand F w h k v a f fr' hand' hk hv hp hnn hr
theorem infoFrm : (Try.prog.info? 64).map (fun i => (i.zero, i.size, i.bytes)) = some (some (.agg #[.bool false, .int .i64 0, .string ⟨#[]⟩, .int .i64 0, .bool false]), 5, 48) := by kernel_rfl
/-- A new one, of so many frames. -/
def NewRet (N : Nat) (F : Heaplet) (e : Ending) (w' : World) : Prop := ∃ ub g, e = .returned (.pointer (some ⟨ub, 0, none⟩)) ∧ RefF ub g (List.replicate N none) 0 F w'
set_option maxRecDepth 100000 in
theorem new_ref (F : Heaplet) (n : Int) (w : World) (hs : Sat w F) :
    Calls Try.prog 32 #[.int .i64 n] w (NewRet (min (max n 1) 64).toNat F) := by
  obtain ⟨N, hN, h1, h64⟩ : ∃ N : Nat, N = (min (max n 1) 64).toNat ∧ 1 ≤ N ∧ N ≤ 64 := ⟨_, rfl, by omega, by omega⟩
  rw [← hN]
  have hmk : ∀ w : World, (Instr.makeSlice 70 (.int .i64 (N : Int)) (.int .i64 (N : Int))).run Try.prog w = .ok (.slice (some ⟨w.heap.size, 0, none⟩) N N) (w.alloc (.cells (refA (List.replicate N none)) 64)) := by
    intro w
    obtain ⟨i0, hi, hz, hsize, hby⟩ := info_parts infoFrm
    have := run_make (P := Try.prog) w 70 64 i0 _ Try.underlying70 hi hz .i64 .i64 (N : Int) (N : Int) (by omega) (by omega) (by rw [hby]; omega) (by omega)
    rw [this, hsize, Int.toNat_natCast]
    rw [show (Value.agg #[.bool false, .int .i64 0, .string ⟨#[]⟩, .int .i64 0, .bool false]).cells = #[.bool false, kI 0, kS ⟨#[]⟩, kI 0, .bool false] from rfl, refA_made]
  have fin : RefF (w.heap.size + 1) w.heap.size (List.replicate N none) 0 F ((w.alloc (.cells (refA (List.replicate N none)) 64)).alloc (.cells #[.slice (some ⟨w.heap.size, 0, none⟩) N N, kI 0] 106)) := by
    refine ⟨by rw [List.length_replicate]; omega, ?_⟩
    rw [List.length_replicate]
    have := (hs.new (.cells (refA (List.replicate N none)) 64)).new (.cells #[.slice (some ⟨w.heap.size, 0, none⟩) N N, kI 0] 106)
    rw [World.size_alloc] at this
    exact this
  have Fin := Lib.hid fin
  clear fin hs
  by_cases ha : n < 1
  · obtain rfl : N = 1 := by omega
    clear hN
    rw [show ((1 : Nat) : Int) = 1 from rfl] at hmk
    go_enter Try.func32, Try.ntmps32
    go_wp2_with fail
    go_ret
    exact ⟨_, _, rfl, Fin.out⟩
  · by_cases hb : 64 < n
    · obtain rfl : N = 64 := by omega
      clear hN
      rw [show ((64 : Nat) : Int) = 64 from rfl] at hmk
      go_enter Try.func32, Try.ntmps32
      go_wp2_with fail
      go_ret
      exact ⟨_, _, rfl, Fin.out⟩
    · obtain rfl : n = (N : Int) := by omega
      clear hN
      go_enter Try.func32, Try.ntmps32
      go_wp2_with fail
      go_ret
      exact ⟨_, _, rfl, Fin.out⟩
/-! ### All -/
def fG (f : Fr ByteArray) : List Value := fR (some f)
theorem fG_len (f : Fr ByteArray) : (fG f).length = 5 := rfl
abbrev RfSl (v : Value) (l : List (Fr ByteArray)) (h : Heaplet) : Prop := SliceIs 64 5 v l.length (l.flatMap fG) h
theorem rf_push {w : World} {v : Value} {l : List (Fr ByteArray)} {h A B : Heaplet} {x : Nat} (q : Fr ByteArray) (hv : RfSl v l h) (s : Sat w (.blk x (.cells #[.bool true, kI q.key, kS q.val, kI q.pins, .bool q.fresh] 64) :: (A ++ (h ++ B)))) (hl : l.length + 1 ≤ 1000000) :
    ∃ v' w' h', (∀ ty, (Builtin.append_ #[70, 70] ty #[v, .slice (some ⟨x, 0, none⟩) 1 1]).run Try.prog w = .ok v' w') ∧ RfSl v' (l ++ [q]) h' ∧ Sat w' (A ++ (h' ++ B)) := by
  obtain ⟨i0, hi, hz, hsize, hby⟩ := info_parts infoFrm
  exact sl_push (P := Try.prog) fG_len Try.underlying70 hi hz hsize hby rfl (by decide) hv q s (fun u hu => by
    simp only [fG, fR, List.mem_cons, List.not_mem_nil, or_false] at hu
    rcases hu with rfl | rfl | rfl | rfl | rfl <;> rfl) (by unfold maxLen; omega) (by omega)
set_option maxRecDepth 100000 in
set_option maxHeartbeats 1600000 in
theorem all_ref (ub g : Nat) (fr : FrsS) (hand : Nat) (F : Heaplet) (w : World) (h : RefF ub g fr hand F w) :
    Calls Try.prog 40 #[.pointer (some ⟨ub, 0, none⟩)] w fun e w' => ∃ v h', e = .returned v ∧ RfSl v (RS.nowR fr) h' ∧ RefF ub g fr hand (h' ++ F) w' := by
  have h64 := h.1.2.1
  have hb := h.1
  have h1 := h.new (.cells #[] 64)
  have n1 : RfSl (.slice (some ⟨w.heap.size, 0, none⟩) 0 0) (RS.nowR (fr.take 0)) [.blk w.heap.size (.cells #[] 64)] := sl_new _ _ _
  have H0 := Lib.hid (And.intro n1 (show RefF ub g fr hand ([.blk w.heap.size (.cells #[] 64)] ++ F) _ from h1))
  clear h h1 n1
  go_enter Try.func40, Try.ntmps40
  go_wp2_with fail
  generalize w.heap.size = gg at *
  go_loopw [3, 4] (fun v3 v4 wr => ∃ (r : Nat) (h : Heaplet), r ≤ fr.length ∧ v4 = .int .i64 r ∧ RfSl v3 (RS.nowR (fr.take r)) h ∧ RefF ub g fr hand (h ++ F) wr) (fun _ v _ => 1000 - (RowKit.intOf v).toNat)
  case atStart => exact ⟨0, _, by omega, rfl, H0.out.1, H0.out.2⟩
  case round =>
    clear H0
    obtain ⟨r, h, hr, rfl, hv, hR⟩ := hrel
    have r0 : (0 : Int) ≤ (r : Int) := by omega
    have hL : (fr.length : Int) ≤ 64 := by omega
    obtain ⟨a3, c3, rfl⟩ := sl_form hv
    obtain ⟨h0, _, _⟩ := hR.head
    by_cases hlr : r < fr.length
    · have r1 : (r : Int) < (fr.length : Int) := by omega
      obtain ⟨o, ho⟩ : ∃ o, fr[r]? = some o := ⟨_, List.getElem?_eq_getElem hlr⟩
      cases o with
      | none =>
        have c0 : wr.cell? ⟨g, r * 5, none⟩ = some (.bool false) := hR.cell (j := 0) ho rfl
        have hst := RS.nowR_none ho
        have HST := Lib.hid hst
        have FIN := Lib.hid (And.intro hv hR)
        generalize RS.nowR (fr.take r) = ol at *
        clear hv hR hst ho
        go_wp2_with fail
        exact ⟨⟨r + 1, h, by omega, by simp, by rw [HST.out]; exact FIN.out.1, FIN.out.2⟩, by simp only [RowKit.intOf]; omega⟩
      | some f =>
        have c0 : wr.cell? ⟨g, r * 5, none⟩ = some (.bool true) := hR.cell (j := 0) ho rfl
        have c1 : wr.cell? ⟨g, r * 5 + 1, none⟩ = some (kI f.key) := hR.cell ho rfl
        have c2 : wr.cell? ⟨g, r * 5 + 2, none⟩ = some (kS f.val) := hR.cell ho rfl
        have c3' : wr.cell? ⟨g, r * 5 + 3, none⟩ = some (kI f.pins) := hR.cell ho rfl
        have c4 : wr.cell? ⟨g, r * 5 + 4, none⟩ = some (.bool f.fresh) := hR.cell ho rfl
        have hst := RS.nowR_some ho
        have hll : (RS.nowR (fr.take r)).length + 1 ≤ 1000000 := by
          have h1 := RS.nowR_len (fr.take r)
          rw [List.length_take] at h1
          omega
        obtain ⟨v4, w4, h4, hap, hv4, hs4⟩ := rf_push (A := [.blk ub _, .blk g _]) (B := F) f hv (hR.2.new (.cells #[.bool true, kI f.key, kS f.val, kI f.pins, .bool f.fresh] 64)) hll
        rw [← hst] at hv4
        have HAP := Lib.hid hap
        have FIN := Lib.hid (And.intro hv4 (show RefF ub g fr hand (h4 ++ F) w4 from ⟨hb, hs4⟩))
        generalize (RS.nowR (fr.take r)).length = ol at *
        clear hv hR hst ho hap hv4 hs4
        go_wp2_with (at_builtin; refine wpList_append_run rfl _ _ _ _ rfl _ _ _ _ rfl rfl HAP.out ?_)
        exact ⟨⟨r + 1, h4, by omega, by simp, FIN.out.1, FIN.out.2⟩, by simp only [RowKit.intOf]; omega⟩
    · obtain rfl : r = fr.length := by omega
      have hv : RfSl (.slice a3 (RS.nowR (fr.take fr.length)).length c3) (RS.nowR fr) h := by rw [List.take_length] at hv ⊢; exact hv
      have FIN := Lib.hid (And.intro hv hR)
      clear hv hR hlr
      go_wp2_with fail
      go_ret
      exact ⟨_, h, rfl, FIN.out.1, FIN.out.2⟩
/-! ### both rings -/
def refH (ub g : Nat) (fr : FrsS) (hand : Nat) : Heaplet := [.blk ub (.cells #[.slice (some ⟨g, 0, none⟩) fr.length fr.length, kI hand] 106), .blk g (.cells (refA fr) 64)]
theorem ring_reF {rb hand : Nat} {fr : FrsS} {F F' : Heaplet} {w : World} (h : RS.RingIs rb fr hand F w) (p : F.Perm F') : RS.RingIs rb fr hand F' w := by
  obtain ⟨L, e, h0, fb, m, es, clk, D, q1, q2, q3⟩ := h
  exact ⟨L, e, h0, fb, m, es, clk, D, q1, q2, q3.perm ((((List.Perm.append_left _ p).cons _).cons _).cons _)⟩
def ringHS (rb fb m : Nat) (es : Array MapEntry) (clk : Nat) (L : Lst ByteArray) (hand : Nat) : Heaplet :=
  .blk rb (.cells #[.slice (some ⟨fb, 0, none⟩) L.length L.length, .map (some m), kI hand] 98) :: .blk fb (.cells (ptrs L) 99) :: .blk m (.map es clk) :: frH (fun s => kS s) 102 L
/-- The ring and the document's, in one world. -/
def Mid (rb ub g : Nat) (fr1 : FrsS) (hand1 : Nat) (fr2 : FrsS) (hand2 : Nat) (H : Heaplet) (w : World) : Prop :=
  RS.RingIs rb fr1 hand1 (refH ub g fr2 hand2 ++ H) w ∧ 0 < fr2.length ∧ fr2.length ≤ 64 ∧ hand2 < fr2.length
section
variable {rb ub g hand1 hand2 : Nat} {fr1 fr2 : FrsS} {H : Heaplet} {w : World}
theorem Mid.ring (h : Mid rb ub g fr1 hand1 fr2 hand2 H w) : RS.RingIs rb fr1 hand1 (refH ub g fr2 hand2 ++ H) w := h.1
theorem Mid.frame (h : Mid rb ub g fr1 hand1 fr2 hand2 H w) : Sat w H := h.1.frame.right
theorem Mid.of_ring {fr' : FrsS} {hand' : Nat} {w' : World} (h : Mid rb ub g fr1 hand1 fr2 hand2 H w) (h' : RS.RingIs rb fr' hand' (refH ub g fr2 hand2 ++ H) w') : Mid rb ub g fr' hand' fr2 hand2 H w' := ⟨h', h.2⟩
theorem Mid.ref (h : Mid rb ub g fr1 hand1 fr2 hand2 H w) : ∃ F', RefF ub g fr2 hand2 F' w ∧ ∀ w' fr' hand', RefF ub g fr' hand' F' w' → Mid rb ub g fr1 hand1 fr' hand' H w' := by
  obtain ⟨⟨L, e, h0, fb, m, es, clk, D, q1, q2, q3⟩, hb⟩ := h
  have q4 : Sat w (ringHS rb fb m es clk L hand1 ++ (refH ub g fr2 hand2 ++ H)) := q3
  refine ⟨ringHS rb fb m es clk L hand1 ++ H, ⟨hb, ?_⟩, fun w' fr' hand' h' => ⟨⟨L, e, h0, fb, m, es, clk, D, q1, q2, ?_⟩, h'.1⟩⟩
  · exact q4.perm (List.perm_append_comm_assoc _ (refH ub g fr2 hand2) H)
  · have q5 : Sat w' (refH ub g fr' hand' ++ (ringHS rb fb m es clk L hand1 ++ H)) := h'.2
    exact q5.perm (List.perm_append_comm_assoc (refH ub g fr' hand') _ H)
theorem Mid.new (h : Mid rb ub g fr1 hand1 fr2 hand2 H w) (o : Obj) : Mid rb ub g fr1 hand1 fr2 hand2 (.blk w.heap.size o :: H) (w.alloc o) :=
  ⟨ring_reF (h.1.new o) (List.perm_middle (l₁ := refH ub g fr2 hand2)).symm, h.2⟩
theorem Mid.unF {x : HItem} (h : Mid rb ub g fr1 hand1 fr2 hand2 (x :: H) w) : Mid rb ub g fr1 hand1 fr2 hand2 H w :=
  ⟨(ring_reF h.1 (List.perm_middle (l₁ := refH ub g fr2 hand2))).unF, h.2⟩
theorem Mid.drewN (h : Mid rb ub g fr1 hand1 fr2 hand2 H w) (n : Nat) : Mid rb ub g fr1 hand1 fr2 hand2 H (w.drewN n) := by
  obtain ⟨⟨L, e, h0, fb, m, es, clk, D, q1, q2, q3⟩, hb⟩ := h
  exact ⟨⟨L, e, h0, fb, m, es, clk, D, q1, q2, q3.of_heap rfl ⟨rfl, rfl, rfl⟩⟩, hb⟩
end
/-! ### pins -/
section
variable {fr : FrsS} {n : Int}
theorem PinsLe.setS (h : RS.PinsLe fr n) (i : Nat) {f : Fr ByteArray} (h0 : 0 ≤ f.pins) (h1 : f.pins ≤ n) : RS.PinsLe (fr.set i (some f)) n := by
  intro j g hg
  rw [List.getElem?_set] at hg
  split at hg
  · split at hg
    · simp only [Option.some.injEq] at hg; subst hg; exact ⟨h0, h1⟩
    · cases hg
  · exact h j g hg
theorem PinsLe.setN (h : RS.PinsLe fr n) (i : Nat) : RS.PinsLe (fr.set i none) n := by
  intro j g hg
  rw [List.getElem?_set] at hg
  split at hg
  · split at hg <;> cases hg
  · exact h j g hg
theorem PinsLe.up (h : RS.PinsLe fr n) {m : Int} (hm : n ≤ m) : RS.PinsLe fr m := fun i f hf => ⟨(h i f hf).1, by have := (h i f hf).2; omega⟩
theorem PinsLe.put (h : RS.PinsLe fr n) (hn : 0 ≤ n) (hand : Nat) (k : Int) (v : ByteArray) : RS.PinsLe (putM fr hand k v).2.1 n := by
  unfold putM
  cases hk : findF fr k with
  | some x =>
    obtain ⟨i, f⟩ := x
    have := h i f (idx_of_find hk).2
    exact PinsLe.setS h i this.1 this.2
  | none =>
    cases hv : vacM fr with
    | some i => exact PinsLe.setS h i (by simp) hn
    | none =>
      cases hp : pinnedM fr with
      | true => exact h
      | false =>
        cases hr : freeM (2 * fr.length + 1) fr hand with
        | none => exact h
        | some r =>
          obtain ⟨a, f, fr', hand'⟩ := r
          have hs := (freeM_spec _ _ _ _ _ _ _ hr).1
          refine PinsLe.setS (fun i f hf => ?_) a (by simp) hn
          obtain ⟨g, hg, e⟩ := strips_get hs hf
          have e2 : g.pins = f.pins := by unfold strip at e; simp only [Prod.mk.injEq] at e; exact e.2.2
          rw [← e2]; exact h i g hg
theorem PinsLe.get (h : RS.PinsLe fr n) (k : Int) : RS.PinsLe (getM fr k).2 n := by
  unfold getM
  cases hk : findF fr k with
  | some x =>
    obtain ⟨i, f⟩ := x
    have := h i f (idx_of_find hk).2
    exact PinsLe.setS h i this.1 this.2
  | none => exact h
theorem PinsLe.del (h : RS.PinsLe fr n) (k : Int) : RS.PinsLe (delM fr k).2 n := by
  unfold delM
  cases hk : findF fr k with
  | some x => exact PinsLe.setN h x.1
  | none => exact h
theorem PinsLe.pin (h : RS.PinsLe fr n) (k : Int) : RS.PinsLe (pinM fr k).2 (n + 1) := by
  unfold pinM
  cases hk : findF fr k with
  | some x =>
    obtain ⟨i, f⟩ := x
    have := h i f (idx_of_find hk).2
    exact PinsLe.setS (PinsLe.up h (by omega)) i (by simp only; omega) (by simp only; omega)
  | none => exact PinsLe.up h (by omega)
theorem PinsLe.letP (h : RS.PinsLe fr n) (k : Int) : RS.PinsLe (letM fr k).2 n := by
  unfold letM
  cases hk : findF fr k with
  | some x =>
    obtain ⟨i, f⟩ := x
    have := h i f (idx_of_find hk).2
    by_cases hz : (f.pins == 0) = true
    · simp only [hz, if_true]; exact h
    · simp only [hz, if_false]
      have : f.pins ≠ 0 := by simpa using hz
      exact PinsLe.setS h i (by simp only; omega) (by simp only; omega)
  | none => exact h
end
end Go.Proofs.Ytbjomkbiljpjmaa
