/- The graph of edges, made. Conditions: none. -/
import Derived.Test.YtjkpghhbpcjjiaaKnotH
namespace Go.Proofs.Ytjkpghhbpcjjiaa
open Go Go.MapKept Go.RowKit Go.Proofs

abbrev flP (q : Int × Int) : List Value := [kI q.1, kI q.2]
theorem flP_len (q : Int × Int) : (flP q).length = 2 := rfl
abbrev EdgeSl (v : Value) (l : List (Int × Int)) (h : Heaplet) : Prop := SliceIs 58 2 v l.length (l.flatMap flP) h
/-- Where F holds, v is the slice of these edges. -/
def EdgesIn (F : Heaplet) (v : Value) (l : List (Int × Int)) : Prop :=
  ∃ a cap, v = .slice a l.length cap ∧ ∀ w, Sat w F → ∀ i q, l[i]? = some q → ∃ g, a = some ⟨g, 0, none⟩ ∧ w.cell? ⟨g, i * 2, none⟩ = some (kI q.1) ∧ w.cell? ⟨g, i * 2 + 1, none⟩ = some (kI q.2)
theorem edges_in {v : Value} {l : List (Int × Int)} {h : Heaplet} (hv : EdgeSl v l h) (F : Heaplet) : EdgesIn (h ++ F) v l := by
  obtain ⟨a, cap, rfl⟩ := sl_form hv
  refine ⟨a, cap, rfl, fun w hs i q hq => ?_⟩
  obtain ⟨a', cap', e, hc⟩ := sl_cells flP_len hv hs
  cases e
  obtain ⟨g, ea, _, hu⟩ := hc i q hq
  exact ⟨g, ea, hu 0 _ rfl, hu 1 _ rfl⟩
theorem edges_nil (F : Heaplet) : EdgesIn F (.slice none 0 0) [] := ⟨none, 0, rfl, fun w _ i q hq => by simp at hq⟩
theorem EdgesIn.mono {F F' : Heaplet} {v : Value} {l : List (Int × Int)} (h : EdgesIn F v l) (hs : ∀ w, Sat w F' → Sat w F) : EdgesIn F' v l := by
  obtain ⟨a, cap, e, hc⟩ := h
  exact ⟨a, cap, e, fun w hw => hc w (hs w hw)⟩
set_option maxRecDepth 100000 in
set_option maxHeartbeats 4000000 in
theorem graph_any (v : Value) (l : List (Int × Int)) (F : Heaplet) (w : World) (hs : Sat w F) (hE : EdgesIn F v l) (hl : l.length ≤ 100000) :
    Calls Try.prog 41 #[v] w fun e w' => ∃ m L, e = .returned (.map (some m)) ∧ GOk L l ∧ GraphIs m L F w' := by
  obtain ⟨a, cap, rfl, hc⟩ := hE
  have HC := Lib.hid hc
  have hmm := @run_makeMap Try.prog
  have s1 := hs.new (.map #[] 0)
  have hg0 : GraphIs w.heap.size [] F (w.alloc (.map #[] 0)) := ⟨(fun p hp => by cases hp), #[], 0, mapOk_new kI_key kI_inj, s1⟩
  have HG0 := Lib.hid hg0
  have hnn : ∀ w, (binOp .eql 82 (.map none) (.map none)).run Try.prog w = .ok (.bool true) w := fun w => by kernel_rfl
  have hsn : ∀ g w, (binOp .eql 82 (.map (some g)) (.map none)).run Try.prog w = .ok (.bool false) w := fun g w => by kernel_rfl
  clear hc hs s1 hg0
  go_enter Try.func41, Try.ntmps41
  go_wp2_with fail
  generalize w.heap.size = m at *
  go_loopw [9] (fun v9 wr => ∃ r : Nat, r ≤ l.length ∧ v9 = .int .i64 r ∧ ∃ L, GOk L (l.take r) ∧ GraphIs m L F wr) (fun v9 _ => 100000 - (RowKit.intOf v9).toNat)
  case atStart => exact ⟨0, by omega, rfl, [], by simpa using gok_nil, HG0.out⟩
  case round =>
    clear HG0
    obtain ⟨r, hr, rfl, L, hok, hg⟩ := hrel
    have r0 : (0 : Int) ≤ (r : Int) := by omega
    by_cases hlr : r < l.length
    · have r1 : (r : Int) < (l.length : Int) := by omega
      obtain ⟨q, hq⟩ : ∃ q, l[r]? = some q := ⟨_, List.getElem?_eq_getElem hlr⟩
      obtain ⟨g, rfl, c1, c2⟩ := HC.out wr hg.frame r q hq
      have htk : l.take (r + 1) = l.take r ++ [q] := by rw [List.take_add_one, hq]; rfl
      obtain ⟨q1, q2⟩ := q
      simp only at c1 c2
      have hN := hg.new (.cells #[kI q1, kI q2] 58)
      have hlk := hN.look q1
      cases hk : getL q1 L with
      | none =>
        rw [hk] at hlk
        obtain ⟨w2, hu, hN2⟩ := hN.start hk
        have hk2 : getL q1 (putL q1 ⟨(wr.alloc (.cells #[kI q1, kI q2] 58)).heap.size, #[], 0, []⟩ L) = some ⟨(wr.alloc (.cells #[kI q1, kI q2] 58)).heap.size, #[], 0, []⟩ := by rw [getL_putL, if_pos rfl]
        have hlk2 := hN2.look q1
        rw [hk2] at hlk2
        obtain ⟨w3, n', hu2, hD, hN3⟩ := hN2.edge hk2 q2
        have hgo := hok.step (b := q2) (.inr ⟨hk, _, rfl⟩) hk2 hD
        rw [← htk] at hgo
        have d0 : w2.cell? ⟨wr.heap.size, 0, none⟩ = some (kI q1) := by rw [cell_of hN2.frame.h0]; rfl
        have d1 : w2.cell? ⟨wr.heap.size, 1, none⟩ = some (kI q2) := by rw [cell_of hN2.frame.h0]; rfl
        have fin : ∃ L, GOk L (l.take (r + 1)) ∧ GraphIs m L F w3 := ⟨_, hgo, GraphIs.drop (A := [_]) hN3⟩
        have Fin := Lib.hid fin
        unfold nbV nv at hlk2
        unfold nbV at hlk
        unfold nv at hu2
        simp only [World.size_alloc] at hu hlk2 hu2
        clear hgo hN hN2 hN3 hok hg hk hk2 hq htk fin hD
        go_wp2_with fail
        exact ⟨⟨r + 1, by omega, by simp, Fin.out⟩, by simp only [RowKit.intOf]; omega⟩
      | some n =>
        rw [hk] at hlk
        obtain ⟨w3, n', hu2, hD, hN3⟩ := hN.edge hk q2
        have hgo := hok.step (b := q2) (.inl rfl) hk hD
        rw [← htk] at hgo
        have fin : ∃ L, GOk L (l.take (r + 1)) ∧ GraphIs m L F w3 := ⟨_, hgo, GraphIs.drop (A := [_]) hN3⟩
        have Fin := Lib.hid fin
        unfold nbV nv at hlk
        unfold nv at hu2
        obtain ⟨ng, nes, nclk, nD⟩ := n
        simp only at hlk hu2
        clear hgo hN hN3 hok hg hk hq htk fin hD
        go_wp2_with fail
        exact ⟨⟨r + 1, by omega, by simp, Fin.out⟩, by simp only [RowKit.intOf]; omega⟩
    · obtain rfl : r = l.length := by omega
      rw [List.take_length] at hok
      have Fin := Lib.hid (And.intro hok hg)
      clear hok hg hlr
      go_wp2_with fail
      go_ret
      exact ⟨m, L, rfl, Fin.out.1, Fin.out.2⟩
end Go.Proofs.Ytjkpghhbpcjjiaa
