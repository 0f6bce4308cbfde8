/- The stuck, rising: stuck, Stuck, Victim walked. Conditions: none. -/
import Derived.Test.YtjkpghhbpcjjiaaKnot2
namespace Go.Proofs.Ytjkpghhbpcjjiaa
open Go Go.MapKept Go.RowKit Go.Proofs

theorem GraphIs.split {m : Nat} {L : GL} {F : Heaplet} {w : World} (h : GraphIs m L F w) : ∃ A, Sat w (A ++ F) ∧ ∀ {F' w'}, Sat w' (A ++ F') → GraphIs m L F' w' := by
  obtain ⟨ho, es, clk, hm, hs⟩ := h
  exact ⟨GraphH m es clk L, hs, fun {F' w'} h' => ⟨ho, es, clk, hm, h'⟩⟩
/-- The names are integers; each edge leads into N. -/
structure GBd (L : GL) (N : List Int) : Prop where
  bd : ∀ p ∈ L, -9223372036854775808 ≤ p.1 ∧ p.1 ≤ 9223372036854775807
  len : L.length ≤ 100000
  tgt : ∀ a b, E L a b → b ∈ N
  nlen : N.length ≤ 100000
theorem E_key {L : GL} {a b : Int} (h : E L a b) : a ∈ L.map (·.1) := by
  obtain ⟨n, h1, _⟩ := h
  exact List.mem_map.2 ⟨_, getL_mem h1, rfl⟩
noncomputable def loopsB (L : GL) (k : Int) : Bool := @decide (Loops (E L) k) (Classical.propDecidable _)
theorem loopsB_iff (L : GL) (k : Int) : loopsB L k = true ↔ Loops (E L) k := by unfold loopsB; exact @decide_eq_true_iff _ (Classical.propDecidable _)
theorem loopsB_of {L : GL} {k : Int} {b : Bool} (h : b = true ↔ Loops (E L) k) : loopsB L k = b := by
  cases b with
  | true => exact (loopsB_iff L k).2 (h.1 rfl)
  | false =>
    cases hq : loopsB L k with
    | false => rfl
    | true => exact absurd (h.2 ((loopsB_iff L k).1 hq)) (by simp)
set_option maxRecDepth 100000 in
set_option maxHeartbeats 4000000 in
theorem stuck_any (m : Nat) (L : GL) (F : Heaplet) (N : List Int) (w : World) (h : GraphIs m L F w) (hB : GBd L N) :
    Calls Try.prog 42 #[.map (some m)] w fun e w' => ∃ v s hh, e = .returned v ∧ IntSl v s hh ∧ IsStuck (E L) s ∧ GraphIs m L (hh ++ F) w' := by
  have hnd := h.nodup
  have hst : IsStuck (E L) ((sortK (L.map (·.1))).filter (loopsB L)) := stuck_sieve hnd (fun k _ => loopsB_iff L k) (fun a b e => E_key e)
  have hn1 := h.new (.cells #[.map (some m)] (Try.keysA_ren.t 23))
  obtain ⟨ho, es, clk, hm, hs⟩ := h
  have h1 := hs.new (.cells #[.map (some m)] (Try.keysA_ren.t 23))
  have hsk := sorted_knot hm w.heap.size m (w.alloc (.cells #[.map (some m)] (Try.keysA_ren.t 23))) (by rw [cell_of h1.h0]; rfl) (h1.get (.tail _ (.head _))) hB.bd (by have := hB.len; omega)
  obtain ⟨A, hA, back⟩ := (GraphIs.split ⟨ho, es, clk, hm, hs⟩ : ∃ A, Sat w (A ++ F) ∧ ∀ {F' w'}, Sat w' (A ++ F') → GraphIs m L F' w')
  have hA1 : Sat (w.alloc (.cells #[.map (some m)] (Try.keysA_ren.t 23))) (A ++ F) := (hA.new _).tail
  have HSK := Lib.hid hsk
  have HA1 := Lib.hid hA1
  have HB := Lib.hid hB
  have HST := Lib.hid hst
  have BACK : Hid (∀ F' w', Sat w' (A ++ F') → GraphIs m L F' w') := Lib.hid fun F' w' h' => back h'
  have hKL : (sortK (L.map (·.1))).length = L.length := by rw [(sortK_perm _).length_eq, List.length_map]
  have hLl := hB.len
  clear ho hm hs h1 hsk hA back hA1 hB hst hn1 hnd
  go_enter Try.func42, Try.ntmps42
  go_wp2_with fail
  refine (keys_knot _ _).mono ?_
  rintro e w1 ⟨rfl, rfl⟩
  go_wp2_with fail
  refine (HSK.out).mono ?_
  rintro e w2 ⟨kv, kh, rfl, hkv, hks, _⟩
  have hg2 : GraphIs m L (kh ++ F) w2 := BACK.out _ _ ((hks _ HA1.out).perm (List.perm_append_comm_assoc kh A F))
  rw [← fm_one, ← hKL] at hkv
  obtain ⟨ka, kc, rfl⟩ := sl_form hkv
  rw [hKL]
  have HKV := Lib.hid hkv
  have HG2 := Lib.hid hg2
  have HKL := Lib.hid hKL
  clear hkv hks hg2 HSK HA1 hKL
  go_wp2_with fail
  generalize hKS : sortK (L.map (·.1)) = K at *
  go_loopw [3, 10] (fun v3 v10 wr => ∃ (r : Nat) (oh : Heaplet), r ≤ L.length ∧ v10 = .int .i64 r ∧ IntSl v3 ((K.take r).filter (loopsB L)) oh ∧ GraphIs m L (oh ++ (kh ++ F)) wr) (fun _ v10 _ => 100000 - (RowKit.intOf v10).toNat)
  case atStart => exact ⟨0, [], by omega, rfl, SliceIs.nil _ _, HG2.out⟩
  case round =>
    clear HG2
    obtain ⟨r, oh, hr, rfl, hv, hg⟩ := hrel
    have r0 : (0 : Int) ≤ (r : Int) := by omega
    obtain ⟨oa, oc, rfl⟩ := sl_form hv
    have hlen : ((K.take r).filter (loopsB L)).length ≤ r := by
      have := List.length_filter_le (loopsB L) (K.take r)
      rw [List.length_take] at this
      omega
    by_cases hlr : r < L.length
    · have r1 : (r : Int) < (L.length : Int) := by omega
      obtain ⟨x, hx⟩ : ∃ x, K[r]? = some x := ⟨_, List.getElem?_eq_getElem (by rw [HKL.out]; exact hlr)⟩
      obtain ⟨ka', kc', e1, hcs⟩ := sl_cells fI_len HKV.out (hg.frame.right)
      cases e1
      obtain ⟨kg, rfl, _, hu⟩ := hcs r x hx
      have c1 := hu 0 _ rfl
      simp only [Nat.mul_one, Nat.add_zero] at c1
      have hld := leads_any m L _ x N _ hg HB.out.tgt HB.out.nlen
      have htk : K.take (r + 1) = K.take r ++ [x] := by rw [List.take_add_one, hx]; rfl
      have HLD := Lib.hid hld
      have HV := Lib.hid hv
      clear hld hg hu hcs hx hv
      go_wp2_with fail
      refine (HLD.out).mono ?_
      rintro e w3 ⟨b, rfl, hb, hg3⟩
      have hq := loopsB_of hb
      cases b with
      | true =>
        have hf : (K.take (r + 1)).filter (loopsB L) = (K.take r).filter (loopsB L) ++ [x] := by rw [htk, List.filter_append]; simp [hq]
        obtain ⟨A2, hA2, back2⟩ := hg3.split
        obtain ⟨v', w4, h', hap, hv', hs4⟩ := int_push x HV.out (hA2.new (.cells #[kI x] 3)) (by omega)
        rw [← hf] at hv'
        have fin := back2 hs4
        have FIN := Lib.hid (And.intro hv' fin)
        have HAP := Lib.hid hap
        clear hb hg3 hq hf hA2 back2 hap hv' hs4 fin htk HLD HV hlen
        go_wp2_with (at_builtin; refine wpList_append_run rfl _ _ _ _ rfl _ _ _ _ rfl rfl HAP.out ?_)
        exact ⟨⟨r + 1, h', by omega, by simp, FIN.out.1, FIN.out.2⟩, by simp only [RowKit.intOf]; omega⟩
      | false =>
        have hf : (K.take (r + 1)).filter (loopsB L) = (K.take r).filter (loopsB L) := by rw [htk, List.filter_append]; simp [hq]
        have FIN := Lib.hid (And.intro hf hg3)
        clear hb hg3 hq hf htk HLD hlen
        go_wp2_with fail
        exact ⟨⟨r + 1, oh, by omega, by simp, by rw [FIN.out.1]; exact HV.out, FIN.out.2⟩, by simp only [RowKit.intOf]; omega⟩
    · obtain rfl : r = L.length := by omega
      have hfull : K.take L.length = K := by rw [← HKL.out, List.take_length]
      have FIN := Lib.hid (And.intro hfull (And.intro hv hg))
      clear hv hg hfull hlen hlr
      go_wp2_with fail
      go_ret
      obtain ⟨hfull, hv, hg⟩ := FIN.out
      rw [hfull] at hv ⊢
      exact ⟨_, _, oh, rfl, hv, HST.out, GraphIs.drop (A := kh) (hg.permF (List.perm_append_comm_assoc oh kh F))⟩
/-- The relation that edges are. -/
def Rel (l : List (Int × Int)) : Rl := fun a b => (a, b) ∈ l
def InI (l : List (Int × Int)) : Prop := ∀ q ∈ l, -9223372036854775808 ≤ q.1 ∧ q.1 ≤ 9223372036854775807
theorem GOk.rel {L : GL} {l : List (Int × Int)} (h : GOk L l) : E L = Rel l := rl_ext h.1
theorem GOk.gbd {L : GL} {l : List (Int × Int)} (h : GOk L l) (hn : (L.map (·.1)).Nodup) (hi : InI l) (hl : l.length ≤ 100000) : GBd L (l.map (·.2)) := by
  refine ⟨fun p hp => ?_, ?_, fun a b e => ?_, by rw [List.length_map]; exact hl⟩
  · obtain ⟨q, hq, e⟩ := List.mem_map.1 (h.2 p.1 (List.mem_map.2 ⟨p, hp, rfl⟩))
    rw [← e]; exact hi q hq
  · have := nodup_le hn h.2
    rw [List.length_map, List.length_map] at this
    omega
  · rw [h.1] at e
    exact List.mem_map.2 ⟨_, e, rfl⟩
theorem Stuck_any (v : Value) (l : List (Int × Int)) (F : Heaplet) (w : World) (hs : Sat w F) (hE : EdgesIn F v l) (hi : InI l) (hl : l.length ≤ 100000) :
    Calls Try.prog 30 #[v] w fun e w' => ∃ v' s h, e = .returned v' ∧ IntSl v' s h ∧ IsStuck (Rel l) s ∧ Sat w' (h ++ F) := by
  have HG := Lib.hid (graph_any v l F w hs hE hl)
  have HI := Lib.hid hi
  clear hs hE hi
  go_enter Try.func30, Try.ntmps30
  go_wp2_with fail
  refine (HG.out).mono ?_
  rintro e w1 ⟨m, L, rfl, hok, hg⟩
  have hst := stuck_any m L F _ w1 hg (hok.gbd hg.nodup HI.out hl)
  rw [hok.rel] at hst
  have HST := Lib.hid hst
  clear hg hst hok HG
  go_wp2_with fail
  refine (HST.out).mono ?_
  rintro e w2 ⟨v', s, h, rfl, hv, hs, hg⟩
  obtain ⟨a, c, rfl⟩ := sl_form hv
  have FIN := Lib.hid (And.intro hv (And.intro hs hg.frame))
  clear hv hs hg HST
  go_wp2_with fail
  go_ret
  exact ⟨_, s, h, rfl, FIN.out.1, FIN.out.2.1, FIN.out.2.2⟩
theorem Victim_any (v : Value) (l : List (Int × Int)) (F : Heaplet) (w : World) (hs : Sat w F) (hE : EdgesIn F v l) (hi : InI l) (hl : l.length ≤ 100000) :
    Calls Try.prog 28 #[v] w fun e w' => ∃ s, e = .returned (.tuple #[kI (s.getLast?.getD 0), .bool (!s.isEmpty)]) ∧ IsStuck (Rel l) s ∧ Sat w' F := by
  have HG := Lib.hid (Stuck_any v l F w hs hE hi hl)
  clear hs hE hi
  go_enter Try.func28, Try.ntmps28
  go_wp2_with fail
  refine (HG.out).mono ?_
  rintro e w1 ⟨v', s, h, rfl, hv, hst, hs1⟩
  by_cases he : s = []
  · subst he
    obtain ⟨a, c, rfl⟩ := sl_form hv
    have FIN := Lib.hid (And.intro hst hs1.right)
    clear hv hst hs1 HG
    go_wp2_with fail
    go_ret2
    exact ⟨[], rfl, FIN.out⟩
  · obtain ⟨s', k, rfl⟩ : ∃ s' k, s = s' ++ [k] := ⟨_, _, (List.dropLast_concat_getLast he).symm⟩
    have hTl : (s' ++ [k]).length = s'.length + 1 := by simp
    obtain ⟨ta, tc, e1, hcell⟩ := sl_cells fI_len hv hs1
    obtain ⟨tg, rfl, _, hcu⟩ := hcell s'.length k (by simp)
    rw [hTl] at e1
    subst e1
    have ca := hcu 0 (kI k) rfl
    simp only [Nat.mul_one, Nat.add_zero] at ca
    have hl2 : s'.length + 1 ≤ 9223372036854775807 := by
      rcases hv.2 with ⟨e2, _⟩ | ⟨g', cap', cur, e2, hnc, hcm, _⟩
      · cases e2
      · unfold maxLen at hcm
        rw [hTl] at hnc
        omega
    have FIN := Lib.hid (And.intro hst hs1.right)
    clear hv hst hs1 HG hcu hcell hTl he
    go_wp2_with fail
    go_ret2
    refine ⟨s' ++ [k], ?_, FIN.out⟩
    simp
end Go.Proofs.Ytjkpghhbpcjjiaa
