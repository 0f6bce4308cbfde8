/- KnotTurns walked. Conditions: none. -/
import Derived.Test.YtjkpghhbpcjjiaaKnot6
import Derived.Test.YtjkpghhbpcjjiaaSlA
namespace Go.Proofs.Ytjkpghhbpcjjiaa
open Go Go.MapKept Go.RowKit Go.Proofs

theorem edge_app {w : World} {v : Value} {l l2 : List (Int × Int)} {h F : Heaplet} {a : Option Addr} {c : Nat} (hv : EdgeSl v l h) (s : Sat w (h ++ F)) (hs : SrcAt flP 2 w a l2) (hl : l.length + l2.length ≤ 1000000) :
    ∃ v' w' h', (∀ ty, (Builtin.append_ #[46, 46] ty #[v, .slice a l2.length c]).run Try.prog w = .ok v' w') ∧ EdgeSl v' (l ++ l2) h' ∧ Sat w' (h' ++ F) := by
  obtain ⟨i0, hi, hz, hsize, hby⟩ := info_parts infoEdge
  exact sl_app (P := Try.prog) flP_len Try.underlying46 hi hz hsize hby rfl (by decide) hv s hs (fun q u hu => by
    simp only [List.mem_cons, List.not_mem_nil, or_false] at hu
    rcases hu with rfl | rfl <;> rfl) (by unfold maxLen; omega) (by omega)
theorem turn_rel {l : List (Int × Int)} {k : Nat} {x : Int × Int} (hx : x ∈ l) : Rel (l.drop k ++ l.take k ++ [x]) = Rel l := rl_ext fun a b => by
  unfold Rel
  rw [List.mem_append, List.mem_append, List.mem_singleton]
  constructor
  · rintro ((h | h) | h)
    · exact List.mem_of_mem_drop h
    · exact List.mem_of_mem_take h
    · rw [h]; exact hx
  · intro h
    rw [← List.take_append_drop k l, List.mem_append] at h
    rcases h with h | h
    · exact .inl (.inr h)
    · exact .inl (.inl h)
theorem turn_in {l : List (Int × Int)} {k : Nat} {x : Int × Int} (h : InI l) (hx : x ∈ l) : InI (l.drop k ++ l.take k ++ [x]) := by
  intro q hq
  rw [List.mem_append, List.mem_append, List.mem_singleton] at hq
  rcases hq with (hq | hq) | rfl
  · exact h q (List.mem_of_mem_drop hq)
  · exact h q (List.mem_of_mem_take hq)
  · exact h _ hx
set_option maxRecDepth 100000 in
set_option maxHeartbeats 4000000 in
theorem turns_walk (p : Option Addr) (len cap : Nat) (A : Nat → Nat → Int) (turn twice : Int) (W : World) (ha : IntsAt W p len 2 A) (ht0 : -9223372036854775808 ≤ turn) (ht1 : turn ≤ 9223372036854775807) (hw0 : -9223372036854775808 ≤ twice) (hw1 : twice ≤ 9223372036854775807) :
    Calls Try.prog 8 #[.slice p len cap, .int .i64 turn, .int .i64 twice] W (Ret (.bool true) (RowKit.Below W.heap.size W)) := by
  have hlen := ha.1
  have HPI := Lib.hid (pairs_in ha)
  have HII := Lib.hid (pairL_in ha)
  clear ha
  go_enter Try.func8, Try.ntmps8
  go_wp2_with fail
  refine (awake15 (allOf W) W (sat_all W)).mono ?_
  rintro e w0 ⟨rfl, hs0⟩
  by_cases hl : len = 0 ∨ 60 < len
  · have HB := Lib.hid hs0.below
    clear hs0
    rcases hl with rfl | hl
    · go_wp2_with fail
      go_ret
      exact ⟨rfl, HB.out⟩
    · have hne : ((len : Int) == 0) = false := by rw [beq_eq_false_iff_ne]; omega
      go_wp2_with fail
      go_ret
      exact ⟨rfl, HB.out⟩
  · have hne : ((len : Int) == 0) = false := by rw [beq_eq_false_iff_ne]; omega
    have hed := edges_any p len cap A (allOf W) w0 hs0 HPI.out (by omega)
    have HED := Lib.hid hed
    have h60 : len ≤ 60 := by omega
    have hpos : 0 < len := by omega
    clear hs0 hed hl
    go_wp2_with fail
    refine (HED.out).mono ?_
    rintro e w1 ⟨v1, v2, h1, h2, rfl, hv1, _, hs1⟩
    obtain ⟨l, hl'⟩ : ∃ l, pairL A len = l := ⟨_, rfl⟩
    have hll : l.length = len := by rw [← hl', pairL_len]
    have hin := HII.out
    rw [hl'] at hv1 hin
    obtain ⟨k, hk, hk0, hk1⟩ : ∃ k, wrap64 ((IntKind.u64.wrap turn).tmod (len : Int)) = k ∧ 0 ≤ k ∧ k < (len : Int) := ⟨_, rfl, umod_bd turn len (by omega) (by omega)⟩
    obtain ⟨t, ht, ht0, ht1⟩ : ∃ t, wrap64 ((IntKind.u64.wrap twice).tmod (len : Int)) = t ∧ 0 ≤ t ∧ t < (len : Int) := ⟨_, rfl, umod_bd twice len (by omega) (by omega)⟩
    obtain ⟨a1, c1, rfl⟩ := sl_form hv1
    rw [hll]
    have HV1 := Lib.hid hv1
    have HS1 := Lib.hid hs1
    have HIN := Lib.hid hin
    have hcap : len ≤ c1 := by
      rcases hv1.2 with ⟨e2, e3, _⟩ | ⟨g', cap', cur, e2, hnc, _⟩
      · omega
      · simp only [Value.slice.injEq] at e2
        omega
    clear hv1 hs1 hin HED HII HPI hl'
    go_wp2_with fail
    rw [hk]
    clear hk
    obtain ⟨kn, rfl⟩ := Int.eq_ofNat_of_zero_le hk0
    have hkn : kn < len := by omega
    obtain ⟨a1', c1', e1, hcells⟩ := sl_cells flP_len HV1.out HS1.out
    rw [hll] at e1
    cases e1
    obtain ⟨q0, hq0⟩ : ∃ q, l[0]? = some q := ⟨_, List.getElem?_eq_getElem (by omega)⟩
    obtain ⟨lg, rfl, _, _⟩ := hcells 0 q0 hq0
    have hck : ¬ c1 = kn := by omega
    have src : ∀ (l2 : List (Int × Int)) (w : World) (o : Nat), (∀ i q, l2[i]? = some q → l[o + i]? = some q) → Sat w (h1 ++ (h2 ++ allOf W)) → SrcAt flP 2 w (some ⟨lg, o * 2, none⟩) l2 := by
      intro l2 w o ho hw i q hq
      obtain ⟨a2, c2, e2, hc2⟩ := sl_cells flP_len HV1.out hw
      cases e2
      obtain ⟨g2, e3, _, hu⟩ := hc2 (o + i) q (ho i q hq)
      cases e3
      refine ⟨lg, o * 2, rfl, fun j u hj => ?_⟩
      have := hu j u hj
      rw [Nat.add_mul] at this
      exact this
    have s2 := (HS1.out.new (.cells #[] 58)).drew
    have hkl : kn ≤ len := by omega
    have hkc : kn ≤ c1 := by omega
    have n2 : EdgeSl (.slice (some ⟨w1.heap.size, 0, none⟩) 0 0) [] [.blk w1.heap.size (.cells #[] 58)] := sl_new _ _ _
    obtain ⟨v3, w3, h3, hap3, hv3, hs3⟩ := edge_app n2 s2 (src (l.drop kn) _ kn (fun i q hq => by rw [List.getElem?_drop] at hq; exact hq) s2.tail) (c := c1 - kn) (by simp; omega)
    obtain ⟨v4, w4, h4, hap4, hv4, hs4⟩ := edge_app hv3 hs3 (src (l.take kn) _ 0 (fun i q hq => by
      rw [List.getElem?_take] at hq
      split at hq
      · rw [Nat.zero_add]; exact hq
      · cases hq) hs3.right) (c := c1) (by simp; omega)
    have e3 : (l.drop kn).length = len - kn := by rw [List.length_drop, hll]
    have e4 : (l.take kn).length = kn := by rw [List.length_take, hll]; omega
    rw [e3] at hap3
    rw [e4, Nat.zero_mul] at hap4
    have HAP3 := Lib.hid hap3
    have HAP4 := Lib.hid hap4
    obtain ⟨tn, rfl⟩ := Int.eq_ofNat_of_zero_le ht0
    have htn : tn < len := by omega
    obtain ⟨x, hx⟩ : ∃ x, l[tn]? = some x := ⟨_, List.getElem?_eq_getElem (by omega)⟩
    have hxm : x ∈ l := List.mem_of_getElem? hx
    have hse : Sat w4 (h1 ++ (h2 ++ allOf W)) := hs4.right
    obtain ⟨a5, c5, e5, hc5⟩ := sl_cells flP_len HV1.out hse
    cases e5
    obtain ⟨g5, e6, _, hu5⟩ := hc5 tn x hx
    cases e6
    have d0 := hu5 0 _ rfl
    have d1 := hu5 1 _ rfl
    simp only [Nat.add_zero] at d0
    obtain ⟨x1, x2⟩ := x
    simp only at d0 d1
    obtain ⟨v6, w6, h6, hap6, hv6, hs6⟩ := edge_push (A := []) (B := h1 ++ (h2 ++ allOf W)) (x1, x2) hv4 (hs4.new (.cells #[kI x1, kI x2] 58)) (by simp; omega)
    have HAP6 : ∀ ty, (Builtin.append_ #[46, 46] ty #[v4, .slice (some ⟨w4.heap.size, 0, none⟩) 1 1]).run Try.prog (w4.alloc (.cells #[kI x1, kI x2] 58)) = .ok v6 w6 := hap6
    have HAP6 := Lib.hid HAP6
    rw [List.nil_append] at hv6
    have hE1 := edges_in HV1.out (h2 ++ allOf W)
    rw [hll] at hE1
    have hvi1 := Victims_any (.slice (some ⟨lg, 0, none⟩) len c1) l (h6 ++ (h1 ++ (h2 ++ allOf W))) w6 hs6 (hE1.mono (fun w hw => hw.right)) HIN.out (by omega)
    have HV1c := Lib.hid hvi1
    have HE6 := Lib.hid (edges_in hv6 (h1 ++ (h2 ++ allOf W)))
    have HREL := Lib.hid (turn_rel (k := kn) hxm)
    have HIN6 := Lib.hid (turn_in (k := kn) HIN.out hxm)
    have hl6 : (l.drop kn ++ l.take kn ++ [(x1, x2)]).length ≤ 100000 := by
      rw [List.length_append, List.length_append, List.length_drop, List.length_take]
      simp
      omega
    have HL6 := Lib.hid hl6
    obtain ⟨m, hm⟩ : ∃ m, l.drop kn ++ l.take kn ++ [(x1, x2)] = m := ⟨_, rfl⟩
    rw [hm] at HE6 HREL HIN6 HL6 hv6
    obtain ⟨a6, c6, rfl⟩ := sl_form hv6
    clear s2 n2 hap3 hv3 hs3 hap4 hv4 hs4 hcells src hq0 hx hxm hse hc5 hu5 hap6 hv6 hs6 hE1 hvi1 hl6 hm
    go_region_law (first | (refine step_append_run (by rfl) _ _ _ _ (by rfl) _ _ _ w3 (by rfl) (by rfl) HAP3.out ?_) | (refine step_append_run (by rfl) _ _ _ _ (by rfl) _ _ _ w4 (by rfl) (by rfl) HAP4.out ?_))
    go_wp2_with (at_builtin; refine wpList_append_run rfl _ _ _ _ rfl _ _ _ _ rfl rfl HAP6.out ?_)
    refine (HV1c.out).mono ?_
    rintro e w7 ⟨v7, s7, h7, rfl, hv7, hvc7, hvl7, hs7⟩
    have hvi2 := Victims_any _ m (h7 ++ (h6 ++ (h1 ++ (h2 ++ allOf W)))) w7 hs7 (HE6.out.mono (fun w hw => hw.right)) HIN6.out HL6.out
    rw [HREL.out] at hvi2
    have HVI2 := Lib.hid hvi2
    have HV7 := Lib.hid hv7
    have HC7 := Lib.hid hvc7
    obtain ⟨a7, c7, rfl⟩ := sl_form hv7
    clear hvi2 hv7 hvc7 hs7 HV1c HE6 HREL HIN6 HL6
    go_wp2_with fail
    refine (HVI2.out).mono ?_
    rintro e w8 ⟨v8, s8, h8, rfl, hv8, hvc8, hvl8, hs8⟩
    obtain rfl := hvc8.unique HC7.out
    obtain ⟨a7', c7', e7, hcs7⟩ := int_cells HV7.out hs8.right
    cases e7
    obtain ⟨a8, c8, rfl, hcs8⟩ := int_cells hv8 hs8
    have HCS7 := Lib.hid hcs7
    have HCS8 := Lib.hid hcs8
    have HBE : Hid (∀ n, RowKit.Below W.heap.size W (w8.drewN n)) := Lib.hid fun n => (hs8.right.right.right.right.right.of_heap (w' := w8.drewN n) rfl ⟨rfl, rfl, rfl⟩).below
    have hs8l : s8.length ≤ 100000 := by omega
    clear hcs7 hcs8 hv8 hs8 hvc8 HVI2 HV7 HC7
    go_wp2_with fail
    go_loopw [13] (fun v13 wx => ∃ r : Nat, r ≤ s8.length ∧ v13 = .int .i64 r ∧ ∃ n, wx = w8.drewN n) (fun v13 _ => 200000 - (RowKit.intOf v13).toNat)
    case atStart => exact ⟨0, by omega, rfl, 0, rfl⟩
    case round =>
      obtain ⟨r, hr, rfl, n, rfl⟩ := hrel
      have r0 : (0 : Int) ≤ (r : Int) := by omega
      by_cases hlr : r < s8.length
      · have r1 : (r : Int) < (s8.length : Int) := by omega
        obtain ⟨x, hx⟩ : ∃ x, s8[r]? = some x := ⟨_, List.getElem?_eq_getElem hlr⟩
        obtain ⟨g7, rfl, b7⟩ := HCS7.out r x hx
        obtain ⟨g8, rfl, b8⟩ := HCS8.out r x hx
        clear hx
        go_upto_region 16 with (fail)
        go_quiet (fail)
        go_wp2_with fail
        go_roundw
        case rel => exact ⟨r + 1, by omega, by simp, _, rfl⟩
        case measure => simp only [RowKit.intOf]; omega
      · obtain rfl : r = s8.length := by omega
        go_wp2_with fail
        go_ret
        exact ⟨rfl, HBE.out n⟩
end Go.Proofs.Ytjkpghhbpcjjiaa
