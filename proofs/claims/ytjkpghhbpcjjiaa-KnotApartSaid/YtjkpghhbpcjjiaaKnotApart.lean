/- KnotApart walked. Conditions: none. -/
import Derived.Test.YtjkpghhbpcjjiaaKnotRow
namespace Go.Proofs.Ytjkpghhbpcjjiaa
open Go Go.MapKept Go.RowKit Go.Proofs

/-- The names of one lot: from o on. -/
def lotQ (o x : Int) : Int := o + wrap64 ((IntKind.u64.wrap x).tmod 50)
theorem lotQ_bd {o x : Int} (h0 : -9223372036854775808 ≤ x) (h1 : x ≤ 9223372036854775807) : o ≤ lotQ o x ∧ lotQ o x < o + 50 := by
  obtain ⟨k, hk, h2, h3⟩ : ∃ k, wrap64 ((IntKind.u64.wrap x).tmod 50) = k ∧ 0 ≤ k ∧ k < 50 := ⟨_, rfl, umod_bd x 50 (by omega) (by omega)⟩
  unfold lotQ
  rw [hk]
  omega
def lotL (o : Int) (A : Nat → Nat → Int) (n : Nat) : List (Int × Int) := (pairL A n).map fun q => (lotQ o q.1, lotQ o q.2)
theorem lotL_len (o : Int) (A : Nat → Nat → Int) (n : Nat) : (lotL o A n).length = n := by simp [lotL, pairL_len]
theorem lotL_step (o : Int) (A : Nat → Nat → Int) (n : Nat) : lotL o A (n + 1) = lotL o A n ++ [(lotQ o (A n 0), lotQ o (A n 1))] := by simp [lotL, pairL_step]
theorem lotL_bd {W : World} {p : Option Addr} {len : Nat} {A : Nat → Nat → Int} (h : IntsAt W p len 2 A) (o : Int) : ∀ q ∈ lotL o A len, (o ≤ q.1 ∧ q.1 < o + 50) ∧ (o ≤ q.2 ∧ q.2 < o + 50) := by
  intro q hq
  obtain ⟨r, hr, rfl⟩ := List.mem_map.1 hq
  obtain ⟨i, hi, rfl⟩ := List.mem_map.1 hr
  obtain ⟨b, off, _, _, hc⟩ := h.2 i (List.mem_range.1 hi)
  exact ⟨lotQ_bd (hc 0 (by omega)).2.1 (hc 0 (by omega)).2.2, lotQ_bd (hc 1 (by omega)).2.1 (hc 1 (by omega)).2.2⟩
/-- Of a pair the bounds. -/
def PairsBd (len : Nat) (A : Nat → Nat → Int) : Prop := ∀ i, i < len → ∀ j, j < 2 → -9223372036854775808 ≤ A i j ∧ A i j ≤ 9223372036854775807
theorem pairs_bd {W : World} {p : Option Addr} {len : Nat} {A : Nat → Nat → Int} (h : IntsAt W p len 2 A) : PairsBd len A := fun i hi j hj => by
  obtain ⟨b, off, _, _, hc⟩ := h.2 i hi
  exact (hc j hj).2
theorem src_of {a : Option Addr} {c : Nat} {l : List (Int × Int)} {h F : Heaplet} {w : World} (hv : EdgeSl (.slice a l.length c) l h) (s : Sat w (h ++ F)) : SrcAt flP 2 w a l := by
  intro i q hq
  obtain ⟨a2, c2, e2, hc2⟩ := sl_cells flP_len hv s
  cases e2
  obtain ⟨g2, e3, _, hu⟩ := hc2 i q hq
  exact ⟨g2, 0, e3, fun j u hj => by have := hu j u hj; simpa using this⟩
theorem in_of_bd {o : Int} {l : List (Int × Int)} (h : ∀ q ∈ l, (o ≤ q.1 ∧ q.1 < o + 50) ∧ (o ≤ q.2 ∧ q.2 < o + 50)) (h0 : 0 ≤ o) (h1 : o ≤ 1000) : InI l := fun q hq => by
  have := h q hq
  omega
theorem stuck_lenA {l : List (Int × Int)} {s : List Int} (h : IsStuck (Rel l) s) : s.length ≤ l.length := by
  have := nodup_le (N := l.map (·.1)) (h.1.imp (fun h => by omega)) fun x hx => by
    obtain ⟨c, hc⟩ := tg_start ((h.2 x).1 hx)
    exact List.mem_map.2 ⟨_, hc, rfl⟩
  simpa using this
set_option maxRecDepth 100000 in
set_option maxHeartbeats 4000000 in
theorem apart_walk (p : Option Addr) (len cap : Nat) (A : Nat → Nat → Int) (p2 : Option Addr) (len2 cap2 : Nat) (A2 : Nat → Nat → Int) (W : World) (ha : IntsAt W p len 2 A) (ha2 : IntsAt W p2 len2 2 A2) :
    Calls Try.prog 10 #[.slice p len cap, .slice p2 len2 cap2] W (Ret (.bool true) (RowKit.Below W.heap.size W)) := by
  have hlen := ha.1
  have hlen2 := ha2.1
  have HP1 := Lib.hid (pairs_in ha)
  have HP2 := Lib.hid (pairs_in ha2)
  have HB1 := Lib.hid (pairs_bd ha)
  have HB2 := Lib.hid (pairs_bd ha2)
  have HL1 := Lib.hid (lotL_bd ha 0)
  have HL2 := Lib.hid (lotL_bd ha2 50)
  clear ha ha2
  go_enter Try.func10, Try.ntmps10
  go_wp2_with fail
  refine (awake15 (allOf W) W (sat_all W)).mono ?_
  rintro e w0 ⟨rfl, hs0⟩
  by_cases hl : 30 < len ∨ 30 < len2
  · have HB := Lib.hid hs0.below
    clear hs0
    rcases hl with hl | hl
    · go_wp2_with fail
      go_ret
      exact ⟨rfl, HB.out⟩
    · by_cases hl1 : 30 < len
      · go_wp2_with fail
        go_ret
        exact ⟨rfl, HB.out⟩
      · go_wp2_with fail
        go_ret
        exact ⟨rfl, HB.out⟩
  · have h30 : len ≤ 30 := by omega
    have h31 : len2 ≤ 30 := by omega
    have s1 := (hs0.new (.cells #[] 58)).new (.cells #[] 58)
    rw [World.size_alloc] at s1
    have n1 : EdgeSl (.slice (some ⟨w0.heap.size, 0, none⟩) 0 0) (lotL 0 A 0) [.blk w0.heap.size (.cells #[] 58)] := sl_new _ _ _
    have n2 : EdgeSl (.slice (some ⟨w0.heap.size + 1, 0, none⟩) 0 0) (lotL 50 A2 0) [.blk (w0.heap.size + 1) (.cells #[] 58)] := sl_new _ _ _
    have H0 := Lib.hid (And.intro n1 (And.intro n2 s1))
    clear hs0 s1 n1 n2 hl
    go_upto_block 0 with (fail)
    generalize w0.heap.size = g at *
    go_cut [5] (fun v5 wx => ∃ h, EdgeSl v5 (lotL 0 A len) h ∧ Sat wx (h ++ (.blk (g + 1) (.cells #[] 58) :: allOf W)))
    case first =>
      go_wp2_with fail
      go_loopw [5, 7] (fun v5 v7 wr => ∃ (r : Nat) (h : Heaplet), r ≤ len ∧ v7 = .int .i64 r ∧ EdgeSl v5 (lotL 0 A r) h ∧ Sat wr (h ++ (.blk (g + 1) (.cells #[] 58) :: allOf W))) (fun _ v7 _ => 100000 - (RowKit.intOf v7).toNat)
      case atStart => exact ⟨0, _, by omega, rfl, H0.out.1, H0.out.2.2.swap⟩
      case round =>
        clear H0
        obtain ⟨r, h1, hr, rfl, hv1, hs⟩ := hrel
        have r0 : (0 : Int) ≤ (r : Int) := by omega
        obtain ⟨a1, c1, rfl⟩ := sl_form hv1
        by_cases hlr : r < len
        · have r1 : (r : Int) < (len : Int) := by omega
          obtain ⟨ba, off, rfl, hcs⟩ := HP1.out r hlr
          obtain ⟨d0, d1⟩ := hcs wr hs.right.tail
          have hst := lotL_step 0 A r
          have hll : (lotL 0 A r).length + 1 ≤ 1000000 := by rw [lotL_len]; omega
          have b0 := HB1.out r hlr 0 (by omega)
          have b1 := HB1.out r hlr 1 (by omega)
          obtain ⟨k0, hk0, k00, k01⟩ : ∃ k, wrap64 ((IntKind.u64.wrap (A r 0)).tmod 50) = k ∧ 0 ≤ k ∧ k < 50 := ⟨_, rfl, umod_bd (A r 0) 50 (by omega) (by omega)⟩
          obtain ⟨k1, hk1, k10, k11⟩ : ∃ k, wrap64 ((IntKind.u64.wrap (A r 1)).tmod 50) = k ∧ 0 ≤ k ∧ k < 50 := ⟨_, rfl, umod_bd (A r 1) 50 (by omega) (by omega)⟩
          unfold lotQ at hst
          rw [hk0, hk1, Int.zero_add, Int.zero_add] at hst
          obtain ⟨v3, w3, h3, hap, hv3, hs3⟩ := edge_push (A := []) (B := .blk (g + 1) (.cells #[] 58) :: allOf W) (k0, k1) hv1 (hs.drew.new (.cells #[kI k0, kI k1] 58)) hll
          rw [← hst] at hv3
          have HAP : ∀ ty, (Builtin.append_ #[46, 46] ty #[_, .slice (some ⟨wr.heap.size, 0, none⟩) 1 1]).run Try.prog (wr.drew.alloc (.cells #[kI k0, kI k1] 58)) = .ok v3 w3 := hap
          have HAP := Lib.hid HAP
          have H3 := Lib.hid (And.intro hv3 (show Sat w3 (h3 ++ (.blk (g + 1) (.cells #[] 58) :: allOf W)) from hs3))
          have hk0 : IntKind.i64.wrap ((IntKind.u64.wrap (A r 0)).tmod 50) = k0 := (IntWalk.i64_left _).trans hk0
          have hk1 : IntKind.i64.wrap ((IntKind.u64.wrap (A r 1)).tmod 50) = k1 := (IntWalk.i64_left _).trans hk1
          generalize (lotL 0 A r).length = rl at *
          generalize A r 0 = x at *
          generalize A r 1 = y at *
          clear hap hv3 hs3 hv1 hs hcs hst
          go_upto_region 10 with (fail)
          go_region_law ((refine step_append_run (by rfl) _ _ _ _ (by rfl) _ _ _ w3 (by rfl) (by rfl) HAP.out ?_))
          all_goals
            go_wp2_with fail
            exact ⟨⟨r + 1, h3, by omega, by simp, H3.out.1, H3.out.2⟩, by simp only [RowKit.intOf]; omega⟩
        · obtain rfl : r = len := by omega
          have FIN := Lib.hid (And.intro hv1 hs)
          clear hv1 hs hlr
          go_wp2_with fail
          go_meet
          exact ⟨h1, FIN.out.1, FIN.out.2⟩
    case rest =>
      clear HP1 HB1
      obtain ⟨h5, hv5, hs⟩ := hcut
      have n2 : EdgeSl (.slice (some ⟨g + 1, 0, none⟩) 0 0) (lotL 50 A2 0) [.blk (g + 1) (.cells #[] 58)] := sl_new _ _ _
      have hs2 : Sat wc ([.blk (g + 1) (.cells #[] 58)] ++ (h5 ++ allOf W)) := hs.perm (List.perm_middle (l₁ := h5))
      have H0 := Lib.hid (And.intro n2 hs2)
      have HV5 := Lib.hid hv5
      obtain ⟨a5, c5, rfl⟩ := sl_form hv5
      generalize hla : lotL 0 A len = la at *
      have hlal : la.length ≤ 30 := by rw [← hla, lotL_len]; exact h30
      clear hs n2 hs2 hv5 hla
      go_upto_block 2 with (fail)
      go_cut [6] (fun v6 wx => ∃ h, EdgeSl v6 (lotL 50 A2 len2) h ∧ Sat wx (h ++ (h5 ++ allOf W)))
      case first =>
        go_wp2_with fail
        go_loopw [6, 8] (fun v6 v8 wr => ∃ (r : Nat) (h : Heaplet), r ≤ len2 ∧ v8 = .int .i64 r ∧ EdgeSl v6 (lotL 50 A2 r) h ∧ Sat wr (h ++ (h5 ++ allOf W))) (fun _ v8 _ => 100000 - (RowKit.intOf v8).toNat)
        case atStart => exact ⟨0, _, by omega, rfl, H0.out.1, H0.out.2⟩
        case round =>
          clear H0
          obtain ⟨r, h1, hr, rfl, hv1, hs⟩ := hrel
          have r0 : (0 : Int) ≤ (r : Int) := by omega
          obtain ⟨a1, c1, rfl⟩ := sl_form hv1
          by_cases hlr : r < len2
          · have r1 : (r : Int) < (len2 : Int) := by omega
            obtain ⟨ba, off, rfl, hcs⟩ := HP2.out r hlr
            obtain ⟨d0, d1⟩ := hcs wr hs.right.right
            have hst := lotL_step 50 A2 r
            have hll : (lotL 50 A2 r).length + 1 ≤ 1000000 := by rw [lotL_len]; omega
            have b0 := HB2.out r hlr 0 (by omega)
            have b1 := HB2.out r hlr 1 (by omega)
            obtain ⟨k0, hk0, k00, k01⟩ : ∃ k, wrap64 ((IntKind.u64.wrap (A2 r 0)).tmod 50) = k ∧ 0 ≤ k ∧ k < 50 := ⟨_, rfl, umod_bd (A2 r 0) 50 (by omega) (by omega)⟩
            obtain ⟨k1, hk1, k10, k11⟩ : ∃ k, wrap64 ((IntKind.u64.wrap (A2 r 1)).tmod 50) = k ∧ 0 ≤ k ∧ k < 50 := ⟨_, rfl, umod_bd (A2 r 1) 50 (by omega) (by omega)⟩
            unfold lotQ at hst
            rw [hk0, hk1] at hst
            obtain ⟨v3, w3, h3, hap, hv3, hs3⟩ := edge_push (A := []) (B := h5 ++ allOf W) (50 + k0, 50 + k1) hv1 (hs.drew.new (.cells #[kI (50 + k0), kI (50 + k1)] 58)) hll
            rw [← hst] at hv3
            have HAP : ∀ ty, (Builtin.append_ #[46, 46] ty #[_, .slice (some ⟨wr.heap.size, 0, none⟩) 1 1]).run Try.prog (wr.drew.alloc (.cells #[kI (50 + k0), kI (50 + k1)] 58)) = .ok v3 w3 := hap
            have HAP := Lib.hid HAP
            have H3 := Lib.hid (And.intro hv3 (show Sat w3 (h3 ++ (h5 ++ allOf W)) from hs3))
            have hk0 : IntKind.i64.wrap ((IntKind.u64.wrap (A2 r 0)).tmod 50) = k0 := (IntWalk.i64_left _).trans hk0
            have hk1 : IntKind.i64.wrap ((IntKind.u64.wrap (A2 r 1)).tmod 50) = k1 := (IntWalk.i64_left _).trans hk1
            have hw0 : IntKind.i64.wrap (50 + k0) = 50 + k0 := IntWalk.i64_in _ (by omega)
            have hw1 : IntKind.i64.wrap (50 + k1) = 50 + k1 := IntWalk.i64_in _ (by omega)
            generalize (lotL 50 A2 r).length = rl at *
            generalize A2 r 0 = x at *
            generalize A2 r 1 = y at *
            clear hap hv3 hs3 hv1 hs hcs hst
            go_upto_region 14 with (fail)
            go_region_law ((refine step_append_run (by rfl) _ _ _ _ (by rfl) _ _ _ w3 (by rfl) (by rfl) HAP.out ?_))
            all_goals
              go_wp2_with fail
              exact ⟨⟨r + 1, h3, by omega, by simp, H3.out.1, H3.out.2⟩, by simp only [RowKit.intOf]; omega⟩
          · obtain rfl : r = len2 := by omega
            have FIN := Lib.hid (And.intro hv1 hs)
            clear hv1 hs hlr
            go_wp2_with fail
            go_meet
            exact ⟨h1, FIN.out.1, FIN.out.2⟩
      case rest =>
        clear H0 HP2 HB2
        obtain ⟨h6, hv6, hs⟩ := hcut
        generalize hlb : lotL 50 A2 len2 = lb at *
        have hlbl : lb.length ≤ 30 := by rw [← hlb, lotL_len]; exact h31
        obtain ⟨a6, c6, rfl⟩ := sl_form hv6
        have HV6 := Lib.hid hv6
        have HSM := Lib.hid hs
        clear hv6 hs
        generalize hwd : wc = wd at *
        have s1 := HSM.out.new (.cells #[] 58)
        have n1 : EdgeSl (.slice (some ⟨wd.heap.size, 0, none⟩) 0 0) [] [.blk wd.heap.size (.cells #[] 58)] := sl_new _ _ _
        obtain ⟨v3, w3, h3, hap3, hv3, hs3⟩ := edge_app n1 s1 (src_of HV6.out s1.tail) (c := c6) (by simp; omega)
        rw [List.nil_append] at hv3
        have hs3' : Sat w3 (h5 ++ (h3 ++ (h6 ++ allOf W))) := by
          refine hs3.perm ?_
          exact ((List.perm_append_comm_assoc h6 h5 _).append_left h3).trans (List.perm_append_comm_assoc h3 h5 _)
        obtain ⟨v4, w4, h4, hap4, hv4, hs4⟩ := edge_app hv3 hs3 (src_of HV5.out hs3') (c := c5) (by omega)
        have HL6 := Lib.hid (fun q hq => ⟨(HL2.out q hq).1.1, (HL2.out q hq).2.1⟩ : ∀ q ∈ lb, 50 ≤ q.1 ∧ 50 ≤ q.2)
        have HL5 := Lib.hid (fun q hq => ⟨by have := (HL1.out q hq).1.2; omega, by have := (HL1.out q hq).2.2; omega⟩ : ∀ q ∈ la, q.1 < 50 ∧ q.2 < 50)
        have HI5 := Lib.hid (in_of_bd HL1.out (by omega) (by omega))
        have HI6 := Lib.hid (in_of_bd HL2.out (by omega) (by omega))
        have hiX : InI (lb ++ la) := fun q hq => (List.mem_append.1 hq).elim (HI6.out q) (HI5.out q)
        have hxl : (lb ++ la).length ≤ 100000 := by rw [List.length_append]; omega
        have hst := Stuck_any v4 (lb ++ la) _ w4 hs4 (edges_in hv4 _) hiX hxl
        have HST := Lib.hid hst
        have HAP3 := Lib.hid hap3
        have HAP4 := Lib.hid hap4
        have HF : Hid (∀ w, Sat w (h4 ++ (h6 ++ (h5 ++ allOf W))) → Sat w (h5 ++ allOf W) ∧ Sat w (h6 ++ (h5 ++ allOf W)) ∧ RowKit.Below W.heap.size W w) := Lib.hid fun w hw => ⟨hw.right.right, hw.right, hw.right.right.right.below⟩
        obtain ⟨a3, c3, rfl⟩ := sl_form hv3
        generalize hX : lb ++ la = X at *
        have HX := Lib.hid hX
        obtain ⟨a4, c4, rfl⟩ := sl_form hv4
        clear s1 n1 hap3 hv3 hs3 hs3' hap4 hv4 hs4 hiX hst hxl hX HL1 HL2 HSM
        go_wp2_with (at_builtin; first | (refine wpList_append_run rfl _ _ _ _ rfl _ _ _ _ rfl rfl HAP3.out ?_) | (refine wpList_append_run rfl _ _ _ _ rfl _ _ _ _ rfl rfl HAP4.out ?_))
        refine (HST.out).mono ?_
        rintro e w5 ⟨v9, s9, h9, rfl, hv9, hst9, hs9⟩
        have hE5 : EdgesIn (h9 ++ (h4 ++ (h6 ++ (h5 ++ allOf W)))) (.slice a5 la.length c5) la := (edges_in HV5.out (allOf W)).mono (fun w hw => (HF.out w hw.right).1)
        have hE6 : EdgesIn (h9 ++ (h4 ++ (h6 ++ (h5 ++ allOf W)))) (.slice a6 lb.length c6) lb := (edges_in HV6.out (h5 ++ allOf W)).mono (fun w hw => (HF.out w hw.right).2.1)
        have hB9 : ∀ w, Sat w (h9 ++ (h4 ++ (h6 ++ (h5 ++ allOf W)))) → RowKit.Below W.heap.size W w := fun w hw => (HF.out w hw.right).2.2
        have hN9 := names_in hv9 (h4 ++ (h6 ++ (h5 ++ allOf W)))
        generalize h9 ++ (h4 ++ (h6 ++ (h5 ++ allOf W))) = F9 at *
        have hst := Stuck_any _ la _ w5 hs9 hE5 HI5.out (by omega)
        have HST5 := Lib.hid hst
        have HE6 := Lib.hid hE6
        have HB9 := Lib.hid hB9
        have HN9 := Lib.hid hN9
        have HS9 := Lib.hid hst9
        obtain ⟨a9, c9, rfl⟩ := sl_form hv9
        clear hst hE5 hE6 hB9 hN9 hs9 hv9 hst9 HST HAP3 HAP4
        go_wp2_with fail
        refine (HST5.out).mono ?_
        rintro e w6 ⟨v10, s10, h10, rfl, hv10, hst10, hs10⟩
        have hst := Stuck_any _ lb _ w6 hs10 (HE6.out.mono (F' := h10 ++ F9) (fun w hw => hw.right)) HI6.out (by omega)
        have HST6 := Lib.hid hst
        have HN10 := Lib.hid (names_in hv10 F9)
        have HS10 := Lib.hid hst10
        obtain ⟨a10, c10, rfl⟩ := sl_form hv10
        clear hst hs10 hv10 hst10 HST5
        go_wp2_with fail
        refine (HST6.out).mono ?_
        rintro e w7 ⟨v11, s11, h11, rfl, hv11, hst11, hs11⟩
        have happ := apart_stuck HL5.out HL6.out HS10.out hst11
        rw [HX.out] at happ
        obtain rfl : s9 = s10 ++ s11 := HS9.out.unique happ
        have hl10 := stuck_lenA HS10.out
        have hl11 := stuck_lenA hst11
        obtain ⟨b9, d9, e9, hc9⟩ := HN9.out
        cases e9
        obtain ⟨b10, d10, e10, hc10⟩ := HN10.out
        cases e10
        obtain ⟨b11, d11, e11, hc11⟩ := names_in hv11 (h10 ++ F9)
        subst e11
        have hc9 := hc9 w7 hs11.right.right
        have hc10 := hc10 w7 hs11.right
        have hc11 := hc11 w7 hs11
        have HBE : Hid (∀ n, RowKit.Below W.heap.size W (w7.drewN n)) := Lib.hid fun n => HB9.out _ (hs11.right.right.of_heap rfl ⟨rfl, rfl, rfl⟩)
        have hlen9 : (s10 ++ s11).length = s10.length + s11.length := List.length_append
        have hg1 : ∀ (r : Nat) x, r < s10.length → s10[r]? = some x → (s10 ++ s11)[r]? = some x := fun r x h e => by rw [List.getElem?_append_left h]; exact e
        have hg2 : ∀ (d : Nat) x, s11[d]? = some x → (s10 ++ s11)[s10.length + d]? = some x := fun d x e => by rw [List.getElem?_append_right (by omega), Nat.add_sub_cancel_left]; exact e
        have HG := Lib.hid (And.intro hg1 hg2)
        have HC9 := Lib.hid hc9
        have HC10 := Lib.hid hc10
        have HC11 := Lib.hid hc11
        obtain ⟨ns, hns⟩ : ∃ ns, (s10 ++ s11).length = ns := ⟨_, rfl⟩
        rw [hns] at hlen9
        rw [hns]
        have HLN := Lib.hid hlen9
        have hnb : ((ns : Int) != (s10.length : Int) + (s11.length : Int)) = false := by simp; omega
        clear hlen9
        clear hc9 hc10 hc11 hs11 hv11 hst11 happ HN9 HN10 HST6 HE6 HS9 HS10 hg1 hg2 hns
        go_wp2_with fail
        go_loopw [12] (fun v12 wx => ∃ r : Nat, r ≤ ns ∧ v12 = .int .i64 r ∧ ∃ n, wx = w7.drewN n) (fun v12 _ => 200000 - (RowKit.intOf v12).toNat)
        case atStart => exact ⟨0, by omega, rfl, 0, rfl⟩
        case round =>
          obtain ⟨r, hr, rfl, n, rfl⟩ := hrel
          have r0 : (0 : Int) ≤ (r : Int) := by omega
          by_cases hlr : r < ns
          · have r1 : (r : Int) < (ns : Int) := by omega
            by_cases hr10 : r < s10.length
            · obtain ⟨x, hx⟩ : ∃ x, s10[r]? = some x := ⟨_, List.getElem?_eq_getElem hr10⟩
              obtain ⟨g9, rfl, t9⟩ := HC9.out r x (HG.out.1 r x hr10 hx)
              obtain ⟨g10, rfl, t10⟩ := HC10.out r x hx
              have r2 : (r : Int) < (s10.length : Int) := by omega
              have r2d : ((s10.length : Int) ≤ (r : Int)) = False := by simp; omega
              have r2e : ¬ (s10.length : Int) ≤ (r : Int) := by omega
              have r2f : ¬ s10.length ≤ r := by omega
              clear hx
              go_upto_region 23 with (fail)
              go_quiet (fail)
              go_wp2_with fail
              go_roundw
              case rel => exact ⟨r + 1, by omega, by simp, _, rfl⟩
              case measure => simp only [RowKit.intOf]; omega
            · obtain ⟨d, hd⟩ : ∃ d, r = s10.length + d := ⟨r - s10.length, by omega⟩
              have hln := HLN.out
              obtain ⟨x, hx⟩ : ∃ x, s11[d]? = some x := ⟨_, List.getElem?_eq_getElem (by omega)⟩
              have hx9 := HG.out.2 d x hx
              rw [← hd] at hx9
              obtain ⟨g9, rfl, t9⟩ := HC9.out r x hx9
              obtain ⟨g11, rfl, t11⟩ := HC11.out d x hx
              have r2 : ¬ (r : Int) < (s10.length : Int) := by omega
              have r3 : (s10.length : Int) ≤ (r : Int) := by omega
              have hdd : (r : Int) - (s10.length : Int) = (d : Int) := by omega
              have hd1 : (d : Int) < (s11.length : Int) := by omega
              clear hx hx9 hd hln
              go_upto_region 23 with (fail)
              go_quiet (fail)
              go_wp2_with fail
              go_roundw
              case rel => exact ⟨r + 1, by omega, by simp, _, rfl⟩
              case measure => simp only [RowKit.intOf]; omega
          · obtain rfl : r = ns := by omega
            go_wp2_with fail
            go_ret
            exact ⟨rfl, HBE.out n⟩
end Go.Proofs.Ytjkpghhbpcjjiaa
