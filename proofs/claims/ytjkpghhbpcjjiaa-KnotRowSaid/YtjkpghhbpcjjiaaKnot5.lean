/- Layer 15's law: awake, edges, left walked. Conditions: none. -/
import Derived.Test.YtjkpghhbpcjjiaaKnot4
import Derived.Test.YtjkpghhbpcjjiaaPairs
import Derived.Test.YtjkpghhbpcjjiaaLater
import Derived.StillTailTactics
import Derived.Deep.RegionHeld3
import Derived.Deep.DeepCutAuto
import Derived.Deep.QuietTactic
import Derived.BigQuiet
import Derived.Deep.RegionLaw
namespace Go.Proofs.Ytjkpghhbpcjjiaa
open Go Go.MapKept Go.RowKit Go.Proofs

theorem tg_end {R : Rl} {a b : Int} (t : Relation.TransGen R a b) : ∃ c, R c b := by
  cases t with
  | single e => exact ⟨_, e⟩
  | tail _ e => exact ⟨_, e⟩
def awl : List (Int × Int) := [(1, 2), (2, 1), (3, 1)]
theorem aw_rel (a b : Int) : Rel awl a b ↔ (a = 1 ∧ b = 2) ∨ (a = 2 ∧ b = 1) ∨ (a = 3 ∧ b = 1) := by simp [Rel, awl]
theorem aw_stuck : IsStuck (Rel awl) [1, 2] := by
  refine ⟨by simp, fun k => ⟨fun h => ?_, fun h => ?_⟩⟩
  · have e12 : Rel awl 1 2 := (aw_rel 1 2).2 (.inl ⟨rfl, rfl⟩)
    have e21 : Rel awl 2 1 := (aw_rel 2 1).2 (.inr (.inl ⟨rfl, rfl⟩))
    simp only [List.mem_cons, List.not_mem_nil, or_false] at h
    rcases h with rfl | rfl
    · exact .tail (.single e12) e21
    · exact .tail (.single e21) e12
  · obtain ⟨c, hc⟩ := tg_end h
    rcases (aw_rel c k).1 hc with ⟨_, rfl⟩ | ⟨_, rfl⟩ | ⟨_, rfl⟩ <;> simp
theorem aw_less : IsStuck (Less (Rel awl) 2) [] := by
  refine ⟨.nil, fun k => ⟨fun h => (by cases h), fun h => ?_⟩⟩
  have hr : ∀ a b, Less (Rel awl) 2 a b → a = 3 ∧ b = 1 := by
    rintro a b ⟨h1, h2, h3⟩
    rcases (aw_rel a b).1 h1 with ⟨_, rfl⟩ | ⟨rfl, _⟩ | h
    · exact absurd rfl h3
    · exact absurd rfl h2
    · exact h
  obtain ⟨c, hc⟩ := tg_end h
  obtain ⟨d, hd⟩ := tg_start h
  have h1 := (hr _ _ hc).2
  have h2 := (hr _ _ hd).1
  omega
theorem aw_vict : Vict (Rel awl) [2] := .cons (l := [1]) aw_stuck (.nil aw_less)
theorem nil_stuck : IsStuck (Rel []) [] := by
  refine ⟨.nil, fun k => ⟨fun h => (by cases h), fun h => ?_⟩⟩
  obtain ⟨c, hc⟩ := tg_end h
  simp [Rel] at hc
theorem int_cells {v : Value} {T : List Int} {h F : Heaplet} {w : World} (hv : IntSl v T h) (s : Sat w (h ++ F)) : ∃ a cap, v = .slice a T.length cap ∧ ∀ i x, T[i]? = some x → ∃ g, a = some ⟨g, 0, none⟩ ∧ w.cell? ⟨g, i, none⟩ = some (kI x) := by
  obtain ⟨a, cap, e, hc⟩ := sl_cells fI_len hv s
  refine ⟨a, cap, e, fun i x hx => ?_⟩
  obtain ⟨g, ea, _, hu⟩ := hc i x hx
  have := hu 0 _ rfl
  simp only [Nat.mul_one, Nat.add_zero] at this
  exact ⟨g, ea, this⟩
set_option maxRecDepth 100000 in
set_option maxHeartbeats 1600000 in
theorem awake15 (F : Heaplet) (w : World) (hs : Sat w F) : Calls Try.prog 25 #[] w (Ret (.bool true) (fun w' => Sat w' F)) := by
  have s0 := hs.new (.cells #[kI 1, kI 2, kI 2, kI 1, kI 3, kI 1] 58)
  generalize hg : w.heap.size = g at *
  have hsl : EdgeSl (.slice (some ⟨g, 0, none⟩) 3 3) awl [.blk g (.cells #[kI 1, kI 2, kI 2, kI 1, kI 3, kI 1] 58)] :=
    ⟨rfl, .inr ⟨g, 3, _, rfl, Nat.le_refl _, by simp [maxLen], rfl, rfl, rfl⟩⟩
  have hE := edges_in hsl F
  have hi : InI awl := by intro q hq; simp [awl] at hq; rcases hq with rfl | rfl | rfl <;> simp
  have h1 := Stuck_any _ _ _ _ s0 hE hi (by simp [awl])
  have H1 := Lib.hid h1
  have HE := Lib.hid hE
  have HI := Lib.hid hi
  clear h1 hE hi hs s0
  go_enter Try.func25, Try.ntmps25
  go_wp2_with fail
  refine (H1.out).mono ?_
  rintro e w1 ⟨v2, s2, h2, rfl, hv2, hst2, hs2⟩
  obtain rfl := hst2.unique aw_stuck
  have hE2 := HE.out.mono (F' := h2 ++ ([.blk g (.cells #[kI 1, kI 2, kI 2, kI 1, kI 3, kI 1] 58)] ++ F)) (fun w hw => hw.right)
  have h3 := Victim_any _ _ _ _ hs2 hE2 HI.out (by simp [awl])
  have H3 := Lib.hid h3
  have HE2 := Lib.hid hE2
  have HV2 := Lib.hid hv2
  clear hs2 hE2 h3 hv2 H1 HE hst2
  go_wp2_with fail
  refine (H3.out).mono ?_
  rintro e w3 ⟨s3, rfl, hst3, hs3⟩
  obtain rfl := hst3.unique aw_stuck
  have h5 := Victims_any _ _ _ _ hs3 HE2.out HI.out (by simp [awl])
  have H5 := Lib.hid h5
  clear hs3 h5 H3 hst3
  go_wp2_with fail
  refine (H5.out).mono ?_
  rintro e w5 ⟨v5, s5, h5, rfl, hv5, hvi, _, hs5⟩
  obtain rfl := hvi.unique aw_vict
  obtain ⟨a5, c5, rfl⟩ := sl_form hv5
  have h6 := Victim_any (.slice none 0 0) [] _ _ hs5 (edges_nil _) (fun q hq => by cases hq) (by simp)
  have H6 := Lib.hid h6
  clear hs5 h6 H5 hvi
  go_wp2_with fail
  refine (H6.out).mono ?_
  rintro e w6 ⟨s6, rfl, hst6, hs6⟩
  obtain rfl := hst6.unique nil_stuck
  obtain ⟨a2, c2, rfl, hc2⟩ := int_cells HV2.out hs6.right
  obtain ⟨g2, rfl, d0⟩ := hc2 0 1 rfl
  obtain ⟨g3, e3, d1⟩ := hc2 1 2 rfl
  cases e3
  have FIN := Lib.hid hs6.right.right.tail
  clear hs6 hc2 H6 hst6 hv5
  go_wp2_with fail
  go_ret
  exact ⟨rfl, FIN.out⟩
abbrev RefSl (v : Value) (l : List (Int × Int)) (h : Heaplet) : Prop := SliceIs 75 2 v l.length (l.flatMap flP) h
theorem infoEdge : (Try.prog.info? 58).map (fun i => (i.zero, i.size, i.bytes)) = some (some (.agg #[.int .i64 0, .int .i64 0]), 2, 16) := by kernel_rfl
theorem infoRefE : (Try.prog.info? 75).map (fun i => (i.zero, i.size, i.bytes)) = some (some (.agg #[.int .i64 0, .int .i64 0]), 2, 16) := by kernel_rfl
theorem edge_push {w : World} {v : Value} {l : List (Int × Int)} {h A B : Heaplet} {x : Nat} (q : Int × Int) (hv : EdgeSl v l h) (s : Sat w (.blk x (.cells #[kI q.1, kI q.2] 58) :: (A ++ (h ++ B)))) (hl : l.length + 1 ≤ 1000000) :
    ∃ v' w' h', (∀ ty, (Builtin.append_ #[46, 46] ty #[v, .slice (some ⟨x, 0, none⟩) 1 1]).run Try.prog w = .ok v' w') ∧ EdgeSl v' (l ++ [q]) h' ∧ Sat w' (A ++ (h' ++ B)) := by
  obtain ⟨i0, hi, hz, hsize, hby⟩ := info_parts infoEdge
  exact sl_push (P := Try.prog) flP_len Try.underlying46 hi hz hsize hby rfl (by decide) hv q s (by simp [Value.oneCell']) (by unfold maxLen; omega) (by omega)
theorem refe_push {w : World} {v : Value} {l : List (Int × Int)} {h A B : Heaplet} {x : Nat} (q : Int × Int) (hv : RefSl v l h) (s : Sat w (.blk x (.cells #[kI q.1, kI q.2] 75) :: (A ++ (h ++ B)))) (hl : l.length + 1 ≤ 1000000) :
    ∃ v' w' h', (∀ ty, (Builtin.append_ #[47, 47] ty #[v, .slice (some ⟨x, 0, none⟩) 1 1]).run Try.prog w = .ok v' w') ∧ RefSl v' (l ++ [q]) h' ∧ Sat w' (A ++ (h' ++ B)) := by
  obtain ⟨i0, hi, hz, hsize, hby⟩ := info_parts infoRefE
  exact sl_push (P := Try.prog) flP_len Try.underlying47 hi hz hsize hby rfl (by decide) hv q s (by simp [Value.oneCell']) (by unfold maxLen; omega) (by omega)
/-- Where F holds, the pairs that came in lie there. -/
def PairsIn (F : Heaplet) (p : Option Addr) (len : Nat) (A : Nat → Nat → Int) : Prop :=
  ∀ i, i < len → ∃ b off, p = some ⟨b, off, none⟩ ∧ ∀ w, Sat w F → w.cell? ⟨b, off + i * 2, none⟩ = some (kI (A i 0)) ∧ w.cell? ⟨b, off + i * 2 + 1, none⟩ = some (kI (A i 1))
theorem pairs_in {W : World} {p : Option Addr} {len : Nat} {A : Nat → Nat → Int} (h : IntsAt W p len 2 A) : PairsIn (allOf W) p len A := by
  intro i hi
  obtain ⟨b, off, e, hb, hc⟩ := h.2 i hi
  refine ⟨b, off, e, fun w hw => ⟨?_, ?_⟩⟩
  · have := (hw.cellOld (a := ⟨b, off + i * 2 + 0, none⟩) hb).trans (hc 0 (by omega)).1
    simpa using this
  · exact (hw.cellOld (a := ⟨b, off + i * 2 + 1, none⟩) hb).trans (hc 1 (by omega)).1
def pairL (A : Nat → Nat → Int) (n : Nat) : List (Int × Int) := (List.range n).map fun i => (A i 0, A i 1)
theorem pairL_len (A : Nat → Nat → Int) (n : Nat) : (pairL A n).length = n := by simp [pairL]
theorem pairL_step (A : Nat → Nat → Int) (n : Nat) : pairL A (n + 1) = pairL A n ++ [(A n 0, A n 1)] := by simp [pairL, List.range_succ]
theorem pairL_in {W : World} {p : Option Addr} {len : Nat} {A : Nat → Nat → Int} (h : IntsAt W p len 2 A) : InI (pairL A len) := by
  intro q hq
  obtain ⟨i, hi, rfl⟩ := List.mem_map.1 hq
  obtain ⟨b, off, _, _, hc⟩ := h.2 i (List.mem_range.1 hi)
  exact (hc 0 (by omega)).2
set_option maxRecDepth 100000 in
set_option maxHeartbeats 4000000 in
theorem edges_any (p : Option Addr) (len cap : Nat) (A : Nat → Nat → Int) (F : Heaplet) (w : World) (hs : Sat w F) (hp : PairsIn F p len A) (hl : len ≤ 1000) :
    Calls Try.prog 26 #[.slice p len cap] w fun e w' => ∃ v1 v2 h1 h2, e = .returned (.tuple #[v1, v2]) ∧ EdgeSl v1 (pairL A len) h1 ∧ RefSl v2 (pairL A len) h2 ∧ Sat w' (h1 ++ (h2 ++ F)) := by
  have s1 := (hs.new (.cells #[] 58)).new (.cells #[] 75)
  rw [World.size_alloc] at s1
  have n1 : EdgeSl (.slice (some ⟨w.heap.size, 0, none⟩) 0 0) (pairL A 0) [.blk w.heap.size (.cells #[] 58)] := sl_new _ _ _
  have n2 : RefSl (.slice (some ⟨w.heap.size + 1, 0, none⟩) 0 0) (pairL A 0) [.blk (w.heap.size + 1) (.cells #[] 75)] := sl_new _ _ _
  have HP := Lib.hid hp
  have H0 := Lib.hid (And.intro n1 (And.intro n2 s1.swap))
  clear hp hs s1 n1 n2
  go_enter Try.func26, Try.ntmps26
  go_wp2_with fail
  generalize w.heap.size = g at *
  go_loopw [4, 5, 6] (fun v4 v5 v6 wr => ∃ (r : Nat) (h1 h2 : Heaplet), r ≤ len ∧ v6 = .int .i64 r ∧ EdgeSl v4 (pairL A r) h1 ∧ RefSl v5 (pairL A r) h2 ∧ Sat wr (h1 ++ (h2 ++ F))) (fun _ _ v6 _ => 100000 - (RowKit.intOf v6).toNat)
  case atStart => exact ⟨0, _, _, by omega, rfl, H0.out.1, H0.out.2.1, H0.out.2.2⟩
  case round =>
    clear H0
    obtain ⟨r, h1, h2, hr, rfl, hv1, hv2, hs⟩ := hrel
    have r0 : (0 : Int) ≤ (r : Int) := by omega
    obtain ⟨a1, c1, rfl⟩ := sl_form hv1
    obtain ⟨a2, c2, rfl⟩ := sl_form hv2
    by_cases hlr : r < len
    · have r1 : (r : Int) < (len : Int) := by omega
      obtain ⟨ba, off, rfl, hcs⟩ := HP.out r hlr
      obtain ⟨d0, d1⟩ := hcs wr hs.right.right
      have hll : (pairL A r).length + 1 ≤ 1000000 := by rw [pairL_len]; omega
      obtain ⟨v3, w3, h3, hap, hv3, hs3⟩ := edge_push (A := []) (B := h2 ++ F) (A r 0, A r 1) hv1 (hs.drew.new (.cells #[kI (A r 0), kI (A r 1)] 58)) hll
      rw [← pairL_step] at hv3
      have HAP : ∀ ty, (Builtin.append_ #[46, 46] ty #[_, .slice (some ⟨wr.heap.size, 0, none⟩) 1 1]).run Try.prog (wr.drew.alloc (.cells #[kI (A r 0), kI (A r 1)] 58)) = .ok v3 w3 := hap
      have HAP := Lib.hid HAP
      have H3 := Lib.hid (And.intro hv3 (show Sat w3 (h3 ++ (h2 ++ F)) from hs3))
      have HV2 := Lib.hid hv2
      have HCS := Lib.hid hcs
      clear hap hv3 hs3 hv1 hs hcs hv2
      rw [pairL_len] at *
      go_upto_region 6 with (fail)
      go_cut [4] (fun v4 wx => ∃ h1', EdgeSl v4 (pairL A (r + 1)) h1' ∧ Sat wx (h1' ++ (h2 ++ F)))
      case first =>
        go_region_law ((refine step_append_run (by rfl) _ _ _ _ (by rfl) _ _ _ w3 (by rfl) (by rfl) HAP.out ?_))
        all_goals
          go_wp2_with fail
          go_meet
          exact ⟨h3, H3.out.1, H3.out.2⟩
      case rest =>
        clear HAP H3 d0 d1
        obtain ⟨h1', hv1, hs⟩ := hcut
        obtain ⟨d0, d1⟩ := HCS.out wc hs.right.right
        obtain ⟨a4, c4, rfl⟩ := sl_form hv1
        obtain ⟨v5, w5, h5, hap, hv5, hs5⟩ := refe_push (A := h1') (B := F) (A r 0, A r 1) HV2.out (hs.drew.new (.cells #[kI (A r 0), kI (A r 1)] 75)) (by rw [pairL_len]; exact hll)
        rw [← pairL_step] at hv5
        have HAP : ∀ ty, (Builtin.append_ #[47, 47] ty #[_, .slice (some ⟨wc.heap.size, 0, none⟩) 1 1]).run Try.prog (wc.drew.alloc (.cells #[kI (A r 0), kI (A r 1)] 75)) = .ok v5 w5 := hap
        have HAP := Lib.hid HAP
        have FIN := Lib.hid (And.intro hv1 (And.intro hv5 hs5))
        clear hap hv5 hs5 hv1 hs HCS HV2
        go_upto_region 7 with (fail)
        go_region_law ((refine step_append_run (by rfl) _ _ _ _ (by rfl) _ _ _ w5 (by rfl) (by rfl) HAP.out ?_))
        all_goals
          go_wp2_with fail
          exact ⟨⟨r + 1, h1', h5, by omega, by simp, FIN.out.1, FIN.out.2.1, FIN.out.2.2⟩, by simp only [RowKit.intOf]; omega⟩
    · obtain rfl : r = len := by omega
      have FIN := Lib.hid (And.intro hv1 (And.intro hv2 hs))
      clear hv1 hv2 hs hlr
      go_wp2_with fail
      go_ret2
      exact ⟨_, _, h1, h2, rfl, FIN.out.1, FIN.out.2.1, FIN.out.2.2⟩
end Go.Proofs.Ytjkpghhbpcjjiaa
