/- Who gives up: Victims walked. Conditions: none. -/
import Derived.Test.YtjkpghhbpcjjiaaKnot3
namespace Go.Proofs.Ytjkpghhbpcjjiaa
open Go Go.MapKept Go.RowKit Go.Proofs

/-- The graph, its outer entries said. -/
def GraphAt (m : Nat) (es : Array MapEntry) (clk : Nat) (L : GL) (F : Heaplet) (w : World) : Prop :=
  (∀ p ∈ L, NdOk p.2) ∧ MapOk (.int .i64) kI nv es clk L ∧ Sat w (GraphH m es clk L ++ F)
section
variable {m : Nat} {es : Array MapEntry} {clk : Nat} {L : GL} {F : Heaplet} {w : World}
theorem GraphAt.is (h : GraphAt m es clk L F w) : GraphIs m L F w := ⟨h.1, es, clk, h.2.1, h.2.2⟩
theorem GraphIs.at (h : GraphIs m L F w) : ∃ es clk, GraphAt m es clk L F w := by
  obtain ⟨ho, es, clk, hm, hs⟩ := h
  exact ⟨es, clk, ho, hm, hs⟩
theorem nd_del {P : Nd → Prop} {a : Int} (h : ∀ p ∈ L, P p.2) : ∀ p ∈ delL a L, P p.2 := fun p hp => h p ((sub_delL a L).subset hp)
/-- 'delete(g, k)'. -/
theorem GraphIs.del {ty : TypeId} (h : GraphIs m L F w) (k : Int) : ∃ w', (Builtin.delete_ #[79, 3] ty #[.map (some m), kI k]).run Try.prog w = .ok (.tuple #[]) w' ∧ GraphIs m (delL k L) F w' := by
  obtain ⟨ho, es, clk, hm, hs⟩ := h
  obtain ⟨w', es', hr, hm', hs'⟩ := sat_delete (P := Try.prog) (ty := ty) (t := 79) (kt := 3) (et := 82) Try.underlying79 Try.underlying3 hm (hs : Sat w (.blk m (.map es clk) :: (entH ndI L ++ F))) k
  refine ⟨w', hr, nd_del ho, es', clk, hm', ?_⟩
  cases hk : getL k L with
  | none => rw [delL_none k L hk]; exact hs'
  | some n =>
    have p := (entH_get (it := ndI) hk).append_right F
    have s2 : Sat w' (.blk m (.map es' clk) :: (ndI n :: (entH ndI (delL k L) ++ F))) := hs'.perm (p.cons _)
    exact s2.swap.tail
/-- 'delete(to, k)'. -/
theorem GraphAt.cut {ty : TypeId} (h : GraphAt m es clk L F w) {a : Int} {n : Nd} (hk : getL a L = some n) (k : Int) :
    ∃ w' n', (Builtin.delete_ #[82, 3] ty #[nv n, kI k]).run Try.prog w = .ok (.tuple #[]) w' ∧ n'.g = n.g ∧ n'.D = delL k n.D ∧ GraphAt m es clk (putL a n' L) F w' := by
  obtain ⟨ho, hm, hs⟩ := h
  have hn : NdOk n := ho (a, n) (getL_mem hk)
  have p : (GraphH m es clk L ++ F).Perm (ndI n :: ((.blk m (.map es clk) :: entH ndI (delL a L)) ++ F)) := by
    refine List.Perm.append_right F (l₂ := ndI n :: .blk m (.map es clk) :: entH ndI (delL a L)) ?_
    exact ((entH_get (it := ndI) hk).cons _).trans (List.Perm.swap _ _ _)
  obtain ⟨w', es', hr, hm', hs'⟩ := sat_delete (P := Try.prog) (ty := ty) (t := 82) (kt := 3) (et := 4) Try.underlying82 Try.underlying3 hn (hs.perm p) k
  refine ⟨w', ⟨n.g, es', n.clk, delL k n.D⟩, hr, rfl, rfl, nd_put ho hm', mapOk_mod (n := n) (n' := ⟨n.g, es', n.clk, delL k n.D⟩) hm rfl hk, ?_⟩
  have p2 : (ndI ⟨n.g, es', n.clk, delL k n.D⟩ :: ((.blk m (.map es clk) :: entH ndI (delL a L)) ++ F)).Perm (GraphH m es clk (putL a ⟨n.g, es', n.clk, delL k n.D⟩ L) ++ F) := by
    refine List.Perm.append_right F (l₁ := ndI ⟨n.g, es', n.clk, delL k n.D⟩ :: .blk m (.map es clk) :: entH ndI (delL a L)) ?_
    exact (List.Perm.swap _ _ _).trans ((entH_put (it := ndI) (u := ⟨n.g, es', n.clk, delL k n.D⟩) hk).symm.cons _)
  exact hs'.perm p2
theorem E_del (hn : (L.map (·.1)).Nodup) (k x y : Int) : E (delL k L) x y ↔ (E L x y ∧ x ≠ k) := by
  unfold E
  rw [getL_delL k x L hn]
  by_cases e : x = k
  · rw [if_pos e]
    constructor
    · rintro ⟨n, h1, _⟩; cases h1
    · rintro ⟨_, h⟩; exact absurd e h
  · rw [if_neg e]
    exact ⟨fun h => ⟨h, e⟩, fun h => h.1⟩
theorem E_cut {a k : Int} {n n' : Nd} (hk : getL a L = some n) (hnd : (n.D.map (·.1)).Nodup) (hD : n'.D = delL k n.D) (x y : Int) : E (putL a n' L) x y ↔ (E L x y ∧ (x = a → y ≠ k)) := by
  unfold E
  rw [getL_putL]
  by_cases e : x = a
  · subst e
    rw [if_pos rfl, hk]
    constructor
    · rintro ⟨n1, h1, h2⟩
      cases h1
      rw [hD, getL_delL k y n.D hnd] at h2
      by_cases ey : y = k
      · rw [if_pos ey] at h2; cases h2
      · rw [if_neg ey] at h2
        exact ⟨⟨n, rfl, h2⟩, fun _ => ey⟩
    · rintro ⟨⟨n1, h1, h2⟩, h3⟩
      cases h1
      refine ⟨n', rfl, ?_⟩
      rw [hD, getL_delL k y n.D hnd, if_neg (h3 rfl)]
      exact h2
  · rw [if_neg e]
    exact ⟨fun h => ⟨h, fun q => absurd q e⟩, fun h => h.1⟩
end
/-- The going over: these are left, the others' edges to k are gone. -/
structure CutI (L1 Lc lp : GL) (k : Int) : Prop where
  keys : Lc.map (fun q => (q.1, q.2.g)) = L1.map (fun q => (q.1, q.2.g))
  left : ∀ p ∈ lp, ∃ q ∈ L1, q.1 = p.1 ∧ q.2.g = p.2.g
  nd : (lp.map (·.1)).Nodup
  eg : ∀ x y, E Lc x y ↔ (E L1 x y ∧ (x ∈ lp.map (·.1) ∨ y ≠ k))
theorem keys_eq {L1 Lc : GL} (h : Lc.map (fun q => (q.1, q.2.g)) = L1.map (fun q => (q.1, q.2.g))) : Lc.map (·.1) = L1.map (·.1) := by
  have := congrArg (List.map Prod.fst) h
  simpa [Function.comp_def] using this
theorem cut_start {L1 : GL} (hn : (L1.map (·.1)).Nodup) (k : Int) : CutI L1 L1 L1 k :=
  ⟨rfl, fun p hp => ⟨p, hp, rfl, rfl⟩, hn, fun x y => ⟨fun h => ⟨h, .inl (E_key h)⟩, fun h => h.1⟩⟩
theorem keys_cut {L : GL} {a : Int} {n n' : Nd} (hg : n'.g = n.g) : ∀ {L : GL}, getL a L = some n → (putL a n' L).map (fun q => (q.1, q.2.g)) = L.map (fun q => (q.1, q.2.g))
  | q :: r, h => by
    by_cases e : q.1 = a
    · simp only [getL, e, if_true, Option.some.injEq] at h
      subst h
      simp [putL, e, hg]
    · simp only [getL, e, if_false] at h
      have ih := keys_cut (L := L) hg h
      simp only [putL, e, if_false, List.map_cons, ih]
theorem CutI.find {L1 Lc lp : GL} {k : Int} (h : CutI L1 Lc lp k) (hn : (L1.map (·.1)).Nodup) {p : Int × Nd} (hp : p ∈ lp) : ∃ n, getL p.1 Lc = some n ∧ n.g = p.2.g := by
  obtain ⟨q, hq, e1, e2⟩ := h.left p hp
  have hm : (q.1, q.2.g) ∈ Lc.map (fun q => (q.1, q.2.g)) := by rw [h.keys]; exact List.mem_map.2 ⟨q, hq, rfl⟩
  obtain ⟨z, hz, ez⟩ := List.mem_map.1 hm
  simp only [Prod.mk.injEq] at ez
  have hnc : (Lc.map (·.1)).Nodup := by rw [keys_eq h.keys]; exact hn
  refine ⟨z.2, ?_, ez.2.trans e2⟩
  rw [← e1, ← ez.1]
  exact getL_of_mem hnc hz
theorem CutI.step {L1 Lc lp lp' : GL} {k : Int} (h : CutI L1 Lc lp k) {p : Int × Nd} (hp : lp.Perm (p :: lp')) {n n' : Nd} (hk : getL p.1 Lc = some n) (hnd : (n.D.map (·.1)).Nodup) (hg : n'.g = n.g) (hD : n'.D = delL k n.D) : CutI L1 (putL p.1 n' Lc) lp' k := by
  have hnp := (hp.map (·.1)).nodup_iff.1 h.nd
  simp only [List.map_cons, List.nodup_cons] at hnp
  refine ⟨(keys_cut (L := Lc) hg hk).trans h.keys, fun q hq => h.left q (hp.mem_iff.2 (.tail _ hq)), hnp.2, fun x y => ?_⟩
  rw [E_cut hk hnd hD, h.eg]
  have hmem : x ∈ lp.map (·.1) ↔ (x = p.1 ∨ x ∈ lp'.map (·.1)) := by rw [(hp.map (·.1)).mem_iff]; simp
  rw [hmem]
  constructor
  · rintro ⟨⟨h1, h2⟩, h3⟩
    refine ⟨h1, ?_⟩
    rcases h2 with (h2 | h2) | h2
    · exact .inr (h3 h2)
    · exact .inl h2
    · exact .inr h2
  · rintro ⟨h1, h2 | h2⟩
    · exact ⟨⟨h1, .inl (.inr h2)⟩, fun e => absurd (e ▸ h2) hnp.1⟩
    · exact ⟨⟨h1, .inr h2⟩, fun _ => h2⟩
theorem CutI.done {L Lc : GL} {k : Int} (h : CutI (delL k L) Lc [] k) (hn : (L.map (·.1)).Nodup) : E Lc = Less (E L) k := rl_ext fun x y => by
  rw [h.eg, E_del hn]
  unfold Less
  simp only [List.map_nil, List.not_mem_nil, false_or]
  exact ⟨fun h => ⟨h.1.1, h.1.2, h.2⟩, fun h => ⟨⟨h.1, h.2.1⟩, h.2.2⟩⟩
theorem CutI.len {L1 Lc lp : GL} {k : Int} (h : CutI L1 Lc lp k) : Lc.length = L1.length := by
  have := congrArg List.length h.keys
  simpa using this
theorem CutI.bd {L Lc lp : GL} {k : Int} {N : List Int} (h : CutI (delL k L) Lc lp k) (hn : (L.map (·.1)).Nodup) (hB : GBd L N) : GBd Lc N := by
  have hk := keys_eq h.keys
  refine ⟨fun p hp => ?_, ?_, fun a b e => ?_, hB.nlen⟩
  · have : p.1 ∈ (delL k L).map (·.1) := by rw [← hk]; exact List.mem_map.2 ⟨p, hp, rfl⟩
    obtain ⟨q, hq, e⟩ := List.mem_map.1 this
    rw [← e]
    exact hB.bd q ((sub_delL k L).subset hq)
  · rw [h.len]
    have := (sub_delL k L).length_le
    have := hB.len
    omega
  · rw [h.eg, E_del hn] at e
    exact hB.tgt a b e.1.1
/-- Ahead of a round of the victims' loop. -/
def VicO (R0 : Rl) (N : List Int) (M m : Nat) (F : Heaplet) (n : Nat) (v3 v5 : Value) (wr : World) : Prop :=
  ∃ L lo s oh sh, GraphIs m L (oh ++ (sh ++ F)) wr ∧ GBd L N ∧ IntSl v3 lo oh ∧ IntSl v5 s sh ∧ IsStuck (E L) s ∧ (∀ r, Vict (E L) r → Vict R0 (lo ++ r)) ∧ L.length = n ∧ lo.length + L.length ≤ M
/-- In the going over. -/
def VicI (R0 : Rl) (N : List Int) (M m : Nat) (F : Heaplet) (r : Nat) (k : Int) (L : GL) (lo : List Int) (v3 : Value) (n : Nat) (wr : World) : Prop :=
  ∃ Lc lp es clk it since seen c0 oh, GraphAt m es clk Lc (.blk r it :: (oh ++ F)) wr ∧ CutI (delL k L) Lc lp k ∧ IntSl v3 lo oh ∧ it = .mapIter (some m) since seen c0 ∧ IterOk kI nv es since seen c0 lp ∧ since ≤ clk ∧ lp.length = n
set_option maxRecDepth 100000 in
set_option maxHeartbeats 4000000 in
theorem Victims_any (v : Value) (l : List (Int × Int)) (F : Heaplet) (w : World) (hs : Sat w F) (hE : EdgesIn F v l) (hi : InI l) (hl : l.length ≤ 100000) :
    Calls Try.prog 31 #[v] w fun e w' => ∃ v' s h, e = .returned v' ∧ IntSl v' s h ∧ Vict (Rel l) s ∧ s.length ≤ l.length ∧ Sat w' (h ++ F) := by
  have HG := Lib.hid (graph_any v l F w hs hE hl)
  have HI := Lib.hid hi
  clear hs hE hi
  go_enter Try.func31, Try.ntmps31
  go_wp2_with fail
  refine (HG.out).mono ?_
  rintro e w1 ⟨m, L, rfl, hok, hg⟩
  have hB := hok.gbd hg.nodup HI.out hl
  have hst := stuck_any m L F _ w1 hg hB
  have HST := Lib.hid hst
  have hLl : L.length ≤ l.length := by
    have := nodup_le hg.nodup hok.2
    simpa using this
  have HB := Lib.hid (And.intro hB hok.rel)
  clear hg hst hok HG hB
  go_wp2_with fail
  refine (HST.out).mono ?_
  rintro e w2 ⟨v5, s, sh, rfl, hv, hs, hg⟩
  have h0 : VicO (Rel l) (l.map (·.2)) l.length m F L.length (.slice none 0 0) v5 w2 :=
    ⟨L, [], s, [], sh, hg, HB.out.1, SliceIs.nil _ _, hv, hs, fun r hr => by rw [HB.out.2] at hr; exact hr, rfl, by simpa using hLl⟩
  have H0 := Lib.hid h0
  clear hv hs hg HST h0 HB
  go_wp2_with fail
  go_loopg [3, 5] (L.length) (fun n v3 v5 wr => VicO (Rel l) (l.map (·.2)) l.length m F n v3 v5 wr)
  case atStart => exact H0.out
  case round =>
    clear H0 hLl
    obtain ⟨og, rfl⟩ : ∃ og, og = gk := ⟨gk, rfl⟩
    obtain ⟨L, lo, s, oh, sh, hg, hB, hv3, hv5, hst, hvi, hn, hM⟩ := hrel
    obtain ⟨oa, oc, rfl⟩ := sl_form hv3
    by_cases he : s = []
    · subst he
      obtain ⟨a, c, rfl⟩ := sl_form hv5
      have hvl := hvi [] (.nil hst)
      rw [List.append_nil] at hvl
      have hf := hg.frame.comm.right
      have FIN := Lib.hid (And.intro hv3 (And.intro hvl (And.intro (show lo.length ≤ l.length by omega) hf)))
      clear hv3 hvl hf hg hB hv5 hst hvi
      go_wp2_with fail
      go_ret
      exact ⟨_, lo, oh, rfl, FIN.out.1, FIN.out.2.1, FIN.out.2.2.1, FIN.out.2.2.2⟩
    · obtain ⟨s', k, rfl⟩ : ∃ s' k, s = s' ++ [k] := ⟨_, _, (List.dropLast_concat_getLast he).symm⟩
      have hTl : (s' ++ [k]).length = s'.length + 1 := by simp
      obtain ⟨ta, tc, e1, hcell⟩ := sl_cells fI_len hv5 (hg.frame.right)
      obtain ⟨tg, rfl, _, hcu⟩ := hcell s'.length k (by simp)
      rw [hTl] at e1
      subst e1
      have ca := hcu 0 (kI k) rfl
      simp only [Nat.mul_one, Nat.add_zero] at ca
      have hl2 : s'.length + 1 ≤ 9223372036854775807 := by
        rcases hv5.2 with ⟨e2, _⟩ | ⟨g', cap', cur, e2, hnc, hcm, _⟩
        · cases e2
        · unfold maxLen at hcm
          rw [hTl] at hnc
          omega
      have hkey : k ∈ L.map (·.1) := by
        obtain ⟨c, hc⟩ := tg_start ((hst.2 k).1 (by simp))
        exact E_key hc
      have hnd := hg.nodup
      have hdl : (delL k L).length < L.length := by
        rw [length_delL]
        cases hk : getL k L with
        | none => exact absurd hkey (getL_none.1 hk)
        | some n =>
          have := List.length_pos_of_mem hkey
          rw [List.length_map] at this
          simp
          omega
      have hg1 : GraphIs m L (oh ++ F) wr := GraphIs.drop (A := sh) (hg.permF (List.perm_append_comm_assoc oh sh F))
      obtain ⟨A, hA, back⟩ := hg1.split
      obtain ⟨v', w3, oh', hap, hv3', hs3⟩ := int_push k hv3 (hA.new (.cells #[kI k] 3)) (by omega)
      obtain ⟨oa', oc', rfl⟩ := sl_form hv3'
      obtain ⟨w4, hdel, hg4⟩ := (back hs3).del (ty := 0) k
      obtain ⟨es, clk, hat⟩ := hg4.at
      obtain ⟨hrun, hs5⟩ := sat_range (P := Try.prog) (t := 79) (b := m) (es := es) (clk := clk) Try.underlying79 hat.2.2 (.head _)
      have hat5 : GraphAt m es clk (delL k L) (.blk w4.heap.size (.mapIter (some m) clk #[] clk) :: (oh' ++ F)) (w4.alloc (.mapIter (some m) clk #[] clk)) :=
        ⟨hat.1, hat.2.1, hs5.perm (List.perm_middle (l₁ := GraphH m es clk (delL k L))).symm⟩
      have hlo : (lo ++ [k]).length = lo.length + 1 := by simp
      have hVI : VicI (Rel l) (l.map (·.2)) l.length m F w4.heap.size k L (lo ++ [k]) (.slice oa' (lo ++ [k]).length oc') (delL k L).length (w4.alloc (.mapIter (some m) clk #[] clk)) :=
        ⟨delL k L, delL k L, es, clk, _, clk, #[], clk, oh', hat5, cut_start (nodup_delL k hnd) k, hv3', rfl, iter_start hat.2.1, Nat.le_refl _, rfl⟩
      have hnext : ∀ Lc r, E Lc = Less (E L) k → Vict (E Lc) r → Vict (Rel l) ((lo ++ [k]) ++ r) := by
        intro Lc r e hr
        rw [e] at hr
        have := hvi _ (.cons hst hr)
        simpa using this
      rw [hlo] at hVI hap
      have HVI := Lib.hid hVI
      have HNX := Lib.hid hnext
      have HAP := Lib.hid hap
      have HBH := Lib.hid (And.intro hB hnd)
      clear hv3 hv5 hst hvi hB hg hg1 hA back hap hv3' hs3 hg4 hat hs5 hat5 hVI hnext hkey hcell hcu hTl hlo he
      generalize hrs : w4.heap.size = rr at *
      go_wp2_with (at_builtin; refine wpList_append_run rfl _ _ _ _ rfl _ _ _ _ rfl rfl HAP.out ?_)
      clear hrun hdel ca
      go_loopg [8] ((delL k L).length) (fun n _ wx => VicI (Rel l) (l.map (·.2)) l.length m F rr k L (lo ++ [k]) (.slice oa' (lo.length + 1) oc') n wx)
      case atStart => exact HVI.out
      case round =>
        clear HVI hrs HAP
        obtain ⟨Lc, lp, es, clk, it, since, seen, c0, oh, hat, hcu, hv3, rfl, hit, hle, hln⟩ := hrel
        have hs : Sat wr (.blk rr (.mapIter (some m) since seen c0) :: (GraphH m es clk Lc ++ (oh ++ F))) := hat.2.2.perm List.perm_middle
        rcases sat_next (P := Try.prog) hat.2.1 hit hs (.head _) hle 0 with ⟨rfl, hrn⟩ | ⟨p, lp', seen', w', hp, hit', hrn, hs', hen⟩
        · have hg : GraphIs m Lc (oh ++ F) wr := GraphIs.drop (A := [_]) hat.is
          have hE := hcu.done HBH.out.2
          have hB2 := hcu.bd HBH.out.2 HBH.out.1
          have hst := stuck_any m Lc _ _ wr hg hB2
          have hlen := hcu.len
          have HST := Lib.hid hst
          have HV3 := Lib.hid hv3
          have HR := Lib.hid (And.intro hE hB2)
          clear hs hat hcu hit hv3 hg hE hB2 hst
          go_wp2_with fail
          refine (HST.out).mono ?_
          rintro e w9 ⟨v5', s9, sh9, rfl, hv5, hst9, hg9⟩
          obtain ⟨a9, c9, rfl⟩ := sl_form hv5
          have fin : VicO (Rel l) (l.map (·.2)) l.length m F Lc.length (.slice oa' (lo.length + 1) oc') (.slice a9 s9.length c9) w9 :=
            ⟨Lc, lo ++ [k], s9, oh, sh9, hg9.permF (List.perm_append_comm_assoc sh9 oh F), HR.out.2, HV3.out, hv5, hst9, fun r hr => HNX.out Lc r HR.out.1 hr, rfl, by rw [List.length_append]; simp; omega⟩
          have FIN := Lib.hid fin
          clear fin hv5 hst9 hg9 HST HV3 HR
          go_wp2_with fail
          go_roundg Lc.length
          case measure => omega
          case rel => exact FIN.out
        · have hll : lp'.length < gk := by have := hp.length_eq; simp at this; omega
          obtain ⟨n, hk, hgn⟩ := hcu.find (nodup_delL k HBH.out.2) (hp.mem_iff.2 (.head _))
          have hat2 : GraphAt m es clk Lc (.blk rr (.mapIter (some m) since seen' clk) :: (oh ++ F)) w' := ⟨hat.1, hat.2.1, hs'.perm (List.perm_middle (l₁ := GraphH m es clk Lc)).symm⟩
          have hnk : NdOk n := hat.1 (p.1, n) (getL_mem hk)
          obtain ⟨w2, n', hdel, hg', hD', hat3⟩ := hat2.cut (ty := 0) hk k
          have hcu2 := hcu.step hp hk hnk.nodup hg' hD'
          have hgp : nv n = nv p.2 := by unfold nv; rw [hgn]
          rw [hgp] at hdel
          have fin : VicI (Rel l) (l.map (·.2)) l.length m F rr k L (lo ++ [k]) (.slice oa' (lo.length + 1) oc') lp'.length w2 := ⟨_, lp', es, clk, _, since, seen', clk, oh, hat3, hcu2, hv3, rfl, hit', hle, rfl⟩
          have FIN := Lib.hid fin
          clear fin hs hat hcu hit hv3 hs' hat2 hnk hat3 hcu2 hk hgn hp hit' hgp hg' hD'
          generalize nv p.2 = pv at *
          go_wp2_with fail
          go_roundg lp'.length
          case measure => exact hll
          case rel => exact FIN.out
end Go.Proofs.Ytjkpghhbpcjjiaa
