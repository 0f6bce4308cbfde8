/- Texts put together: Md13, Md14, Md15, Md16. Conditions: none. -/
import Derived.RangeFuncNested
import Derived.RangeFuncBound
import Derived.RangeFuncCalls
import Derived.RangeFuncLeaves
import Derived.RangeFuncBox
import Derived.Shelf.Abstract
import Derived.Shelf.RegionOpen
import Derived.WalkKit
import Derived.OwnWalkIn
import Derived.TacticsInMore
import Derived.LoopNIn
import Derived.LoopIn
import Derived.StillTailTactics
import Derived.Deep.RegionHeld3
import Derived.Deep.RegionWith
import Derived.Deep.DeepCutAuto
import Derived.Deep.CutBlock
import Derived.Test.YtficgjklagnbjaaGreatFo22
namespace Go.Proofs.YtficgjklagnbjaaGreat
open Go Go.MapKept Go.RowKit Go.Proofs Go.Sort

/-- A past's own blocks. -/
def PsB (B : Heaplet) (pb : Nat) (S : PS) : Prop := ∃ lv nv av vs hl ha H, EnSl lv S.list hl ∧ SliceIs 30 1 av vs.length vs ha ∧ LvAt H nv S.now ∧ LvsAt H vs S.all ∧ B = .blk pb (psO lv nv av S.ow S.tx S.la) :: (hl ++ (ha ++ H))
theorem psB_of {pb : Nat} {S : PS} {F : Heaplet} {w : World} (h : PsIs pb S F w) : ∃ B, PsB B pb S ∧ Sat w (B ++ F) := by
  obtain ⟨lv, nv, av, vs, hl, ha, H, h1, h2, h3, h4, s⟩ := h
  exact ⟨_, ⟨lv, nv, av, vs, hl, ha, H, h1, h2, h3, h4, rfl⟩, by (refine Sat.part s ?_; intro a; simp only [cnt_cons, cnt_append, List.cons_append]; omega)⟩
theorem psB_is {pb : Nat} {S : PS} {B F : Heaplet} {w : World} (h : PsB B pb S) (s : Sat w (B ++ F)) : PsIs pb S F w := by
  obtain ⟨lv, nv, av, vs, hl, ha, H, h1, h2, h3, h4, rfl⟩ := h
  exact ⟨lv, nv, av, vs, hl, ha, H, h1, h2, h3, h4, by (refine Sat.part s ?_; intro a; simp only [cnt_cons, cnt_append, List.cons_append]; omega)⟩
theorem lr_push {R : List Lr} {v : Value} {h B : Heaplet} {w : World} {x : Nat} {n l : Int} {a : Option Addr} {len cap : Nat} (hv : LrSl v R h) (s : Sat w (.blk x (.cells #[kI n, kI l, .slice a len cap] 54) :: (h ++ B))) (hlen : R.length + 1 ≤ 200000) :
    ∃ v' w' h', (∀ ty, (Builtin.append_ #[30, 30] ty #[v, .slice (some ⟨x, 0, none⟩) 1 1]).run Tryz.prog w = .ok v' w') ∧ LrSl v' (R ++ [(n, l, .slice a len cap)]) h' ∧ Sat w' (h' ++ B) := by
  obtain ⟨i0, hin, hz, hsize, hby⟩ := info_parts infoLf
  have s2 : Sat w (.blk x (.cells (lrC (n, l, .slice a len cap)).toArray 54) :: ([] ++ (h ++ B))) := s
  exact sl_push (P := Tryz.prog) lrC_len Tryz.underlying30 hin hz hsize hby rfl (by decide) hv (n, l, .slice a len cap) s2 (by intro u hu; simp only [lrC, List.mem_cons, List.not_mem_nil, or_false] at hu; rcases hu with rfl | rfl | rfl <;> rfl) (by unfold maxLen; omega) (by omega)
theorem LrIs.push {H : Heaplet} {R : List Lr} {P : List Lf} {n : Int} {q : Pg} {sv : Value} (h : LrIs H R P) (hsl : SlAt H sv q.slots) : LrIs H (R ++ [(n, q.lsn, sv)]) (P ++ [(n, q)]) := by
  refine ⟨by simp [h.1], fun i r p hr hp => ?_⟩
  by_cases hi : i < P.length
  · rw [List.getElem?_append_left (by rw [h.1]; exact hi)] at hr
    rw [List.getElem?_append_left hi] at hp
    exact h.2 i r p hr hp
  · rw [List.getElem?_append_right (by rw [h.1]; omega)] at hr
    rw [List.getElem?_append_right (by omega)] at hp
    have h0 : i - P.length = 0 := by
      have := (List.getElem?_eq_some_iff.1 hp).1
      simp only [List.length_cons, List.length_nil] at this
      omega
    rw [h.1, h0] at hr
    rw [h0] at hp
    cases hr; cases hp
    exact ⟨rfl, rfl, hsl⟩
def verI (V : Nat → Int) (k n : Nat) : Nat := (umod (V n) ((k : Int) + 1)).toNat
def mixL (S : PS) (k : Nat) (V : Nat → Int) (n : Nat) : Lf := (((S.all[verI V k n]?).getD [])[n]?).getD (0, emptyP)
def mixedP (S : PS) (k : Nat) (V : Nat → Int) : List Lf := (List.range 4).map (mixL S k V)
theorem mixed_get {S : PS} {k : Nat} {V : Nat → Int} {n : Nat} (h : n < 4) : (mixedP S k V)[n]? = some (mixL S k V n) := by
  unfold mixedP
  rw [List.getElem?_map, List.getElem?_range h]; rfl
abbrev v4O (V : Nat → Int) : Obj := .cells #[kI (V 0), kI (V 1), kI (V 2), kI (V 3)] 23
theorem v4_get {V : Nat → Int} {n : Nat} (h : n < 4) : (#[kI (V 0), kI (V 1), kI (V 2), kI (V 3)] : Array Value)[n]? = some (kI (V n)) := by
  have h2 : n = 0 ∨ n = 1 ∨ n = 2 ∨ n = 3 := by omega
  rcases h2 with rfl | rfl | rfl | rfl <;> rfl
set_option maxRecDepth 100000 in
set_option maxHeartbeats 4000000 in
theorem mixed_any {pb : Nat} {S : PS} {B F : Heaplet} {w : World} {k : Nat} {V : Nat → Int} (hB : PsB B pb S) (s : Sat w (B ++ F)) (hk : k + 1 ≤ S.all.length) (hal : S.all.length ≤ 10000) (h4 : ∀ P ∈ S.all, P.length = 4) :
    Calls Tryz.prog 12 #[.pointer (some ⟨pb, 0, none⟩), .int .i64 (k : Int), .agg #[kI (V 0), kI (V 1), kI (V 2), kI (V 3)]] w fun e w' => ∃ v' h', e = .returned v' ∧ LvAt (h' ++ B) v' (mixedP S k V) ∧ Sat w' (h' ++ (B ++ F)) := by
  have hBB := hB
  obtain ⟨lv, nv, av, vs, hl, ha, H, h1, h2, h3, h5, rfl⟩ := hB
  obtain ⟨M, hM⟩ : ∃ M : Int, (k : Int) + 1 = M := ⟨_, rfl⟩
  have hMb : 1 ≤ M ∧ M ≤ 10000 := by omega
  have hm1 : wrap64 ((k : Int) + 1) = M := by rw [hM, IntWalk.wrap64_in _ (by omega)]
  have hm2 : IntKind.i64.wrap ((k : Int) + 1) = M := by rw [hM, IntWalk.i64_in _ (by omega)]
  have hm3 : IntKind.u64.wrap M = M := by rw [IntKind.wrap_u64]; omega
  have hm4 : (M == 0) = false := by rw [beq_eq_false_iff_ne]; omega
  have hm5 : (M = 0) = False := eq_false (by omega)
  have s1 := s.new (v4O V)
  have HS : Hid (∃ R h, LrSl (.slice (some ⟨w.heap.size + 1, 0, none⟩) 0 0) R h ∧ LrIs (.blk pb (psO lv nv av S.ow S.tx S.la) :: (hl ++ (ha ++ H))) R ((mixedP S k V).take 0) ∧ Sat ((w.alloc (v4O V)).alloc (.cells #[] 54)) (h ++ (.blk w.heap.size (v4O V) :: ((.blk pb (psO lv nv av S.ow S.tx S.la) :: (hl ++ (ha ++ H))) ++ F)))) := Lib.hid (by
    have h0 := s1.new (.cells #[] 54)
    rw [World.size_alloc] at h0
    exact ⟨[], [.blk (w.heap.size + 1) (.cells #[] 54)], sl_new 54 3 _, ⟨rfl, fun i r p hr => by simp at hr⟩, h0⟩)
  have HV := Lib.hid (And.intro h2 (And.intro h5 (And.intro hk (And.intro hal (And.intro h4 (And.intro hM hMb))))))
  clear s s1 h1 h3 hBB hMb hM
  go_enter Tryz.func12, Tryz.ntmps12
  go_upto_region 2 with (fail)
  generalize (w.alloc (.cells #[kI (V 0), kI (V 1), kI (V 2), kI (V 3)] 23)).alloc (.cells #[] 54) = W2 at *
  generalize w.heap.size = vb at *
  go_wp2_with fail
  go_loopw [7, 8] (fun v7 v8 wr => ∃ (n : Nat) (R : List Lr) (h : Heaplet), n ≤ 4 ∧ v8 = .int .i64 n ∧ LrSl v7 R h ∧ LrIs (.blk pb (psO lv nv av S.ow S.tx S.la) :: (hl ++ (ha ++ H))) R ((mixedP S k V).take n) ∧ Sat wr (h ++ (.blk vb (v4O V) :: ((.blk pb (psO lv nv av S.ow S.tx S.la) :: (hl ++ (ha ++ H))) ++ F)))) (fun _ v8 _ => 100 - (RowKit.intOf v8).toNat)
  case atStart =>
    obtain ⟨R, h, h1, h2, h3⟩ := HS.out
    exact ⟨0, R, h, by omega, rfl, h1, h2, h3⟩
  case round =>
    clear HS
    obtain ⟨n, R, h, hn, rfl, hv, hi, hs⟩ := hrel
    have n0 : (0 : Int) ≤ (n : Int) := by omega
    obtain ⟨ra, rc, rfl⟩ := sl_form hv
    by_cases hnl : n < 4
    · have n1 : (n : Int) < 4 := by omega
      have hln : R.length = n := by rw [hi.1, List.length_take]; show min n 4 = n; omega
      obtain ⟨hk, hal, h4, hM, hMb⟩ := HV.out.2.2
      obtain ⟨j, hj, hj0, hj1⟩ : ∃ j : Nat, umod (V n) M = (j : Int) ∧ verI V k n = j ∧ j < S.all.length := by
        have := umod_bd (V n) M (by omega) (by omega)
        refine ⟨(umod (V n) M).toNat, by omega, by unfold verI; rw [hM], by omega⟩
      obtain ⟨Q, hQ⟩ : ∃ Q, S.all[j]? = some Q := ⟨_, List.getElem?_eq_getElem hj1⟩
      have hQ4 := h4 Q (List.mem_of_getElem? hQ)
      obtain ⟨p, hp⟩ : ∃ p, Q[n]? = some p := ⟨_, List.getElem?_eq_getElem (by omega)⟩
      have hmx : mixL S k V n = p := by unfold mixL; rw [hj0, hQ]; show (Q[n]?).getD _ = p; rw [hp]; rfl
      obtain ⟨pn, q⟩ := p
      have hvl : vs.length = S.all.length := HV.out.2.1.1
      obtain ⟨qv, hqv⟩ : ∃ qv, vs[j]? = some qv := ⟨_, List.getElem?_eq_getElem (by omega)⟩
      obtain ⟨qa, qc, rfl, hcc⟩ := HV.out.2.1.2 j qv Q hqv hQ
      obtain ⟨qg, qo, sv, rfl, hsv, hu⟩ := hcc n _ hp
      simp only at hsv hu
      obtain ⟨sa, sc, rfl, _⟩ := id hsv
      have hsH : Sat wr (H ++ F) := by (refine Sat.part hs ?_; intro a; simp only [cnt_cons, cnt_append, List.cons_append]; omega)
      obtain ⟨u0, u1, u2⟩ := hu wr hsH.left'
      have hsA : Sat wr (ha ++ (.blk vb (v4O V) :: F)) := by (refine Sat.part hs ?_; intro a; simp only [cnt_cons, cnt_append, List.cons_append]; omega)
      obtain ⟨ag, ac, rfl⟩ := sl_some HV.out.1 (by omega)
      have c1 := (SliceIs.cell HV.out.1 hsA rfl hqv).2.2
      have c2 : wr.cell? ⟨pb, 2, none⟩ = some (.slice (some ⟨ag, 0, none⟩) vs.length ac) := by rw [cell_of (hs.get (b := pb) (o := psO lv nv (.slice (some ⟨ag, 0, none⟩) vs.length ac) S.ow S.tx S.la) (by simp))]; rfl
      have c3 : wr.cell? ⟨vb, n, none⟩ = some (kI (V n)) := by rw [cell_of (hs.get (b := vb) (o := v4O V) (by simp))]; exact v4_get hnl
      have hx1 : wrap64 ((IntKind.u64.wrap (V n)).tmod M) = (j : Int) := hj
      have hx2 : IntKind.i64.wrap ((IntKind.u64.wrap (V n)).tmod M) = (j : Int) := (IntWalk.i64_left _).trans hj
      have j0 : (0 : Int) ≤ (j : Int) := by omega
      have j1 : (j : Int) < (vs.length : Int) := by omega
      have n3 : (n : Int) < (Q.length : Int) := by omega
      rw [hln] at hv ⊢
      have hND : Sat ((wr.alloc (.cells #[kI pn, kI q.lsn, .slice sa q.slots.length sc] 54)).drew) (.blk wr.heap.size (.cells #[kI pn, kI q.lsn, .slice sa q.slots.length sc] 54) :: (h ++ (.blk vb (v4O V) :: ((.blk pb (psO lv nv (.slice (some ⟨ag, 0, none⟩) vs.length ac) S.ow S.tx S.la) :: (hl ++ (ha ++ H))) ++ F)))) := (hs.new _).drew
      obtain ⟨v9, w9, h9, hap, hv9, hs9⟩ := lr_push hv hND (by omega)
      have hap : ∀ ty, (Builtin.append_ #[30, 30] ty #[.slice ra n rc, .slice (some ⟨wr.heap.size, 0, none⟩) 1 1]).run Tryz.prog ((wr.alloc (.cells #[kI pn, kI q.lsn, .slice sa q.slots.length sc] 54)).drew) = .ok v9 w9 := hap
      have HAP := Lib.hid hap
      have FIN : Hid (LrSl v9 (R ++ [((pn, q.lsn, .slice sa q.slots.length sc) : Lr)]) h9 ∧ LrIs (.blk pb (psO lv nv (.slice (some ⟨ag, 0, none⟩) vs.length ac) S.ow S.tx S.la) :: (hl ++ (ha ++ H))) (R ++ [((pn, q.lsn, .slice sa q.slots.length sc) : Lr)]) ((mixedP S k V).take (n + 1)) ∧ Sat w9 (h9 ++ (.blk vb (v4O V) :: ((.blk pb (psO lv nv (.slice (some ⟨ag, 0, none⟩) vs.length ac) S.ow S.tx S.la) :: (hl ++ (ha ++ H))) ++ F)))) := Lib.hid ⟨hv9, by
        rw [List.take_add_one, mixed_get hnl, hmx]
        exact hi.push (hsv.mono (fun w hw => (Sat.tail hw).right.right)), hs9⟩
      clear hv hi hs hln hk hal h4 hM hMb hj hj0 hj1 hQ hQ4 hp hmx hvl hqv hcc hsv hu hsH hsA hND hap hv9 hs9
      go_upto_region 5 with (fail)
      obtain ⟨ra9, rc9, rfl⟩ := sl_form FIN.out.1
      have e9 : (R ++ [((pn, q.lsn, .slice sa q.slots.length sc) : Lr)]).length = R.length + 1 := by simp
      have FI3 : Hid (LrSl (.slice ra9 (R.length + 1) rc9) (R ++ [((pn, q.lsn, .slice sa q.slots.length sc) : Lr)]) h9) := Lib.hid (by rw [← e9]; exact FIN.out.1)
      clear e9
      go_region_law ((refine step_append_run (by rfl) _ _ _ _ (by rfl) _ _ _ w9 (by rfl) (by rfl) HAP.out ?_))
      all_goals
        go_wp2_with fail
        exact ⟨⟨n + 1, _, h9, by omega, by simp, FI3.out, FIN.out.2.1, FIN.out.2.2⟩, by simp only [RowKit.intOf]; omega⟩
    · have e4 : n = 4 := by omega
      have n1 : ((n : Int) < 4) = False := eq_false (by omega)
      have htk : (mixedP S k V).take n = mixedP S k V := by rw [e4]; rfl
      rw [htk] at hi
      have FIN : Hid (LvAt (h ++ (.blk vb (v4O V) :: (.blk pb (psO lv nv av S.ow S.tx S.la) :: (hl ++ (ha ++ H))))) (.slice ra R.length rc) (mixedP S k V)) := Lib.hid ((lrs_at hv hi).mono (fun w hw => by (refine Sat.part hw ?_; intro a; simp only [cnt_cons, cnt_append]; omega)))
      have FI2 : Hid (Sat wr ((h ++ [.blk vb (v4O V)]) ++ ((.blk pb (psO lv nv av S.ow S.tx S.la) :: (hl ++ (ha ++ H))) ++ F))) := Lib.hid (by (refine Sat.part hs ?_; intro a; simp only [cnt_cons, cnt_append, cnt_nil, List.cons_append]; omega))
      clear hs hv hi hn e4 htk
      go_wp2_with fail
      go_ret
      exact ⟨_, h ++ [.blk vb (v4O V)], rfl, FIN.out.mono (fun w hw => by (refine Sat.part hw ?_; intro a; simp only [cnt_cons, cnt_append, cnt_nil]; omega)), FI2.out⟩
end Go.Proofs.YtficgjklagnbjaaGreat
namespace Go.Proofs.YtficgjklagnbjaaGreat
open Go Go.MapKept Go.RowKit Go.Proofs Go.Shelf

attribute [local go_sem] Oper.semAt_some

/-- Nothing shrinks, and what K0 tells stays. -/
def KH (K0 : Heaplet) (W W' : World) : Prop := W.heap.size ≤ W'.heap.size ∧ (Sat W K0 → Sat W' K0)
theorem KH.refl (K0 : Heaplet) (W : World) : KH K0 W W := ⟨Nat.le_refl _, id⟩
theorem KH.trans {K0 : Heaplet} {A B C : World} (h : KH K0 A B) (k : KH K0 B C) : KH K0 A C := ⟨Nat.le_trans h.1 k.1, fun s => k.2 (h.2 s)⟩
/-- The records among the first slots. -/
def rowsU (L : List Sl) (j : Nat) : List (Int × ByteArray) := ((L.take j).zipIdx).filterMap fun s => if s.1.1 = true then some ((s.2 : Int), s.1.2) else none
theorem rowsU_succ {L : List Sl} {j : Nat} {s : Sl} (h : L[j]? = some s) : rowsU L (j + 1) = rowsU L j ++ (if s.1 = true then [((j : Int), s.2)] else []) := by
  unfold rowsU
  have hj := (List.getElem?_eq_some_iff.1 h).1
  rw [List.take_add_one, h, List.zipIdx_append, List.filterMap_append]
  congr 1
  simp only [Option.toList_some, List.zipIdx_cons, List.zipIdx_nil, List.filterMap_cons, List.filterMap_nil, List.length_take, Nat.zero_add]
  have e : min j L.length = j := by omega
  rw [e]
  split <;> simp_all
theorem rowsU_pre {L : List Sl} {i j : Nat} (h : i ≤ j) : rowsU L i <+: rowsU L j := by
  induction j with
  | zero =>
    obtain rfl : i = 0 := by omega
    exact List.prefix_refl _
  | succ j ih =>
    by_cases e : i = j + 1
    · subst e; exact List.prefix_refl _
    · have h1 := ih (by omega)
      cases hL : L[j]? with
      | none =>
        have : rowsU L (j + 1) = rowsU L j := by
          unfold rowsU
          rw [List.take_add_one, hL]; simp
        rw [this]; exact h1
      | some s =>
        rw [rowsU_succ hL]
        exact h1.trans (List.prefix_append _ _)
def rowsS (p : Pg) : List (Int × ByteArray) := if goodP p = true then rowsU p.slots p.slots.length else []
set_option maxRecDepth 100000 in
set_option maxHeartbeats 4000000 in
theorem rows_stops (n : Nat) (hn : 1 ≤ n) (Bx : Nat) (p : Pg) (v : Value) (K0 : Heaplet) (w0 : World) (hB : Sat w0 (.blk Bx (.cells #[kI p.lsn, v] 52) :: K0)) (hv : SlAt K0 v p.slots) (hl : p.slots.length ≤ 1000) (hd : ∀ x ∈ p.slots, x.2.size ≤ 1000000) (hp : -9223372036854775808 ≤ p.lsn ∧ p.lsn ≤ 9223372036854775807) :
    SeqStopsK Fence.wide n Tryz.prog 74 #[.pointer (some ⟨Bx, 0, none⟩)] (fun x : Int × ByteArray => #[kI x.1, kS x.2]) (KH (.blk Bx (.cells #[kI p.lsn, v] 52) :: K0)) (fun ys => ys = rowsS p) (fun pre => pre <+: rowsS p) (rowsS p).length w0 := by
  intro l J Jx W hW hJ hJx hY h0
  have hs : Sat W (.blk Bx (.cells #[kI p.lsn, v] 52) :: K0) := hB.monoB hW
  have c0 : W.cell? ⟨Bx, 0, none⟩ = some (kI p.lsn) := by rw [cell_of hs.h0]; rfl
  have c1 : W.cell? ⟨Bx, 1, none⟩ = some v := by rw [cell_of hs.h0]; rfl
  have HG := Lib.hid (pgood_any (hv.mono (F' := .blk Bx (.cells #[kI p.lsn, v] 52) :: K0) (fun w hw => hw.tail)) hs hl hd hp)
  obtain ⟨gp, hgp⟩ : ∃ gp, goodP p = gp := ⟨_, rfl⟩
  rw [hgp] at HG
  have HGP := Lib.hid hgp
  obtain ⟨a, cap, rfl, hcc⟩ := hv
  have HCC := Lib.hid hcc
  have HS := Lib.hid hs
  have hl9 : (p.slots.length : Int) ≤ 1000 := by omega
  clear hB hs hcc hgp hd hp
  refine callsIn_of_wp Tryz.func74 rfl trivial ?_ rfl
  simp only [Tryz.ntmps74, List.size_toArray, List.length_cons, List.length_nil, Nat.reduceAdd, Nat.reduceSub, Array.replicate_succ, Array.replicate_zero, List.push_toArray, List.append_toArray, List.nil_append, List.cons_append]
  gi_wp2_with fail
  refine ⟨trivial, ?_⟩
  refine (callsIn_wide.2 HG.out).mono ?_
  rintro e W1 ⟨rfl, hb⟩
  have hs1 := HS.out.grown hb
  have hJ1 : J [] W1 := hJ [] W W1 none h0 (grown_of_below hb.below) (fun r e => by cases e)
  have HS1 := Lib.hid (And.intro hs1 hb)
  cases gp with
  | false =>
    have hrs : rowsS p = [] := by unfold rowsS; rw [HGP.out]; rfl
    have FIN : Hid (J (rowsS p) W1) := Lib.hid (by rw [hrs]; exact hJ1)
    clear hs1 hJ1 hrs hb
    gi_wp2_with fail
    refine bodyPost_ret (results_none rfl _ _ _) rfl ?_
    exact ⟨⟨_, rfl⟩, .inl ⟨_, rfl, FIN.out⟩⟩
  | true =>
    have hrs : rowsS p = rowsU p.slots p.slots.length := by unfold rowsS; rw [HGP.out]; rfl
    have d1 : W1.cell? ⟨Bx, 1, none⟩ = some (.slice a p.slots.length cap) := by rw [cell_of hs1.h0]; rfl
    have HRS := Lib.hid hrs
    clear hrs hb
    gi_wp2_with fail
    gi_loopw [11] (fun c wr => ∃ j : Nat, j ≤ p.slots.length ∧ c = .int .i64 j ∧ J (rowsU p.slots j) wr ∧ W.heap.size ≤ wr.heap.size ∧ Sat wr (.blk Bx (.cells #[kI p.lsn, .slice a p.slots.length cap] 52) :: K0)) (fun c _ => p.slots.length - (intOf c).toNat)
    case atStart => exact ⟨0, by omega, rfl, hJ1, HS1.out.2.below.size, hs1⟩
    case round =>
      obtain ⟨j, hj, rfl, hJs, hsz, hk⟩ := hrel
      clear hJ1 hs1 d1
      have j0 : (0 : Int) ≤ (j : Int) := by omega
      by_cases hlt : j < p.slots.length
      · have j1 : (j : Int) < (p.slots.length : Int) := by omega
        obtain ⟨x, hx⟩ : ∃ x, p.slots[j]? = some x := ⟨_, List.getElem?_eq_getElem hlt⟩
        obtain ⟨g, off, rfl, hcell⟩ := HCC.out j x hx
        obtain ⟨u0, u1⟩ := hcell wr hk.tail
        have hsu := rowsU_succ hx
        have hJ2 : J (rowsU p.slots j) (wr.alloc (.cells #[.bool x.1, kS x.2] 41)) := hJ _ wr _ none hJs (grown_of_below (Grown.alloc wr _).below) (fun r e => by cases e)
        have hk2 := (hk.new (.cells #[.bool x.1, kS x.2] 41)).tail
        have hk3 := hk.new (.cells #[.bool x.1, kS x.2] 41)
        have v0 : (wr.alloc (.cells #[.bool x.1, kS x.2] 41)).cell? ⟨wr.heap.size, 0, none⟩ = some (.bool x.1) := by rw [cell_of hk3.h0]; rfl
        have v1 : (wr.alloc (.cells #[.bool x.1, kS x.2] 41)).cell? ⟨wr.heap.size, 1, none⟩ = some (kS x.2) := by rw [cell_of hk3.h0]; rfl
        have hsz2 : W.heap.size ≤ (wr.alloc (.cells #[.bool x.1, kS x.2] 41)).heap.size := by rw [World.size_alloc]; omega
        obtain ⟨b, hb⟩ : ∃ b, x.1 = b := ⟨_, rfl⟩
        rw [hb] at u0 v0 hsu hJ2 hk2 hsz2 v1
        have HX := Lib.hid (And.intro hx hb)
        clear hcell hk hk3 hJs hx
        cases b with
        | false =>
          have e1 : rowsU p.slots (j + 1) = rowsU p.slots j := by rw [hsu]; simp
          have FIN : Hid (J (rowsU p.slots (j + 1)) (wr.alloc (.cells #[.bool false, kS x.2] 41)) ∧ W.heap.size ≤ (wr.alloc (.cells #[.bool false, kS x.2] 41)).heap.size ∧ Sat (wr.alloc (.cells #[.bool false, kS x.2] 41)) (.blk Bx (.cells #[kI p.lsn, .slice (some ⟨g, off, none⟩) p.slots.length cap] 52) :: K0)) := Lib.hid ⟨by rw [e1]; exact hJ2, hsz2, hk2⟩
          clear hJ2 hsz2 hk2 e1 hsu HX hb
          gi_wp2
          refine ⟨fun f h => (by cases h), ?_⟩
          gi_wp2
          go_roundw
          case rel => exact ⟨j + 1, by omega, by simp, FIN.out.1, FIN.out.2.1, FIN.out.2.2⟩
          case measure => simp only [intOf]; omega
        | true =>
          have hln : (rowsU p.slots j).length < (rowsS p).length := by
            have h1 := (rowsU_pre (L := p.slots) (i := j + 1) (j := p.slots.length) (by omega)).length_le
            rw [hsu] at h1
            rw [HRS.out]
            simp at h1
            omega
          obtain ⟨fn, tmps, assign, body, hy, hR'⟩ := hY _ ((j : Int), x.2) _ hJ2 hln
          have htk : rowsU p.slots j ++ [((j : Int), x.2)] = rowsU p.slots (j + 1) := by rw [hsu]; simp
          rw [htk] at hR'
          have HK := Lib.hid (And.intro hk2 hsz2)
          have HPRE : Hid (rowsU p.slots (j + 1) <+: rowsS p) := Lib.hid (by rw [HRS.out]; exact rowsU_pre (by omega))
          clear hJ2 hsz2 hk2 hln htk hsu HX hb
          gi_wp2
          refine hR'.mono ?_
          rintro e W4 (⟨rfl, hJ4, hk4⟩ | ⟨rfl, hJx4⟩)
          · gi_wp2
            go_roundw
            case rel => exact ⟨j + 1, by omega, by simp, hJ4, Nat.le_trans HK.out.2 hk4.1, hk4.2 HK.out.1⟩
            case measure => simp only [intOf]; omega
          · gi_wp2
            refine bodyPost_ret (results_none rfl _ _ _) rfl ?_
            exact ⟨⟨_, rfl⟩, .inr ⟨_, HPRE.out, hJx4⟩⟩
      · have hje : j = p.slots.length := by omega
        have j1 : ((j : Int) < (p.slots.length : Int)) = False := eq_false (by omega)
        have FIN : Hid (J (rowsS p) wr) := Lib.hid (by rw [HRS.out, ← hje]; exact hJs)
        clear hJs hk hsz hlt hj hje
        gi_wp2
        go_end0
        exact ⟨⟨_, rfl⟩, .inl ⟨_, rfl, FIN.out⟩⟩
end Go.Proofs.YtficgjklagnbjaaGreat
namespace Go.Proofs.YtficgjklagnbjaaGreat
open Go Go.MapKept Go.RowKit Go.Proofs Go.Shelf

theorem ins_one (a : Option Addr) (n cap : Nat) (f : Value) (w : World) (h : n ≤ 1) :
    Calls Tryz.prog 92 #[.slice a n cap, .int .i64 0, .int .i64 (n : Int), f] w (Ret (.tuple #[]) (Same w)) := by
  have h1 : ((1 : Int) < (n : Int)) = False := eq_false (by omega)
  have h2 : (1 < n) = False := eq_false (by omega)
  go_enter Tryz.func92, Tryz.ntmps92
  go_wp2_with fail
  refine wp_loop_once ?_
  go_wp2_with fail
  refine bodyPost_end (results_none rfl _ _ _) rfl ?_
  exact ⟨rfl, rfl⟩
theorem stable_one (a : Option Addr) (n cap : Nat) (f : Value) (w : World) (h : n ≤ 1) :
    Calls Tryz.prog 75 #[.slice a n cap, .int .i64 (n : Int), f] w (Ret (.tuple #[]) (Same w)) := by
  have h1 : ((20 : Int) ≤ (n : Int)) = False := eq_false (by omega)
  have h2 : (20 ≤ n) = False := eq_false (by omega)
  have h3 : ((20 : Int) < (n : Int)) = False := eq_false (by omega)
  have h4 : (20 < n) = False := eq_false (by omega)
  have HI := Lib.hid (ins_one a n cap f w h)
  clear h
  go_enter Tryz.func75, Tryz.ntmps75
  go_wp2_with fail
  refine wp_loop_once ?_
  go_wp2_with fail
  refine (HI.out).mono ?_
  rintro e w1 ⟨rfl, rfl⟩
  go_wp2_with fail
  refine wp_loop_once ?_
  go_wp2_with fail
  refine bodyPost_end (results_none rfl _ _ _) rfl ?_
  exact ⟨rfl, rfl⟩
theorem sort_one (a : Option Addr) (n cap : Nat) (f : Value) (w : World) (h : n ≤ 1) :
    Calls Tryz.prog 40 #[.slice a n cap, f] w (Ret (.tuple #[]) (Same w)) := by
  have HI := Lib.hid (stable_one a n cap f w h)
  clear h
  go_enter Tryz.func40, Tryz.ntmps40
  go_wp2_with fail
  refine (HI.out).mono ?_
  rintro e w1 ⟨rfl, rfl⟩
  go_wp2_with fail
  refine bodyPost_end (results_none rfl _ _ _) rfl ?_
  exact ⟨rfl, rfl⟩
theorem srows_any (l : Int) (a : Option Addr) (n cap : Nat) (w : World) : Calls Tryz.prog 39 #[pgV l (.slice a n cap)] w fun e w' => e = .returned (.func (.func 74) #[] #[.pointer (some ⟨w.heap.size, 0, none⟩)]) ∧ w' = w.alloc (.cells #[kI l, .slice a n cap] 52) := by
  go_enter Tryz.func39, Tryz.ntmps39
  go_wp2_with fail
  go_ret
  exact ⟨rfl, rfl⟩
end Go.Proofs.YtficgjklagnbjaaGreat
namespace Go.Proofs.YtficgjklagnbjaaGreat
open Go Go.MapKept Go.RowKit Go.Proofs Go.Shelf

attribute [local go_sem] Oper.semAt_some

abbrev Rw := Int × Int × ByteArray
abbrev rwC (r : Rw) : List Value := [kI r.1, kI r.2.1, kS r.2.2]
theorem rwC_len (r : Rw) : (rwC r).length = 3 := rfl
abbrev RwSl (v : Value) (R : List Rw) (h : Heaplet) : Prop := SliceIs 73 3 v R.length (R.flatMap rwC) h
def rowsL (p : Lf) : List Rw := (rowsS p.2).map fun x => (p.1, x.1, x.2)
theorem infoRw : (Tryz.prog.info? 73).map (fun i => (i.zero, i.size, i.bytes)) = some (some (.agg #[kI 0, kI 0, kS ⟨#[]⟩]), 3, 32) := by kernel_rfl
theorem one_rw (q : Rw) : ∀ u ∈ rwC q, u.oneCell' = true := by
  intro u hu
  simp only [rwC, List.mem_cons, List.not_mem_nil, or_false] at hu
  rcases hu with rfl | rfl | rfl <;> rfl
/-- An append; the element's own block stays known. -/
theorem rw_pushX {R : List Rw} {v : Value} {h F : Heaplet} {w : World} {x : Nat} (q : Rw) (hv : RwSl v R h) (s : Sat w (.blk x (.cells #[kI q.1, kI q.2.1, kS q.2.2] 73) :: (h ++ F))) (hlen : R.length + 1 ≤ 200000) :
    ∃ v' w' h', (∀ ty, (Builtin.append_ #[70, 70] ty #[v, .slice (some ⟨x, 0, none⟩) 1 1]).run Tryz.prog w = .ok v' w') ∧ RwSl v' (R ++ [q]) h' ∧ Sat w' (.blk x (.cells #[kI q.1, kI q.2.1, kS q.2.2] 73) :: (h' ++ F)) := by
  obtain ⟨i0, hi, hz, hsize, hby⟩ := info_parts infoRw
  have s1 : Sat w (h ++ (.blk x (.cells #[kI q.1, kI q.2.1, kS q.2.2] 73) :: F)) := s.perm (List.perm_middle).symm
  have hx := s.h0
  have hnews : ∀ j u, (rwC q)[j]? = some u → w.cell? ((⟨x, 0, none⟩ : Addr).add j) = some u := by
    intro j u hu
    have hadd : (⟨x, 0, none⟩ : Addr).add j = ⟨x, j, none⟩ := by unfold Addr.add; split <;> simp_all
    rw [hadd, cell_of hx]
    simpa using hu
  obtain ⟨v', w', h', hr, hsl, hsat⟩ := sat_append (P := Tryz.prog) (ty := 0) Tryz.underlying70 hi hz hsize hby rfl (by decide) hv s1 ⟨x, 0, none⟩ 1 1 (rwC q) rfl hnews (one_rw q) (by decide) (by unfold maxLen; omega) (by omega)
  refine ⟨v', w', h', fun ty => hr, ?_, hsat.perm List.perm_middle⟩
  have e : (R ++ [q]).flatMap rwC = R.flatMap rwC ++ rwC q := by rw [List.flatMap_append]; simp
  show SliceIs _ _ _ _ _ _
  rw [e, List.length_append]
  exact hsl
/-- Between two rounds: the rows so far. -/
def RoI (B ob : Nat) (n : Int) (G : Heaplet) (pre : List (Int × ByteArray)) (W : World) : Prop :=
  B ≤ W.heap.size ∧ ∃ v h, RwSl v (pre.map fun x => (n, x.1, x.2)) h ∧ Sat W (h ++ (.blk ob (.cells #[v] 70) :: G))
theorem RoI.under {B ob : Nat} {n : Int} {G : Heaplet} {pre : List (Int × ByteArray)} {v : Value} {h : Heaplet} (hG : ∀ b o, HItem.blk b o ∈ G → b < B) (hv : RwSl v (pre.map fun x => (n, x.1, x.2)) h) : UnderC B (h ++ (.blk ob (.cells #[v] 70) :: G)) := by
  intro b o hm
  rcases List.mem_append.1 hm with hm | hm
  · exact .inr (slice_cells hv b o hm)
  · cases hm with
    | head => exact .inr rfl
    | tail _ hm => exact .inl (hG b o hm)
theorem RoI.grown {B ob : Nat} {n : Int} {G : Heaplet} {pre : List (Int × ByteArray)} {W W' : World} {row : Option Nat} (hG : ∀ b o, HItem.blk b o ∈ G → b < B) (h : RoI B ob n G pre W) (hg : W.grownBy W' row)
    (hr : ∀ r, row = some r → B ≤ r ∧ ∃ o : Obj, W.heap[r]? = some o ∧ o.isCells = false) : RoI B ob n G pre W' := by
  obtain ⟨h1, v, h, hv, hs⟩ := h
  exact ⟨Nat.le_trans h1 hg.size, v, h, hv, hs.ownGrownC (RoI.under hG hv) hg hr⟩
theorem KH.put {K0 : Heaplet} {B : Nat} (hK : ∀ b o, HItem.blk b o ∈ K0 → b < B) (W : World) (l : Nat) (o o' : Obj) (hB : B ≤ l) (h : W.heap[l]? = some o) (h1 : o.isCells = false) : KH K0 W (W.putObj l o') :=
  ⟨(grownBy_putObj' W l o').size, fun s => s.ownGrownC (B := B) (fun b o hm => .inl (hK b o hm)) (grownBy_putObj' W l o') (fun r e => by cases e; exact ⟨hB, o, h, h1⟩)⟩
set_option maxRecDepth 100000 in
set_option maxHeartbeats 4000000 in
theorem rows_one {v : Value} {p : Lf} {F : Heaplet} {w : World} (hv : LvAt F v [p]) (s : Sat w F) (hp0 : 0 ≤ p.1) (hp1 : p.1 < 1024) (hg : goodP p.2 = true) (h1 : (rowsS p.2).length ≤ 1) :
    Calls Tryz.prog 23 #[v] w fun e w' => ∃ rv h, e = .returned rv ∧ RwSl rv (rowsL p) h ∧ Sat w' (h ++ F) := by
  obtain ⟨a, cap, rfl, hc⟩ := hv
  obtain ⟨g, off, sv, rfl, hsv, hu⟩ := hc 0 p rfl
  simp only [Nat.zero_mul, Nat.add_zero] at hu
  obtain ⟨n, q⟩ := p
  simp only at hsv hu hp0 hp1 hg h1
  obtain ⟨sa, sc, rfl, _⟩ := id hsv
  obtain ⟨u0, u1, u2⟩ := hu w s
  have hmm := @run_makeMap Tryz.prog
  have s1 := s.new (.cells #[.slice none 0 0] 70)
  have H0 : SeenAt (w.heap.size + 1) [] (.blk w.heap.size (.cells #[.slice none 0 0] 70) :: F) ((w.alloc (.cells #[.slice none 0 0] 70)).alloc (.map #[] 0)) := ⟨#[], 0, [], mapOk_new kI_key kI_inj, (fun k => rfl), by
    have h0 := s1.new (.map #[] 0)
    rw [World.size_alloc] at h0
    exact h0⟩
  have H1 := H0.new (.cells #[kI n, kI q.lsn, .slice sa q.slots.length sc] 54)
  have hsz : ((w.alloc (.cells #[.slice none 0 0] 70)).alloc (.map #[] 0)).heap.size = w.heap.size + 1 + 1 := by simp
  rw [hsz] at H1
  have HH := Lib.hid H1
  have HSV := Lib.hid hsv
  have HG := Lib.hid (And.intro hg h1)
  have e0 : ((w.alloc (.cells #[.slice none 0 0] 70)).alloc (.map #[] 0)).cell? ⟨g, off, none⟩ = some (kI n) := (hu _ H0.frame.tail).1
  have e1 : ((w.alloc (.cells #[.slice none 0 0] 70)).alloc (.map #[] 0)).cell? ⟨g, off + 1, none⟩ = some (kI q.lsn) := (hu _ H0.frame.tail).2.1
  have e2 : ((w.alloc (.cells #[.slice none 0 0] 70)).alloc (.map #[] 0)).cell? ⟨g, off + 2, none⟩ = some (.slice sa q.slots.length sc) := (hu _ H0.frame.tail).2.2
  have hn1 : (n < 0) = False := eq_false (by omega)
  have hn2 : (1024 ≤ n) = False := eq_false (by omega)
  clear hc hu hg h1 s s1 H0 H1 hsv hp0 hp1 u0 u1 u2
  refine (callsIn_wide (n := 9)).1 ?_
  refine callsIn_of_wp_marks Tryz.func23 rfl trivial ?_ rfl
  simp only [Tryz.ntmps23, List.size_toArray, List.length_cons, List.length_nil, Nat.reduceAdd, Nat.reduceSub, Array.replicate_succ, Array.replicate_zero, List.push_toArray, List.append_toArray, List.nil_append, List.cons_append]
  refine wpIn_wide.2 ?_
  go_wp2_with fail
  refine wp_loop_rounds 2 ?_
  rw [rounds_succ]
  go_upto_region 6 with (fail)
  clear e0 e1 e2 hsz
  generalize ((w.alloc (.cells #[.slice none 0 0] 70)).alloc (.map #[] 0)).alloc (.cells #[kI n, kI q.lsn, .slice sa q.slots.length sc] 54) = W3 at *
  generalize w.heap.size = ob at *
  have hlk := HH.out.look n
  have hlk : (Instr.lookup 103 (.map (some (ob + 1))) (kI n) false).run Tryz.prog W3 = .ok (.bool false) W3 := hlk
  obtain ⟨W4, hupd, hse4⟩ := HH.out.put n
  have x0 : W3.cell? ⟨ob + 1 + 1, 0, none⟩ = some (kI n) := by rw [cell_of HH.out.frame.h0]; rfl
  obtain ⟨es, clk, D, hm1, hm2, s4⟩ := hse4
  have y1 : W4.cell? ⟨ob + 1 + 1, 1, none⟩ = some (kI q.lsn) := by rw [cell_of s4.h1]; rfl
  have y2 : W4.cell? ⟨ob + 1 + 1, 2, none⟩ = some (.slice sa q.slots.length sc) := by rw [cell_of s4.h1]; rfl
  have HS4 := Lib.hid s4
  clear hm1 hm2 s4 HH
  go_wp2_with (go_at_call 39; refine (srows_any _ _ _ _ _).mono ?_; rintro e w5 ⟨rfl, rfl⟩)
  clear y1 y2 x0 hlk hupd
  have hs5 := HS4.out.new (.cells #[kI q.lsn, .slice sa q.slots.length sc] 52)
  have hbx : W4.heap.size < (W4.alloc (.cells #[kI q.lsn, .slice sa q.slots.length sc] 52)).heap.size := by simp
  generalize W4.alloc (.cells #[kI q.lsn, .slice sa q.slots.length sc] 52) = W5 at *
  have hs6 : Sat W5 (.blk W4.heap.size (.cells #[kI q.lsn, .slice sa q.slots.length sc] 52) :: F) := by (refine Sat.part hs5 ?_; intro a; simp only [cnt_cons]; omega)
  have hst := rows_stops (9 - 1) (by omega) W4.heap.size q (.slice sa q.slots.length sc) F W5 hs6 HSV.out (good_bd HG.out.1).1 (good_bd HG.out.1).2.1 (good_bd HG.out.1).2.2
  generalize W4.heap.size = bx at *
  have HS5 := Lib.hid hs5
  clear hs5 hs6 HS4
  have hGG : ∀ b o, HItem.blk b o ∈ (.blk bx (.cells #[kI q.lsn, .slice sa q.slots.length sc] 52) :: .blk (ob + 1) (.map es clk) :: .blk (ob + 1 + 1) (.cells #[kI n, kI q.lsn, .slice sa q.slots.length sc] 54) :: F) → b < W5.heap.size := by
    have hs7 : Sat W5 (.blk bx (.cells #[kI q.lsn, .slice sa q.slots.length sc] 52) :: .blk (ob + 1) (.map es clk) :: .blk (ob + 1 + 1) (.cells #[kI n, kI q.lsn, .slice sa q.slots.length sc] 54) :: F) := by (refine Sat.part HS5.out ?_; intro a; simp only [cnt_cons]; omega)
    exact fun b o hm => hs7.lt hm
  have hGK : ∀ b o, HItem.blk b o ∈ (.blk bx (.cells #[kI q.lsn, .slice sa q.slots.length sc] 52) :: F) → b < W5.heap.size := by
    have hs7 : Sat W5 (.blk bx (.cells #[kI q.lsn, .slice sa q.slots.length sc] 52) :: F) := by (refine Sat.part HS5.out ?_; intro a; simp only [cnt_cons]; omega)
    exact fun b o hm => hs7.lt hm
  have HGG := Lib.hid hGG
  have HGK := Lib.hid hGK
  have hI0 : RoI W5.heap.size ob n (.blk bx (.cells #[kI q.lsn, .slice sa q.slots.length sc] 52) :: .blk (ob + 1) (.map es clk) :: .blk (ob + 1 + 1) (.cells #[kI n, kI q.lsn, .slice sa q.slots.length sc] 54) :: F) [] W5 := ⟨Nat.le_refl _, .slice none 0 0, [], SliceIs.nil _ _, by (refine Sat.part HS5.out ?_; intro a; simp only [cnt_cons, List.nil_append]; omega)⟩
  have HI0 := Lib.hid hI0
  clear hI0 hGG hGK HS5
  refine (wpIn_wide (n := 9)).1 ?_
  apply wpIn_rangeFunc_ownG (F := Fence.wide) (n := 9) rfl (by omega) (gf := 74) (lb := #[.pointer (some ⟨bx, 0, none⟩)]) rfl trivial (enters_of Tryz.func74 (by kernel_rfl) rfl)
    hst KH.trans (fun W l o o' hl h1 h2 _ => KH.put HGK.out W l o o' hl h1 h2) (Below.refl _ _) (fun _ => rfl)
    (RoI W5.heap.size ob n (.blk bx (.cells #[kI q.lsn, .slice sa q.slots.length sc] 52) :: .blk (ob + 1) (.map es clk) :: .blk (ob + 1 + 1) (.cells #[kI n, kI q.lsn, .slice sa q.slots.length sc] 54) :: F))
    (fun _ _ _ => False)
    (fun s W W' row hI hg hr => hI.grown HGG.out hg hr)
    (fun c s W W' row hI _ _ => hI)
    HI0.out _ ?assign ?body ?done ?stop
  case assign =>
    intro l x W K hK
    have HK := Lib.hid hK
    clear hK
    gi_wp2
    exact HK.out
  case stop => exact fun D c pre W _ _ h => h.elim
  case body =>
    rintro l pre x W ⟨hB, v, h, hv, hs⟩ hlt
    obtain ⟨R, hsR, hR⟩ := hs.rest
    rw [List.append_assoc] at hsR
    have c0 : W.cell? ⟨ob, 0, none⟩ = some v := by rw [cell_of (hs.right.h0)]; rfl
    have c1 : W.cell? ⟨ob + 1 + 1, 0, none⟩ = some (kI n) := by rw [cell_of (hs.right.get (b := ob + 1 + 1) (o := .cells #[kI n, kI q.lsn, .slice sa q.slots.length sc] 54) (by simp))]; rfl
    have hlen : pre.length ≤ 10 := by have := HG.out.2; omega
    obtain ⟨v5, w5, h5, hap, hv5, hs5⟩ := rw_pushX ((n, x.1, x.2) : Rw) hv (hsR.new (.cells #[kI n, kI x.1, kS x.2] 73)) (by rw [List.length_map]; omega)
    have hs5b : Sat w5 (.blk ob (.cells #[v] 70) :: .blk W.heap.size (.cells #[kI n, kI x.1, kS x.2] 73) :: (h5 ++ ((.blk bx (.cells #[kI q.lsn, .slice sa q.slots.length sc] 52) :: .blk (ob + 1) (.map es clk) :: .blk (ob + 1 + 1) (.cells #[kI n, kI q.lsn, .slice sa q.slots.length sc] 54) :: F) ++ R))) := by (refine Sat.part hs5 ?_; intro a; simp only [cnt_cons, cnt_append, List.cons_append]; omega)
    have d0 : w5.frozen? ⟨ob, 0, none⟩ = false := unfrozen_of hs5b.h0 0
    have d1 : w5.cell? ⟨ob, 0, none⟩ = some v := by rw [cell_of hs5b.h0]; rfl
    have hs6a : Sat (w5.setCell ⟨ob, 0, none⟩ v5) (.blk ob (.cells #[v5] 70) :: .blk W.heap.size (.cells #[kI n, kI x.1, kS x.2] 73) :: (h5 ++ ((.blk bx (.cells #[kI q.lsn, .slice sa q.slots.length sc] 52) :: .blk (ob + 1) (.map es clk) :: .blk (ob + 1 + 1) (.cells #[kI n, kI q.lsn, .slice sa q.slots.length sc] 54) :: F) ++ R))) := hs5b.setCell (i := 0) v5
    have hs6 : Sat (w5.setCell ⟨ob, 0, none⟩ v5) ((h5 ++ (.blk ob (.cells #[v5] 70) :: .blk bx (.cells #[kI q.lsn, .slice sa q.slots.length sc] 52) :: .blk (ob + 1) (.map es clk) :: .blk (ob + 1 + 1) (.cells #[kI n, kI q.lsn, .slice sa q.slots.length sc] 54) :: F)) ++ R) := by (refine Sat.part hs6a ?_; intro a; simp only [cnt_cons, cnt_append, List.cons_append]; omega)
    have hsz : W.heap.size ≤ (w5.setCell ⟨ob, 0, none⟩ v5).heap.size := Nat.le_of_lt (hs6a.tail.lt (.head _))
    have hko : KeepsOthers W (w5.setCell ⟨ob, 0, none⟩ v5) := by
      refine Sat.keepsOthers hR hs hs6 (fun k o hm => ?_) hsz
      rcases List.mem_append.1 hm with hm | hm
      · exact .inl (slice_cells hv k o hm)
      · cases hm with
        | head => exact .inl rfl
        | tail _ hm => exact .inr (List.mem_append_right _ (.tail _ hm))
    have hI6 : RoI W5.heap.size ob n (.blk bx (.cells #[kI q.lsn, .slice sa q.slots.length sc] 52) :: .blk (ob + 1) (.map es clk) :: .blk (ob + 1 + 1) (.cells #[kI n, kI q.lsn, .slice sa q.slots.length sc] 54) :: F) (pre ++ [x]) (w5.setCell ⟨ob, 0, none⟩ v5) := ⟨Nat.le_trans hB hsz, v5, h5, by rw [List.map_append]; exact hv5, hs6.sub (List.sublist_append_left _ _)⟩
    have hKH : KH (.blk bx (.cells #[kI q.lsn, .slice sa q.slots.length sc] 52) :: F) W (w5.setCell ⟨ob, 0, none⟩ v5) := ⟨hsz, fun _ => by (refine Sat.part hs6 ?_; intro a; simp only [cnt_cons, cnt_append]; omega)⟩
    obtain ⟨a5, cp5, rfl⟩ := sl_form hv5
    obtain ⟨n5, hn5⟩ : ∃ n5, (List.map (fun x : Int × ByteArray => ((n, x.1, x.2) : Rw)) pre ++ [((n, x.1, x.2) : Rw)]).length = n5 := ⟨_, rfl⟩
    rw [hn5] at hap hko hI6 hKH
    obtain ⟨va, vc, rfl⟩ := sl_form hv
    rw [List.length_map] at hap c0 d1
    clear hsz hs6 hs6a hn5
    have HAP := Lib.hid hap
    have FIN := Lib.hid (And.intro hko (And.intro hKH hI6))
    clear hap hv5 hs5 hs5b hko hI6 hKH hR hsR hs hv hst hlen hlt
    gi_wp2_with (refine wpListIn_append_run rfl _ _ _ _ rfl _ _ _ _ rfl rfl HAP.out ?_)
    exact ⟨FIN.out.1.from _, FIN.out.2.1, FIN.out.2.2⟩
  case done =>
    rintro D xs W hD hS ⟨hB, v, h, hv, hs⟩ hKD
    have hS' : xs = rowsS q := hS
    subst hS'
    have hl1 : ((rowsS q).map fun x : Int × ByteArray => ((n, x.1, x.2) : Rw)).length ≤ 1 := by rw [List.length_map]; exact HG.out.2
    have hs2 : Sat (W.putObj D (.deferred none)) (h ++ (.blk ob (.cells #[v] 70) :: .blk bx (.cells #[kI q.lsn, .slice sa q.slots.length sc] 52) :: .blk (ob + 1) (.map es clk) :: .blk (ob + 1 + 1) (.cells #[kI n, kI q.lsn, .slice sa q.slots.length sc] 54) :: F)) := hs.ownGrownC (RoI.under HGG.out hv) (grownBy_putObj' W D (.deferred none)) (fun r e => by cases e; exact ⟨hD, _, hKD, rfl⟩)
    have c0 : W.cell? ⟨ob, 0, none⟩ = some v := by rw [cell_of hs.right.h0]; rfl
    have s3 : Sat (W.putObj D (.deferred none)) (h ++ F) := by (refine Sat.part hs2 ?_; intro a; simp only [cnt_cons, cnt_append]; omega)
    obtain ⟨rn, hrn⟩ : ∃ rn, ((rowsS q).map fun x : Int × ByteArray => ((n, x.1, x.2) : Rw)).length = rn := ⟨_, rfl⟩
    have FIN := Lib.hid (And.intro hv s3)
    obtain ⟨va, vc, rfl⟩ := sl_form hv
    rw [hrn] at c0 hl1 FIN
    have HSO := Lib.hid (sort_one va rn vc (.func (.func 41) #[] #[]) W hl1)
    clear hs hs2 hv s3 hrn hl1 hst hS
    go_wp2_with fail
    rw [rounds_succ]
    go_wp2_with fail
    refine (HSO.out).mono ?_
    rintro e w9 ⟨rfl, rfl⟩
    go_wp2_with fail
    refine ⟨by simp, .inl ⟨_, _, rfl, run_takeDeferred hKD, ?_⟩⟩
    exact ⟨.slice va rn vc, results_tmp (t := 2) rfl _ _ _, .slice va rn vc, h, rfl, FIN.out.1, FIN.out.2⟩
end Go.Proofs.YtficgjklagnbjaaGreat
