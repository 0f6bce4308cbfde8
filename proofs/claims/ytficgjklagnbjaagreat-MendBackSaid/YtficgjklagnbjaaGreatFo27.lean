/- Texts put together: Mf1, Args, Args18, MArg. Conditions: none. -/
import Derived.Deep.Slices
import Derived.Deep.Fields
import Derived.ChangeSame
import Derived.ProofKit
import Derived.OpenShut
import Derived.ShutString
import Derived.ChangeOld
import Derived.Lib.SmallJoins
import Derived.Test.YtficgjklagnbjaaGreatProg
import Derived.Test.YtficgjklagnbjaaGreatFo1
import Derived.Test.YtficgjklagnbjaaGreatFo22
import Derived.Test.YtficgjklagnbjaaGreatFo24
import Derived.Test.YtficgjklagnbjaaGreatFo26
namespace Go.Proofs.YtficgjklagnbjaaGreat
open Go Go.MapKept Go.RowKit Go.Proofs Go.Shelf

attribute [local go_sem] Oper.semAt_some

theorem sl_cap {T : TypeId} {sz : Nat} {a : Option Addr} {n cap : Nat} {cs : List Value} {h : Heaplet} (hv : SliceIs T sz (.slice a n cap) n cs h) : n ≤ cap := by
  rcases hv.2 with ⟨_, e, _⟩ | ⟨g, cap', cur, e, hle, _⟩
  · omega
  · cases e; exact hle
set_option maxRecDepth 100000 in
set_option maxHeartbeats 4000000 in
theorem folds_walk (a : Option Addr) (cap : Nat) (l : List Ac) (cut : Int) (V : Nat → Int) (Wi : World) (hv : AcIn (allOf Wi) (.slice a l.length cap) l) :
    Calls Tryz.prog 3 #[.slice a l.length cap, kI cut, .agg #[kI (V 0), kI (V 1), kI (V 2), kI (V 3)]] Wi (Ret (.bool true) (RowKit.Below Wi.heap.size Wi)) := by
  have HS := Lib.hid ((sat_all Wi).new (v4O V))
  obtain ⟨F0, hF0⟩ : ∃ F0, HItem.blk Wi.heap.size (v4O V) :: allOf Wi = F0 := ⟨_, rfl⟩
  rw [hF0] at HS
  have HV := Lib.hid (show AcIn F0 (.slice a l.length cap) l by
    obtain ⟨a', cap', e, hc⟩ := hv
    refine ⟨a', cap', e, fun w hw => hc w ?_⟩
    rw [← hF0] at hw
    exact hw.tail)
  have HB : Hid (∀ W, Sat W F0 → RowKit.Below Wi.heap.size Wi W) := Lib.hid (fun W hW => by rw [← hF0] at hW; exact hW.tail.below)
  have HC : Hid (∀ W, Sat W F0 → W.heap[Wi.heap.size]? = some (v4O V)) := Lib.hid (fun W hW => by rw [← hF0] at hW; exact hW.h0)
  have HJ := Lib.hid (lived_js l)
  clear hF0 hv
  obtain ⟨S, ok, hL⟩ : ∃ S ok, livedP l = (S, ok) := ⟨_, _, rfl⟩
  rw [hL] at HJ
  have HLV : Hid (∀ W, Sat W F0 → Calls Tryz.prog 10 #[.slice a l.length cap] W fun e w' => ∃ pb, e = .returned (.tuple #[.pointer (some ⟨pb, 0, none⟩), .bool ok]) ∧ PsIs pb S F0 w') := Lib.hid (fun W hW => by
    have := lived_call HV.out hW
    rw [hL] at this
    exact this)
  clear hL HV
  generalize l.length = n at *
  go_enter Tryz.func3, Tryz.ntmps3
  go_upto_region 1 with (fail)
  generalize Wi.alloc (.cells #[kI (V 0), kI (V 1), kI (V 2), kI (V 3)] 23) = W1 at *
  go_upto_region 3 with (go_at_call 9; refine (awake_any F0 _ HS.out).mono ?_; rintro e w1 ⟨rfl, hs1⟩; have HS1 := Lib.hid hs1; clear hs1 HS)
  go_upto_region 4 with (go_at_call 10; refine (HLV.out _ HS1.out).mono ?_; rintro e w2 ⟨pb, rfl, hps⟩; have HPS := Lib.hid hps; clear hps HS1 HLV)
  cases ok with
  | false =>
    have HE := Lib.hid (HB.out _ HPS.out.frame)
    clear HPS HJ
    go_wp2_with fail
    go_ret
    exact ⟨rfl, HE.out⟩
  | true =>
    obtain ⟨j, hj, hjs⟩ := HJ.out
    obtain ⟨B, hB, hsB⟩ := psB_of HPS.out
    clear HPS HJ
    have hll := (hjs.len (c := 1)).1
    have hal := hjs.hist.len
    obtain ⟨la, lc, hlc, hEB, hCB⟩ : ∃ la lc, S.list.length ≤ lc ∧ EnsIn B (.slice la S.list.length lc) S.list ∧ ∀ W F, Sat W (B ++ F) → W.cell? ⟨pb, 0, none⟩ = some (.slice la S.list.length lc) := by
      obtain ⟨lv, nv, av, vs, hl, ha, H, h1, h2, h3, h5, e⟩ := hB
      obtain ⟨la, lc, rfl⟩ := sl_form h1
      refine ⟨la, lc, sl_cap h1, (ens_in h1 ([] : Heaplet)).mono (fun w hw => ?_), fun W F hW => ?_⟩
      · rw [e] at hw
        (refine Sat.part hw ?_; intro a; simp only [cnt_cons, cnt_append, cnt_nil]; omega)
      · rw [e] at hW
        rw [cell_of hW.h0]; rfl
    obtain ⟨n', hn'⟩ : ∃ n', S.list.length = n' := ⟨_, rfl⟩
    obtain ⟨M, hM⟩ : ∃ M : Int, (n' : Int) + 1 = M := ⟨_, rfl⟩
    have hMb : 1 ≤ M ∧ M ≤ 10000 := by omega
    have hm1 : wrap64 ((n' : Int) + 1) = M := by rw [hM, IntWalk.wrap64_in _ (by omega)]
    have hm2 : IntKind.i64.wrap ((n' : Int) + 1) = M := by rw [hM, IntWalk.i64_in _ (by omega)]
    have hm3 : IntKind.u64.wrap M = M := by rw [IntKind.wrap_u64]; omega
    have hm4 : (M == 0) = false := by rw [beq_eq_false_iff_ne]; omega
    have hm5 : (M = 0) = False := eq_false (by omega)
    obtain ⟨k, hk, hkn⟩ : ∃ k : Nat, umod cut M = (k : Int) ∧ k ≤ n' := by
      have := umod_bd cut M (by omega) (by omega)
      exact ⟨(umod cut M).toNat, by omega, by omega⟩
    have hx1 : wrap64 ((IntKind.u64.wrap cut).tmod M) = (k : Int) := hk
    have hx2 : IntKind.i64.wrap ((IntKind.u64.wrap cut).tmod M) = (k : Int) := (IntWalk.i64_left _).trans hk
    rw [hn'] at hEB hCB
    have HEB := Lib.hid hEB
    have HCB := Lib.hid hCB
    have HSB := Lib.hid hsB
    have HBB := Lib.hid hB
    have HJS := Lib.hid (And.intro hjs (And.intro hj (And.intro hn' (And.intro hkn hll))))
    have c0 := hCB _ _ hsB
    clear hEB hCB hsB hB hjs hj hn' hll hal hk hM hMb
    go_upto_region 7 with (fail)
    obtain ⟨Pk, hPk, hli⟩ := HJS.out.1.cut (k := k) (by have := HJS.out.2.2.1; omega)
    have hlk : (S.list.take k).length = k := by rw [List.length_take]; have := HJS.out.2.2.1; omega
    have hk250 : k ≤ 250 := by have := HJS.out; omega
    obtain ⟨add, Vs, hall, hrc, hholds, _⟩ := hli.rest (by omega)
    have HMX : Hid (∀ W, Sat W (B ++ F0) → Calls Tryz.prog 12 #[.pointer (some ⟨pb, 0, none⟩), .int .i64 (k : Int), .agg #[kI (V 0), kI (V 1), kI (V 2), kI (V 3)]] W fun e w' => ∃ ma mc h', e = .returned (.slice ma 4 mc) ∧ LvAt (h' ++ B) (.slice ma 4 mc) (mixedP S k V) ∧ Sat w' (h' ++ (B ++ F0))) := Lib.hid (fun W hW => by
      refine (mixed_any HBB.out hW (k := k) (V := V) ?_ ?_ HJS.out.1.all4).mono ?_
      · rw [HJS.out.1.hist.len, HJS.out.2.2.1]; omega
      · rw [HJS.out.1.hist.len]; have := HJS.out; omega
      · rintro e w' ⟨v', h', rfl, hv', hs'⟩
        obtain ⟨ma, mc, e, _⟩ := id hv'
        rw [mixedP_len] at e
        subst e
        exact ⟨ma, mc, h', rfl, hv', hs'⟩)
    obtain ⟨RA, hRA⟩ : ∃ RA, (S.list.take k ++ add).drop (S.list.take k).length = RA := ⟨_, rfl⟩
    have HRS : Hid (∀ W ma mc h', LvAt (h' ++ B) (.slice ma 4 mc) (mixedP S k V) → Sat W (h' ++ (B ++ F0)) → Calls Tryz.prog 11 #[.slice la k lc, .slice ma 4 mc] W (UnRet RA (finP Pk Vs) 0 (h' ++ (B ++ F0)))) := Lib.hid (fun W ma mc h' hv' hW => by
      have hkn2 : k ≤ S.list.length := by have := HJS.out; omega
      have := restart_any (l := S.list.take k) (P := mixedP S k V) (P1 := Pk) (f := tot (S.list.take k) (losersM (S.list.take k)) + 1) (F := h' ++ (B ++ F0)) (w := W) ((ens_take (F := B) (a := la) (n := n') (cap := lc) HEB.out k hkn2).mono (fun w hw => hw.right.left')) (hv'.mono (fun w hw => (show Sat w ((h' ++ B) ++ F0) by rw [List.append_assoc]; exact hw).left')) hW (by rw [mixedP_len]; omega) (HJS.out.1.mix_pgs hkn2 (by omega) V).fitP (tot_bd (by omega)) hli.fitL (HJS.out.1.mix_redo hkn2 (by omega) V hPk) (by rw [hli.len]; omega) (hli.pgs.fit hli.ok) hall
      rw [if_pos rfl, if_pos rfl, hRA] at this
      exact this)
    have hk0 : (0 : Int) ≤ (k : Int) := by omega
    have hk1 : (k : Int) ≤ (lc : Int) := by have := HJS.out.2.2.1; omega
    have hk2 : k ≤ lc := by omega
    have HQ := Lib.hid HSB.out.drew
    have hcell : ∀ W F, Sat W (B ++ (F0 ++ F)) → W.cell? ⟨pb, 0, none⟩ = some (.slice la n' lc) ∧ W.cell? ⟨Wi.heap.size, 0, none⟩ = some (kI (V 0)) ∧ W.cell? ⟨Wi.heap.size, 1, none⟩ = some (kI (V 1)) ∧ W.cell? ⟨Wi.heap.size, 2, none⟩ = some (kI (V 2)) ∧ W.cell? ⟨Wi.heap.size, 3, none⟩ = some (kI (V 3)) := by
      intro W F hW
      have hb := HC.out W hW.right.left'
      exact ⟨HCB.out W _ hW, by rw [cell_of hb]; rfl, by rw [cell_of hb]; rfl, by rw [cell_of hb]; rfl, by rw [cell_of hb]; rfl⟩
    have HCELL := Lib.hid hcell
    have HCC := Lib.hid (hcell _ [] (by rw [List.append_nil]; exact HQ.out))
    have HPL := Lib.hid (And.intro hholds (And.intro hrc hli))
    clear hPk hli hall hrc hholds hRA hcell hlk hlc hk250
    have HCN : Hid (∀ W h', Sat W (h' ++ (B ++ F0)) → W.cell? ⟨pb, 0, none⟩ = some (.slice la n' lc) ∧ W.cell? ⟨Wi.heap.size, 0, none⟩ = some (kI (V 0)) ∧ W.cell? ⟨Wi.heap.size, 1, none⟩ = some (kI (V 1)) ∧ W.cell? ⟨Wi.heap.size, 2, none⟩ = some (kI (V 2)) ∧ W.cell? ⟨Wi.heap.size, 3, none⟩ = some (kI (V 3))) := Lib.hid (fun W h' hW => HCELL.out W h' (by (refine Sat.part hW ?_; intro a; simp only [cnt_append]; omega)))
    go_region_held3 (fun w' => w'.cell? ⟨pb, 0, none⟩ = some (.slice la n' lc) ∧ w'.cell? ⟨Wi.heap.size, 0, none⟩ = some (kI (V 0)) ∧ w'.cell? ⟨Wi.heap.size, 1, none⟩ = some (kI (V 1)) ∧ w'.cell? ⟨Wi.heap.size, 2, none⟩ = some (kI (V 2)) ∧ w'.cell? ⟨Wi.heap.size, 3, none⟩ = some (kI (V 3)))
      (first | exact HCC.out)
      (first
        | (go_at_call 12; refine (HMX.out _ HQ.out).mono ?_; rintro e w6 ⟨ma, mc, h6, rfl, hv6, hs6⟩; have HQ := Lib.hid (And.intro hv6 hs6); have HCC := Lib.hid (HCN.out _ _ hs6); clear hv6 hs6)
        | (go_at_call 11; refine (HRS.out _ _ _ _ HQ.out.1 HQ.out.2).mono ?_; rintro e w7 ⟨av, pv, h1, h2, rfl, hav, hpv, hs7⟩; obtain ⟨aa, ac, rfl⟩ := sl_form hav; obtain ⟨pa, pc, rfl⟩ := LvOwn.form hpv; have HQ := Lib.hid (And.intro hpv hs7); have HCC := Lib.hid (HCN.out w7 (h1 ++ (h2 ++ h6)) (by (refine Sat.part hs7 ?_; intro a; simp only [cnt_append]; omega))); clear hav hpv hs7))
    all_goals
      have hkn2 : k ≤ S.list.length := by have := HJS.out; omega
      have hlk : (S.list.take k).length = k := by rw [List.length_take]; omega
      have hk80 : k ≤ 80 := by have := HJS.out; omega
      have hlf := HPL.out.2.1.li HPL.out.2.2
      obtain ⟨G, hG⟩ : ∃ G, foldP (S.list.take k) = G := ⟨_, rfl⟩
      have HFO := Lib.hid (fold_any (w := w7) ((ens_take (F := B) (a := la) (n := n') (cap := lc) HEB.out k hkn2).mono (F' := h1 ++ (h2 ++ (h6 ++ (B ++ F0)))) (fun w hw => hw.right.right.right.left')) HQ.out.2 (by omega) HPL.out.2.2.onG)
      have HHO : Hid (∀ w8, Sat w8 (h1 ++ (h2 ++ (h6 ++ (B ++ F0)))) → Calls Tryz.prog 13 #[.slice pa (finP Pk Vs).length pc, grV G] w8 (Ret (.bool true) (RowKit.Below w8.heap.size w8))) := Lib.hid (fun w8 h8 => by
        have h9 : Sat w8 (h2 ++ (h1 ++ (h6 ++ (B ++ F0)))) := by (refine Sat.part h8 ?_; intro a; simp only [cnt_append]; omega)
        have := holds_any (G := G) (HQ.out.1.at (h1 ++ (h6 ++ (B ++ F0)))) h9 (by rw [hlf.len]; omega) hlf.pgs.good
        rw [← hG, HPL.out.1, hG] at this
        exact this)
      rw [hG] at HFO
      obtain ⟨c7, _⟩ := HCC.out
      clear hlf hG hlk
      go_wp2_with (first
        | (go_at_call 14; refine (HFO.out).mono ?_; rintro e w8 ⟨rfl, hb8⟩; have HS8 := Lib.hid (HQ.out.2.monoB hb8); clear hb8)
        | (go_at_call 13; refine (HHO.out _ HS8.out).mono ?_; rintro e w9 ⟨rfl, hb9⟩; have HS9 := Lib.hid (HS8.out.monoB hb9); clear hb9))
      go_ret
      exact ⟨rfl, HB.out _ HS9.out.right.right.right.right⟩
end Go.Proofs.YtficgjklagnbjaaGreat
namespace Go.Proofs.YtficgjklagnbjaaGreat
open Go Go.ChangeShapes Go.WideShapes Go.Deep Go.RowKit

/-- A slice of structs that came in: element i's field j lies in the cell at i * fields + j and is V i j. -/
def RowsAt (W : World) (p : Option Addr) (len fields : Nat) (V : Nat → Nat → Value) : Prop :=
  len ≤ 9223372036854775807 ∧ ∀ i, i < len → ∃ b off, p = some ⟨b, off, none⟩ ∧ b < W.heap.size ∧ ∀ j, j < fields → W.cell? ⟨b, off + i * fields + j, none⟩ = some (V i j)
/-- What such a cell holds. -/
def rowVal (W : World) (p : Option Addr) (fields i j : Nat) : Value :=
  match p with
  | some a => (W.cell? ⟨a.block, a.off + i * fields + j, none⟩).getD undef
  | none => undef
/-- A slice of structs of integers that came in: its length, and element i's field j. -/
def IntsAt (W : World) (p : Option Addr) (len fields : Nat) (A : Nat → Nat → Int) : Prop :=
  len ≤ 9223372036854775807 ∧ ∀ i, i < len → ∃ b off, p = some ⟨b, off, none⟩ ∧ b < W.heap.size ∧
    ∀ j, j < fields → W.cell? ⟨b, off + i * fields + j, none⟩ = some (.int .i64 (A i j)) ∧ -9223372036854775808 ≤ A i j ∧ A i j ≤ 9223372036854775807
def intOf' : Value → Int
  | .int _ k => k
  | _ => 0

theorem wf_bounds {k : Int} (h : (Lit.int .i64 k).wf = true) : -9223372036854775808 ≤ k ∧ k ≤ 9223372036854775807 := by
  simp [Lit.wf, IntKind.min, IntKind.max, IntKind.signed, IntKind.bits] at h
  omega
section
variable {H : Type} {enc : TypeId × Value → H} {P : Program} {w : World} {base : Nat} {spare : Nat → Bool} {held : Bool}
theorem open_rows {t e : TypeId} {fs : Array Field} {p : Option Addr} {len cap : Nat} {d : DataW H} {pl : List MemPlace} (ht : P.underlying t = some (.slice e)) (he : P.underlying e = some (.struct fs))
    (hone : oneCellFields P fs = true) (hC : P.cellsOf e = fs.size) (h0 : 0 < fs.size) (h : DataW.Trod enc P w base spare held t (.slice p len cap) d pl) :
    RowsAt w p len fs.size (rowVal w p fs.size) ∧
      ∀ (i j : Nat) (f : Field), i < len → fs[j]? = some f → ∃ y n, DataW.trod enc P w base spare held n f.type [rowVal w p fs.size i j] = some y := by
  obtain ⟨fuel, hf⟩ := h
  rcases open_slice ht hf with ⟨hcs, _⟩ | ⟨a, len', cap', m, n, D, Pl, hcs, hb, hl, hm, hmm, hx, hi⟩
  · simp [Value.cells] at hcs
    obtain ⟨rfl, rfl, rfl⟩ := hcs
    exact ⟨⟨by omega, fun i hi => by omega⟩, fun i j f hi => by omega⟩
  · simp [Value.cells] at hcs
    obtain ⟨rfl, rfl, rfl⟩ := hcs
    have hml : len ≤ m := by rw [hmm]; split <;> omega
    have spot0 : 0 < len → a.spot = none := by
      intro h0l
      obtain ⟨cs', hc, ht'⟩ := hi 0 (by omega)
      rw [hC] at hc
      obtain ⟨_, hcl, hat⟩ := World.cells?_some hc
      have hcell := hat 0 h0
      rw [List.getElem?_eq_getElem (by omega)] at hcell
      simpa [Addr.add] using World.cell?_spot hcell
    have key : ∀ (i j : Nat) (f : Field), i < len → fs[j]? = some f → a.spot = none ∧ a.block < w.heap.size ∧ w.cell? ⟨a.block, a.off + i * fs.size + j, none⟩ = some (rowVal w (some a) fs.size i j) ∧
        ∃ y n, DataW.trod enc P w base spare held n f.type [rowVal w (some a) fs.size i j] = some y := by
      intro i j f hil hj
      obtain ⟨cs', hc, ht'⟩ := hi i (Nat.lt_of_lt_of_le hil hml)
      rw [hC] at hc
      obtain ⟨ys, n', hn', hy, hlen, hyl, hg⟩ := DataW.trod_struct he ht'
      obtain ⟨_, hcl, hat⟩ := World.cells?_some hc
      obtain ⟨ho, hk⟩ := hone_of hone j f hj
      have hjl : j < fs.size := (Array.getElem?_eq_some_iff.1 hj).1
      have hcell := hat j hjl
      have hvl : j < cs'.length := by omega
      rw [List.getElem?_eq_getElem hvl] at hcell
      have h1 := hg j f hj
      rw [ho, hk] at h1
      have hdrop : (cs'.drop j).take 1 = [cs'[j]] := by
        rw [List.drop_eq_getElem_cons hvl]; rfl
      rw [hdrop] at h1
      have hys : ys[j]? = some (ys[j]'(by omega)) := List.getElem?_eq_getElem (by omega)
      have hspot : a.spot = none := spot0 (by omega)
      obtain ⟨bl, off, sp⟩ := a
      simp only at hspot
      subst hspot
      have hcell' : w.cell? ⟨bl, off + i * fs.size + j, none⟩ = some cs'[j] := by
        have hadd : ((⟨bl, off, none⟩ : Addr).add (i * fs.size)).add j = ⟨bl, off + i * fs.size + j, none⟩ := by
          rw [add_add]
          unfold Addr.add
          by_cases hz : i * fs.size + j = 0
          · simp only [hz, if_true, Nat.add_assoc, Nat.add_zero]
          · simp only [hz, if_false, Nat.add_assoc]
        rw [hadd] at hcell
        exact hcell
      have hrow : rowVal w (some ⟨bl, off, none⟩) fs.size i j = cs'[j] := by simp [rowVal, hcell']
      refine ⟨rfl, World.block_lt_of_cell? w ⟨bl, off + i * fs.size + j, none⟩ hcell', by rw [hrow]; exact hcell', ?_⟩
      rw [hrow]
      exact ⟨_, _, h1.trans hys⟩
    refine ⟨⟨by unfold maxLen at hm; omega, fun i hil => ?_⟩, fun i j f hil hj => (key i j f hil hj).2.2.2⟩
    have hf0 : fs[0]? = some fs[0] := Array.getElem?_eq_getElem h0
    obtain ⟨hs, hlt, _⟩ := key i 0 _ hil hf0
    obtain ⟨bl, off, sp⟩ := a
    simp only at hs
    subst hs
    exact ⟨bl, off, rfl, hlt, fun j hj => (key i j _ hil (Array.getElem?_eq_getElem hj)).2.2.1⟩

theorem open_intRows {t e ti : TypeId} {fs : Array Field} {p : Option Addr} {len cap : Nat} {d : DataW H} {pl : List MemPlace} (ht : P.underlying t = some (.slice e)) (he : P.underlying e = some (.struct fs))
    (hone : oneCellFields P fs = true) (hC : P.cellsOf e = fs.size) (h0 : 0 < fs.size) (hi : P.underlying ti = some (.int .i64)) (hall : ∀ (j : Nat) (f : Field), fs[j]? = some f → f.type = ti)
    (h : DataW.Trod enc P w base spare held t (.slice p len cap) d pl) :
    IntsAt w p len fs.size (fun i j => intOf' (rowVal w p fs.size i j)) := by
  obtain ⟨hr, hf⟩ := open_rows ht he hone hC h0 h
  refine ⟨hr.1, fun i hil => ?_⟩
  obtain ⟨b, off, rfl, hb, hc⟩ := hr.2 i hil
  refine ⟨b, off, rfl, hb, fun j hj => ?_⟩
  have hj' : fs[j]? = some fs[j] := Array.getElem?_eq_getElem hj
  obtain ⟨y, n, hy⟩ := hf i j _ hil hj'
  rw [hall j _ hj'] at hy
  obtain ⟨k, e1, _, hwf⟩ := DataW.trod_int hi hy
  simp only [List.cons.injEq, and_true] at e1
  have := hc j hj
  show w.cell? ⟨b, off + i * fs.size + j, none⟩ = some (.int .i64 (intOf' (rowVal w (some ⟨b, off, none⟩) fs.size i j))) ∧ -9223372036854775808 ≤ intOf' (rowVal w (some ⟨b, off, none⟩) fs.size i j) ∧ intOf' (rowVal w (some ⟨b, off, none⟩) fs.size i j) ≤ 9223372036854775807
  rw [e1] at this ⊢
  have hw2 : -9223372036854775808 ≤ k ∧ k ≤ 9223372036854775807 := wf_bounds hwf
  exact ⟨this, hw2⟩
/-- A slice of integers that came in. -/
def IntSlice (W : World) (p : Option Addr) (len : Nat) (A : Nat → Int) : Prop :=
  len ≤ 9223372036854775807 ∧ ∀ i, i < len → ∃ b off, p = some ⟨b, off, none⟩ ∧ b < W.heap.size ∧ W.cell? ⟨b, off + i, none⟩ = some (.int .i64 (A i)) ∧ -9223372036854775808 ≤ A i ∧ A i ≤ 9223372036854775807
theorem open_intSlice {t e : TypeId} {p : Option Addr} {len cap : Nat} {d : DataW H} {pl : List MemPlace} (ht : P.underlying t = some (.slice e)) (he : P.underlying e = some (.int .i64)) (hC : P.cellsOf e = 1)
    (h : DataW.Trod enc P w base spare held t (.slice p len cap) d pl) : ∃ A, IntSlice w p len A := by
  obtain ⟨fuel, hf⟩ := h
  rcases ChangeShapes.open_ints ht he hC hf with ⟨hcs, _⟩ | ⟨a, len', cap', zs, hcs, hb, hl, hm, hz, hx, hcell, hwf⟩
  · simp [Value.cells] at hcs
    obtain ⟨rfl, rfl, rfl⟩ := hcs
    exact ⟨fun _ => 0, by omega, fun i hi => by omega⟩
  · simp [Value.cells] at hcs
    obtain ⟨rfl, rfl, rfl⟩ := hcs
    have hlz : len ≤ zs.length := by rw [hz]; split <;> omega
    refine ⟨fun i => zs.getD i 0, by unfold maxLen at hm; omega, fun i hil => ?_⟩
    have spot0 : a.spot = none := by
      have h0 := hcell 0 (by omega)
      simpa [Addr.add] using World.cell?_spot h0
    obtain ⟨bl, off, sp⟩ := a
    simp only at spot0
    subst spot0
    have hc := hcell i (by omega)
    have hadd : (⟨bl, off, none⟩ : Addr).add i = ⟨bl, off + i, none⟩ := by
      unfold Addr.add
      by_cases hz0 : i = 0
      · simp [hz0]
      · simp [hz0]
    rw [hadd] at hc
    have hw := wf_bounds (hwf (zs.getD i 0) (by
      rw [List.getD_eq_getElem?_getD, List.getElem?_eq_getElem (by omega)]
      exact List.getElem_mem _))
    exact ⟨bl, off, rfl, World.block_lt_of_cell? w ⟨bl, off + i, none⟩ hc, hc, hw⟩
/-- A struct of four integers, by value. -/
theorem open_int4 {r : Reach} {b0 : Nat} {t ti : TypeId} {f0 f1 f2 f3 : Field} {v : Value} {d : DataW H} {p : List MemPlace} (hs : P.underlying t = some (.struct #[f0, f1, f2, f3])) (hone : oneCellFields P #[f0, f1, f2, f3] = true) (hC : P.cellsOf t = 4)
    (hi : P.underlying ti = some (.int .i64)) (e0 : f0.type = ti) (e1 : f1.type = ti) (e2 : f2.type = ti) (e3 : f3.type = ti)
    (hv : Value.okWide P w r b0 t v) (h : DataW.Trod enc P w base spare held t v d p) :
    ∃ x0 x1 x2 x3 : Int, v = .agg #[.int .i64 x0, .int .i64 x1, .int .i64 x2, .int .i64 x3] ∧ ∀ y ∈ [x0, x1, x2, x3], -9223372036854775808 ≤ y ∧ y ≤ 9223372036854775807 := by
  obtain ⟨v0, v1, v2, v3, y0, y1, y2, y3, n, rfl, _, _, g0, g1, g2, g3⟩ := Joins.open_agg4 hs hone hC hv h
  rw [e0] at g0; rw [e1] at g1; rw [e2] at g2; rw [e3] at g3
  obtain ⟨k0, q0, _, w0⟩ := DataW.trod_int hi g0
  obtain ⟨k1, q1, _, w1⟩ := DataW.trod_int hi g1
  obtain ⟨k2, q2, _, w2⟩ := DataW.trod_int hi g2
  obtain ⟨k3, q3, _, w3⟩ := DataW.trod_int hi g3
  simp only [List.cons.injEq, and_true] at q0 q1 q2 q3
  subst q0 q1 q2 q3
  refine ⟨k0, k1, k2, k3, rfl, fun y hy => ?_⟩
  simp only [List.mem_cons, List.not_mem_nil, or_false] at hy
  rcases hy with rfl | rfl | rfl | rfl
  · exact wf_bounds w0
  · exact wf_bounds w1
  · exact wf_bounds w2
  · exact wf_bounds w3
end
end Go.Proofs.YtficgjklagnbjaaGreat
namespace Go.Proofs.YtficgjklagnbjaaGreat
open Go Go.ChangeShapes Go.WideShapes Go.Deep Go.RowKit

def strOfActAt : Value → ByteArray
  | .string s => s
  | _ => ⟨#[]⟩
def ActAt (W : World) (p : Option Addr) (len : Nat) (V0 : Nat → Int) (V1 : Nat → Int) (V2 : Nat → Int) (V3 : Nat → Int) (V4 : Nat → ByteArray) : Prop :=
  len ≤ 9223372036854775807 ∧ ∀ i, i < len → ∃ b off, p = some ⟨b, off, none⟩ ∧ b < W.heap.size ∧
    (W.cell? ⟨b, off + i * 5, none⟩ = some (.int .i64 (V0 i)) ∧ -9223372036854775808 ≤ V0 i ∧ V0 i ≤ 9223372036854775807) ∧ (W.cell? ⟨b, off + i * 5 + 1, none⟩ = some (.int .i64 (V1 i)) ∧ -9223372036854775808 ≤ V1 i ∧ V1 i ≤ 9223372036854775807) ∧ (W.cell? ⟨b, off + i * 5 + 2, none⟩ = some (.int .i64 (V2 i)) ∧ -9223372036854775808 ≤ V2 i ∧ V2 i ≤ 9223372036854775807) ∧ (W.cell? ⟨b, off + i * 5 + 3, none⟩ = some (.int .i64 (V3 i)) ∧ -9223372036854775808 ≤ V3 i ∧ V3 i ≤ 9223372036854775807) ∧ (W.cell? ⟨b, off + i * 5 + 4, none⟩ = some (.string (V4 i)))
section
variable {H : Type} {enc : TypeId × Value → H} {w : World} {base : Nat} {spare : Nat → Bool} {held : Bool}
theorem open_acts {p : Option Addr} {len cap : Nat} {d : DataW H} {pl : List MemPlace} (h : DataW.Trod enc Tryz.prog w base spare held 22 (.slice p len cap) d pl) :
    ∃ V0 V1 V2 V3 V4, ActAt w p len V0 V1 V2 V3 V4 := by
  obtain ⟨hr, hf⟩ := open_rows (P := Tryz.prog) Tryz.underlying22 Tryz.underlying79 (by kernel_rfl) (by kernel_rfl) (by decide) h
  refine ⟨fun i => intOf' (rowVal w p 5 i 0), fun i => intOf' (rowVal w p 5 i 1), fun i => intOf' (rowVal w p 5 i 2), fun i => intOf' (rowVal w p 5 i 3), fun i => strOfActAt (rowVal w p 5 i 4), hr.1, fun i hi => ?_⟩
  obtain ⟨b, off, rfl, hb, hc⟩ := hr.2 i hi
  obtain ⟨y0, n0, h0⟩ := hf i 0 _ hi rfl
  obtain ⟨y1, n1, h1⟩ := hf i 1 _ hi rfl
  obtain ⟨y2, n2, h2⟩ := hf i 2 _ hi rfl
  obtain ⟨y3, n3, h3⟩ := hf i 3 _ hi rfl
  obtain ⟨y4, n4, h4⟩ := hf i 4 _ hi rfl
  obtain ⟨k0, e0, _, g0⟩ := DataW.trod_int Tryz.underlying3 h0
  obtain ⟨k1, e1, _, g1⟩ := DataW.trod_int Tryz.underlying3 h1
  obtain ⟨k2, e2, _, g2⟩ := DataW.trod_int Tryz.underlying3 h2
  obtain ⟨k3, e3, _, g3⟩ := DataW.trod_int Tryz.underlying3 h3
  obtain ⟨k4, e4, _, g4⟩ := DataW.trod_string Tryz.underlying9 h4
  simp only [List.cons.injEq, and_true] at e0 e1 e2 e3 e4
  have c0 : w.cell? ⟨b, off + i * 5 + 0, none⟩ = some (rowVal w (some ⟨b, off, none⟩) 5 i 0) := hc 0 (by decide)
  have c1 : w.cell? ⟨b, off + i * 5 + 1, none⟩ = some (rowVal w (some ⟨b, off, none⟩) 5 i 1) := hc 1 (by decide)
  have c2 : w.cell? ⟨b, off + i * 5 + 2, none⟩ = some (rowVal w (some ⟨b, off, none⟩) 5 i 2) := hc 2 (by decide)
  have c3 : w.cell? ⟨b, off + i * 5 + 3, none⟩ = some (rowVal w (some ⟨b, off, none⟩) 5 i 3) := hc 3 (by decide)
  have c4 : w.cell? ⟨b, off + i * 5 + 4, none⟩ = some (rowVal w (some ⟨b, off, none⟩) 5 i 4) := hc 4 (by decide)
  have e0' : rowVal w (some ⟨b, off, none⟩) 5 i 0 = .int .i64 (k0) := e0
  rw [e0'] at c0
  have e1' : rowVal w (some ⟨b, off, none⟩) 5 i 1 = .int .i64 (k1) := e1
  rw [e1'] at c1
  have e2' : rowVal w (some ⟨b, off, none⟩) 5 i 2 = .int .i64 (k2) := e2
  rw [e2'] at c2
  have e3' : rowVal w (some ⟨b, off, none⟩) 5 i 3 = .int .i64 (k3) := e3
  rw [e3'] at c3
  have e4' : rowVal w (some ⟨b, off, none⟩) 5 i 4 = .string (k4) := e4
  rw [e4'] at c4
  refine ⟨b, off, rfl, hb, ?_, ?_, ?_, ?_, ?_⟩
  · show _ = some (Value.int .i64 (intOf' (rowVal w (some ⟨b, off, none⟩) 5 i 0))) ∧ _ ≤ intOf' (rowVal w (some ⟨b, off, none⟩) 5 i 0) ∧ intOf' (rowVal w (some ⟨b, off, none⟩) 5 i 0) ≤ _
    rw [e0']
    exact ⟨c0, (wf_bounds g0).1, (wf_bounds g0).2⟩
  · show _ = some (Value.int .i64 (intOf' (rowVal w (some ⟨b, off, none⟩) 5 i 1))) ∧ _ ≤ intOf' (rowVal w (some ⟨b, off, none⟩) 5 i 1) ∧ intOf' (rowVal w (some ⟨b, off, none⟩) 5 i 1) ≤ _
    rw [e1']
    exact ⟨c1, (wf_bounds g1).1, (wf_bounds g1).2⟩
  · show _ = some (Value.int .i64 (intOf' (rowVal w (some ⟨b, off, none⟩) 5 i 2))) ∧ _ ≤ intOf' (rowVal w (some ⟨b, off, none⟩) 5 i 2) ∧ intOf' (rowVal w (some ⟨b, off, none⟩) 5 i 2) ≤ _
    rw [e2']
    exact ⟨c2, (wf_bounds g2).1, (wf_bounds g2).2⟩
  · show _ = some (Value.int .i64 (intOf' (rowVal w (some ⟨b, off, none⟩) 5 i 3))) ∧ _ ≤ intOf' (rowVal w (some ⟨b, off, none⟩) 5 i 3) ∧ intOf' (rowVal w (some ⟨b, off, none⟩) 5 i 3) ≤ _
    rw [e3']
    exact ⟨c3, (wf_bounds g3).1, (wf_bounds g3).2⟩
  · show _ = some (Value.string (strOfActAt (rowVal w (some ⟨b, off, none⟩) 5 i 4)))
    rw [e4']
    exact c4
end
end Go.Proofs.YtficgjklagnbjaaGreat
namespace Go.Proofs.YtficgjklagnbjaaGreat
open Go Go.MapKept Go.ChangeShapes Go.WideShapes Go.RowKit Go.Joins

theorem acts_in {W : World} {p : Option Addr} {len : Nat} {V0 V1 V2 V3 : Nat → Int} {V4 : Nat → ByteArray} (h : ActAt W p len V0 V1 V2 V3 V4) (cap : Nat) : ∃ l : List Ac, l.length = len ∧ AcIn (allOf W) (.slice p l.length cap) l := by
  refine ⟨(List.range len).map fun i => ⟨V0 i, V1 i, V2 i, V3 i, V4 i⟩, by simp, p, cap, rfl, fun w hw i q hq => ?_⟩
  rw [List.getElem?_map] at hq
  have hi : i < len := by
    by_cases hi : i < len
    · exact hi
    · rw [List.getElem?_eq_none (by simpa using hi)] at hq; cases hq
  rw [List.getElem?_range hi] at hq
  cases hq
  obtain ⟨b, off, e, hb, ⟨h0, _⟩, ⟨h1, _⟩, ⟨h2, _⟩, ⟨h3, _⟩, h4⟩ := h.2 i hi
  exact ⟨b, off, e, (hw.cellOld hb).trans h0, (hw.cellOld hb).trans h1, (hw.cellOld hb).trans h2, (hw.cellOld hb).trans h3, (hw.cellOld hb).trans h4⟩
section
variable {H : Type} {enc : TypeId × Value → H} {P : Program} {w : World} {base : Nat} {spare : Nat → Bool} {held : Bool}
theorem open_arr4 {r : Reach} {b0 : Nat} {t e : TypeId} {v : Value} {d : DataW H} {p : List MemPlace} (ht : P.underlying t = some (.array 4 e)) (he : P.underlying e = some (.int .i64)) (hC : P.cellsOf t = 4) (hCe : P.cellsOf e = 1)
    (hv : Value.okWide P w r b0 t v) (h : DataW.Trod enc P w base spare held t v d p) :
    ∃ V : Nat → Int, v = .agg #[.int .i64 (V 0), .int .i64 (V 1), .int .i64 (V 2), .int .i64 (V 3)] := by
  obtain ⟨cs, rfl, hsz⟩ : ∃ cs, v = .agg cs ∧ cs.size = 4 := by
    simp only [Value.okWide, ht] at hv
    obtain ⟨cs, h1, h2, _⟩ := hv
    exact ⟨cs, h1, by rw [h2, hC]⟩
  obtain ⟨fuel, hf⟩ := h
  obtain ⟨xs, m, _, _, _, hl, hi⟩ := DataW.trod_array ht hf
  have key : ∀ j, j < 4 → ∃ k : Int, cs[j]? = some (.int .i64 k) := by
    intro j hj
    have h0 := hi j hj
    rw [hCe] at h0
    obtain ⟨y0, g0⟩ : ∃ y, xs[j]? = some y := ⟨_, List.getElem?_eq_getElem (by omega)⟩
    rw [g0] at h0
    obtain ⟨c0, c1, c2, c3, rfl⟩ : ∃ c0 c1 c2 c3, cs = #[c0, c1, c2, c3] := by
      obtain ⟨L⟩ := cs
      match L, hsz with
      | [c0, c1, c2, c3], _ => exact ⟨c0, c1, c2, c3, rfl⟩
    have h4 : j = 0 ∨ j = 1 ∨ j = 2 ∨ j = 3 := by omega
    rcases h4 with rfl | rfl | rfl | rfl
    all_goals
      simp [Value.cells] at h0
      obtain ⟨k, q, _, _⟩ := DataW.trod_int he h0
      simp only [List.cons.injEq, and_true] at q
      subst q
      exact ⟨k, rfl⟩
  obtain ⟨k0, e0⟩ := key 0 (by omega)
  obtain ⟨k1, e1⟩ := key 1 (by omega)
  obtain ⟨k2, e2⟩ := key 2 (by omega)
  obtain ⟨k3, e3⟩ := key 3 (by omega)
  refine ⟨fun j => if j = 0 then k0 else if j = 1 then k1 else if j = 2 then k2 else k3, ?_⟩
  congr 1
  refine Array.ext_getElem? (fun j => ?_)
  have h4 : j = 0 ∨ j = 1 ∨ j = 2 ∨ j = 3 ∨ 4 ≤ j := by omega
  rcases h4 with rfl | rfl | rfl | rfl | h4
  · rw [e0]; rfl
  · rw [e1]; rfl
  · rw [e2]; rfl
  · rw [e3]; rfl
  · rw [Array.getElem?_eq_none (by omega), Array.getElem?_eq_none (by simpa using h4)]
end
end Go.Proofs.YtficgjklagnbjaaGreat
