/- MendBack walked: undone one by one, a transaction's changes are gone. Conditions: none. -/
import Derived.Test.YtficgjklagnbjaaGreatMp19
import Derived.Test.YtficgjklagnbjaaGreatMf5t
namespace Go.Proofs.YtficgjklagnbjaaGreat
open Go Go.MapKept Go.RowKit Go.Proofs Go.Shelf Go.Sort

attribute [local go_sem] Oper.semAt_some

theorem infoIn : (Tryz.prog.info? 3).map (fun i => (i.zero, i.size, i.bytes)) = some (some (kI 0), 1, 8) := by kernel_rfl
/-- A slice of integers of one's own. -/
abbrev NSl (v : Value) (R : List Int) (h : Heaplet) : Prop := SliceIs 3 1 v R.length (R.flatMap fun x => [kI x]) h
theorem n_push {R : List Int} {v : Value} {h B : Heaplet} {w : World} {x : Nat} (q : Int) (hv : NSl v R h) (s : Sat w (.blk x (.cells #[kI q] 3) :: (h ++ B))) (hlen : R.length + 1 ≤ 200000) :
    ∃ v' w' h', (∀ ty, (Builtin.append_ #[60, 60] ty #[v, .slice (some ⟨x, 0, none⟩) 1 1]).run Tryz.prog w = .ok v' w') ∧ NSl v' (R ++ [q]) h' ∧ Sat w' (h' ++ B) := by
  obtain ⟨i0, hin, hz, hsize, hby⟩ := info_parts infoIn
  exact sl_push (P := Tryz.prog) (fl := fun x : Int => [kI x]) (A := []) (fun _ => rfl) Tryz.underlying60 hin hz hsize hby rfl (by decide) hv q s (by intro u hu; rw [List.mem_singleton.1 hu]; rfl) (by unfold maxLen; omega) (by omega)
theorem n_cell {R : List Int} {a : Option Addr} {n cap : Nat} {h F : Heaplet} {w : World} (hv : NSl (.slice a n cap) R h) (s : Sat w (h ++ F)) {i : Nat} {q : Int} (hq : R[i]? = some q) : ∃ g, a = some ⟨g, 0, none⟩ ∧ w.cell? ⟨g, i, none⟩ = some (kI q) := by
  obtain ⟨a', cap', e, hc⟩ := sl_cells (fl := fun x : Int => [kI x]) (fun _ => rfl) hv s
  simp only [Value.slice.injEq] at e
  obtain ⟨rfl, _, rfl⟩ := e
  obtain ⟨g, e, _, hu⟩ := hc i q hq
  refine ⟨g, e, ?_⟩
  have := hu 0 _ rfl
  simpa using this
/-- Four pages as they lie. -/
theorem LvAt.fourB {F : Heaplet} {a : Option Addr} {cap len : Nat} {P : List Lf} (h : LvAt F (.slice a len cap) P) (hp : Pgs P) : ∃ g off, a = some ⟨g, off, none⟩ ∧ ∀ n, n < 4 → ∃ sa sc, SlAt F (.slice sa (pgAt P n).slots.length sc) (pgAt P n).slots ∧ goodP (pgAt P n) = true ∧
    ∀ w, Sat w F → w.cell? ⟨g, off + n * 3 + 1, none⟩ = some (kI (pgAt P n).lsn) ∧ w.cell? ⟨g, off + n * 3 + 2, none⟩ = some (.slice sa (pgAt P n).slots.length sc) := by
  obtain ⟨a', c', e, hc⟩ := h
  simp only [Value.slice.injEq] at e
  obtain ⟨rfl, _, rfl⟩ := e
  obtain ⟨p, h0, _⟩ := hp.2 0 (by omega)
  obtain ⟨g, off, _, rfl, _⟩ := hc 0 _ h0
  refine ⟨g, off, rfl, fun n hn => ?_⟩
  obtain ⟨q, h1, h2⟩ := hp.2 n hn
  obtain ⟨g', off', sv, e, hsv, hu⟩ := hc n _ h1
  cases e
  have hq : pgAt P n = q := by unfold pgAt; rw [h1]
  obtain ⟨sa, sc, rfl, _⟩ := id hsv
  rw [hq]
  exact ⟨sa, sc, hsv, h2, fun w hw => (hu w hw).2⟩
theorem cl_at {cl : Int} {c : Nat} (h : 1 + umod cl 4 = (c : Int)) (hc : c < 5) : wrap64 ((IntKind.u64.wrap cl).tmod 4) = umod cl 4 ∧ IntKind.i64.wrap ((IntKind.u64.wrap cl).tmod 4) = umod cl 4 ∧ wrap64 (1 + umod cl 4) = (c : Int) ∧ IntKind.i64.wrap (1 + umod cl 4) = (c : Int) :=
  ⟨rfl, IntWalk.i64_left _, by rw [h, IntWalk.wrap64_in _ (by omega)], by rw [h, IntWalk.i64_in _ (by omega)]⟩
theorem kp_at {kp : Int} {ol q : Nat} (h : umod kp (ol : Int) = (q : Int)) (h0 : 0 < ol) (h1 : ol ≤ 80) : wrap64 ((IntKind.u64.wrap kp).tmod (ol : Int)) = (q : Int) ∧ IntKind.i64.wrap ((IntKind.u64.wrap kp).tmod (ol : Int)) = (q : Int) ∧ IntKind.u64.wrap (ol : Int) = (ol : Int) :=
  ⟨h, (IntWalk.i64_left _).trans h, by rw [IntKind.wrap_u64]; omega⟩
theorem bd_k {k m : Nat} (h : k < m) (hm : (m : Int) ≤ 80) : wrap64 ((k : Int) + 1) = (k : Int) + 1 ∧ IntKind.i64.wrap ((k : Int) + 1) = (k : Int) + 1 ∧ (0 : Int) ≤ (k : Int) + 1 ∧ ((k : Int) + 1).toNat = k + 1 :=
  ⟨IntWalk.wrap64_in _ (by omega), IntWalk.i64_in _ (by omega), by omega, by omega⟩
set_option maxRecDepth 100000 in
set_option maxHeartbeats 16000000 in
theorem back_walk (a : Option Addr) (cap : Nat) (l : List Ac) (cl kp : Int) (Wi : World) (hv : AcIn (allOf Wi) (.slice a l.length cap) l) :
    Calls Tryz.prog 6 #[.slice a l.length cap, kI cl, kI kp] Wi (Ret (.bool true) (RowKit.Below Wi.heap.size Wi)) := by
  have HS := Lib.hid (sat_all Wi)
  obtain ⟨F0, hF0⟩ : ∃ F0, allOf Wi = F0 := ⟨_, rfl⟩
  rw [hF0] at HS hv
  have HV := Lib.hid hv
  have HB : Hid (∀ W, Sat W F0 → RowKit.Below Wi.heap.size Wi W) := Lib.hid (fun W hW => by rw [← hF0] at hW; exact hW.below)
  have HJ := Lib.hid (lived_js l)
  clear hF0 hv
  obtain ⟨S, ok, hL⟩ : ∃ S ok, livedP l = (S, ok) := ⟨_, _, rfl⟩
  rw [hL] at HJ
  have HLV : Hid (∀ W, Sat W F0 → Calls Tryz.prog 10 #[.slice a l.length cap] W fun e w' => ∃ pb, e = .returned (.tuple #[.pointer (some ⟨pb, 0, none⟩), .bool ok]) ∧ PsIs pb S F0 w') := Lib.hid (fun W hW => by
    have := lived_call HV.out hW
    rw [hL] at this
    exact this)
  clear hL HV
  generalize l.length = n at *
  go_enter Tryz.func6, Tryz.ntmps6
  go_upto_region 3 with (go_at_call 9; refine (awake_any F0 _ HS.out).mono ?_; rintro e w1 ⟨rfl, hs1⟩; have HS1 := Lib.hid hs1; clear hs1 HS)
  go_upto_region 4 with (go_at_call 10; refine (HLV.out _ HS1.out).mono ?_; rintro e w2 ⟨pb, rfl, hps⟩; have HPS := Lib.hid hps; clear hps HS1 HLV)
  cases ok with
  | false =>
    have HE := Lib.hid (HB.out _ HPS.out.frame)
    clear HPS HJ
    go_wp2_with fail
    go_ret
    exact ⟨rfl, HE.out⟩
  | true =>
    obtain ⟨jj, hj, hjs⟩ := HJ.out
    obtain ⟨B, hB, hsB⟩ := psB_of HPS.out
    clear HPS HJ
    have hll := (hjs.len (c := 1)).1
    have hal := hjs.hist.len
    obtain ⟨c, hc1, hc5, hc2⟩ : ∃ c : Nat, 1 ≤ c ∧ c < 5 ∧ 1 + umod cl 4 = (c : Int) := by
      have := umod_bd cl 4 (by omega) (by omega)
      exact ⟨1 + (umod cl 4).toNat, by omega, by omega, by omega⟩
    obtain ⟨lv0, nv0, av0, vs0, hl0, ha0, H0, h1, h2, h3, h5, e⟩ := hB
    obtain ⟨la0, lc0, rfl⟩ := sl_form h1
    obtain ⟨ag0, ac0, rfl⟩ := sl_some h2 (by rw [h5.1]; omega)
    subst e
    obtain ⟨n', hn'⟩ : ∃ n', S.list.length = n' := ⟨_, rfl⟩
    obtain ⟨t, ht⟩ : ∃ t, S.t c = t := ⟨_, rfl⟩
    obtain ⟨BS, hBS⟩ : ∃ BS, (HItem.blk pb (psO (.slice la0 S.list.length lc0) nv0 (.slice (some ⟨ag0, 0, none⟩) vs0.length ac0) S.ow S.tx S.la) :: (hl0 ++ (ha0 ++ H0))) ++ F0 = BS := ⟨_, rfl⟩
    have hPI : ∀ W, Sat W BS → PsIs pb S F0 W := fun W hW => by
      rw [← hBS] at hW
      exact ⟨_, _, _, vs0, hl0, ha0, H0, h1, h2, h3, h5, by (refine Sat.part hW ?_; intro a; simp only [cnt_cons, cnt_append, cnt_nil, List.cons_append, List.nil_append, List.append_eq]; omega)⟩
    have hcl : ∀ W, Sat W BS → W.cell? ⟨pb, 0, none⟩ = some (.slice la0 n' lc0) ∧ W.cell? ⟨pb, 2, none⟩ = some (.slice (some ⟨ag0, 0, none⟩) vs0.length ac0) ∧ (∀ i v, vs0[i]? = some v → W.cell? ⟨ag0, i, none⟩ = some v) ∧ ∀ i q, S.list[i]? = some q → ∃ g off, la0 = some ⟨g, off, none⟩ ∧ EnO W g (off + i * 13) q := fun W hW => by
      rw [← hBS] at hW
      have hW0 : Sat W (.blk pb (psO (.slice la0 S.list.length lc0) nv0 (.slice (some ⟨ag0, 0, none⟩) vs0.length ac0) S.ow S.tx S.la) :: (hl0 ++ (ha0 ++ (H0 ++ F0)))) := by (refine Sat.part hW ?_; intro a; simp only [cnt_cons, cnt_append, cnt_nil, List.cons_append, List.nil_append, List.append_eq]; omega)
      refine ⟨by rw [← hn', cell_of hW0.h0]; rfl, by rw [cell_of hW0.h0]; rfl, fun i v hi => ?_, fun i q hq => ?_⟩
      · have hA : Sat W (ha0 ++ (hl0 ++ (H0 ++ F0))) := by (refine Sat.part hW0.tail ?_; intro a; simp only [cnt_cons, cnt_append, cnt_nil, List.cons_append, List.nil_append, List.append_eq]; omega)
        exact (SliceIs.cell h2 hA rfl hi).2.2
      · obtain ⟨a', c', e, hc⟩ := ens_in h1 (ha0 ++ (H0 ++ F0))
        simp only [Value.slice.injEq] at e
        obtain ⟨rfl, _, rfl⟩ := e
        exact hc W hW0.tail i q hq
    have hBK0 : ∀ W (K : Heaplet), Sat W (K ++ BS) → Calls Tryz.prog 18 #[.slice la0 n' lc0, tV t, kI 0] W (Ret (.tuple #[eV (backM S.list t 0).1, .bool (backM S.list t 0).2]) (Below W.heap.size W)) := fun W K hW => by
      have := back_any t 0 ((ens_in h1 (ha0 ++ (H0 ++ F0))).mono (fun w hw => by
        have hw0 : Sat w BS := Sat.right (h' := K) hw
        rw [← hBS] at hw0
        exact (show Sat w (.blk pb (psO (.slice la0 S.list.length lc0) nv0 (.slice (some ⟨ag0, 0, none⟩) vs0.length ac0) S.ow S.tx S.la) :: (hl0 ++ (ha0 ++ (H0 ++ F0)))) by (refine Sat.part hw0 ?_; intro a; simp only [cnt_cons, cnt_append, cnt_nil, List.cons_append, List.nil_append, List.append_eq]; omega)).tail)) hW (by omega) hjs.li.fitL
      rw [hn'] at this; exact this
    have hPK : ∀ W (G : Heaplet), Sat W (G ++ BS) → PsK H0 vs0 pb S (G ++ F0) W := fun W G hW => by
      rw [← hBS] at hW
      exact ⟨_, _, _, vs0, hl0, ha0, H0, h1, h2, h3, h5, by (refine Sat.part hW ?_; intro a; simp only [cnt_cons, cnt_append, cnt_nil, List.cons_append, List.nil_append, List.append_eq]; omega), ⟨[], by simp⟩, ⟨[], by simp⟩⟩
    have hTX : ∀ W, Sat W BS → Calls Tryz.prog 17 #[.pointer (some ⟨pb, 0, none⟩), .int .i64 (c : Int)] W (Pur (tV t) W) := fun W hW => by
      have := txn_any (hPI W hW) hc5
      rw [ht] at this; exact this
    have hs2 : Sat w2 BS := by rw [← hBS]; exact hsB
    have HB2 := Lib.hid HB.out
    have HFR : Hid (∀ W, Sat W BS → RowKit.Below Wi.heap.size Wi W) := Lib.hid (fun W hW => by rw [← hBS] at hW; exact HB.out W hW.right)
    have HCL := Lib.hid hcl
    have HTX := Lib.hid hTX
    have HBK0 := Lib.hid hBK0
    have HPK := Lib.hid hPK
    have HVS := Lib.hid h5
    have HJS := Lib.hid (And.intro hjs (And.intro hj (And.intro hc1 (And.intro hc5 (And.intro ht hn')))))
    have hn9 : (n' : Int) ≤ 80 := by omega
    have hn8 : n' ≤ 80 := by omega
    have h0s := hs2.new (.cells #[] 3)
    have HN0 : Hid (NSl (.slice (some ⟨w2.heap.size, 0, none⟩) 0 0) (ownI S.list t 0) [.blk w2.heap.size (.cells #[] 3)] ∧ Sat (w2.alloc (.cells #[] 3)) ([.blk w2.heap.size (.cells #[] 3)] ++ BS)) := Lib.hid ⟨sl_new 3 1 _, h0s⟩
    have hgd : ∀ (o1 o2 : Operand) (a b : Tx) W, (eqGuard .eql 56 o1 o2 (tV a) (tV b)).run Tryz.prog W = .ok () W := fun _ _ a b W => by first | rfl | (simp [go_sem, eqGuard])
    have HGD := Lib.hid hgd
    have hcb : (c : Int) ≤ 4 := by omega
    have hcb0 : (0 : Int) ≤ (c : Int) := by omega
    have HC2 := Lib.hid (And.intro hc2 hc5)
    clear h1 h2 h3 h5 hPI hcl hBK0 hPK hTX hs2 hBS hsB hjs hj hll hal hc2 hn' ht h0s hgd hc1 hc5 HB
    obtain ⟨hu1, hu2, hu3, hu4⟩ := cl_at HC2.out.1 HC2.out.2
    go_upto_region 8 with (fail)
    generalize w2.alloc (.cells #[] 3) = W3 at *
    generalize w2.heap.size = g0 at *
    clear hu1 hu2 hu3 hu4
    go_wp2_with fail
    go_loopw [10, 11] (fun v10 v11 wr => ∃ (m : Nat) (h : Heaplet), m ≤ n' ∧ v11 = .int .i64 m ∧ NSl v10 (ownI S.list t m) h ∧ Sat wr (h ++ BS)) (fun _ v11 _ => 20000 - (RowKit.intOf v11).toNat)
    case atStart => exact ⟨0, _, by omega, rfl, HN0.out.1, HN0.out.2⟩
    case round =>
      clear HN0
      obtain ⟨m, h, hm, rfl, hnv, hs⟩ := hrel
      have m0 : (0 : Int) ≤ (m : Int) := by omega
      obtain ⟨oa, oc, rfl⟩ := sl_form hnv
      have p0 := (HCL.out wr hs.right).1
      by_cases hml : m < n'
      · have m1 : (m : Int) < (n' : Int) := by omega
        obtain ⟨x, hx⟩ : ∃ x, S.list[m]? = some x := ⟨_, List.getElem?_eq_getElem (by have := HJS.out; omega)⟩
        obtain ⟨g, off, rfl, _, e1, e2, e3, _⟩ := (HCL.out wr hs.right).2.2.2 m x hx
        have hcell : ∀ w', Sat w' (h ++ BS) → w'.cell? ⟨pb, 0, none⟩ = some (.slice (some ⟨g, off, none⟩) n' lc0) ∧ w'.cell? ⟨g, off + m * 13 + 1, none⟩ = some (kI x.t.c) ∧ w'.cell? ⟨g, off + m * 13 + 2, none⟩ = some (kI x.t.e) ∧ w'.cell? ⟨g, off + m * 13 + 3, none⟩ = some (kI x.t.n) := fun w' hw' => by
          obtain ⟨g2, off2, e, _, f1, f2, f3, _⟩ := (HCL.out w' hw'.right).2.2.2 m x hx
          cases e
          exact ⟨(HCL.out w' hw'.right).1, f1, f2, f3⟩
        have HC := Lib.hid hcell
        have K1 := Lib.hid (hcell _ hs)
        have K2 := Lib.hid (hcell _ hs.drew)
        have HSD := Lib.hid hs.drew
        have HNV := Lib.hid hnv
        have hnx := ownI_next hx (t := t)
        have HNX := Lib.hid hnx
        have heq := eq_tx x.t t
        have hgd := fun (o1 o2 : Operand) => HGD.out o1 o2 x.t t
        clear hx hs hnv hcell e1 e2 e3 hnx
        go_upto_region 11 with (fail)
        clear p0
        go_region_held3 (fun w' => w'.cell? ⟨pb, 0, none⟩ = some (.slice (some ⟨g, off, none⟩) n' lc0) ∧ w'.cell? ⟨g, off + m * 13 + 1, none⟩ = some (kI x.t.c) ∧ w'.cell? ⟨g, off + m * 13 + 2, none⟩ = some (kI x.t.e) ∧ w'.cell? ⟨g, off + m * 13 + 3, none⟩ = some (kI x.t.n))
          (with_reducible first | exact K1.out | exact K2.out | exact K3.out)
          (first
            | (go_at_call 17
               refine (HTX.out _ HSD.out.right).mono ?_
               rintro e w4 ⟨rfl, hg4⟩
               have HG4 := Lib.hid (HSD.out.grown hg4)
               have K3 := Lib.hid (HC.out _ HG4.out)))
        all_goals
          clear K1 K2 K3 hg4 heq hgd
          cases hd : decide (x.t = t) with
          | true =>
            have hnx := HNX.out
            rw [if_pos (of_decide_eq_true hd)] at hnx
            obtain ⟨v9, w9, h9, hap, hv9, hs9⟩ := n_push (m : Int) HNV.out (HG4.out.new (.cells #[kI (m : Int)] 3)) (by have := ownI_len S.list t m; omega)
            rw [← hnx] at hv9
            have FIN : Hid (NSl v9 (ownI S.list t (m + 1)) h9 ∧ Sat w9 (h9 ++ BS)) := Lib.hid ⟨hv9, hs9⟩
            have HAP := Lib.hid hap
            clear hd hnx hap hv9 hs9 HG4 HNV HNX
            go_wp2_with (at_builtin; refine wpList_append_run rfl _ _ _ _ rfl _ _ _ _ rfl rfl HAP.out ?_)
            exact ⟨⟨m + 1, h9, by omega, by simp, FIN.out.1, FIN.out.2⟩, by simp only [RowKit.intOf]; omega⟩
          | false =>
            have hnx := HNX.out
            rw [if_neg (of_decide_eq_false hd)] at hnx
            have FIN : Hid (NSl (.slice oa (ownI S.list t m).length oc) (ownI S.list t (m + 1)) h ∧ Sat w4 (h ++ BS)) := Lib.hid ⟨by rw [hnx]; exact HNV.out, HG4.out⟩
            clear hd hnx HG4 HNV HNX
            go_wp2_with fail
            exact ⟨⟨m + 1, h, by omega, by simp, FIN.out.1, FIN.out.2⟩, by simp only [RowKit.intOf]; omega⟩
      · obtain rfl : m = n' := by omega
        have m1 : ((m : Int) < (m : Int)) = False := eq_false (by omega)
        obtain ⟨OI, hOI⟩ : ∃ OI, ownI S.list t m = OI := ⟨_, rfl⟩
        rw [hOI] at hnv
        rw [hOI]
        have hOIl : OI.length ≤ m := by rw [← hOI]; exact ownI_len _ _ _
        obtain ⟨ol, hol⟩ : ∃ ol, OI.length = ol := ⟨_, rfl⟩
        have HNV := Lib.hid hnv
        have HS3 := Lib.hid hs
        have HOI := Lib.hid (And.intro hOI (And.intro hol (show ol ≤ 80 by omega)))
        rw [hol]
        clear hnv hs hOI m1
        by_cases hz : ol = 0
        · subst hz
          have hoe : OI = [] := List.eq_nil_of_length_eq_zero hol
          clear hol hOIl
          have hnb : ∃ x, backM S.list t 0 = (x, false) := by
            have := HJS.out.1.nobody HJS.out.2.2.1 HJS.out.2.2.2.1 (by rw [HJS.out.2.2.2.2.1, HJS.out.2.2.2.2.2, HOI.out.1, hoe]) 0
            rw [HJS.out.2.2.2.2.1] at this
            exact this
          obtain ⟨x, hbk⟩ := hnb
          rw [hbk] at HBK0
          obtain ⟨Z, hZ⟩ : ∃ Z, h ++ BS = Z := ⟨_, rfl⟩
          have HZB : Hid (∀ W, Sat W Z → Sat W BS) := Lib.hid (fun W hW => by rw [← hZ] at hW; exact hW.right)
          have hcell : ∀ W, Sat W Z → W.cell? ⟨pb, 0, none⟩ = some (.slice la0 m lc0) := fun W hW => (HCL.out W (HZB.out W hW)).1
          have HTX2 : Hid (∀ (W : World) (K : Heaplet), Sat W (K ++ Z) → Calls Tryz.prog 17 #[.pointer (some ⟨pb, 0, none⟩), .int .i64 (c : Int)] W (Pur (tV t) W)) := Lib.hid (fun W K hW => HTX.out W (HZB.out W hW.right))
          have HBK2 : Hid (∀ (W : World) (K : Heaplet), Sat W (K ++ Z) → Calls Tryz.prog 18 #[.slice la0 m lc0, tV t, kI 0] W (Ret (.tuple #[eV x, .bool false]) (Below W.heap.size W))) := Lib.hid (fun W K hW => HBK0.out W (K ++ h) (by rw [List.append_assoc, hZ]; exact hW))
          have HFZ : Hid (∀ W, Sat W Z → RowKit.Below Wi.heap.size Wi W) := Lib.hid (fun W hW => HFR.out _ (HZB.out W hW))
          have hs0 : Sat wr Z := by rw [← hZ]; exact HS3.out
          have HS := Lib.hid hs0
          have HC := Lib.hid hcell
          have K1 := Lib.hid (hcell _ hs0)
          have K2 := Lib.hid (hcell _ hs0.drew)
          have K3 := Lib.hid (hcell _ (hs0.new zO).drew.tail)
          clear HS3
          have HS3 : Hid (Sat (wr.alloc zO).drew ([.blk wr.heap.size zO] ++ Z)) := Lib.hid (hs0.new zO).drew
          clear hcell hoe HGD HPK HVS HJS hbk HBK0 HTX HCL HOI HNV hs0 hZ HZB HFR
          go_upto_region 14 with (fail)
          go_cut [12, 13] (fun v12 v13 wx => ∃ cb, v12 = .pointer (some ⟨cb, 0, none⟩) ∧ v13 = .bool false ∧ Sat wx (.blk cb (eO x) :: Z))
          case first =>
            go_region_held3 (fun w' => w'.cell? ⟨pb, 0, none⟩ = some (.slice la0 m lc0))
              (with_reducible first | exact K1.out | exact K2.out | exact K3.out | exact K5.out | exact K6.out | exact K7.out | exact K8.out | exact K9.out)
              (first
                | (go_at_call 17
                   first
                   | ((with_reducible refine (HTX2.out _ [] HS.out.drew).mono ?_)
                      rintro e w2 ⟨rfl, hg⟩
                      have HS2 : Hid (Sat w2 ([] ++ Z)) := Lib.hid (HS.out.drew.grown hg)
                      have HS4 : Hid (Sat (w2.alloc zO) ([.blk w2.heap.size zO] ++ Z)) := Lib.hid (HS2.out.new zO)
                      have K5 := Lib.hid (HC.out _ HS2.out)
                      have K6 := Lib.hid (HC.out _ HS4.out.tail))
                   | ((with_reducible refine (HTX2.out _ _ HS3.out).mono ?_)
                      rintro e w2 ⟨rfl, hg⟩
                      have HS2 : Hid (Sat w2 ([.blk wr.heap.size zO] ++ Z)) := Lib.hid (HS3.out.grown hg)
                      have K5 := Lib.hid (HC.out _ HS2.out.tail)))
                | (go_at_call 18
                   first
                   | ((with_reducible refine (HBK2.out _ _ HS2.out).mono ?_)
                      rintro e w3 ⟨rfl, hb⟩
                      have HS5 := Lib.hid (HS2.out.monoB hb)
                      first
                      | (have K7 := Lib.hid (HC.out _ HS5.out); have K8 := Lib.hid (HC.out _ (HS5.out.new zO).tail); have K9 := Lib.hid (HC.out _ (HS5.out.new (eO x)).tail); have FIN := Lib.hid (HS5.out.new (eO x)))
                      | (have K7 := Lib.hid (HC.out _ HS5.out.tail); have K9 := Lib.hid (HC.out _ (sat_put13 (x := zeroE) (y := x) HS5.out).tail); have ff := unfrozen_of HS5.out.h0; obtain ⟨z0, z1, z2, z3, z4, z5, z6, z7, z8, z9, z10, z11, z12⟩ := enAt_of (x := zeroE) HS5.out.h0; have FIN := Lib.hid (sat_put13 (x := zeroE) (y := x) HS5.out)))
                   | ((with_reducible refine (HBK2.out _ _ HS4.out).mono ?_)
                      rintro e w3 ⟨rfl, hb⟩
                      have HS5 := Lib.hid (HS4.out.monoB hb)
                      have K7 := Lib.hid (HC.out _ HS5.out.tail); have K9 := Lib.hid (HC.out _ (sat_put13 (x := zeroE) (y := x) HS5.out).tail); have ff := unfrozen_of HS5.out.h0; obtain ⟨z0, z1, z2, z3, z4, z5, z6, z7, z8, z9, z10, z11, z12⟩ := enAt_of (x := zeroE) HS5.out.h0; have FIN := Lib.hid (sat_put13 (x := zeroE) (y := x) HS5.out))))
            all_goals
              clear HS5 HS2 K1 K2 K3 K5 K7 K9 HC HBK2 HTX2
              go_wp2_with fail
              go_meet
              exact ⟨_, rfl, rfl, FIN.out⟩
          case rest =>
            obtain ⟨cb, rfl, rfl, hs9⟩ := hcut
            have FIN := Lib.hid (HFZ.out _ hs9.tail)
            clear K1 K2 K3 HS3 HS HBK2 HTX2 HC hs9 HFZ
            go_wp2_with fail
            go_ret
            exact ⟨rfl, FIN.out⟩
        · have ol0 : 0 < ol := by omega
          have hm4 : ((ol : Int) == 0) = false := by rw [beq_eq_false_iff_ne]; omega
          have hm5 : ((ol : Int) = 0) = False := eq_false (by omega)
          have hm6 : (ol = 0) = False := eq_false (by omega)
          have ol80 : ol ≤ 80 := HOI.out.2.2
          obtain ⟨q, hq, hqn⟩ : ∃ q : Nat, umod kp (ol : Int) = (q : Int) ∧ q < ol := by
            have := umod_bd kp (ol : Int) (by omega) (by omega)
            exact ⟨(umod kp (ol : Int)).toNat, by omega, by omega⟩
          obtain ⟨z, hzq⟩ : ∃ z, OI[q]? = some z := ⟨_, List.getElem?_eq_getElem (by omega)⟩
          obtain ⟨k0, rfl, hk0, x0, hx0, hx0t⟩ := ownI_mem.1 (show z ∈ ownI S.list t m by rw [HOI.out.1]; exact List.mem_of_getElem? hzq)
          obtain ⟨og, rfl, hoc⟩ := n_cell HNV.out HS3.out hzq
          obtain ⟨ng, noff, rfl, _, _, _, _, e4, _⟩ := (HCL.out wr HS3.out.right).2.2.2 k0 x0 hx0
          have q0 : (0 : Int) ≤ (q : Int) := by omega
          have q1 : (q : Int) < (ol : Int) := by omega
          have j0 : (0 : Int) ≤ (k0 : Int) := by omega
          have j1 : (k0 : Int) < (m : Int) := by omega
          have ol9 : (ol : Int) ≤ 80 := by omega
          obtain ⟨dn, hdn⟩ : ∃ dn, x0.lsn = dn := ⟨_, rfl⟩
          rw [hdn] at e4
          have HX0 := Lib.hid (And.intro hx0 (And.intro hx0t (And.intro hdn hk0)))
          have HKP := Lib.hid (And.intro hq (And.intro ol0 ol80))
          clear hz hol hOIl hq hzq hx0 hx0t hk0 hdn HBK0 ol80 ol0
          obtain ⟨hx1, hx2, hm3⟩ := kp_at HKP.out.1 HKP.out.2.1 HKP.out.2.2
          go_upto_region 18 with (fail)
          clear hm3 hm4 hm5 hm6 hx1 hx2 q0 q1 hoc e4 p0
          go_wp2_with fail
          go_loopw [16] (fun v16 wr => ∃ i : Nat, i ≤ ol ∧ v16 = .int .i64 i ∧ (∀ z ∈ OI.take i, (k0 : Int) < z → ∀ y, S.list[z.toNat]? = some y → y.kind = 2 → dn ≤ y.next) ∧ Sat wr (h ++ BS)) (fun v16 _ => 1000 - (RowKit.intOf v16).toNat)
          case atStart => exact ⟨0, by omega, rfl, fun z hz => by simp at hz, HS3.out⟩
          case round =>
            clear HS3
            obtain ⟨i, hi, rfl, hok, hs⟩ := hrel
            have i0 : (0 : Int) ≤ (i : Int) := by omega
            by_cases hil : i < ol
            · have i1 : (i : Int) < (ol : Int) := by omega
              obtain ⟨z, hzi⟩ : ∃ z, OI[i]? = some z := ⟨_, List.getElem?_eq_getElem (by have := HOI.out; omega)⟩
              obtain ⟨j2, rfl, hj2, y, hy, hyt⟩ := ownI_mem.1 (show z ∈ ownI S.list t m by rw [HOI.out.1]; exact List.mem_of_getElem? hzi)
              obtain ⟨og2, oe, hoc⟩ := n_cell HNV.out hs hzi
              cases oe
              obtain ⟨ng2, noff2, ne, f0, _, _, _, _, _, _, _, _, _, _, _, f12⟩ := (HCL.out wr hs.right).2.2.2 j2 y hy
              cases ne
              have p0 := (HCL.out wr hs.right).1
              have y0 : (0 : Int) ≤ (j2 : Int) := by omega
              have y1 : (j2 : Int) < (m : Int) := by omega
              have htk : OI.take (i + 1) = OI.take i ++ [(j2 : Int)] := by rw [List.take_add_one, hzi]; rfl
              have HNX : Hid (((k0 : Int) < (j2 : Int) → y.kind = 2 → dn ≤ y.next) → ∀ z ∈ OI.take (i + 1), (k0 : Int) < z → ∀ y, S.list[z.toNat]? = some y → y.kind = 2 → dn ≤ y.next) := Lib.hid (fun hn z hz hlt w hw hk => by
                rw [htk] at hz
                rcases List.mem_append.1 hz with hz | hz
                · exact hok z hz hlt w hw hk
                · rw [List.mem_singleton.1 hz] at hlt hw
                  rw [Int.toNat_natCast, hy] at hw
                  cases hw
                  exact hn hlt hk)
              have HSN : Hid (∀ nd, Sat (wr.drewN nd) (h ++ BS)) := Lib.hid (fun nd => hs.grown (Grown.drewN wr nd))
              clear hok hs hzi hy hyt htk hj2
              go_upto_region 21 with (fail)
              by_cases hlt : (k0 : Int) < (j2 : Int)
              · by_cases hk2 : y.kind = 2
                · by_cases hnx : y.next < dn
                  · have b1 : (y.kind == 2) = true := by rw [beq_iff_eq]; exact hk2
                    clear hk2
                    go_quiet (fail)
                    have FIN := Lib.hid (HFR.out _ (HSN.out nq).right)
                    clear HSN HNX b1 hnx hlt f0 f12 p0 hoc
                    go_wp2_with fail
                    go_ret
                    exact ⟨rfl, FIN.out⟩
                  · have b1 : (y.kind == 2) = true := by rw [beq_iff_eq]; exact hk2
                    have b2 : (y.next < dn) = False := eq_false hnx
                    have FI2 := Lib.hid (HNX.out (fun _ _ => by omega))
                    clear hk2 hnx
                    go_quiet (fail)
                    clear b1 b2 f0 f12 p0 hoc hlt HNX
                    go_wp2_with fail
                    exact ⟨⟨i + 1, by omega, by simp, FI2.out, HSN.out _⟩, by simp only [RowKit.intOf]; omega⟩
                · have b1 : (y.kind == 2) = false := by rw [beq_eq_false_iff_ne]; exact hk2
                  have FI2 := Lib.hid (HNX.out (fun _ h => absurd h hk2))
                  clear hk2
                  go_quiet (fail)
                  clear b1 f0 f12 p0 hoc hlt HNX
                  go_wp2_with fail
                  exact ⟨⟨i + 1, by omega, by simp, FI2.out, HSN.out _⟩, by simp only [RowKit.intOf]; omega⟩
              · have b0 : ((k0 : Int) < (j2 : Int)) = False := eq_false hlt
                have FI2 := Lib.hid (HNX.out (fun h => absurd h hlt))
                clear hlt
                go_quiet (fail)
                clear b0 f0 f12 p0 hoc HNX
                go_wp2_with fail
                exact ⟨⟨i + 1, by omega, by simp, FI2.out, HSN.out _⟩, by simp only [RowKit.intOf]; omega⟩
            · obtain rfl : i = ol := by omega
              have i1 : ((i : Int) < (i : Int)) = False := eq_false (by omega)
              obtain ⟨hjs, hj, hc1, hc5, ht, hn'⟩ := HJS.out
              have htl : OI.take i = OI := List.take_of_length_le (by have := HOI.out; omega)
              rw [htl] at hok
              obtain ⟨hbk, hla⟩ := hjs.bk hj hc1 hc5 HX0.out.1 (by rw [ht]; exact HX0.out.2.1) (fun z hz => by
                rw [ht, hn', HOI.out.1] at hz
                rw [HX0.out.2.2.1]
                exact hok z hz)
              rw [HX0.out.2.2.1] at hbk hla
              have hvl : vs0.length = S.all.length := HVS.out.1
              have hal := hjs.hist.len
              obtain ⟨P1, hP1⟩ : ∃ P1, S.all[k0 + 1]? = some P1 := ⟨_, List.getElem?_eq_getElem (by have := HX0.out.2.2.2; omega)⟩
              obtain ⟨tv, htv⟩ : ∃ tv, vs0[k0 + 1]? = some tv := ⟨_, List.getElem?_eq_getElem (by have := HX0.out.2.2.2; omega)⟩
              have hLT := HVS.out.2 (k0 + 1) tv P1 htv hP1
              have hpg1 := hjs.hist.pgs P1 (List.mem_of_getElem? hP1)
              obtain ⟨ta, tc, rfl, _⟩ := id hLT
              rw [hpg1.1] at hLT htv
              obtain ⟨tg, tof, rfl, htn⟩ := hLT.fourB hpg1
              have c2 := (HCL.out _ hs.right).2.1
              have c3 := (HCL.out _ hs.right).2.2.1 _ _ htv
              have v4 : (k0 : Int) + 1 < (vs0.length : Int) := by have := HX0.out.2.2.2; omega
              have HBK1 := Lib.hid (And.intro hbk hla)
              have HP1 := Lib.hid (And.intro hP1 htn)
              have HPS := Lib.hid (HPK.out _ _ hs)
              have hch : Ch (ofM (S.list.take (k0 + 1)) (S.t c)) := by
                have h0 := hjs.li.st _ (hjs.opn c hc1 hc5)
                have hsp : ofM S.list (S.t c) = ofM (S.list.take (k0 + 1)) (S.t c) ++ ofM (S.list.drop (k0 + 1)) (S.t c) := by rw [← ofM_append, List.take_append_drop]
                rw [hsp] at h0
                exact h0.pre
              have HCH := Lib.hid hch
              obtain ⟨G, hG⟩ : ∃ G, h ++ F0 = G := ⟨_, rfl⟩
              rw [hG] at HPS
              have HGG : Hid (∀ W K, Sat W (G ++ K) → ∀ i z, OI[i]? = some z → W.cell? ⟨og, i, none⟩ = some (kI z)) := Lib.hid (fun W K hW i z hz => by
                rw [← hG] at hW
                obtain ⟨og2, oe, hoc⟩ := n_cell HNV.out (show Sat W (h ++ (F0 ++ K)) by rw [List.append_assoc] at hW; exact hW) hz
                cases oe
                exact hoc)
              have HGF : Hid (∀ W K, Sat W (K ++ G) → RowKit.Below Wi.heap.size Wi W) := Lib.hid (fun W K hW => by
                rw [← hG] at hW
                exact HB2.out W hW.right.right)
              clear hok hs htl hbk hla hvl hal hP1 htv hLT hpg1 htn hch hjs hj hc1 hc5 ht hn' hG HCL HTX HPK HVS HFR
              obtain ⟨v1, v2, v3, v5⟩ := bd_k HX0.out.2.2.2 hn9
              go_upto_region 24 with (fail)
              clear c2 c3 v1 v2 v3 v4 v5
              go_upto_block 4 with (fail)
              go_cut [] (fun wx => ∃ (r : Nat) (S' : PS), Bk jj S c (k0 + 1) dn r S' ∧ stk (ofM S'.list (S.t c)) = stk (ofM (S.list.take (k0 + 1)) (S.t c)) ∧ PsK H0 vs0 pb S' G wx)
              case first =>
                go_wp2_with fail
                go_loopw [18] (fun v18 wr => ∃ (r : Nat) (S' : PS), v18 = .int .i64 r ∧ Bk jj S c (k0 + 1) dn r S' ∧ PsK H0 vs0 pb S' G wr) (fun v18 _ => 1000 - (RowKit.intOf v18).toNat)
                case atStart => exact ⟨0, S, rfl, HBK1.out.1, HPS.out⟩
                case round =>
                  clear HPS
                  obtain ⟨r, S', rfl, hbk, hps⟩ := hrel
                  obtain ⟨s9, hs9a, hs9b, hr90⟩ := hbk.st
                  have r0 : (0 : Int) ≤ (r : Int) := by omega
                  have r1 : (r : Int) < 100 := by omega
                  have hst := hbk.step (by have := HJS.out; omega) HJS.out.2.2.1 HJS.out.2.2.2.1 HBK1.out.2 HCH.out
                  have hsm := hbk.js.small (by have := HJS.out; omega)
                  have htt : S'.t c = t := by rw [← HJS.out.2.2.2.2.1]; unfold PS.t; rw [hbk.tx]
                  rw [HJS.out.2.2.2.2.1] at hst
                  obtain ⟨x, is, hbkm⟩ : ∃ x is, backM S'.list t dn = (x, is) := ⟨_, _, rfl⟩
                  rw [hbkm] at hst
                  obtain ⟨lv, nv, av, vs, hl, ha, H, h1, h2, h3, h4, s, hK, hU⟩ := hps
                  obtain ⟨l0, lc, rfl⟩ := sl_form h1
                  have hMK2 : ∀ W K, Sat W (K ++ (.blk pb (psO (.slice l0 S'.list.length lc) nv av S'.ow S'.tx S'.la) :: (hl ++ (ha ++ (H ++ G))))) → PsK H0 vs0 pb S' (K ++ G) W := fun W K hW => ⟨_, _, _, vs, hl, ha, H, h1, h2, h3, h4, by (refine Sat.part hW ?_; intro a; simp only [cnt_cons, cnt_append, cnt_nil, List.cons_append, List.nil_append, List.append_eq]; omega), hK, hU⟩
                  have HBK : Hid (∀ (W : World) (K : Heaplet), Sat W (K ++ (.blk pb (psO (.slice l0 S'.list.length lc) nv av S'.ow S'.tx S'.la) :: (hl ++ (ha ++ (H ++ G))))) → Calls Tryz.prog 18 #[.slice l0 S'.list.length lc, tV t, kI dn] W (Ret (.tuple #[eV x, .bool is]) (Below W.heap.size W))) := Lib.hid (fun W K hW => by
                    have := back_any t dn ((ens_in h1 (ha ++ (H ++ G))).mono (fun w hw => (Sat.right (h' := K) hw).tail)) hW (by have := hsm.1.2.2.2.2.2.2.1; omega) hsm.1.2.2.2.1
                    rw [hbkm] at this; exact this)
                  have HTX : Hid (∀ (W : World) (K : Heaplet), Sat W (K ++ (.blk pb (psO (.slice l0 S'.list.length lc) nv av S'.ow S'.tx S'.la) :: (hl ++ (ha ++ (H ++ G))))) → Calls Tryz.prog 17 #[.pointer (some ⟨pb, 0, none⟩), .int .i64 (c : Int)] W (Pur (tV t) W)) := Lib.hid (fun W K hW => by
                    have := txn_any (hMK2 W K hW).is HJS.out.2.2.2.1
                    rw [htt] at this; exact this)
                  have HMK2 := Lib.hid hMK2
                  have HS := Lib.hid s
                  have HST := Lib.hid (And.intro hst (And.intro hsm (And.intro hbk htt)))
                  have hcell : ∀ W, Sat W (.blk pb (psO (.slice l0 S'.list.length lc) nv av S'.ow S'.tx S'.la) :: (hl ++ (ha ++ (H ++ G)))) → W.cell? ⟨pb, 0, none⟩ = some (.slice l0 S'.list.length lc) := fun W hW => by rw [cell_of hW.h0]; rfl
                  have HC := Lib.hid hcell
                  have K1 := Lib.hid (hcell _ s)
                  have K2 := Lib.hid (hcell _ s.drew)
                  have K3 := Lib.hid (hcell _ (s.new zO).drew.tail)
                  have HS3 : Hid (Sat (wr.alloc zO).drew ([.blk wr.heap.size zO] ++ (.blk pb (psO (.slice l0 S'.list.length lc) nv av S'.ow S'.tx S'.la) :: (hl ++ (ha ++ (H ++ G)))))) := Lib.hid (s.new zO).drew
                  clear s hcell hst hsm hbk hbkm hMK2 h1 h2 h3 h4 hK hU htt hs9a hs9b hr90
                  go_upto_region 27 with (fail)
                  go_cut [19, 20] (fun v19 v20 wx => ∃ cb, v19 = .pointer (some ⟨cb, 0, none⟩) ∧ v20 = .bool is ∧ Sat wx (.blk cb (eO x) :: .blk pb (psO (.slice l0 S'.list.length lc) nv av S'.ow S'.tx S'.la) :: (hl ++ (ha ++ (H ++ G)))))
                  case first =>
                    go_region_held3 (fun w' => w'.cell? ⟨pb, 0, none⟩ = some (.slice l0 S'.list.length lc))
                      (with_reducible first | exact K1.out | exact K2.out | exact K3.out | exact K5.out | exact K6.out | exact K7.out | exact K8.out | exact K9.out)
                      (first
                        | (go_at_call 17
                           first
                           | ((with_reducible refine (HTX.out _ [] HS.out.drew).mono ?_)
                              rintro e w2 ⟨rfl, hg⟩
                              have HS2 : Hid (Sat w2 ([] ++ (.blk pb (psO (.slice l0 S'.list.length lc) nv av S'.ow S'.tx S'.la) :: (hl ++ (ha ++ (H ++ G)))))) := Lib.hid (HS.out.drew.grown hg)
                              have HS4 : Hid (Sat (w2.alloc zO) ([.blk w2.heap.size zO] ++ (.blk pb (psO (.slice l0 S'.list.length lc) nv av S'.ow S'.tx S'.la) :: (hl ++ (ha ++ (H ++ G)))))) := Lib.hid (HS2.out.new zO)
                              have K5 := Lib.hid (HC.out _ HS2.out)
                              have K6 := Lib.hid (HC.out _ HS4.out.tail))
                           | ((with_reducible refine (HTX.out _ _ HS3.out).mono ?_)
                              rintro e w2 ⟨rfl, hg⟩
                              have HS2 : Hid (Sat w2 ([.blk wr.heap.size zO] ++ (.blk pb (psO (.slice l0 S'.list.length lc) nv av S'.ow S'.tx S'.la) :: (hl ++ (ha ++ (H ++ G)))))) := Lib.hid (HS3.out.grown hg)
                              have K5 := Lib.hid (HC.out _ HS2.out.tail)))
                        | (go_at_call 18
                           first
                           | ((with_reducible refine (HBK.out _ _ HS2.out).mono ?_)
                              rintro e w3 ⟨rfl, hb⟩
                              have HS5 := Lib.hid (HS2.out.monoB hb)
                              first
                              | (have K7 := Lib.hid (HC.out _ HS5.out); have K8 := Lib.hid (HC.out _ (HS5.out.new zO).tail); have K9 := Lib.hid (HC.out _ (HS5.out.new (eO x)).tail); have FIN := Lib.hid (HS5.out.new (eO x)))
                              | (have K7 := Lib.hid (HC.out _ HS5.out.tail); have K9 := Lib.hid (HC.out _ (sat_put13 (x := zeroE) (y := x) HS5.out).tail); have ff := unfrozen_of HS5.out.h0; obtain ⟨z0, z1, z2, z3, z4, z5, z6, z7, z8, z9, z10, z11, z12⟩ := enAt_of (x := zeroE) HS5.out.h0; have FIN := Lib.hid (sat_put13 (x := zeroE) (y := x) HS5.out)))
                           | ((with_reducible refine (HBK.out _ _ HS4.out).mono ?_)
                              rintro e w3 ⟨rfl, hb⟩
                              have HS5 := Lib.hid (HS4.out.monoB hb)
                              have K7 := Lib.hid (HC.out _ HS5.out.tail); have K9 := Lib.hid (HC.out _ (sat_put13 (x := zeroE) (y := x) HS5.out).tail); have ff := unfrozen_of HS5.out.h0; obtain ⟨z0, z1, z2, z3, z4, z5, z6, z7, z8, z9, z10, z11, z12⟩ := enAt_of (x := zeroE) HS5.out.h0; have FIN := Lib.hid (sat_put13 (x := zeroE) (y := x) HS5.out))))
                    all_goals
                      clear HS5 HS2 K1 K2 K3 K5 K7 K9 HC HBK HTX
                      go_wp2_with fail
                      go_meet
                      exact ⟨_, rfl, rfl, FIN.out⟩
                  case rest =>
                    obtain ⟨cb, rfl, rfl, hs9⟩ := hcut
                    clear K1 K2 K3 HS3 HS HBK HTX HC
                    cases is with
                    | false =>
                      have FIN : Hid (∃ (r : Nat) (S' : PS), Bk jj S c (k0 + 1) dn r S' ∧ stk (ofM S'.list (S.t c)) = stk (ofM (S.list.take (k0 + 1)) (S.t c)) ∧ PsK H0 vs0 pb S' G wc) := Lib.hid (by
                        rcases HST.out.1 with ⟨_, _, h⟩ | ⟨_, _, _, _, _, h, _⟩
                        · exact ⟨r, S', HST.out.2.2.1, by rw [HJS.out.2.2.2.2.1]; exact h, HMK2.out _ [] hs9.tail⟩
                        · cases h)
                      clear HST HMK2 hs9
                      go_wp2_with fail
                      go_meet
                      exact FIN.out
                    | true =>
                      have hst : ∃ (z : En) (n : Nat) (y : En) (S2 : PS), r < 90 ∧ (x, true) = (z, true) ∧ n < 4 ∧ z.page = (n : Int) ∧ dn < z.lsn ∧ goodM z = true ∧ z.t = t ∧ turnM z (lsnM S' c n) (S'.la c) = (y, 0) ∧ addP S' y = (true, S2) ∧ y.t.c = (c : Int) ∧ y.page = (n : Int) ∧ y.lsn = lsnM S' c n ∧ Bk jj S c (k0 + 1) dn (r + 1) S2 := by
                        rcases HST.out.1 with ⟨_, h, _⟩ | h
                        · cases h
                        · exact h
                      obtain ⟨z, n, y, S2, hr9, hze, hn4, hxp, hxl, hm4, hm3, hty, had, hyt, hyp, hyl, hbk2⟩ := hst
                      cases hze
                      have hxb := goodM_lsn hm4
                      obtain ⟨lsn, hlsn⟩ : ∃ lsn, lsnM S' c n = lsn := ⟨_, rfl⟩
                      have hlb : -9223372036854775808 ≤ lsn ∧ lsn ≤ 9223372036854775807 := by
                        have h1 := HST.out.2.1.1.1 c
                        have h2 : 0 ≤ (pgAt S'.now n).lsn ∧ (pgAt S'.now n).lsn ≤ 1000000 := by
                          unfold pgAt
                          split
                          · rename_i q hq
                            have := HST.out.2.1.1.2.2.2.2.1 q (List.mem_of_getElem? hq)
                            exact ⟨(goodP_iff.1 this.1).1, this.2⟩
                          · decide
                        rw [← hlsn]
                        unfold lsnM
                        omega
                      rw [hlsn] at hty hyl
                      have HLS : Hid (∀ (W : World) (K : Heaplet), Sat W (K ++ (.blk cb (eO x) :: .blk pb (psO (.slice l0 S'.list.length lc) nv av S'.ow S'.tx S'.la) :: (hl ++ (ha ++ (H ++ G))))) → Calls Tryz.prog 20 #[.pointer (some ⟨pb, 0, none⟩), .int .i64 (c : Int), .int .i64 (n : Int)] W (Qt (kI lsn) W)) := Lib.hid (fun W K hW => by
                        have := lsn_any (HMK2.out W [] hW.right.tail).is HST.out.2.1.1 HJS.out.2.2.2.1 hn4
                        rw [hlsn] at this; exact this)
                      have HTU : Hid (∀ W, Calls Tryz.prog 19 #[.agg #[kI x.kind, kI x.t.c, kI x.t.e, kI x.t.n, kI x.lsn, kI x.prev, kI (n : Int), kI x.slot, .bool x.wu, kS x.wd, .bool x.iu, kS x.idt, kI x.next], kI lsn, kI (S'.la c)] W (Ret (.tuple #[eV y, kI 0]) (Below W.heap.size W))) := Lib.hid (fun W => by
                        have := turn_any x lsn (S'.la c) W (by omega) hlb
                        rw [hty] at this
                        unfold eV at this
                        rw [hxp] at this
                        exact this)
                      have HRS := Lib.hid (And.intro had (And.intro hyt (And.intro hyp (And.intro hyl (And.intro hlb (And.intro hn4 (And.intro hbk2 hr9)))))))
                      have c5 : (c : Int) < 5 := by omega
                      have hcell : ∀ W, Sat W (.blk cb (eO x) :: .blk pb (psO (.slice l0 S'.list.length lc) nv av S'.ow S'.tx S'.la) :: (hl ++ (ha ++ (H ++ G)))) → W.cell? ⟨pb, 12 + c, none⟩ = some (kI (S'.la c)) ∧ W.cell? ⟨cb, 0, none⟩ = some (kI x.kind) ∧ W.cell? ⟨cb, 1, none⟩ = some (kI x.t.c) ∧ W.cell? ⟨cb, 2, none⟩ = some (kI x.t.e) ∧ W.cell? ⟨cb, 3, none⟩ = some (kI x.t.n) ∧ W.cell? ⟨cb, 4, none⟩ = some (kI x.lsn) ∧ W.cell? ⟨cb, 5, none⟩ = some (kI x.prev) ∧ W.cell? ⟨cb, 6, none⟩ = some (kI (n : Int)) ∧ W.cell? ⟨cb, 7, none⟩ = some (kI x.slot) ∧ W.cell? ⟨cb, 8, none⟩ = some (.bool x.wu) ∧ W.cell? ⟨cb, 9, none⟩ = some (kS x.wd) ∧ W.cell? ⟨cb, 10, none⟩ = some (.bool x.iu) ∧ W.cell? ⟨cb, 11, none⟩ = some (kS x.idt) ∧ W.cell? ⟨cb, 12, none⟩ = some (kI x.next) := fun W hW => by
                        obtain ⟨y0, y1, y2, y3, y4, y5, y6, y7, y8, y9, y10, y11, y12⟩ := enAt_of hW.h0
                        rw [hxp] at y6
                        exact ⟨by rw [cell_of hW.h1]; exact psC_la HJS.out.2.2.2.1, y0, y1, y2, y3, y4, y5, y6, y7, y8, y9, y10, y11, y12⟩
                      have HS9 := Lib.hid hs9
                      have HC := Lib.hid hcell
                      have K1 := Lib.hid (hcell _ hs9)
                      have K2 := Lib.hid (hcell _ hs9.drew)
                      have K3 := Lib.hid (hcell _ (hs9.new zO).drew.tail)
                      have HS3 : Hid (Sat (wc.alloc zO).drew ([.blk wc.heap.size zO] ++ (.blk cb (eO x) :: .blk pb (psO (.slice l0 S'.list.length lc) nv av S'.ow S'.tx S'.la) :: (hl ++ (ha ++ (H ++ G)))))) := Lib.hid (hs9.new zO).drew
                      have HXL := Lib.hid hxl
                      clear had hyt hyp hyl hbk2 hm3 hm4 hxb hlb hlsn hty hcell hs9 hxp hn4 hxl hr9
                      go_upto_region 29 with (fail)
                      go_cut [21, 22] (fun v21 v22 wx => ∃ yb, v21 = .pointer (some ⟨yb, 0, none⟩) ∧ v22 = kI 0 ∧ Sat wx (.blk yb (eO y) :: .blk cb (eO x) :: .blk pb (psO (.slice l0 S'.list.length lc) nv av S'.ow S'.tx S'.la) :: (hl ++ (ha ++ (H ++ G)))))
                      case first =>
                        go_region_held3 (fun w' => w'.cell? ⟨pb, 12 + c, none⟩ = some (kI (S'.la c)) ∧ w'.cell? ⟨cb, 0, none⟩ = some (kI x.kind) ∧ w'.cell? ⟨cb, 1, none⟩ = some (kI x.t.c) ∧ w'.cell? ⟨cb, 2, none⟩ = some (kI x.t.e) ∧ w'.cell? ⟨cb, 3, none⟩ = some (kI x.t.n) ∧ w'.cell? ⟨cb, 4, none⟩ = some (kI x.lsn) ∧ w'.cell? ⟨cb, 5, none⟩ = some (kI x.prev) ∧ w'.cell? ⟨cb, 6, none⟩ = some (kI (n : Int)) ∧ w'.cell? ⟨cb, 7, none⟩ = some (kI x.slot) ∧ w'.cell? ⟨cb, 8, none⟩ = some (.bool x.wu) ∧ w'.cell? ⟨cb, 9, none⟩ = some (kS x.wd) ∧ w'.cell? ⟨cb, 10, none⟩ = some (.bool x.iu) ∧ w'.cell? ⟨cb, 11, none⟩ = some (kS x.idt) ∧ w'.cell? ⟨cb, 12, none⟩ = some (kI x.next))
                          (with_reducible first | exact K1.out | exact K2.out | exact K3.out | exact K5.out | exact K6.out | exact K7.out | exact K8.out | exact K9.out | exact K9.out.1 | exact K9.out.2.1 | exact K9.out.2.2.1 | exact K9.out.2.2.2.1 | exact K9.out.2.2.2.2.1 | exact K9.out.2.2.2.2.2.1 | exact K9.out.2.2.2.2.2.2.1 | exact K9.out.2.2.2.2.2.2.2.1 | exact K9.out.2.2.2.2.2.2.2.2.1 | exact K9.out.2.2.2.2.2.2.2.2.2.1 | exact K9.out.2.2.2.2.2.2.2.2.2.2.1 | exact K9.out.2.2.2.2.2.2.2.2.2.2.2.1 | exact K9.out.2.2.2.2.2.2.2.2.2.2.2.2.1 | exact K9.out.2.2.2.2.2.2.2.2.2.2.2.2.2)
                          (first
                            | (go_at_call 20
                               first
                               | ((with_reducible refine (HLS.out _ [] HS9.out.drew).mono ?_)
                                  rintro e w2 ⟨rfl, hq⟩
                                  have hg : Grown wc.drew w2 := (by obtain ⟨m, rfl⟩ := hq; exact Grown.drewN _ m)
                                  clear hq
                                  have HS2 : Hid (Sat w2 ([] ++ (.blk cb (eO x) :: .blk pb (psO (.slice l0 S'.list.length lc) nv av S'.ow S'.tx S'.la) :: (hl ++ (ha ++ (H ++ G)))))) := Lib.hid (HS9.out.drew.grown hg)
                                  have HS4 : Hid (Sat (w2.alloc zO) ([.blk w2.heap.size zO] ++ (.blk cb (eO x) :: .blk pb (psO (.slice l0 S'.list.length lc) nv av S'.ow S'.tx S'.la) :: (hl ++ (ha ++ (H ++ G)))))) := Lib.hid (HS2.out.new zO)
                                  have K5 := Lib.hid (HC.out _ HS2.out)
                                  have K6 := Lib.hid (HC.out _ HS4.out.tail))
                               | ((with_reducible refine (HLS.out _ _ HS3.out).mono ?_)
                                  rintro e w2 ⟨rfl, hq⟩
                                  have hg : Grown (wc.alloc zO).drew w2 := (by obtain ⟨m, rfl⟩ := hq; exact Grown.drewN _ m)
                                  clear hq
                                  have HS2 : Hid (Sat w2 ([.blk wc.heap.size zO] ++ (.blk cb (eO x) :: .blk pb (psO (.slice l0 S'.list.length lc) nv av S'.ow S'.tx S'.la) :: (hl ++ (ha ++ (H ++ G)))))) := Lib.hid (HS3.out.grown hg)
                                  have K5 := Lib.hid (HC.out _ HS2.out.tail)))
                            | (go_at_call 19
                               first
                               | ((with_reducible refine (HTU.out w2).mono ?_)
                                  rintro e w3 ⟨rfl, hb⟩
                                  have HS5 := Lib.hid (HS2.out.monoB hb)
                                  first
                                  | (have K7 := Lib.hid (HC.out _ HS5.out); have K8 := Lib.hid (HC.out _ (HS5.out.new zO).tail); have K9 := Lib.hid (HC.out _ (HS5.out.new (eO y)).tail); have FIN := Lib.hid (HS5.out.new (eO y)))
                                  | (have K7 := Lib.hid (HC.out _ HS5.out.tail); have K9 := Lib.hid (HC.out _ (sat_put13 (x := zeroE) (y := y) HS5.out).tail); have ff := unfrozen_of HS5.out.h0; obtain ⟨z0, z1, z2, z3, z4, z5, z6, z7, z8, z9, z10, z11, z12⟩ := enAt_of (x := zeroE) HS5.out.h0; have FIN := Lib.hid (sat_put13 (x := zeroE) (y := y) HS5.out)))
                               | ((with_reducible refine (HTU.out _).mono ?_)
                                  rintro e w3 ⟨rfl, hb⟩
                                  have HS5 := Lib.hid (HS4.out.monoB hb)
                                  have K7 := Lib.hid (HC.out _ HS5.out.tail); have K9 := Lib.hid (HC.out _ (sat_put13 (x := zeroE) (y := y) HS5.out).tail); have ff := unfrozen_of HS5.out.h0; obtain ⟨z0, z1, z2, z3, z4, z5, z6, z7, z8, z9, z10, z11, z12⟩ := enAt_of (x := zeroE) HS5.out.h0; have FIN := Lib.hid (sat_put13 (x := zeroE) (y := y) HS5.out))))
                        all_goals
                          clear HS5 HS2 K1 K2 K3 K5 K7 K9 HC HTU HLS
                          go_wp2_with fail
                          go_meet
                          exact ⟨_, rfl, rfl, FIN.out⟩
                      case rest =>
                        obtain ⟨yb, rfl, rfl, hs10⟩ := hcut
                        clear K1 K2 K3 HS3 HS9 HLS HTU HC
                        have hps := HMK2.out wc [.blk yb (eO y), .blk cb (eO x)] hs10
                        have HAD := Lib.hid (add3_any y hps HST.out.2.1.1 HST.out.2.1.2.2 HJS.out.2.2.2.1 HRS.out.2.1 (fun _ => ⟨n, HRS.out.2.2.2.2.2.1, HRS.out.2.2.1⟩) (by rw [HRS.out.2.2.2.1]; exact HRS.out.2.2.2.2.1))
                        rw [HRS.out.1] at HAD
                        obtain ⟨y0, y1, y2, y3, y4, y5, y6, y7, y8, y9, y10, y11, y12⟩ := enAt_of hs10.h0
                        obtain ⟨_, _, _, _, x4, _⟩ := enAt_of hs10.h1
                        have b1 : (x.lsn ≤ dn) = False := eq_false (by have := HXL.out; omega)
                        have HB2K := Lib.hid (And.intro HRS.out.2.2.2.2.2.2.1 HRS.out.2.2.2.2.2.2.2)
                        clear HRS HST HMK2 hps hs10 HXL
                        go_wp2_with (go_at_call 21; refine (HAD.out).mono ?_; rintro e w11 ⟨rfl, hp11⟩; have FIN := Lib.hid (PsK.part (G := G) hp11 (fun a => by simp only [cnt_cons, cnt_append, cnt_nil]; omega)); clear hp11)
                        exact ⟨⟨r + 1, S2, by simp, HB2K.out.1, FIN.out⟩, by have := HB2K.out.2; simp only [RowKit.intOf]; omega⟩
              case rest =>
                obtain ⟨r, S', hbk, hstk, hps⟩ := hcut
                have hpn := hbk.js.li.pgs
                have hs80 : S'.list.length ≤ 1000 := by have := (hbk.js.len (c := 1)).1; have := HJS.out; omega
                obtain ⟨lv, nv, av, vs, hl, ha, H, h1, h2, h3, h4, s, ⟨K, hK⟩, _⟩ := hps
                obtain ⟨l0, lc, rfl⟩ := sl_form h1
                obtain ⟨na, nc, rfl, _⟩ := id h3
                have hn4 : S'.now.length = 4 := hpn.1
                rw [hn4] at h3 s
                obtain ⟨nbk, nof, rfl, hnw⟩ := h3.fourB hpn
                obtain ⟨ln, hln⟩ : ∃ ln, S'.list.length = ln := ⟨_, rfl⟩
                rw [hln] at h1 s hs80
                obtain ⟨FR, hFR⟩ : ∃ FR, HItem.blk pb (psO (.slice l0 ln lc) (.slice (some ⟨nbk, nof, none⟩) 4 nc) av S'.ow S'.tx S'.la) :: (hl ++ (ha ++ (H ++ G))) = FR := ⟨_, rfl⟩
                have HFC : Hid (∀ W, Sat W FR → W.cell? ⟨pb, 0, none⟩ = some (.slice l0 ln lc) ∧ W.cell? ⟨pb, 1, none⟩ = some (.slice (some ⟨nbk, nof, none⟩) 4 nc)) := Lib.hid (fun W hW => by
                  rw [← hFR] at hW
                  exact ⟨by rw [cell_of hW.h0]; rfl, by rw [cell_of hW.h0]; rfl⟩)
                have HFE : Hid (∀ W, Sat W FR → ∀ i q, S'.list[i]? = some q → ∃ g off, l0 = some ⟨g, off, none⟩ ∧ EnO W g (off + i * 13) q) := Lib.hid (fun W hW i q hq => by
                  rw [← hFR] at hW
                  obtain ⟨a', c', e, hc⟩ := ens_in h1 (ha ++ (H ++ G))
                  simp only [Value.slice.injEq] at e
                  obtain ⟨rfl, _, rfl⟩ := e
                  exact hc W hW.tail i q hq)
                have HFO : Hid (∀ W, Sat W FR → ∀ i z, OI[i]? = some z → W.cell? ⟨og, i, none⟩ = some (kI z)) := Lib.hid (fun W hW => by
                  rw [← hFR] at hW
                  exact HGG.out W (hl ++ (ha ++ H)) (by (refine Sat.part hW.tail ?_; intro a; simp only [cnt_cons, cnt_append, cnt_nil, List.cons_append, List.nil_append, List.append_eq]; omega)))
                have HFH : Hid (∀ W K, Sat W (K ++ FR) → Sat W H ∧ Sat W H0) := Lib.hid (fun W K2 hW => by
                  rw [← hFR] at hW
                  have hH : Sat W H := hW.right.tail.right.right.left'
                  refine ⟨hH, ?_⟩
                  rw [hK] at hH
                  exact hH.left')
                have HFB : Hid (∀ W, Sat W FR → RowKit.Below Wi.heap.size Wi W) := Lib.hid (fun W hW => by
                  rw [← hFR] at hW
                  exact HGF.out W (.blk pb (psO (.slice l0 ln lc) (.slice (some ⟨nbk, nof, none⟩) 4 nc) av S'.ow S'.tx S'.la) :: (hl ++ (ha ++ H))) (by (refine Sat.part hW ?_; intro a; simp only [cnt_cons, cnt_append, cnt_nil, List.cons_append, List.nil_append, List.append_eq]; omega)))
                have HBF : Hid (∀ i3 z, OI[i3]? = some z → ∃ j3 : Nat, z = (j3 : Int) ∧ j3 < ln ∧ (j3 < k0 + 1 → ∃ (x : En) (n : Nat), S'.list[j3]? = some x ∧ n < 4 ∧ x.page = (n : Int) ∧ ∀ q : Nat, atM (pgAt S'.now n) q = atM (pgAt P1 n) q)) := Lib.hid (fun i3 z hz => by
                  obtain ⟨j3, rfl, hj3, x3, hx3, hx3t⟩ := ownI_mem.1 (show z ∈ ownI S.list t m by rw [HOI.out.1]; exact List.mem_of_getElem? hz)
                  obtain ⟨u3, hu3⟩ := hbk.lst
                  refine ⟨j3, rfl, by rw [← hln, hu3, List.length_append, HJS.out.2.2.2.2.2]; omega, fun hlt => ?_⟩
                  obtain ⟨_, n, k, hn, _, hp, _⟩ := HJS.out.1.li.ok x3 (List.mem_of_getElem? hx3)
                  have hkl : k0 + 1 ≤ S.list.length := by have := HX0.out.2.2.2; have := HJS.out; omega
                  refine ⟨x3, n, ?_, hn, hp, fun q => ?_⟩
                  · exact (hbk.fin HJS.out.2.2.1 HJS.out.2.2.2.1 hkl hstk HP1.out.1 hlt hx3 (by rw [HJS.out.2.2.2.2.1]; exact hx3t) hn hp 0).1
                  · exact (hbk.fin HJS.out.2.2.1 HJS.out.2.2.2.1 hkl hstk HP1.out.1 hlt hx3 (by rw [HJS.out.2.2.2.2.1]; exact hx3t) hn hp q).2)
                have HNW := Lib.hid hnw
                have HTN := Lib.hid HP1.out.2
                have HSF := Lib.hid (show Sat wc FR by rw [← hFR]; exact s)
                have hl9 : (ln : Int) ≤ 1000 := by omega
                have hol : OI.length = i := HOI.out.2.1
                have HOL := Lib.hid hol
                have hi80 : (i : Int) ≤ 80 := by have := HOI.out.2.2; omega
                clear hbk hstk hpn hs80 h1 h2 h3 h4 s hK hn4 hnw hln hFR HGG HGF HJS HX0 HBK1 HCH HP1 HPS hol HOI HNV
                refine ‹∀ (a : Act) (w : World), Code.wp Tryz.prog _ _ a w → _› _ _ ?_
                exact back_tail Wi HFC HFE HFO HFH HFB HBF HNW HTN HSF hl9 HOL hi80 i0 j0
end Go.Proofs.YtficgjklagnbjaaGreat
