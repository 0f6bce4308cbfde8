/- Texts put together: Md9, Md10, Cell, Md11, Md12. Conditions: none. -/
import Derived.Laws.CopyRow
import Derived.Laws.Cells
import Derived.Laws.Rows
import Derived.Test.YtficgjklagnbjaaGreatFo2
import Derived.Test.YtficgjklagnbjaaGreatFo21
namespace Go.Proofs.YtficgjklagnbjaaGreat
open Go Go.MapKept Go.RowKit Go.Proofs Go.Sort

/-- Where F holds, v is the slice of these acts. -/
def AcIn (F : Heaplet) (v : Value) (l : List Ac) : Prop :=
  ∃ a cap, v = .slice a l.length cap ∧ ∀ w, Sat w F → ∀ i q, l[i]? = some q → ∃ g off, a = some ⟨g, off, none⟩ ∧ w.cell? ⟨g, off + i * 5, none⟩ = some (kI q.kind) ∧ w.cell? ⟨g, off + i * 5 + 1, none⟩ = some (kI q.client) ∧ w.cell? ⟨g, off + i * 5 + 2, none⟩ = some (kI q.page) ∧ w.cell? ⟨g, off + i * 5 + 3, none⟩ = some (kI q.slot) ∧ w.cell? ⟨g, off + i * 5 + 4, none⟩ = some (kS q.data)
def livedG : List Ac → PS → PS × Bool
  | [], S => (S, true)
  | a :: r, S => if 100 < a.data.size then (S, false) else livedG r (doesP S a)
def livedP (l : List Ac) : PS × Bool := livedG (l.take 40) PS0
set_option maxRecDepth 100000 in
set_option maxHeartbeats 4000000 in
theorem lived_any {J : Nat → PS → Prop} {F : Heaplet} {w : World} {v : Value} {l : List Ac} (h0 : J 0 PS0) (h1 : ∀ i S, J i S → i ≤ 40 → Small S ∧ Ok4 S ∧ S.list.length + 1 ≤ 10000 ∧ S.all.length + 1 ≤ 10000) (h2 : ∀ i S c, c < 5 → J i S → (undoP S c).1 = true → J i (undoP S c).2)
    (h3 : ∀ i S a, J i S → i < 40 → a.data.size ≤ 100 → J (i + 1) (doesP S a)) (hv : AcIn F v l) (s : Sat w F) :
    Calls Tryz.prog 10 #[v] w fun e w' => ∃ pb, e = .returned (.tuple #[.pointer (some ⟨pb, 0, none⟩), .bool (livedP l).2]) ∧ PsIs pb (livedP l).1 F w' := by
  obtain ⟨rS, rb, hr⟩ : ∃ rS rb, livedP l = (rS, rb) := ⟨_, _, rfl⟩
  rw [hr]
  unfold livedP at hr
  obtain ⟨a, cap, rfl, hc⟩ := hv
  have HC := Lib.hid hc
  have HB := Lib.hid (born_any s)
  have HR := Lib.hid hr
  have HJ := Lib.hid (And.intro h0 (And.intro h1 (And.intro h2 h3)))
  have ll0 : (0 : Int) ≤ (l.length : Int) := by omega
  clear hc hr s h0 h1 h2 h3
  go_enter Tryz.func10, Tryz.ntmps10
  go_wp2_with (go_at_call 25; refine (HB.out).mono ?_; rintro e w2 ⟨pb, rfl, hp⟩; have HP := Lib.hid hp; clear hp HB)
  go_loopw [5] (fun v5 wr => ∃ (i : Nat) (S : PS), i ≤ l.length ∧ i ≤ 40 ∧ v5 = .int .i64 i ∧ J i S ∧ PsIs pb S F wr ∧ livedG ((l.take 40).drop i) S = (rS, rb)) (fun v5 _ => 100 - (RowKit.intOf v5).toNat)
  case atStart => exact ⟨0, PS0, by omega, by omega, rfl, HJ.out.1, HP.out, HR.out⟩
  case round =>
    clear HP HR
    obtain ⟨i, S, hil, hi40, rfl, hJ, hp, hrest⟩ := hrel
    have i0 : (0 : Int) ≤ (i : Int) := by omega
    by_cases hlt : i < l.length ∧ i < 40
    · obtain ⟨hlt, hlt2⟩ := hlt
      have i1 : (i : Int) < (l.length : Int) := by omega
      have i2 : (i : Int) < 40 := by omega
      obtain ⟨q, hq⟩ : ∃ q, l[i]? = some q := ⟨_, List.getElem?_eq_getElem hlt⟩
      have hq2 : (l.take 40)[i]? = some q := by rw [List.getElem?_take_of_lt hlt2, hq]
      have hdr : (l.take 40).drop i = q :: (l.take 40).drop (i + 1) := by
        have hi9 := (List.getElem?_eq_some_iff.1 hq2).1
        rw [List.drop_eq_getElem_cons hi9]
        congr 1
        exact Option.some.inj ((List.getElem?_eq_getElem hi9).symm.trans hq2)
      rw [hdr] at hrest
      simp only [livedG] at hrest
      obtain ⟨g, off, rfl, e0, e1, e2, e3, e4⟩ := HC.out wr hp.frame i q hq
      have dbd : (0 : Int) ≤ (q.data.size : Int) := by omega
      by_cases hbig : 100 < q.data.size
      · rw [if_pos hbig] at hrest
        have hb1 : decide ((100 : Int) < (q.data.size : Int)) = true := decide_eq_true (by omega)
        have hb2 : decide (100 < q.data.size) = true := decide_eq_true hbig
        have f1 : S = rS := congrArg Prod.fst hrest
        have f2 : false = rb := congrArg Prod.snd hrest
        subst f1; subst f2
        have FIN := Lib.hid hp
        clear hrest hp hJ hdr hq hq2 e0 e1 e2 e3 hlt hlt2 hil hi40
        go_wp2_with fail
        go_ret2
        exact ⟨_, rfl, FIN.out⟩
      · rw [if_neg hbig] at hrest
        have hb1 : decide ((100 : Int) < (q.data.size : Int)) = false := decide_eq_false (by omega)
        have hb2 : decide (100 < q.data.size) = false := decide_eq_false hbig
        obtain ⟨c1, c5, _, _⟩ := q.c_bd
        have HD := Lib.hid (does_any (I := J i) q (fun S hS => HJ.out.2.1 i S hS (by omega)) (fun S hS h => HJ.out.2.2.1 i S _ c5 hS h) hp hJ)
        have F2 : Hid (J (i + 1) (doesP S q) ∧ livedG ((l.take 40).drop (i + 1)) (doesP S q) = (rS, rb)) := Lib.hid ⟨HJ.out.2.2.2 i S q hJ hlt2 (by omega), hrest⟩
        clear hrest hp hJ hdr hq hq2 c1 c5 hbig
        go_wp2_with (go_at_call 26; refine (HD.out).mono ?_; rintro e w3 ⟨rfl, hp⟩; have FIN := Lib.hid hp; clear hp HD)
        exact ⟨⟨i + 1, doesP S q, by omega, by omega, by simp, F2.out.1, FIN.out, F2.out.2⟩, by simp only [RowKit.intOf]; omega⟩
    · have hnil : (l.take 40).drop i = [] := List.drop_eq_nil_of_le (by rw [List.length_take]; omega)
      rw [hnil] at hrest
      have f1 : S = rS := congrArg Prod.fst hrest
      have f2 : true = rb := congrArg Prod.snd hrest
      subst f1; subst f2
      have FIN := Lib.hid hp
      by_cases h9 : i < l.length
      · have h8 : i = 40 := by omega
        have i1 : (i : Int) < (l.length : Int) := by omega
        have i2 : ((i : Int) < 40) = False := eq_false (by omega)
        clear hrest hp hJ hnil hlt h8
        go_wp2_with fail
        go_ret2
        exact ⟨_, rfl, FIN.out⟩
      · have i1 : ((i : Int) < (l.length : Int)) = False := eq_false (by omega)
        have i3 : (i < l.length) = False := eq_false h9
        clear hrest hp hJ hnil hlt h9
        go_wp2_with fail
        go_ret2
        exact ⟨_, rfl, FIN.out⟩
end Go.Proofs.YtficgjklagnbjaaGreat
namespace Go.Proofs.YtficgjklagnbjaaGreat
open Go Go.MapKept Go.RowKit Go.Proofs Go.Sort

abbrev Gr := Nat → Nat → Sl
def grC (G : Gr) : Array Value := #[.bool (G 0 0).1, kS (G 0 0).2, .bool (G 0 1).1, kS (G 0 1).2, .bool (G 0 2).1, kS (G 0 2).2, .bool (G 0 3).1, kS (G 0 3).2, .bool (G 0 4).1, kS (G 0 4).2, .bool (G 1 0).1, kS (G 1 0).2, .bool (G 1 1).1, kS (G 1 1).2, .bool (G 1 2).1, kS (G 1 2).2, .bool (G 1 3).1, kS (G 1 3).2, .bool (G 1 4).1, kS (G 1 4).2, .bool (G 2 0).1, kS (G 2 0).2, .bool (G 2 1).1, kS (G 2 1).2, .bool (G 2 2).1, kS (G 2 2).2, .bool (G 2 3).1, kS (G 2 3).2, .bool (G 2 4).1, kS (G 2 4).2, .bool (G 3 0).1, kS (G 3 0).2, .bool (G 3 1).1, kS (G 3 1).2, .bool (G 3 2).1, kS (G 3 2).2, .bool (G 3 3).1, kS (G 3 3).2, .bool (G 3 4).1, kS (G 3 4).2]
abbrev grV (G : Gr) : Value := .agg (grC G)
theorem grC_size (G : Gr) : (grC G).size = 40 := rfl
theorem grC_one (G : Gr) : ∀ v ∈ (grC G).toList, v.oneCell' = true := by
  intro v hv
  have h : ((grC G).toList.all fun v => v.oneCell') = true := rfl
  exact List.all_eq_true.1 h v hv
def upd2 (G : Gr) (n k : Nat) (x : Sl) : Gr := fun i j => if i = n ∧ j = k then x else G i j
def G0 : Gr := fun _ _ => noSl
theorem grC_get (G : Gr) {n k : Nat} (hn : n < 4) (hk : k < 5) : (grC G)[n * 10 + k * 2]? = some (.bool (G n k).1) ∧ (grC G)[n * 10 + k * 2 + 1]? = some (kS (G n k).2) := by
  have hn2 : n = 0 ∨ n = 1 ∨ n = 2 ∨ n = 3 := by omega
  have hk2 : k = 0 ∨ k = 1 ∨ k = 2 ∨ k = 3 ∨ k = 4 := by omega
  rcases hn2 with rfl | rfl | rfl | rfl <;> rcases hk2 with rfl | rfl | rfl | rfl | rfl <;> exact ⟨rfl, rfl⟩
theorem grC_set (G : Gr) {n k : Nat} (hn : n < 4) (hk : k < 5) (x : Sl) : ((grC G).setIfInBounds (n * 10 + k * 2) (.bool x.1)).setIfInBounds (n * 10 + k * 2 + 1) (kS x.2) = grC (upd2 G n k x) := by
  have hn2 : n = 0 ∨ n = 1 ∨ n = 2 ∨ n = 3 := by omega
  have hk2 : k = 0 ∨ k = 1 ∨ k = 2 ∨ k = 3 ∨ k = 4 := by omega
  rcases hn2 with rfl | rfl | rfl | rfl <;> rcases hk2 with rfl | rfl | rfl | rfl | rfl <;> rfl
/-- What a transaction's entries leave. -/
def innerG (t : Tx) : List En → Gr → Gr
  | [], G => G
  | y :: r, G => innerG t r (if y.t = t then upd2 G y.page.toNat y.slot.toNat y.is else G)
def foldQ : List En → List En → Gr → Gr
  | _, [], G => G
  | done, x :: r, G => foldQ (done ++ [x]) r (if x.kind = 3 then innerG x.t done G else G)
def foldP (l : List En) : Gr := foldQ [] l G0
theorem innerG_snoc (t : Tx) (y : En) : ∀ (l : List En) (G : Gr), innerG t (l ++ [y]) G = (if y.t = t then upd2 (innerG t l G) y.page.toNat y.slot.toNat y.is else innerG t l G)
  | [], G => rfl
  | x :: r, G => by
    show innerG t (r ++ [y]) _ = _
    rw [innerG_snoc t y r]
    rfl
/-- The entries' pages and slots are in the grid. -/
def OnG (l : List En) : Prop := ∀ x ∈ l, ∃ n k : Nat, n < 4 ∧ k < 5 ∧ x.page = n ∧ x.slot = k
end Go.Proofs.YtficgjklagnbjaaGreat
namespace Go.Proofs.YtficgjklagnbjaaGreat
open Go

section
variable {P : Program} {w : World} {b : Nat} {c : Array Value} {T T' : TypeId} {F : Heaplet}
theorem add_at (b i : Nat) : (⟨b, 0, none⟩ : Addr).add i = ⟨b, i, none⟩ := by unfold Addr.add; split <;> simp_all
theorem run_storeAll {us : Array Value} (hz : (sizeOf T).run P w = .ok us.size w) (s : Sat w (.blk b (.cells c T') :: F)) (hl : us.size = c.size) (h1 : ∀ v ∈ us.toList, v.oneCell' = true) :
    (Instr.storeAt T (.pointer (some ⟨b, 0, none⟩)) (.agg us)).run P w = .ok () (w.setRow b us) := by
  have h := run_storeCells_at (P := P) b 0 T' us.toList 0 c w s.h0 (by simp [hl]) h1
  have e : (c.toList.take (0 + 0) ++ us.toList ++ c.toList.drop (0 + 0 + us.toList.length)).toArray = us := by
    have h0 : c.toList.drop us.size = [] := List.drop_eq_nil_of_le (by simp [hl])
    simp [h0]
  rw [e] at h
  simp [Instr.storeAt, Instr.sureAddr, storeVar, Sem.run_bind, hz, Value.cells, h]
theorem run_loadAll (ha : (isAgg T).run P w = .ok true w) (hz : (sizeOf T).run P w = .ok c.size w) (s : Sat w (.blk b (.cells c T') :: F)) :
    (Instr.loadAt T (.pointer (some ⟨b, 0, none⟩))).run P w = .ok (.agg c) w := by
  have h := run_loadCells_list (P := P) w ⟨b, 0, none⟩ c.toList (fun j v hv => by rw [add_at, cell_of s.h0, ← Array.getElem?_toList]; exact hv)
  simp only [Array.length_toList, Array.toArray_toList] at h
  simp [Instr.loadAt, Instr.sureAddr, loadVar, Sem.run_bind, ha, hz, h]
theorem sat_setRow (s : Sat w (.blk b (.cells c T') :: F)) (us : Array Value) : Sat (w.setRow b us) (.blk b (.cells us T') :: F) := Sat.set s _ (heap_setRow s.h0) ⟨rfl, rfl, rfl⟩
theorem wpList_store_run {ops : Array Oper} {rest : List Oper} {o : Oper} {a : Act} {Q : Exit → Act → World → Prop} (hgd : o.guard = none) (s x : Operand)
    (ho : o.op = .store T s x) (hd : o.dst = none) (p v : Value) (w' : World) (hs : a.eval s = p) (hx : a.eval x = v)
    (hr : (Instr.storeAt T p v).run P w = .ok () w') (hK : wpList P ops Q rest a w') : wpList P ops Q (o :: rest) a w :=
  wpList_plain hgd fun _ hk => by
    unfold Oper.wp execOp
    simp only [ho, Sem.run_bind, Sem.run_pure, Result.andThen_ok, hs, hx, hr]
    exact hk _ _ (by simpa [Act.put, hd] using hK)
theorem wpList_load_run {ops : Array Oper} {rest : List Oper} {o : Oper} {a : Act} {Q : Exit → Act → World → Prop} (hgd : o.guard = none) (s : Operand)
    (ho : o.op = .load T s) (p v : Value) (hs : a.eval s = p)
    (hr : (Instr.loadAt T p).run P w = .ok v w) (hK : wpList P ops Q rest (a.put o.dst v) w) : wpList P ops Q (o :: rest) a w :=
  wpList_plain hgd fun _ hk => by
    unfold Oper.wp execOp
    simp only [ho, Sem.run_bind, Sem.run_pure, Result.andThen_ok, hs, hr]
    exact hk _ _ hK
end
end Go.Proofs.YtficgjklagnbjaaGreat
namespace Go.Proofs.YtficgjklagnbjaaGreat
open Go Go.MapKept Go.RowKit Go.Proofs Go.Sort

abbrev grO (G : Gr) : Obj := .cells (grC G) 43
theorem gr_size (w : World) : (sizeOf 43).run Tryz.prog w = .ok 40 w := by kernel_rfl
theorem gr_agg (w : World) : (isAgg 43).run Tryz.prog w = .ok true w := by kernel_rfl
theorem gr_zero : grC G0 = #[.bool false, kS ⟨#[]⟩, .bool false, kS ⟨#[]⟩, .bool false, kS ⟨#[]⟩, .bool false, kS ⟨#[]⟩, .bool false, kS ⟨#[]⟩, .bool false, kS ⟨#[]⟩, .bool false, kS ⟨#[]⟩, .bool false, kS ⟨#[]⟩, .bool false, kS ⟨#[]⟩, .bool false, kS ⟨#[]⟩, .bool false, kS ⟨#[]⟩, .bool false, kS ⟨#[]⟩, .bool false, kS ⟨#[]⟩, .bool false, kS ⟨#[]⟩, .bool false, kS ⟨#[]⟩, .bool false, kS ⟨#[]⟩, .bool false, kS ⟨#[]⟩, .bool false, kS ⟨#[]⟩, .bool false, kS ⟨#[]⟩, .bool false, kS ⟨#[]⟩] := rfl
set_option maxRecDepth 100000 in
set_option maxHeartbeats 4000000 in
theorem fold_any {v : Value} {l : List En} {F : Heaplet} {w : World} (hE : EnsIn F v l) (s : Sat w F) (hl : l.length ≤ 10000) (hg : OnG l) :
    Calls Tryz.prog 14 #[v] w (Ret (grV (foldP l)) (Below w.heap.size w)) := by
  obtain ⟨rG, hr⟩ : ∃ rG, foldP l = rG := ⟨_, rfl⟩
  rw [hr]
  have HR := Lib.hid hr
  obtain ⟨a, cap, rfl, hc⟩ := hE
  have HC := Lib.hid hc
  have HS := Lib.hid s
  have HG := Lib.hid hg
  have hl9 : (l.length : Int) ≤ 10000 := by omega
  have h2 := ((sat_all w).new (grO G0)).new (grO G0)
  rw [World.size_alloc] at h2
  have hst := run_storeAll (P := Tryz.prog) (T := 43) (us := grC G0) (gr_size _) h2 rfl (grC_one G0)
  have h3 := sat_setRow h2 (grC G0)
  have HST := Lib.hid hst
  have H3 := Lib.hid h3
  clear hc s hg hr h2 hst h3
  go_enter Tryz.func14, Tryz.ntmps14
  go_upto_region 2 with (refine wpList_store_run (T := 43) rfl _ _ rfl rfl _ _ _ rfl rfl HST.out ?_)
  have HFIN : Hid (∀ W, Sat W (allOf w) → Below w.heap.size w W) := Lib.hid (fun W h => Sat.below h)
  have HOLD : Hid (∀ W, Sat W (allOf w) → Sat W F) := Lib.hid (fun W h => HS.out.monoB (Sat.below h))
  obtain ⟨AW, hAW⟩ : ∃ AW, allOf w = AW := ⟨_, rfl⟩
  rw [hAW] at HFIN HOLD H3
  clear HST HS hAW
  generalize ((w.alloc (grO G0)).alloc (grO G0)).setRow (w.heap.size + 1) (grC G0) = W2 at *
  obtain ⟨b, hb⟩ : ∃ b, w.heap.size + 1 = b := ⟨_, rfl⟩
  rw [hb] at H3 ⊢
  clear hb
  generalize w.heap.size = g at *
  generalize (Value.agg #[.bool false, .string ⟨#[]⟩, .bool false, .string ⟨#[]⟩, .bool false, .string ⟨#[]⟩, .bool false, .string ⟨#[]⟩, .bool false, .string ⟨#[]⟩, .bool false, .string ⟨#[]⟩, .bool false, .string ⟨#[]⟩, .bool false, .string ⟨#[]⟩, .bool false, .string ⟨#[]⟩, .bool false, .string ⟨#[]⟩, .bool false, .string ⟨#[]⟩, .bool false, .string ⟨#[]⟩, .bool false, .string ⟨#[]⟩, .bool false, .string ⟨#[]⟩, .bool false, .string ⟨#[]⟩, .bool false, .string ⟨#[]⟩, .bool false, .string ⟨#[]⟩, .bool false, .string ⟨#[]⟩, .bool false, .string ⟨#[]⟩, .bool false, .string ⟨#[]⟩]) = zl
  have hgdd : ∀ (x y : Tx) W, (eqGuard .eql 56 (.tmp 28) (.tmp 33) (tV x) (tV y)).run Tryz.prog W = .ok () W := fun _ _ W => by first | rfl | (simp [go_sem, eqGuard])
  have HGD := Lib.hid hgdd
  clear hgdd
  go_wp2_with fail
  go_loopw [4] (fun v4 wr => ∃ (i : Nat) (G : Gr), i ≤ l.length ∧ v4 = .int .i64 i ∧ foldQ (l.take i) (l.drop i) G = rG ∧ Sat wr (.blk b (grO G) :: .blk g (grO G0) :: AW)) (fun v4 _ => 20000 - (RowKit.intOf v4).toNat)
  case atStart => exact ⟨0, G0, by omega, rfl, HR.out, H3.out⟩
  case round =>
    clear HR H3
    obtain ⟨i, G, hil, rfl, hq, hs⟩ := hrel
    have i0 : (0 : Int) ≤ (i : Int) := by omega
    have i9 : (i : Int) ≤ 10000 := by omega
    by_cases hlt : i < l.length
    · have i1 : (i : Int) < (l.length : Int) := by omega
      obtain ⟨x, hx⟩ : ∃ x, l[i]? = some x := ⟨_, List.getElem?_eq_getElem hlt⟩
      have hdr : l.drop i = x :: l.drop (i + 1) := by rw [List.drop_eq_getElem_cons hlt]; congr 1; exact Option.some.inj ((List.getElem?_eq_getElem hlt).symm.trans hx)
      have htk : l.take (i + 1) = l.take i ++ [x] := by rw [List.take_add_one, hx]; rfl
      rw [hdr] at hq
      simp only [foldQ] at hq
      rw [← htk] at hq
      have HE : Hid (∀ W, Sat W AW → ∀ k q, l[k]? = some q → ∃ g off, a = some ⟨g, off, none⟩ ∧ EnO W g (off + k * 13) q) := Lib.hid (fun W hW => HC.out W (HOLD.out W hW))
      obtain ⟨eg, off, rfl, e0, e1, e2, e3, _⟩ := HE.out wr hs.tail.tail i x hx
      by_cases k3 : x.kind = 3
      · have hk3 : (x.kind != 3) = false := by rw [k3]; rfl
        have hk4 : (x.kind == 3) = true := by rw [k3]; rfl
        rw [if_pos k3] at hq
        have HQ := Lib.hid hq
        have HX := Lib.hid hx
        have HSS := Lib.hid hs
        clear hq hdr htk hx hs k3
        go_wp2_with fail
        clear e0 e1 e2 e3
        go_loopw [5] (fun v5 wr2 => ∃ (k : Nat) (G2 : Gr), k ≤ i ∧ v5 = .int .i64 k ∧ innerG x.t ((l.take i).drop k) G2 = innerG x.t (l.take i) G ∧ Sat wr2 (.blk b (grO G2) :: .blk g (grO G0) :: AW)) (fun v5 _ => 20000 - (RowKit.intOf v5).toNat)
        case atStart => exact ⟨0, G, by omega, rfl, rfl, HSS.out⟩
        case round =>
          clear HSS
          rename_i wr2
          obtain ⟨k, G2, hki, rfl, hin, hs2⟩ := hrel
          have k0 : (0 : Int) ≤ (k : Int) := by omega
          have k9 : (k : Int) ≤ 10000 := by omega
          by_cases hkl : k < i
          · have k1 : (k : Int) < (i : Int) := by omega
            have k2 : (k : Int) < (l.length : Int) := by omega
            obtain ⟨y, hy⟩ : ∃ y, l[k]? = some y := ⟨_, List.getElem?_eq_getElem (by omega)⟩
            have hy2 : (l.take i)[k]? = some y := by rw [List.getElem?_take_of_lt hkl, hy]
            have hki9 := (List.getElem?_eq_some_iff.1 hy2).1
            have hdr : (l.take i).drop k = y :: (l.take i).drop (k + 1) := by
              rw [List.drop_eq_getElem_cons hki9]
              congr 1
              exact Option.some.inj ((List.getElem?_eq_getElem hki9).symm.trans hy2)
            rw [hdr] at hin
            simp only [innerG] at hin
            obtain ⟨eg2, off2, ea, _, f1, f2, f3, f4, f5, f6, f7, f8, f9, f10, f11, f12⟩ := HE.out _ hs2.tail.tail k y hy
            cases ea
            obtain ⟨eg3, off3, ea, _, e1, e2, e3, _⟩ := HE.out _ hs2.tail.tail i x HX.out
            cases ea
            have heq := eq_tx y.t x.t
            have hgd := HGD.out y.t x.t
            have HIN := Lib.hid hin
            have HYY := Lib.hid hy
            have HS2 := Lib.hid hs2
            clear hin hdr hy hy2 hki9 hs2
            go_upto_region 9 with (fail)
            go_quiet (fail)
            have hs3 := HS2.out.grown (Grown.drewN wr nq)
            clear f1 f2 f3 f4 f5 f6 f7 f8 f9 f10 f11 f12 e1 e2 e3 heq hgd HS2
            generalize wr.drewN nq = W5 at *
            cases hd : decide (y.t = x.t) with
            | false =>
              have hin := HIN.out
              rw [if_neg (of_decide_eq_false hd)] at hin
              have FIN : Hid (innerG x.t ((l.take i).drop (k + 1)) G2 = innerG x.t (l.take i) G ∧ Sat W5 (.blk b (grO G2) :: .blk g (grO G0) :: AW)) := Lib.hid ⟨hin, hs3⟩
              clear hin hs3 hd HIN HYY
              go_wp2_with fail
              exact ⟨⟨k + 1, G2, by omega, by simp, FIN.out.1, FIN.out.2⟩, by simp only [RowKit.intOf]; omega⟩
            | true =>
              have hin := HIN.out
              rw [if_pos (of_decide_eq_true hd)] at hin
              obtain ⟨n, m, hn4, hm5, hyp, hys⟩ := HG.out y (List.mem_of_getElem? HYY.out)
              rw [hyp, hys, Int.toNat_natCast, Int.toNat_natCast] at hin
              obtain ⟨eg2, off2, ea, _, f1, f2, f3, f4, f5, f6, f7, f8, f9, f10, f11, f12⟩ := HE.out _ hs3.tail.tail k y HYY.out
              cases ea
              rw [hyp] at f6
              rw [hys] at f7
              have n0 : (0 : Int) ≤ (n : Int) := by omega
              have n4 : (n : Int) < 4 := by omega
              have m0 : (0 : Int) ≤ (m : Int) := by omega
              have m5 : (m : Int) < 5 := by omega
              have g1 : W5.cell? ⟨b, n * 10 + m * 2, none⟩ = some (.bool (G2 n m).1) := by rw [cell_of hs3.h0]; exact (grC_get G2 hn4 hm5).1
              have g2 : W5.cell? ⟨b, n * 10 + m * 2 + 1, none⟩ = some (kS (G2 n m).2) := by rw [cell_of hs3.h0]; exact (grC_get G2 hn4 hm5).2
              have ff := unfrozen_of hs3.h0
              have hs4 := ((hs3.setCell (i := n * 10 + m * 2) (.bool y.iu)).setCell (i := n * 10 + m * 2 + 1) (kS y.idt)).drew
              rw [grC_set G2 hn4 hm5 y.is] at hs4
              have FIN : Hid (innerG x.t ((l.take i).drop (k + 1)) (upd2 G2 n m y.is) = innerG x.t (l.take i) G ∧ Sat ((W5.setCell ⟨b, n * 10 + m * 2, none⟩ (.bool y.iu)).setCell ⟨b, n * 10 + m * 2 + 1, none⟩ (kS y.idt)).drew (.blk b (grO (upd2 G2 n m y.is)) :: .blk g (grO G0) :: AW)) := Lib.hid ⟨hin, hs4⟩
              clear hin hs3 hs4 hd HIN HYY hyp hys f1 f2 f3 f4 f5 f8 f9 f12 hn4 hm5
              go_upto_region 10 with (fail)
              go_still_tail 17, (by kernel_rfl)
              go_wp2_with fail
              exact ⟨⟨k + 1, upd2 G2 n m y.is, by omega, by simp, FIN.out.1, FIN.out.2⟩, by simp only [RowKit.intOf]; omega⟩
          · obtain rfl : k = i := by omega
            rw [List.drop_eq_nil_of_le (by rw [List.length_take]; omega)] at hin
            have FIN : Hid (foldQ (l.take (k + 1)) (l.drop (k + 1)) G2 = rG ∧ Sat _ (.blk b (grO G2) :: .blk g (grO G0) :: AW)) := Lib.hid ⟨by rw [show G2 = innerG x.t (l.take k) G from hin]; exact HQ.out, hs2⟩
            clear hin hs2 hki HQ
            go_wp2_with fail
            exact ⟨⟨k + 1, G2, by omega, by simp, FIN.out.1, FIN.out.2⟩, by simp only [RowKit.intOf]; omega⟩
      · have hk3 : (x.kind != 3) = true := by simp [k3]
        rw [if_neg k3] at hq
        have FIN : Hid (foldQ (l.take (i + 1)) (l.drop (i + 1)) G = rG ∧ Sat wr (.blk b (grO G) :: .blk g (grO G0) :: AW)) := Lib.hid ⟨hq, hs⟩
        clear hq hdr htk hx hs k3 e1 e2 e3
        go_wp2_with fail
        exact ⟨⟨i + 1, G, by omega, by simp, FIN.out.1, FIN.out.2⟩, by simp only [RowKit.intOf]; omega⟩
    · obtain rfl : i = l.length := by omega
      rw [List.drop_length] at hq
      have e1 : G = rG := hq
      subst e1
      have hld := run_loadAll (P := Tryz.prog) (T := 43) (gr_agg _) (gr_size _) hs
      have hst := run_storeAll (P := Tryz.prog) (T := 43) (us := grC G) (gr_size _) hs.swap rfl (grC_one G)
      have h3 := sat_setRow hs.swap (grC G)
      have HH := Lib.hid (And.intro hld (And.intro hst h3))
      clear hq hs hld hst h3 hil hlt
      go_wp2_with (first
        | (refine wpList_load_run (T := 43) rfl _ rfl _ _ rfl HH.out.1 ?_)
        | (refine wpList_store_run (T := 43) rfl _ _ rfl rfl _ _ _ rfl rfl HH.out.2.1 ?_))
      refine bodyPost_ret (results_cell_row rfl _ _ g _ _ _ _ rfl HH.out.2.2.h0 Tryz.underlying43 rfl (by kernel_rfl)) rfl ⟨rfl, HFIN.out _ HH.out.2.2.tail.tail⟩
end Go.Proofs.YtficgjklagnbjaaGreat
namespace Go.Proofs.YtficgjklagnbjaaGreat
open Go Go.MapKept Go.RowKit Go.Proofs Go.Sort

def wantS (G : Gr) (n k : Nat) : Sl := if k < 5 then G n k else noSl
def holdsP (P : List Lf) (G : Gr) : Bool := decide (P.length = 4) && (List.range 4).all fun n => (List.range 32).all fun (k : Nat) => decide (atM (pgAt P n) ((k : Nat) : Int) = wantS G n k)
theorem holdsP_no {P : List Lf} {G : Gr} {n k : Nat} (hn : n < 4) (hk : k < 32) (h : atM (pgAt P n) k ≠ wantS G n k) : holdsP P G = false := by
  unfold holdsP
  rw [Bool.and_eq_false_iff]
  right
  rw [List.all_eq_false]
  refine ⟨n, List.mem_range.2 hn, ?_⟩
  rw [Bool.not_eq_true, List.all_eq_false]
  exact ⟨k, List.mem_range.2 hk, by simpa using h⟩
theorem holdsP_yes {P : List Lf} {G : Gr} (hl : P.length = 4) (h : ∀ n k : Nat, n < 4 → k < 32 → atM (pgAt P n) k = wantS G n k) : holdsP P G = true := by
  unfold holdsP
  rw [Bool.and_eq_true]
  refine ⟨decide_eq_true hl, ?_⟩
  rw [List.all_eq_true]
  intro n hn
  rw [List.all_eq_true]
  intro k hk
  exact decide_eq_true (h n k (List.mem_range.1 hn) (List.mem_range.1 hk))
set_option maxRecDepth 100000 in
set_option maxHeartbeats 4000000 in
theorem holds_any {v : Value} {P : List Lf} {G : Gr} {F : Heaplet} {w : World} (hv : LvAt F v P) (s : Sat w F) (hl : P.length ≤ 1000) (hp : ∀ p ∈ P, goodP p.2 = true) :
    Calls Tryz.prog 13 #[v, grV G] w (Ret (.bool (holdsP P G)) (Below w.heap.size w)) := by
  obtain ⟨rb, hr⟩ : ∃ rb, holdsP P G = rb := ⟨_, rfl⟩
  rw [hr]
  have HR := Lib.hid hr
  obtain ⟨a, cap, rfl, hc⟩ := hv
  have HC := Lib.hid hc
  have HP := Lib.hid (And.intro hl hp)
  have hsa := (sat_all w).new (grO G)
  have HOLD : Hid (∀ W, Sat W (allOf w) → Sat W F) := Lib.hid (fun W h => s.monoB (Sat.below h))
  have HFIN : Hid (∀ W, Sat W (allOf w) → Below w.heap.size w W) := Lib.hid (fun W h => Sat.below h)
  obtain ⟨AW, hAW⟩ : ∃ AW, allOf w = AW := ⟨_, rfl⟩
  rw [hAW] at HFIN HOLD hsa
  have HS := Lib.hid hsa
  clear hc s hr hsa hAW hp
  have hl9 : (P.length : Int) ≤ 1000 := by omega
  go_enter Tryz.func13, Tryz.ntmps13
  go_upto_region 1 with (fail)
  generalize w.alloc (.cells (grC G) 43) = W1 at *
  generalize w.heap.size = g at *
  by_cases h4 : P.length = 4
  · have h4b : ((P.length : Int) != 4) = false := by simp [h4]
    have h4c : (P.length != 4) = false := by simp [h4]
    have h4d : ((P.length : Int) == 4) = true := by simp [h4]
    have H4 := Lib.hid h4
    clear h4
    go_wp2_with fail
    clear h4b h4c h4d
    go_loopw [5] (fun v5 wr => ∃ n : Nat, n ≤ 4 ∧ v5 = .int .i64 n ∧ (∀ n' k, n' < n → k < 32 → atM (pgAt P n') ((k : Nat) : Int) = wantS G n' k) ∧ Sat wr (.blk g (grO G) :: AW)) (fun v5 _ => 100 - (RowKit.intOf v5).toNat)
    case atStart => exact ⟨0, by omega, rfl, fun n' k h => absurd h (by omega), HS.out⟩
    case round =>
      clear HS
      obtain ⟨n, hn4, rfl, hok, hs⟩ := hrel
      have n0 : (0 : Int) ≤ (n : Int) := by omega
      by_cases hnl : n < 4
      · have n1 : (n : Int) < 4 := by omega
        have n2 : (n : Int) < (P.length : Int) := by have := H4.out; omega
        have HOK := Lib.hid hok
        have HSS := Lib.hid hs
        clear hok hs
        go_wp2_with fail
        go_loopw [6] (fun v6 wr2 => ∃ k : Nat, k ≤ 32 ∧ v6 = .int .i64 k ∧ (∀ k', k' < k → atM (pgAt P n) ((k' : Nat) : Int) = wantS G n k') ∧ Sat wr2 (.blk g (grO G) :: AW)) (fun v6 _ => 100 - (RowKit.intOf v6).toNat)
        case atStart => exact ⟨0, by omega, rfl, fun k h => absurd h (by omega), HSS.out⟩
        case round =>
          clear HSS
          obtain ⟨k, hk32, rfl, hokk, hs⟩ := hrel
          have k0 : (0 : Int) ≤ (k : Int) := by omega
          by_cases hkl : k < 32
          · have k1 : (k : Int) < 32 := by omega
            obtain ⟨pp, hpp⟩ : ∃ pp, P[n]? = some pp := ⟨_, List.getElem?_eq_getElem (by have := H4.out; omega)⟩
            obtain ⟨pn, p⟩ := pp
            have hpg : pgAt P n = p := by unfold pgAt; rw [hpp]
            have hgp := HP.out.2 _ (List.mem_of_getElem? hpp)
            obtain ⟨pg, off, psv, rfl, hsv, hu⟩ := HC.out n _ hpp
            simp only at hsv hu hgp
            obtain ⟨sa, sc, rfl, _⟩ := id hsv
            have HU := Lib.hid hu
            have HKK := Lib.hid hokk
            have hs1 := hs.new (.cells #[.bool false, kS ⟨#[]⟩] 41)
            have HS1 := Lib.hid hs1
            have HPG := Lib.hid (And.intro hpg hgp)
            clear hpp hpg hokk hu hs hs1
            go_upto_region 10 with (fail)
            generalize wr.alloc (.cells #[.bool false, .string ⟨#[]⟩] 41) = W2 at *
            generalize wr.heap.size = xb at *
            go_upto_if 21 with (fail)
            go_cut [] (fun wx => Sat wx (.blk xb (.cells #[.bool (wantS G n k).1, kS (wantS G n k).2] 41) :: .blk g (grO G) :: AW))
            case first =>
              by_cases hk5 : k < 5
              · have k5 : decide ((k : Int) < 5) = true := decide_eq_true (by omega)
                rw [k5]
                clear k5
                have k5 : (k : Int) < 5 := by omega
                have hw : wantS G n k = G n k := if_pos hk5
                have g1 : W2.cell? ⟨g, n * 10 + k * 2, none⟩ = some (.bool (G n k).1) := by rw [cell_of HS1.out.h1]; exact (grC_get G hnl hk5).1
                have g2 : W2.cell? ⟨g, n * 10 + k * 2 + 1, none⟩ = some (kS (G n k).2) := by rw [cell_of HS1.out.h1]; exact (grC_get G hnl hk5).2
                have z0 : W2.cell? ⟨xb, 0, none⟩ = some (.bool false) := by rw [cell_of HS1.out.h0]; rfl
                have z1 : W2.cell? ⟨xb, 1, none⟩ = some (kS ⟨#[]⟩) := by rw [cell_of HS1.out.h0]; rfl
                have ff := unfrozen_of HS1.out.h0
                have FIN : Hid (Sat ((W2.setCell ⟨xb, 0, none⟩ (.bool (G n k).1)).setCell ⟨xb, 1, none⟩ (kS (G n k).2)) (.blk xb (.cells #[.bool (wantS G n k).1, kS (wantS G n k).2] 41) :: .blk g (grO G) :: AW)) := Lib.hid (by rw [hw]; exact (HS1.out.setCell (i := 0) (.bool (G n k).1)).setCell (i := 1) (kS (G n k).2))
                clear hw hk5 HS1 HKK HPG HU hsv
                go_wp2_with fail
                go_meet
                exact FIN.out
              · have k5 : decide ((k : Int) < 5) = false := decide_eq_false (by omega)
                rw [k5]
                have hw : wantS G n k = noSl := if_neg hk5
                have FIN : Hid (Sat W2 (.blk xb (.cells #[.bool (wantS G n k).1, kS (wantS G n k).2] 41) :: .blk g (grO G) :: AW)) := Lib.hid (by rw [hw]; exact HS1.out)
                clear k5 hw hk5 HS1 HKK HPG HU hsv
                go_wp2_with fail
                go_meet
                exact FIN.out
            case rest =>
              have hcell : ∀ W, Sat W (.blk xb (.cells #[.bool (wantS G n k).1, kS (wantS G n k).2] 41) :: .blk g (grO G) :: AW) → W.cell? ⟨pg, off + n * 3 + 1, none⟩ = some (kI p.lsn) ∧ W.cell? ⟨pg, off + n * 3 + 2, none⟩ = some (.slice sa p.slots.length sc) ∧ W.cell? ⟨xb, 0, none⟩ = some (.bool (wantS G n k).1) ∧ W.cell? ⟨xb, 1, none⟩ = some (kS (wantS G n k).2) := fun W hW => by
                obtain ⟨_, u1, u2⟩ := HU.out W (HOLD.out W hW.tail.tail)
                exact ⟨u1, u2, by rw [cell_of hW.h0]; rfl, by rw [cell_of hW.h0]; rfl⟩
              have HC2 := Lib.hid hcell
              have K1 := Lib.hid (hcell _ hcut)
              have K2 := Lib.hid (hcell _ hcut.drew)
              have HAT := Lib.hid (at_any (k : Int) (hsv.mono (fun w hw => HOLD.out w (Sat.tail (Sat.tail hw)))) hcut.drew (good_bd HPG.out.2).1 (good_bd HPG.out.2).2.1 (good_bd HPG.out.2).2.2)
              have HCU := Lib.hid hcut.drew
              obtain ⟨sA, hsA⟩ : ∃ sA, atM p (k : Int) = sA := ⟨_, rfl⟩
              rw [hsA] at HAT
              obtain ⟨sB, hsB⟩ : ∃ sB, wantS G n k = sB := ⟨_, rfl⟩
              rw [hsB] at K1 K2 HC2 HCU
              have HAB := Lib.hid (And.intro hsA hsB)
              have hne := ne_sl sA sB
              have hgu := fun (x y : Operand) (W : World) => guard_sl sA sB W x y
              clear hcell hcut hsA hsB HS1 hsv
              go_upto_region 12 with (fail)
              go_region_held3 (fun w' => w'.cell? ⟨pg, off + n * 3 + 1, none⟩ = some (kI p.lsn) ∧ w'.cell? ⟨pg, off + n * 3 + 2, none⟩ = some (.slice sa p.slots.length sc) ∧ w'.cell? ⟨xb, 0, none⟩ = some (.bool sB.1) ∧ w'.cell? ⟨xb, 1, none⟩ = some (kS sB.2))
                (with_reducible first | exact K1.out | exact K2.out | exact K3.out)
                (first
                  | (go_at_call 16
                     refine (HAT.out).mono ?_
                     rintro e w4 ⟨rfl, hb⟩
                     have HS4 := Lib.hid (HCU.out.monoB hb)
                     have K3 := Lib.hid (HC2.out _ HS4.out)))
              all_goals
                clear K1 K2 K3 HAT HCU HC2 hne hgu
                cases hd : decide (sA = sB) with
                | false =>
                  obtain rfl : false = rb := by rw [← HR.out]; exact (holdsP_no hnl hkl (by rw [HPG.out.1, HAB.out.1, HAB.out.2]; exact of_decide_eq_false hd)).symm
                  have FIN := Lib.hid (HFIN.out _ HS4.out.tail.tail)
                  clear hd HS4 HAB HPG HU HKK hb
                  go_wp2_with fail
                  go_ret
                  exact ⟨rfl, FIN.out⟩
                | true =>
                  have hsame : sA = sB := of_decide_eq_true hd
                  have FIN : Hid ((∀ k', k' < k + 1 → atM (pgAt P n) ((k' : Nat) : Int) = wantS G n k') ∧ Sat w4 (.blk g (grO G) :: AW)) := Lib.hid ⟨fun k' hk' => by
                    by_cases e : k' = k
                    · subst e; rw [HPG.out.1, HAB.out.1, HAB.out.2]; exact hsame
                    · exact HKK.out k' (by omega), HS4.out.tail⟩
                  clear hd HS4 HAB HPG HU HKK hb hsame
                  go_wp2_with fail
                  exact ⟨⟨k + 1, by omega, by simp, FIN.out.1, FIN.out.2⟩, by simp only [RowKit.intOf]; omega⟩
          · have e32 : k = 32 := by omega
            have k1 : ((k : Int) < 32) = False := eq_false (by omega)
            have FIN : Hid ((∀ n' k, n' < n + 1 → k < 32 → atM (pgAt P n') ((k : Nat) : Int) = wantS G n' k) ∧ Sat wr (.blk g (grO G) :: AW)) := Lib.hid ⟨fun n' k' h1 h2 => by
              by_cases e : n' = n
              · subst e; exact hokk k' (by omega)
              · exact HOK.out n' k' (by omega) h2, hs⟩
            clear hs hokk hkl hk32 e32 HOK
            go_wp2_with fail
            exact ⟨⟨n + 1, by omega, by simp, FIN.out.1, FIN.out.2⟩, by simp only [RowKit.intOf]; omega⟩
      · have e4 : n = 4 := by omega
        have n1 : ((n : Int) < 4) = False := eq_false (by omega)
        obtain rfl : true = rb := by rw [← HR.out]; exact (holdsP_yes H4.out (fun n' k h1 h2 => hok n' k (by omega) h2)).symm
        have FIN := Lib.hid (HFIN.out _ hs.tail)
        clear hs hok hnl hn4 e4
        go_wp2_with fail
        go_ret
        exact ⟨rfl, FIN.out⟩
  · have h4b : ((P.length : Int) != 4) = true := by simp; omega
    have h4c : (P.length != 4) = true := by simp [h4]
    have h4d : ((P.length : Int) == 4) = false := by simp; omega
    obtain rfl : false = rb := by rw [← HR.out]; unfold holdsP; rw [decide_eq_false h4]; rfl
    have FIN := Lib.hid (HFIN.out _ HS.out.tail)
    clear h4 HS
    go_wp2_with fail
    go_ret
    exact ⟨rfl, FIN.out⟩
end Go.Proofs.YtficgjklagnbjaaGreat
