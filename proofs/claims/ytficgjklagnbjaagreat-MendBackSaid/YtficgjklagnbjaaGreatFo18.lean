/- Texts put together: Md1, Md2. Conditions: none. -/
import Derived.Test.YtficgjklagnbjaaGreatFo5
import Derived.Test.YtficgjklagnbjaaGreatFo17
namespace Go.Proofs.YtficgjklagnbjaaGreat
open Go Go.MapKept Go.RowKit Go.Proofs Go.Sort

/-- A log as it grows. -/
structure PS where
  list : List En
  now : List Lf
  all : List (List Lf)
  ow : Nat → Int
  tx : Nat → Int
  la : Nat → Int
def upd (f : Nat → Int) (k : Nat) (v : Int) : Nat → Int := fun j => if j = k then v else f j
theorem upd_self (f : Nat → Int) (k : Nat) (v : Int) : upd f k v k = v := if_pos rfl
theorem upd_ne (f : Nat → Int) {k j : Nat} (v : Int) (h : j ≠ k) : upd f k v j = f j := if_neg h
abbrev psC (lv nv av : Value) (o t l : Nat → Int) : Array Value := #[lv, nv, av, kI (o 0), kI (o 1), kI (o 2), kI (o 3), kI (t 0), kI (t 1), kI (t 2), kI (t 3), kI (t 4), kI (l 0), kI (l 1), kI (l 2), kI (l 3), kI (l 4)]
abbrev psO (lv nv av : Value) (o t l : Nat → Int) : Obj := .cells (psC lv nv av o t l) 34
section
variable {lv nv av : Value} {o t l : Nat → Int}
theorem psC_ow {n : Nat} (h : n < 4) : (psC lv nv av o t l)[3 + n]? = some (kI (o n)) := by
  have h2 : n = 0 ∨ n = 1 ∨ n = 2 ∨ n = 3 := by omega
  rcases h2 with rfl | rfl | rfl | rfl <;> rfl
theorem psC_tx {n : Nat} (h : n < 5) : (psC lv nv av o t l)[7 + n]? = some (kI (t n)) := by
  have h2 : n = 0 ∨ n = 1 ∨ n = 2 ∨ n = 3 ∨ n = 4 := by omega
  rcases h2 with rfl | rfl | rfl | rfl | rfl <;> rfl
theorem psC_la {n : Nat} (h : n < 5) : (psC lv nv av o t l)[12 + n]? = some (kI (l n)) := by
  have h2 : n = 0 ∨ n = 1 ∨ n = 2 ∨ n = 3 ∨ n = 4 := by omega
  rcases h2 with rfl | rfl | rfl | rfl | rfl <;> rfl
theorem psC_set_ow {n : Nat} (h : n < 4) (v : Int) : (psC lv nv av o t l).setIfInBounds (3 + n) (kI v) = psC lv nv av (upd o n v) t l := by
  have h2 : n = 0 ∨ n = 1 ∨ n = 2 ∨ n = 3 := by omega
  rcases h2 with rfl | rfl | rfl | rfl <;> rfl
theorem psC_set_tx {n : Nat} (h : n < 5) (v : Int) : (psC lv nv av o t l).setIfInBounds (7 + n) (kI v) = psC lv nv av o (upd t n v) l := by
  have h2 : n = 0 ∨ n = 1 ∨ n = 2 ∨ n = 3 ∨ n = 4 := by omega
  rcases h2 with rfl | rfl | rfl | rfl | rfl <;> rfl
theorem psC_set_la {n : Nat} (h : n < 5) (v : Int) : (psC lv nv av o t l).setIfInBounds (12 + n) (kI v) = psC lv nv av o t (upd l n v) := by
  have h2 : n = 0 ∨ n = 1 ∨ n = 2 ∨ n = 3 ∨ n = 4 := by omega
  rcases h2 with rfl | rfl | rfl | rfl | rfl <;> rfl
end
/-- Rows of leaves that lie where H holds. -/
def LvsAt (H : Heaplet) (vs : List Value) (A : List (List Lf)) : Prop := vs.length = A.length ∧ ∀ (i : Nat) v P, vs[i]? = some v → A[i]? = some P → LvAt H v P
theorem LvsAt.mono {H H' : Heaplet} {vs : List Value} {A : List (List Lf)} (h : LvsAt H vs A) (hs : ∀ w, Sat w H' → Sat w H) : LvsAt H' vs A := ⟨h.1, fun i v P h1 h2 => (h.2 i v P h1 h2).mono hs⟩
theorem LvsAt.push {H : Heaplet} {vs : List Value} {A : List (List Lf)} {v : Value} {P : List Lf} (h : LvsAt H vs A) (hv : LvAt H v P) : LvsAt H (vs ++ [v]) (A ++ [P]) := by
  refine ⟨by simp [h.1], fun i u Q h1 h2 => ?_⟩
  by_cases hi : i < vs.length
  · rw [List.getElem?_append_left hi] at h1
    rw [List.getElem?_append_left (by rw [← h.1]; exact hi)] at h2
    exact h.2 i u Q h1 h2
  · have hA := h.1
    rw [List.getElem?_append_right (by omega)] at h1
    rw [List.getElem?_append_right (by omega)] at h2
    have h0 : i - vs.length = 0 := by
      have := (List.getElem?_eq_some_iff.1 h1).1
      simp only [List.length_cons, List.length_nil] at this
      omega
    rw [h0] at h1
    rw [← hA, h0] at h2
    cases h1; cases h2
    exact hv
/-- A past lies at pb. -/
def PsIs (pb : Nat) (S : PS) (F : Heaplet) (w : World) : Prop := ∃ lv nv av vs hl ha H, EnSl lv S.list hl ∧ SliceIs 30 1 av vs.length vs ha ∧ LvAt H nv S.now ∧ LvsAt H vs S.all ∧ Sat w (.blk pb (psO lv nv av S.ow S.tx S.la) :: (hl ++ (ha ++ (H ++ F))))
theorem PsIs.below {pb : Nat} {S : PS} {F : Heaplet} {w w' : World} (h : PsIs pb S F w) (hb : Below w.heap.size w w') : PsIs pb S F w' := by
  obtain ⟨lv, nv, av, vs, hl, ha, H, h1, h2, h3, h4, s⟩ := h
  exact ⟨lv, nv, av, vs, hl, ha, H, h1, h2, h3, h4, s.monoB hb⟩
theorem PsIs.frame {pb : Nat} {S : PS} {F : Heaplet} {w : World} (h : PsIs pb S F w) : Sat w F := by
  obtain ⟨lv, nv, av, vs, hl, ha, H, h1, h2, h3, h4, s⟩ := h
  exact s.tail.right.right.right
/-- What a machine's word bears. -/
def Small (S : PS) : Prop := (∀ c, 0 ≤ S.la c ∧ S.la c ≤ 1000000) ∧ (∀ c, 0 ≤ S.tx c ∧ S.tx c ≤ 1000000) ∧ (∀ n, 0 ≤ S.ow n ∧ S.ow n ≤ 1000000) ∧ FitL S.list ∧ (∀ p ∈ S.now, goodP p.2 = true ∧ p.2.lsn ≤ 1000000) ∧ S.now.length = 4 ∧ S.list.length ≤ 10000 ∧ S.all.length ≤ 10000
/-- A client's transaction. -/
def PS.t (S : PS) (c : Nat) : Tx := ⟨c, 1, S.tx c⟩
def pgAt (P : List Lf) (n : Nat) : Pg := match P[n]? with | some p => p.2 | none => emptyP
def lsnM (S : PS) (c n : Nat) : Int := max (S.la c) (pgAt S.now n).lsn + 1
set_option maxRecDepth 100000 in
theorem txn_any {pb : Nat} {S : PS} {F : Heaplet} {w : World} {c : Nat} (h : PsIs pb S F w) (hc : c < 5) :
    Calls Tryz.prog 17 #[.pointer (some ⟨pb, 0, none⟩), .int .i64 (c : Int)] w (Pur (tV (S.t c)) w) := by
  unfold Pur PS.t
  obtain ⟨lv, nv, av, vs, hl, ha, H, h1, h2, h3, h4, s⟩ := h
  have s1 := s.new (.cells #[kI 0, kI 0, kI 0] 56)
  have t0 : (w.alloc (.cells #[kI 0, kI 0, kI 0] 56)).cell? ⟨pb, 7 + c, none⟩ = some (kI (S.tx c)) := by rw [cell_of s1.h1]; exact psC_tx hc
  have HS1 := Lib.hid s1
  have c0 : (0 : Int) ≤ (c : Int) := by omega
  have c5 : (c : Int) < 5 := by omega
  have c5n : c < 5 := hc
  clear s s1 h1 h2 h3 h4
  go_enter Tryz.func17, Tryz.ntmps17
  go_wp2_with fail
  have hs2 := (sat_all w).new (.cells #[kI (c : Int), kI 1, kI (S.tx c)] 56)
  have q0 : (w.alloc (.cells #[kI (c : Int), kI 1, kI (S.tx c)] 56)).cell? ⟨w.heap.size, 0, none⟩ = some (kI (c : Int)) := by rw [cell_of hs2.h0]; rfl
  have q1 : (w.alloc (.cells #[kI (c : Int), kI 1, kI (S.tx c)] 56)).cell? ⟨w.heap.size, 1, none⟩ = some (kI 1) := by rw [cell_of hs2.h0]; rfl
  have q2 : (w.alloc (.cells #[kI (c : Int), kI 1, kI (S.tx c)] 56)).cell? ⟨w.heap.size, 2, none⟩ = some (kI (S.tx c)) := by rw [cell_of hs2.h0]; rfl
  refine bodyPost_ret ?_ rfl ⟨rfl, Grown.alloc w _⟩
  simp [results, Tryz.results17, go_sem, q0, q1, q2]
/-- It tells, and draws at most. -/
def Qt (v : Value) (w : World) (e : Ending) (w' : World) : Prop := e = .returned v ∧ ∃ m, w' = w.drewN m
set_option maxRecDepth 100000 in
theorem lsn_any {pb : Nat} {S : PS} {F : Heaplet} {w : World} {c n : Nat} (h : PsIs pb S F w) (hs : Small S) (hc : c < 5) (hn : n < 4) :
    Calls Tryz.prog 20 #[.pointer (some ⟨pb, 0, none⟩), .int .i64 (c : Int), .int .i64 (n : Int)] w (Qt (kI (lsnM S c n)) w) := by
  unfold Qt lsnM
  obtain ⟨lv, nv, av, vs, hl, ha, H, h1, h2, h3, h4, s⟩ := h
  obtain ⟨g1, g2, g3, g4, g5, g6, g7, g8⟩ := hs
  have hnl : n < S.now.length := by omega
  obtain ⟨p, hp⟩ : ∃ p, S.now[n]? = some p := ⟨_, List.getElem?_eq_getElem hnl⟩
  have hpg : pgAt S.now n = p.2 := by unfold pgAt; rw [hp]
  have hg5 := g5 p (List.mem_of_getElem? hp)
  have hlb := (goodP_iff.1 hg5.1)
  obtain ⟨na, nc, rfl, hc3⟩ := h3
  obtain ⟨ng, off, sv, rfl, hsv, hu⟩ := hc3 n p hp
  obtain ⟨u0, u1, u2⟩ := hu w s.tail.right.right.left'
  rw [hpg]
  have t0 : w.cell? ⟨pb, 12 + c, none⟩ = some (kI (S.la c)) := by rw [cell_of s.h0]; exact psC_la hc
  have t1 : w.cell? ⟨pb, 1, none⟩ = some (.slice (some ⟨ng, off, none⟩) S.now.length nc) := by rw [cell_of s.h0]; rfl
  have hla := g1 c
  have c0 : (0 : Int) ≤ (c : Int) := by omega
  have c5 : (c : Int) < 5 := by omega
  have n0 : (0 : Int) ≤ (n : Int) := by omega
  have n4 : (n : Int) < (S.now.length : Int) := by omega
  have hwr : wrap64 (max (S.la c) p.2.lsn + 1) = max (S.la c) p.2.lsn + 1 := IntWalk.wrap64_in _ (by omega)
  have hwr2 : IntKind.i64.wrap (max (S.la c) p.2.lsn + 1) = max (S.la c) p.2.lsn + 1 := IntWalk.i64_in _ (by omega)
  clear s h1 h2 h4 g1 g2 g3 g4 g5 g6 g7 g8 hp hpg hg5 hlb hc3 hu hsv u0 u2 hla
  go_enter Tryz.func20, Tryz.ntmps20
  go_upto_region 1 with (fail)
  go_quiet (fail)
  go_wp2_with fail
  go_ret
  exact ⟨rfl, _, rfl⟩
/-- Whether a client's transaction has an entry. -/
def begunM (S : PS) (c : Nat) : Bool := S.list.any fun x => decide (x.t = S.t c)
theorem Grown.small {w w' : World} (h : Grown w w') {b : Nat} {o : Obj} (hb : w.heap[b]? = some o) : w'.heap[b]? = some o := by
  have s : Sat w [.blk b o] := ⟨fun x hx => by rw [List.mem_singleton.1 hx]; exact hb, by simp [HItem.no]⟩
  exact (s.grown h).h0
set_option maxRecDepth 100000 in
theorem begun_any {pb : Nat} {S : PS} {F : Heaplet} {w : World} {c : Nat} (h : PsIs pb S F w) (hs : Small S) (hc : c < 5) :
    Calls Tryz.prog 77 #[.pointer (some ⟨pb, 0, none⟩), .int .i64 (c : Int)] w (Pur (.bool (begunM S c)) w) := by
  unfold Pur begunM
  have HTX : Hid (∀ w', Grown w w' → Calls Tryz.prog 17 #[.pointer (some ⟨pb, 0, none⟩), .int .i64 (c : Int)] w' (Pur (tV (S.t c)) w')) := Lib.hid (fun w' hg => txn_any (h.below hg.below) hc)
  generalize S.t c = tc at *
  obtain ⟨lv, nv, av, vs, hl, ha, H, h1, h2, h3, h4, s⟩ := h
  obtain ⟨la, lc, rfl, hin⟩ := ens_in h1 (ha ++ (H ++ F))
  have HCE : Hid (∀ w', Grown w w' → ∀ i q, S.list[i]? = some q → ∃ g off, la = some ⟨g, off, none⟩ ∧ EnO w' g (off + i * 13) q) := Lib.hid (fun w' hg => hin w' (s.grown hg).tail)
  have HP0 : Hid (∀ w', Grown w w' → w'.cell? ⟨pb, 0, none⟩ = some (.slice la S.list.length lc)) := Lib.hid (fun w' hg => by rw [cell_of (s.grown hg).h0]; rfl)
  have hl9 : (S.list.length : Int) ≤ 10000 := by have := hs.2.2.2.2.2.2.1; omega
  have hgd : ∀ (a b : Tx) W, (eqGuard .eql 56 (.tmp 22) (.tmp 25) (tV a) (tV b)).run Tryz.prog W = .ok () W := fun _ _ W => by first | rfl | (simp [go_sem, eqGuard])
  have HGD := Lib.hid hgd
  obtain ⟨res, hres⟩ : ∃ res, (S.list.any fun x => decide (x.t = tc)) = res := ⟨_, rfl⟩
  rw [hres]
  have HRES := Lib.hid hres
  clear s h1 h2 h3 h4 hin hs hc hgd hres
  go_enter Tryz.func77, Tryz.ntmps77
  go_wp2_with fail
  go_loopw [5] (fun v5 wr => ∃ i : Nat, i ≤ S.list.length ∧ v5 = .int .i64 i ∧ (∀ k y, k < i → S.list[k]? = some y → decide (y.t = tc) = false) ∧ Grown w wr) (fun v5 _ => 20000 - (RowKit.intOf v5).toNat)
  case atStart => exact ⟨0, by omega, rfl, fun k y hk => absurd hk (by omega), Grown.refl w⟩
  case round =>
    obtain ⟨i, hi, rfl, hno, hg⟩ := hrel
    have i0 : (0 : Int) ≤ (i : Int) := by omega
    have p0 := HP0.out wr hg
    by_cases hil : i < S.list.length
    · have i1 : (i : Int) < (S.list.length : Int) := by omega
      obtain ⟨x, hx⟩ : ∃ x, S.list[i]? = some x := ⟨_, List.getElem?_eq_getElem hil⟩
      obtain ⟨g, off, rfl, _, e1, e2, e3, _⟩ := HCE.out wr hg i x hx
      have hcell : ∀ w', Grown w w' → w'.cell? ⟨pb, 0, none⟩ = some (.slice (some ⟨g, off, none⟩) S.list.length lc) ∧ w'.cell? ⟨g, off + i * 13 + 1, none⟩ = some (kI x.t.c) ∧ w'.cell? ⟨g, off + i * 13 + 2, none⟩ = some (kI x.t.e) ∧ w'.cell? ⟨g, off + i * 13 + 3, none⟩ = some (kI x.t.n) := fun w' hg' => by
        obtain ⟨g2, off2, e, _, f1, f2, f3, _⟩ := HCE.out w' hg' i x hx
        cases e
        exact ⟨HP0.out w' hg', f1, f2, f3⟩
      have HC := Lib.hid hcell
      have K1 := Lib.hid (hcell _ hg)
      have hgd2 : Grown w wr.drew := hg.trans (Grown.drewN wr 1)
      have K2 := Lib.hid (hcell _ hgd2)
      have HG := Lib.hid (And.intro hg hgd2)
      have HX := Lib.hid (And.intro hx hno)
      have heq := eq_tx x.t tc
      have hgd := HGD.out x.t tc
      clear hcell hx hno hg hgd2 e1 e2 e3
      go_upto_region 4 with (fail)
      clear p0
      go_region_held3 (fun w' => w'.cell? ⟨pb, 0, none⟩ = some (.slice (some ⟨g, off, none⟩) S.list.length lc) ∧ w'.cell? ⟨g, off + i * 13 + 1, none⟩ = some (kI x.t.c) ∧ w'.cell? ⟨g, off + i * 13 + 2, none⟩ = some (kI x.t.e) ∧ w'.cell? ⟨g, off + i * 13 + 3, none⟩ = some (kI x.t.n))
        (with_reducible first | exact K1.out | exact K2.out | exact K3.out)
        (first
          | (go_at_call 17
             refine (HTX.out _ HG.out.2).mono ?_
             rintro e w4 ⟨rfl, hg4⟩
             have HG4 := Lib.hid (HG.out.2.trans hg4)
             have K3 := Lib.hid (HC.out _ HG4.out)))
      all_goals
        clear K1 K2 K3 hg4 heq hgd
        cases hd : decide (x.t = tc) with
        | true =>
          obtain rfl : true = res := by rw [← HRES.out]; exact (List.any_eq_true.2 ⟨x, List.mem_of_getElem? HX.out.1, hd⟩).symm
          clear hd
          go_wp2_with fail
          go_ret
          exact ⟨rfl, HG4.out⟩
        | false =>
          have HNO : Hid (∀ k y, k < i + 1 → S.list[k]? = some y → decide (y.t = tc) = false) := Lib.hid (fun k y hk hy => by
            by_cases e : k = i
            · subst e
              rw [HX.out.1] at hy
              rw [← Option.some.inj hy]; exact hd
            · exact HX.out.2 k y (by omega) hy)
          clear hd HX
          go_wp2_with fail
          exact ⟨⟨i + 1, by omega, by simp, HNO.out, HG4.out⟩, by simp only [RowKit.intOf]; omega⟩
    · obtain rfl : i = S.list.length := by omega
      have hres : res = false := by
        rw [← HRES.out, List.any_eq_false]
        intro y hy
        obtain ⟨k, hk, e⟩ := List.mem_iff_getElem.1 hy
        rw [hno k y hk (by rw [← e]; exact List.getElem?_eq_getElem hk)]
        decide
      subst hres
      have HG4 := Lib.hid hg
      clear hno hg hi hil
      go_wp2_with fail
      go_ret
      exact ⟨rfl, HG4.out⟩
end Go.Proofs.YtficgjklagnbjaaGreat
namespace Go.Proofs.YtficgjklagnbjaaGreat
open Go Go.MapKept Go.RowKit Go.Proofs Go.Sort

def PS.push (S : PS) (x : En) (now : List Lf) : PS := { S with list := S.list ++ [x], now := now, all := S.all ++ [now], la := upd S.la x.t.c.toNat x.lsn }
/-- An entry more; whether it can be. -/
def addP (S : PS) (x : En) : Bool × PS :=
  if x.kind ≤ 2 then
    if (redoM (pgAt S.now x.page.toNat) x).2.2 = 0 ∧ (redoM (pgAt S.now x.page.toNat) x).2.1 = true then (true, S.push x (S.now.set x.page.toNat (x.page, (redoM (pgAt S.now x.page.toNat) x).1))) else (false, S)
  else (true, S.push x S.now)

abbrev Lz := Int × Int × (Option Addr × Nat × Nat)
abbrev lzC (r : Lz) : List Value := [kI r.1, kI r.2.1, .slice r.2.2.1 r.2.2.2.1 r.2.2.2.2]
abbrev lzR (r : Lz) : Lr := (r.1, r.2.1, .slice r.2.2.1 r.2.2.2.1 r.2.2.2.2)
theorem lz_flat (R : List Lz) : R.flatMap lzC = (R.map lzR).flatMap lrC := by
  rw [List.flatMap_map]
theorem lf_rows {F : Heaplet} {a : Option Addr} {n cap : Nat} {P : List Lf} (h : LvAt F (.slice a n cap) P) : ∃ R : List Lz, R.length = P.length ∧ LrIs F (R.map lzR) P ∧ ∀ w, Sat w F → SrcAt lzC 3 w a R := by
  obtain ⟨a', cap', e, hc⟩ := h
  simp only [Value.slice.injEq] at e
  obtain ⟨rfl, rfl, rfl⟩ := e
  have hex : ∀ i : Fin P.length, ∃ s : Option Addr × Nat × Nat, ∃ g off, a = some ⟨g, off, none⟩ ∧ SlAt F (.slice s.1 s.2.1 s.2.2) P[i].2.slots ∧ ∀ w, Sat w F → w.cell? ⟨g, off + i.1 * 3, none⟩ = some (kI P[i].1) ∧ w.cell? ⟨g, off + i.1 * 3 + 1, none⟩ = some (kI P[i].2.lsn) ∧ w.cell? ⟨g, off + i.1 * 3 + 2, none⟩ = some (.slice s.1 s.2.1 s.2.2) := by
    intro i
    obtain ⟨g, off, sv, e, hsv, hu⟩ := hc i.1 P[i] (List.getElem?_eq_getElem i.2)
    obtain ⟨sa, sc, e2, h2⟩ := hsv
    subst e2
    exact ⟨(sa, P[i].2.slots.length, sc), g, off, e, ⟨sa, sc, rfl, h2⟩, hu⟩
  obtain ⟨f, hf⟩ := Classical.axiomOfChoice hex
  have hget : ∀ i q, (List.ofFn fun i : Fin P.length => ((P[i].1, P[i].2.lsn, f i) : Lz))[i]? = some q → ∃ hi : i < P.length, q = (P[i].1, P[i].2.lsn, f ⟨i, hi⟩) := by
    intro i q hq
    obtain ⟨hi, e⟩ := List.getElem?_eq_some_iff.1 hq
    rw [List.length_ofFn] at hi
    refine ⟨hi, ?_⟩
    rw [← e, List.getElem_ofFn]
    rfl
  refine ⟨List.ofFn fun i : Fin P.length => (P[i].1, P[i].2.lsn, f i), by simp, ⟨by simp, fun i r p hr hp => ?_⟩, fun w hw i q hq => ?_⟩
  · rw [List.getElem?_map] at hr
    obtain ⟨q, hq, e⟩ := Option.map_eq_some_iff.1 hr
    obtain ⟨hi, rfl⟩ := hget i q hq
    obtain ⟨g, off, _, hs, _⟩ := hf ⟨i, hi⟩
    have hpi : P[i] = p := Option.some.inj ((List.getElem?_eq_getElem hi).symm.trans hp)
    subst hpi
    subst e
    exact ⟨rfl, rfl, hs⟩
  · obtain ⟨hi, rfl⟩ := hget i q hq
    obtain ⟨g, off, e, _, hu⟩ := hf ⟨i, hi⟩
    obtain ⟨u0, u1, u2⟩ := hu w hw
    refine ⟨g, off, e, fun j u hj => ?_⟩
    have hj3 : j < 3 := (List.getElem?_eq_some_iff.1 hj).1
    match j, hj3 with
    | 0, _ => cases hj; exact u0
    | 1, _ => cases hj; exact u1
    | 2, _ => cases hj; exact u2
theorem one_z (q : Lz) : ∀ u ∈ lzC q, u.oneCell' = true := by
  intro u hu
  simp only [lzC, List.mem_cons, List.not_mem_nil, or_false] at hu
  rcases hu with rfl | rfl | rfl <;> rfl
/-- A copy of leaves. -/
theorem lf_copy {F K : Heaplet} {a : Option Addr} {n cap g : Nat} {P : List Lf} {w : World} (h : LvAt F (.slice a n cap) P) (s : Sat w (.blk g (.cells #[] 54) :: K)) (hK : ∀ w, Sat w K → Sat w F) (hl : P.length ≤ 1000) :
    ∃ v' w' R h', (∀ ty, (Builtin.append_ #[30, 30] ty #[.slice (some ⟨g, 0, none⟩) 0 0, .slice a n cap]).run Tryz.prog w = .ok v' w') ∧ LrSl v' R h' ∧ LrIs F R P ∧ Sat w' (h' ++ K) := by
  obtain ⟨R, hR, hi, hsrc⟩ := lf_rows h
  obtain ⟨i0, hin, hz, hsize, hby⟩ := info_parts infoLf
  have hn : n = R.length := by
    obtain ⟨a', cap', e, _⟩ := h
    cases e; exact hR.symm
  subst hn
  obtain ⟨v', w', h', k1, k2, k3⟩ := sl_app (P := Tryz.prog) (R := ([] : List Lz)) (R2 := R) (c := cap) (fl := lzC) (fun _ => rfl) Tryz.underlying30 hin hz hsize hby rfl (by decide) (sl_new 54 3 g) (h := [.blk g (.cells #[] 54)]) s (hsrc w (hK w s.tail)) one_z (by unfold maxLen; simp; omega) (by simp; omega)
  rw [List.nil_append] at k2
  refine ⟨v', w', R.map lzR, h', k1, ?_, hi, k3⟩
  show SliceIs _ 3 v' (R.map lzR).length ((R.map lzR).flatMap lrC) h'
  rw [List.length_map, ← lz_flat]; exact k2
theorem lrs_at {v : Value} {R : List Lr} {h1 H : Heaplet} {P : List Lf} (h : LrSl v R h1) (hi : LrIs H R P) : LvAt (h1 ++ H) v P := by
  have := LvOwn.at (⟨R, h1, H, h, hi, rfl⟩ : LvOwn v P (h1 ++ H)) []
  rwa [List.append_nil] at this
theorem lr_old {R : List Lr} {h F : Heaplet} {w : World} {g len cap k : Nat} {r : Lr} (hv : LrSl (.slice (some ⟨g, 0, none⟩) len cap) R h) (s : Sat w (h ++ F)) (hk : R[k]? = some r) :
    (∀ i, w.frozen? ⟨g, i, none⟩ = false) ∧ w.cell? ⟨g, k * 3, none⟩ = some (kI r.1) ∧ w.cell? ⟨g, k * 3 + 1, none⟩ = some (kI r.2.1) ∧ w.cell? ⟨g, k * 3 + 2, none⟩ = some r.2.2 := by
  obtain ⟨_, _, el⟩ := sl_form hv
  cases el
  constructor
  · rcases hv.2 with ⟨e, _⟩ | ⟨g', cap', cur, e, _, _, _, _, rfl⟩
    · cases e
    · simp only [Value.slice.injEq, Option.some.injEq, Addr.mk.injEq] at e
      obtain ⟨⟨rfl, _, _⟩, _, rfl⟩ := e
      exact unfrozen_of (Sat.h0 s)
  · obtain ⟨a', cap', e, hc⟩ := sl_cells lrC_len hv s
    cases e
    obtain ⟨g', ea, _, hu⟩ := hc k r hk
    cases ea
    exact ⟨hu 0 _ rfl, hu 1 _ rfl, hu 2 _ rfl⟩
/-- A leaf is laid anew. -/
theorem lr_set3 {R : List Lr} {h F : Heaplet} {w : World} {g len cap k : Nat} {r : Lr} (r' : Lr) (hv : LrSl (.slice (some ⟨g, 0, none⟩) len cap) R h) (s : Sat w (h ++ F)) (hk : R[k]? = some r) :
    ∃ h', LrSl (.slice (some ⟨g, 0, none⟩) len cap) (R.set k r') h' ∧ Sat (((w.setCell ⟨g, k * 3, none⟩ (kI r'.1)).setCell ⟨g, k * 3 + 1, none⟩ (kI r'.2.1)).setCell ⟨g, k * 3 + 2, none⟩ r'.2.2) (h' ++ F) := by
  have hkl := (List.getElem?_eq_some_iff.1 hk).1
  obtain ⟨_, _, el⟩ := sl_form hv
  cases el
  have sg : ∀ (Z' : List Lr), Z'.length = R.length → ∀ k, LrSl (.slice (some ⟨g, 0, none⟩) R.length cap) Z' k → LrSl (.slice (some ⟨g, 0, none⟩) Z'.length cap) Z' k := fun Z' e k hk => by rw [e]; exact hk
  obtain ⟨k1, a1, s1⟩ := sl_set (f := 0) (q' := ((r'.1, r.2.1, r.2.2) : Lr)) lrC_len hv s hk (by decide) (u := kI r'.1) rfl
  have g1 := sg _ List.length_set _ a1
  obtain ⟨k2, a2, s2⟩ := sl_set (f := 1) (q' := ((r'.1, r'.2.1, r.2.2) : Lr)) lrC_len g1 s1 (List.getElem?_set_self hkl) (by decide) (u := kI r'.2.1) rfl
  rw [List.set_set] at a2
  have g2 := sg _ List.length_set _ (by rw [List.length_set] at a2; exact a2)
  obtain ⟨k3, a3, s3⟩ := sl_set (f := 2) (q' := r') lrC_len g2 s2 (List.getElem?_set_self hkl) (by decide) (u := r'.2.2) rfl
  rw [List.set_set] at a3
  exact ⟨k3, by rw [List.length_set] at a3; exact a3, s3⟩
theorem LrIs.set {H : Heaplet} {R : List Lr} {P : List Lf} {k : Nat} {n : Int} {q : Pg} {sv : Value} (h : LrIs H R P) (hk : k < P.length) (hsl : SlAt H sv q.slots) : LrIs H (R.set k (n, q.lsn, sv)) (P.set k (n, q)) := by
  refine ⟨by simp [h.1], fun i r p hr hp => ?_⟩
  by_cases e : i = k
  · subst e
    rw [List.getElem?_set_self (by rw [h.1]; exact hk)] at hr
    rw [List.getElem?_set_self hk] at hp
    cases hr; cases hp
    exact ⟨rfl, rfl, hsl⟩
  · rw [List.getElem?_set_ne (fun h => e h.symm)] at hr hp
    exact h.2 i r p hr hp
theorem LrIs.mono {H H' : Heaplet} {R : List Lr} {P : List Lf} (h : LrIs H R P) (hs : ∀ w, Sat w H' → Sat w H) : LrIs H' R P := ⟨h.1, fun i r p hr hp => by
  obtain ⟨a, b, c⟩ := h.2 i r p hr hp
  exact ⟨a, b, c.mono hs⟩⟩
end Go.Proofs.YtficgjklagnbjaaGreat
