/- Texts put together: App, Plate, Plate2, Plate3. Conditions: none. -/
import Derived.Laws.AppendOwn
import Derived.WalkKit
import Derived.Test.YtgocmnejlbfplaaGreatDoorProg
import Derived.ProofKit
import Derived.Lib.Hide
import Derived.Deep.QuietTactic
import Derived.BigQuiet
import Derived.StillTailTactics
import Derived.Test.YtgocmnejlbfplaaGreatDoorTy1
namespace Go.Proofs.YtgocmnejlbfplaaGreatDoor
open Go

/-- THE SLICE v HOLDS n ELEMENTS (sz cells each, element type T), their cells in a row cs; h: the block that is its own (none if it is nil). -/
def SliceIs (T : TypeId) (sz : Nat) (v : Value) (n : Nat) (cs : List Value) (h : Heaplet) : Prop :=
  cs.length = n * sz ∧ ((v = .slice none 0 0 ∧ n = 0 ∧ h = []) ∨
    ∃ g cap cur, v = .slice (some ⟨g, 0, none⟩) n cap ∧ n ≤ cap ∧ cap ≤ maxLen ∧ cur.size = cap * sz ∧ cur.toList.take (n * sz) = cs ∧ h = [.blk g (.cells cur T)])
theorem SliceIs.nil (T : TypeId) (sz : Nat) : SliceIs T sz (.slice none 0 0) 0 [] [] := ⟨by simp, .inl ⟨rfl, rfl, rfl⟩⟩
theorem heap_setRow {w : World} {g : Nat} {old cs : Array Value} {t : TypeId} {z : Nat × Nat} (h : w.heap[g]? = some (.cells old t z)) : (w.setRow g cs).heap = w.heap.setIfInBounds g (.cells cs t z) := by
  apply Array.ext_getElem?
  intro j
  by_cases e : j = g
  · subst e
    rw [setRow_heap w j old cs t z h]
    have hlt := (Array.getElem?_eq_some_iff.1 h).1
    simp [hlt]
  · rw [setRow_other w g j cs e, Array.getElem?_setIfInBounds_ne (fun q => e q.symm)]
section
variable {P : Program} {w : World} {T t ty : TypeId} {i : TypeInfo} {z : Value} {sz bytes : Nat} {v : Value} {n : Nat} {cs : List Value} {h F : Heaplet}
/-- 'append(v, x..)' onto a slice of one's own, out of a slice whose cells are known. -/
theorem sat_append (ht : P.underlying t = some (.slice T)) (hi : P.info? T = some i) (hz : i.zero = some z) (hsize : i.size = sz) (hby : i.bytes = bytes) (hzs : z.cells.size = sz) (hsz : 0 < sz)
    (hv : SliceIs T sz v n cs h) (s : Sat w (h ++ F)) (a : Addr) (m c : Nat) (news : List Value) (hl : news.length = m * sz) (hnews : ∀ j u, news[j]? = some u → w.cell? (a.add j) = some u) (h1 : ∀ u ∈ news, u.oneCell' = true)
    (hm : 0 < m) (h63 : n + m ≤ maxLen) (hbytes : (n + m) * bytes ≤ 140737488355328) :
    ∃ v' w' h', (Builtin.append_ #[t, t] ty #[v, .slice (some a) m c]).run P w = .ok v' w' ∧ SliceIs T sz v' (n + m) (cs ++ news) h' ∧ Sat w' (h' ++ F) := by
  subst hsize
  subst hby
  have hsmall : n + m ≤ 9223372036854775807 := by simp only [maxLen] at h63; omega
  have hlen : (cs ++ news).length = (n + m) * i.size := by rw [List.length_append, hv.1, hl, Nat.add_mul]
  rcases hv.2 with ⟨rfl, rfl, rfl⟩ | ⟨g, cap, cur, rfl, hnc, hcm, hcs, htake, rfl⟩
  · have hx : cs = [] := List.eq_nil_of_length_eq_zero (by simpa using hv.1)
    subst hx
    have hr := run_append_nil (P := P) w t ty T i z ht hi hz a m c news hl hnews hm (by omega) (by simp only [Nat.zero_add] at hbytes; omega)
    have hge := grownCap_ge w m 0 T
    have hcm := grownCap_le_maxLen w m 0 T (by omega)
    refine ⟨_, _, _, hr, ⟨hlen, .inr ⟨w.heap.size, _, _, by simp, by omega, hcm, ?_, ?_, rfl⟩⟩, (Sat.drew s).new _⟩
    · simp only [Array.size_append, List.size_toArray, size_zeroCells, hzs, hl, ← Nat.add_mul]
      congr 1; omega
    · simp only [Array.toList_append, List.nil_append]
      rw [← hlen]
      simp only [List.nil_append]
      exact List.take_left
  · have holds : ∀ j u, cs[j]? = some u → w.cell? ((⟨g, 0, none⟩ : Addr).add j) = some u := by
      intro j u hu
      have hadd : (⟨g, 0, none⟩ : Addr).add j = ⟨g, j, none⟩ := by unfold Addr.add; split <;> simp_all
      rw [hadd, cell_of s.h0]
      rw [← htake, List.getElem?_take] at hu
      split at hu
      · rwa [Array.getElem?_toList] at hu
      · cases hu
    by_cases hroom : n + m ≤ cap
    · have hfit : n * i.size + news.length ≤ cur.size := by rw [hl, hcs, ← Nat.add_mul]; exact Nat.mul_le_mul_right _ hroom
      have hr := run_append_room (P := P) w t ty T i ht hi g n cap cur s.h0 a m c news hl hnews h1 hroom hfit
      refine ⟨_, _, _, hr, ⟨hlen, .inr ⟨g, cap, _, rfl, hroom, hcm, ?_, ?_, rfl⟩⟩, Sat.set s _ (heap_setRow s.h0) ⟨rfl, rfl, rfl⟩⟩
      · simp only [List.size_toArray, List.length_append, List.length_take, List.length_drop, Array.length_toList]
        omega
      · rw [htake, ← hlen]
        exact List.take_left
    · have hr := run_append_grow (P := P) w t ty T i z ht hi hz ⟨g, 0, none⟩ n cap cs hv.1 holds a m c news hl hnews (by omega) (by omega) (growslice_fits (by omega) hbytes)
      have hge := grownCap_ge w (n + m) cap T
      have hcm2 := grownCap_le_maxLen w (n + m) cap T h63
      refine ⟨_, _, _, hr, ⟨hlen, .inr ⟨w.heap.size, _, _, rfl, hge, hcm2, ?_, ?_, rfl⟩⟩, ((Sat.drew s).tail).new _⟩
      · simp only [Array.size_append, List.size_toArray, size_zeroCells, hzs, hv.1, hl, ← Nat.add_mul]
        congr 1; omega
      · simp only [Array.toList_append, List.append_assoc]
        rw [← List.append_assoc, ← hlen]
        exact List.take_left
/-- At the operation: the run of the append is known. -/
theorem wpList_append_run {ops : Array Oper} {rest : List Oper} {o : Oper} {a : Act} {Q : Exit → Act → World → Prop} (hgd : o.guard = none) (s x : Operand) (t1 t2 : TypeId)
    (ho : o.op = .call { callee := .builtin .append, args := #[s, x], argTypes := #[t1, t2] }) (v xv v' : Value) (w' : World) (hs : a.eval s = v) (hx : a.eval x = xv)
    (hr : ∀ ty, (Builtin.append_ #[t1, t2] ty #[v, xv]).run P w = .ok v' w') (hK : wpList P ops Q rest (a.put o.dst v') w') : wpList P ops Q (o :: rest) a w :=
  wpList_plain hgd fun _ hk => by
    unfold Oper.wp execOp
    simp only [ho, resolve, invoke, builtin, Sem.run_bind, Sem.run_pure, Result.andThen_ok, List.map_toArray, List.map_cons, List.map_nil, hs, hx, hr]
    exact hk _ _ hK
/-- What the slice's cells hold. -/
theorem SliceIs.cell (hv : SliceIs T sz v n cs h) (s : Sat w (h ++ F)) {g : Nat} {off len cap : Nat} (e : v = .slice (some ⟨g, off, none⟩) len cap) {j : Nat} {u : Value} (hu : cs[j]? = some u) : off = 0 ∧ len = n ∧ w.cell? ⟨g, j, none⟩ = some u := by
  rcases hv.2 with ⟨rfl, _⟩ | ⟨g', cap', cur, rfl, hnc, hcm, hcs, htake, rfl⟩
  · cases e
  · simp only [Value.slice.injEq, Option.some.injEq, Addr.mk.injEq] at e
    obtain ⟨⟨rfl, rfl, _⟩, rfl, rfl⟩ := e
    refine ⟨rfl, rfl, ?_⟩
    rw [cell_of s.h0]
    rw [← htake, List.getElem?_take] at hu
    split at hu
    · rwa [Array.getElem?_toList] at hu
    · cases hu
end
end Go.Proofs.YtgocmnejlbfplaaGreatDoor
namespace Go.Proofs.YtgocmnejlbfplaaGreatDoor
open Go Go.MapKept Go.RowKit Go.Proofs

theorem kS_inj : ∀ a b, kS a = kS b → a = b := fun _ _ h => by simpa using h
/-- The plate, in plain data. -/
structure PM where
  count : Int
  secs : List (Int × ByteArray)
  queue : List (Int × ByteArray)
  down : Bool
  acts : Int
  armed : Int
  life : Int
def flatQ (q : List (Int × ByteArray)) : List Value := q.flatMap fun x => [kI x.1, kS x.2]
abbrev plateObj (M : PM) (m : Nat) (qv : Value) : Obj := .cells #[kI M.count, .map (some m), qv, .bool M.down, kI M.acts, kI M.armed, kI M.life] 63
/-- THE PLATE AT BLOCK b IS M; the rest of memory: F. -/
def PlateIs (b : Nat) (M : PM) (F : Heaplet) (w : World) : Prop :=
  ∃ m es clk qv qh, MapOk (.int .i64) kI kS es clk M.secs ∧ SliceIs 88 2 qv M.queue.length (flatQ M.queue) qh ∧
    Sat w (.blk b (plateObj M m qv) :: .blk m (.map es clk) :: (qh ++ F))
/-- What the small calls want: the seven cells. -/
theorem PlateIs.cells {b : Nat} {M : PM} {F : Heaplet} {w : World} (h : PlateIs b M F w) :
    ∃ m qv, w.cell? ⟨b, 0, none⟩ = some (kI M.count) ∧ w.cell? ⟨b, 1, none⟩ = some (.map (some m)) ∧ w.cell? ⟨b, 2, none⟩ = some qv ∧ w.cell? ⟨b, 3, none⟩ = some (.bool M.down) ∧
      w.cell? ⟨b, 4, none⟩ = some (kI M.acts) ∧ w.cell? ⟨b, 5, none⟩ = some (kI M.armed) ∧ w.cell? ⟨b, 6, none⟩ = some (kI M.life) ∧ ∀ i, w.frozen? ⟨b, i, none⟩ = false := by
  obtain ⟨m, es, clk, qv, qh, _, _, hs⟩ := h
  have hb := hs.h0
  refine ⟨m, qv, ?_, ?_, ?_, ?_, ?_, ?_, ?_, fun i => unfrozen_of hb i⟩ <;> (rw [cell_of hb]; rfl)
theorem PlateIs.frame {b : Nat} {M : PM} {F : Heaplet} {w : World} (h : PlateIs b M F w) : Sat w F := by
  obtain ⟨m, es, clk, qv, qh, _, _, hs⟩ := h
  exact Sat.right hs.tail.tail
theorem PlateIs.drew {b : Nat} {M : PM} {F : Heaplet} {w : World} (h : PlateIs b M F w) : PlateIs b M F w.drew := by
  obtain ⟨m, es, clk, qv, qh, h1, h2, hs⟩ := h
  exact ⟨m, es, clk, qv, qh, h1, h2, hs.drew⟩
theorem PlateIs.new {b : Nat} {M : PM} {F : Heaplet} {w : World} (h : PlateIs b M F w) (o : Obj) : PlateIs b M (.blk w.heap.size o :: F) (w.alloc o) := by
  obtain ⟨m, es, clk, qv, qh, h1, h2, hs⟩ := h
  exact ⟨m, es, clk, qv, qh, h1, h2, (hs.new o).perm (List.perm_middle (l₁ := HItem.blk b _ :: .blk m _ :: qh)).symm⟩
theorem PlateIs.unF {b : Nat} {M : PM} {x : HItem} {F : Heaplet} {w : World} (h : PlateIs b M (x :: F) w) : PlateIs b M F w := by
  obtain ⟨m, es, clk, qv, qh, h1, h2, hs⟩ := h
  exact ⟨m, es, clk, qv, qh, h1, h2, (hs.perm (List.perm_middle (l₁ := HItem.blk b _ :: .blk m _ :: qh))).tail⟩
/-- A field that is a plain value turns. -/
theorem PlateIs.setField {b : Nat} {M M' : PM} {F : Heaplet} {w : World} (h : PlateIs b M F w) (i : Nat) (v : Value) (e1 : M'.secs = M.secs) (e2 : M'.queue = M.queue)
    (e : ∀ m qv, (#[kI M.count, .map (some m), qv, .bool M.down, kI M.acts, kI M.armed, kI M.life] : Array Value).setIfInBounds i v = #[kI M'.count, .map (some m), qv, .bool M'.down, kI M'.acts, kI M'.armed, kI M'.life]) :
    PlateIs b M' F (w.setCell ⟨b, i, none⟩ v) := by
  obtain ⟨m, es, clk, qv, qh, h1, h2, hs⟩ := h
  refine ⟨m, es, clk, qv, qh, by rw [e1]; exact h1, by rw [e2]; exact h2, ?_⟩
  have := hs.setCell (i := i) v
  rw [e m qv] at this
  exact this

def errNil : Int := 2
def errDown : Int := 10
def errArg : Int := 1
def readyM (M : PM) (n : Int) : Int := if M.down then 10 else if n < 0 ∨ M.count ≤ n then 1 else 0

theorem ready_nil (n : Int) (w : World) : Calls Tryz.prog 52 #[.pointer none, .int .i64 n] w (Ret (.int .i64 2) (Same w)) := by
  go_enter Tryz.func52, Tryz.ntmps52
  go_wp2
  go_ret
  exact ⟨rfl, rfl⟩
theorem ready_any (b : Nat) (M : PM) (F : Heaplet) (n : Int) (w : World) (h : PlateIs b M F w) :
    Calls Tryz.prog 52 #[.pointer (some ⟨b, 0, none⟩), .int .i64 n] w (Ret (.int .i64 (readyM M n)) (Same w)) := by
  obtain ⟨m, qv, c0, c1, c2, c3, c4, c5, c6, u⟩ := h.cells
  clear h u c1 c2 c4 c5 c6
  unfold readyM
  cases hd : M.down with
  | true =>
    rw [hd] at c3
    clear hd
    go_enter Tryz.func52, Tryz.ntmps52
    go_wp2
    go_ret
    exact ⟨rfl, rfl⟩
  | false =>
    rw [hd] at c3
    clear hd
    generalize M.count = c at *
    by_cases h1 : n < 0
    · have e : (if false = true then (10 : Int) else if n < 0 ∨ c ≤ n then 1 else 0) = 1 := by simp [h1]
      rw [e]
      go_enter Tryz.func52, Tryz.ntmps52
      go_wp2
      go_ret
      exact ⟨rfl, rfl⟩
    · by_cases h2 : c ≤ n
      · have e : (if false = true then (10 : Int) else if n < 0 ∨ c ≤ n then 1 else 0) = 1 := by simp [h2]
        rw [e]
        go_enter Tryz.func52, Tryz.ntmps52
        go_wp2
        go_ret
        exact ⟨rfl, rfl⟩
      · have e : (if false = true then (10 : Int) else if n < 0 ∨ c ≤ n then 1 else 0) = 0 := by simp [h1, h2]
        rw [e]
        have h3 : n < c := by omega
        go_enter Tryz.func52, Tryz.ntmps52
        go_wp2
        go_ret
        exact ⟨rfl, rfl⟩
end Go.Proofs.YtgocmnejlbfplaaGreatDoor
namespace Go.Proofs.YtgocmnejlbfplaaGreatDoor
open Go Go.MapKept Go.RowKit Go.Proofs

def offM (M : PM) : PM := if M.down then M else { M with down := true, armed := 0, life := M.life + 1 }
theorem off_any (b : Nat) (M : PM) (F : Heaplet) (w : World) (h : PlateIs b M F w) (h0 : 0 ≤ M.life) (hl : M.life < 9223372036854775807) :
    Calls Tryz.prog 12 #[.pointer (some ⟨b, 0, none⟩)] w (Ret (.tuple #[]) (PlateIs b (offM M) F)) := by
  obtain ⟨m, qv, c0, c1, c2, c3, c4, c5, c6, u⟩ := h.cells
  unfold offM
  cases hd : M.down with
  | true =>
    rw [hd] at c3
    have H := Lib.hid h
    clear hd h u c0 c1 c2 c4 c5 c6
    go_enter Tryz.func12, Tryz.ntmps12
    go_wp2
    refine bodyPost_end (results_none rfl _ _ _) rfl ?_
    exact ⟨rfl, H.out⟩
  | false =>
    rw [hd] at c3
    have h1 := h.setField (M' := { M with down := true }) 3 (.bool true) rfl rfl (fun _ _ => by rw [hd]; rfl)
    have h2 := h1.setField (M' := { M with down := true, armed := 0 }) 5 (kI 0) rfl rfl (fun _ _ => rfl)
    have h3 := h2.setField (M' := { M with down := true, armed := 0, life := M.life + 1 }) 6 (kI (M.life + 1)) rfl rfl (fun _ _ => rfl)
    obtain ⟨_, _, _, _, _, _, _, _, d6, v⟩ := h2.cells
    have x3 := u 3
    obtain ⟨_, _, _, _, _, _, _, d5, _, v1⟩ := h1.cells
    have x5 := v1 5
    have x6 := v 6
    have Fin := Lib.hid h3
    simp only at d6 d5
    clear hd h h1 h2 h3 u v v1 c0 c1 c2 c4
    generalize M.life = l at *
    go_enter Tryz.func12, Tryz.ntmps12
    go_wp2
    refine bodyPost_end (results_none rfl _ _ _) rfl ?_
    exact ⟨rfl, Fin.out⟩
theorem off_nil (w : World) : Calls Tryz.prog 12 #[.pointer none] w (Ret (.tuple #[]) (Same w)) := by
  go_enter Tryz.func12, Tryz.ntmps12
  go_wp2
  refine bodyPost_end (results_none rfl _ _ _) rfl ?_
  exact ⟨rfl, rfl⟩
def armM (M : PM) (n : Int) : PM := { M with armed := max n 0 }
theorem arm_any (b : Nat) (M : PM) (F : Heaplet) (n : Int) (w : World) (h : PlateIs b M F w) :
    Calls Tryz.prog 16 #[.pointer (some ⟨b, 0, none⟩), .int .i64 n] w (Ret (.tuple #[]) (PlateIs b (armM M n) F)) := by
  obtain ⟨m, qv, c0, c1, c2, c3, c4, c5, c6, u⟩ := h.cells
  have h2 := h.setField (M' := armM M n) 5 (kI (max n 0)) rfl rfl (fun _ _ => rfl)
  have x5 := u 5
  have Fin := Lib.hid h2
  clear h h2 u c0 c1 c2 c3 c4 c6
  by_cases hn : n < 0
  · have e : max n 0 = 0 := by omega
    rw [e] at Fin
    clear e
    go_enter Tryz.func16, Tryz.ntmps16
    go_wp2
    refine bodyPost_end (results_none rfl _ _ _) rfl ?_
    exact ⟨rfl, Fin.out⟩
  · have e : max n 0 = n := by omega
    rw [e] at Fin
    clear e
    go_enter Tryz.func16, Tryz.ntmps16
    go_wp2
    refine bodyPost_end (results_none rfl _ _ _) rfl ?_
    exact ⟨rfl, Fin.out⟩
theorem down_any (b : Nat) (M : PM) (F : Heaplet) (w : World) (h : PlateIs b M F w) :
    Calls Tryz.prog 29 #[.pointer (some ⟨b, 0, none⟩)] w (Ret (.bool M.down) (Same w)) := by
  obtain ⟨m, qv, c0, c1, c2, c3, c4, c5, c6, u⟩ := h.cells
  clear h u
  generalize M.down = dn at *
  go_enter Tryz.func29, Tryz.ntmps29
  go_wp2
  go_ret
  exact ⟨rfl, rfl⟩
theorem down_nil (w : World) : Calls Tryz.prog 29 #[.pointer none] w (Ret (.bool true) (Same w)) := by
  go_enter Tryz.func29, Tryz.ntmps29
  go_wp2
  go_ret
  exact ⟨rfl, rfl⟩
theorem sectors_any (b : Nat) (M : PM) (F : Heaplet) (w : World) (h : PlateIs b M F w) :
    Calls Tryz.prog 28 #[.pointer (some ⟨b, 0, none⟩)] w (Ret (.int .i64 M.count) (Same w)) := by
  obtain ⟨m, qv, c0, c1, c2, c3, c4, c5, c6, u⟩ := h.cells
  clear h u

  go_enter Tryz.func28, Tryz.ntmps28
  go_wp2
  go_ret
  exact ⟨rfl, rfl⟩
theorem sectors_nil (w : World) : Calls Tryz.prog 28 #[.pointer none] w (Ret (.int .i64 0) (Same w)) := by
  go_enter Tryz.func28, Tryz.ntmps28
  go_wp2
  go_ret
  exact ⟨rfl, rfl⟩
theorem acts_any (b : Nat) (M : PM) (F : Heaplet) (w : World) (h : PlateIs b M F w) :
    Calls Tryz.prog 21 #[.pointer (some ⟨b, 0, none⟩)] w (Ret (.int .i64 M.acts) (Same w)) := by
  obtain ⟨m, qv, c0, c1, c2, c3, c4, c5, c6, u⟩ := h.cells
  clear h u

  go_enter Tryz.func21, Tryz.ntmps21
  go_wp2
  go_ret
  exact ⟨rfl, rfl⟩
theorem acts_nil (w : World) : Calls Tryz.prog 21 #[.pointer none] w (Ret (.int .i64 0) (Same w)) := by
  go_enter Tryz.func21, Tryz.ntmps21
  go_wp2
  go_ret
  exact ⟨rfl, rfl⟩
theorem life_any (b : Nat) (M : PM) (F : Heaplet) (w : World) (h : PlateIs b M F w) :
    Calls Tryz.prog 30 #[.pointer (some ⟨b, 0, none⟩)] w (Ret (.int .i64 M.life) (Same w)) := by
  obtain ⟨m, qv, c0, c1, c2, c3, c4, c5, c6, u⟩ := h.cells
  clear h u

  go_enter Tryz.func30, Tryz.ntmps30
  go_wp2
  go_ret
  exact ⟨rfl, rfl⟩
theorem life_nil (w : World) : Calls Tryz.prog 30 #[.pointer none] w (Ret (.int .i64 0) (Same w)) := by
  go_enter Tryz.func30, Tryz.ntmps30
  go_wp2
  go_ret
  exact ⟨rfl, rfl⟩

def actM (M : PM) : Int × PM :=
  if 0 < M.armed then (if M.armed = 1 then (10, offM { M with acts := M.acts + 1, armed := 0 }) else (0, { M with acts := M.acts + 1, armed := M.armed - 1 })) else (0, { M with acts := M.acts + 1 })
set_option maxHeartbeats 400000 in
theorem act_any (b : Nat) (M : PM) (F : Heaplet) (w : World) (h : PlateIs b M F w) (h0 : 0 ≤ M.life ∧ M.life < 9223372036854775807) (h1 : 0 ≤ M.acts ∧ M.acts < 9223372036854775807) (h2 : M.armed ≤ 9223372036854775807) :
    Calls Tryz.prog 53 #[.pointer (some ⟨b, 0, none⟩)] w (Ret (.int .i64 (actM M).1) (PlateIs b (actM M).2 F)) := by
  obtain ⟨m, qv, c0, c1, c2, c3, c4, c5, c6, u⟩ := h.cells
  have g1 := h.setField (M' := { M with acts := M.acts + 1 }) 4 (kI (M.acts + 1)) rfl rfl (fun _ _ => rfl)
  obtain ⟨_, _, _, _, _, _, _, d5, _, v⟩ := g1.cells
  have x4 := u 4
  have x5 := v 5
  simp only at d5
  obtain ⟨a0, a1⟩ := h1
  unfold actM
  by_cases hp : 0 < M.armed
  · rw [if_pos hp]
    have g2 := g1.setField (M' := { M with acts := M.acts + 1, armed := M.armed - 1 }) 5 (kI (M.armed - 1)) rfl rfl (fun _ _ => rfl)
    obtain ⟨_, _, _, _, _, _, _, e5, _, _⟩ := g2.cells
    simp only at e5
    by_cases h1' : M.armed = 1
    · rw [if_pos h1']
      rw [h1'] at g2 e5 c5 d5
      rw [show (1 : Int) - 1 = 0 from rfl] at g2 e5
      have Hoff := Lib.hid (off_any b _ F _ g2 h0.1 h0.2)
      clear h g1 g2 u v h1' hp c0 c1 c2 c3 c6 h0 h2
      generalize M.acts = ac at *
      go_enter Tryz.func53, Tryz.ntmps53
      go_wp2_with fail
      refine (Hoff.out).mono ?_
      rintro e w3 ⟨rfl, h3⟩
      have Fin := Lib.hid h3
      clear h3
      go_wp2_with fail
      go_ret
      exact ⟨rfl, Fin.out⟩
    · rw [if_neg h1']
      have Fin := Lib.hid g2
      have hz : (M.armed - 1 == 0) = false := by rw [beq_eq_false_iff_ne]; omega
      clear h g1 g2 u v h1' c0 c1 c2 c3 c6 h0
      generalize M.acts = ac at *
      generalize M.armed = ar at *
      go_enter Tryz.func53, Tryz.ntmps53
      go_wp2_with fail
      go_ret
      exact ⟨rfl, Fin.out⟩
  · rw [if_neg hp]
    have Fin := Lib.hid g1
    clear h g1 u v c0 c1 c2 c3 c6 h0
    generalize M.acts = ac at *
    generalize M.armed = ar at *
    go_enter Tryz.func53, Tryz.ntmps53
    go_wp2_with fail
    go_ret
    exact ⟨rfl, Fin.out⟩

def newM (n : Int) : PM := ⟨min (max n 1) 16384, [], [], false, 0, 0, 0⟩
theorem plate_new (F : Heaplet) (n : Int) (w : World) (hs : Sat w F) :
    Calls Tryz.prog 6 #[.int .i64 n] w fun e w' => ∃ b, e = .returned (.pointer (some ⟨b, 0, none⟩)) ∧ PlateIs b (newM n) F w' := by
  have hm : MapOk (.int .i64) kI kS #[] 0 ([] : List (Int × ByteArray)) := mapOk_new kI_key kI_inj
  have hmm := @run_makeMap Tryz.prog
  have fin : ∀ c : Int, c = min (max n 1) 16384 → PlateIs (w.heap.size + 1) (newM n) F ((w.alloc (.map #[] 0)).alloc (.cells #[.int .i64 c, .map (some w.heap.size), .slice none 0 0, .bool false, .int .i64 0, .int .i64 0, .int .i64 0] 63)) := by
    rintro c rfl
    have s1 := (hs.new (.map #[] 0)).new (.cells #[.int .i64 (min (max n 1) 16384), .map (some w.heap.size), .slice none 0 0, .bool false, .int .i64 0, .int .i64 0, .int .i64 0] 63)
    rw [World.size_alloc] at s1
    exact ⟨w.heap.size, #[], 0, .slice none 0 0, [], hm, SliceIs.nil _ _, s1⟩
  have Fin := Lib.hid fin
  clear fin hm hs
  by_cases ha : n < 1
  · go_enter Tryz.func6, Tryz.ntmps6
    go_wp2_with fail
    go_ret
    exact ⟨_, rfl, Fin.out 1 (by omega)⟩
  by_cases hb : 16384 < n
  · go_enter Tryz.func6, Tryz.ntmps6
    go_wp2_with fail
    go_ret
    exact ⟨_, rfl, Fin.out 16384 (by omega)⟩
  go_enter Tryz.func6, Tryz.ntmps6
  go_wp2_with fail
  go_ret
  exact ⟨_, rfl, Fin.out n (by omega)⟩
end Go.Proofs.YtgocmnejlbfplaaGreatDoor
namespace Go.Proofs.YtgocmnejlbfplaaGreatDoor
open Go Go.MapKept Go.RowKit Go.Proofs

theorem infoW : (Tryz.prog.info? 88).map (fun i => (i.zero, i.size, i.bytes)) = some (some (.agg #[.int .i64 0, .string ⟨#[]⟩]), 2, 24) := by kernel_rfl
theorem flatQ_len (q : List (Int × ByteArray)) : (flatQ q).length = q.length * 2 := by
  induction q with
  | nil => rfl
  | cons x r ih => simp [flatQ] at ih ⊢; omega
theorem flatQ_snoc (q : List (Int × ByteArray)) (x : Int × ByteArray) : flatQ (q ++ [x]) = flatQ q ++ [kI x.1, kS x.2] := by simp [flatQ]
/-- A write waits. -/
def pushM (M : PM) (n : Int) (s : ByteArray) : PM := { M with queue := M.queue ++ [(n, s)] }
theorem PlateIs.push {b : Nat} {M : PM} {F : Heaplet} {w : World} {x : Nat} {n : Int} {s : ByteArray} (h : PlateIs b M (.blk x (.cells #[kI n, kS s] 88) :: F) w) (hq : M.queue.length + 1 ≤ 1000000) :
    ∃ qv v' w', w.cell? ⟨b, 2, none⟩ = some qv ∧ (∀ ty, (Builtin.append_ #[61, 61] ty #[qv, .slice (some ⟨x, 0, none⟩) 1 1]).run Tryz.prog w = .ok v' w') ∧
      (∃ u, w'.cell? ⟨b, 2, none⟩ = some u) ∧ w'.frozen? ⟨b, 2, none⟩ = false ∧ PlateIs b (pushM M n s) F (w'.setCell ⟨b, 2, none⟩ v') ∧ (∃ g cap, v' = .slice (some ⟨g, 0, none⟩) (M.queue.length + 1) cap) := by
  obtain ⟨m, es, clk, qv, qh, h1, h2, hs⟩ := h
  obtain ⟨i0, hi, hz, hsize, hby⟩ := info_parts infoW
  have s1 : Sat w (qh ++ (.blk b (plateObj M m qv) :: .blk m (.map es clk) :: .blk x (.cells #[kI n, kS s] 88) :: F)) := by
    refine hs.perm ?_
    have := List.perm_append_comm_assoc (l₁ := [HItem.blk b (plateObj M m qv), .blk m (.map es clk)]) (l₂ := qh) (l₃ := .blk x (.cells #[kI n, kS s] 88) :: F)
    exact this
  have hx : w.heap[x]? = some (.cells #[kI n, kS s] 88) := s1.get (List.mem_append_right _ (.tail _ (.tail _ (.head _))))
  have hnews : ∀ j u, ([kI n, kS s] : List Value)[j]? = some u → w.cell? ((⟨x, 0, none⟩ : Addr).add j) = some u := by
    intro j u hu
    have hadd : (⟨x, 0, none⟩ : Addr).add j = ⟨x, j, none⟩ := by unfold Addr.add; split <;> simp_all
    rw [hadd, cell_of hx]
    match j, hu with
    | 0, hu => simpa using hu
    | 1, hu => simpa using hu
    | j + 2, hu => simp at hu
  have happ := fun ty => sat_append (P := Tryz.prog) (ty := ty) Tryz.underlying61 hi hz hsize hby rfl (by decide) h2 s1 ⟨x, 0, none⟩ 1 1 [kI n, kS s] rfl hnews (by simp [Value.oneCell']) (by decide) (by unfold maxLen; omega) (by omega)
  obtain ⟨v', w', h', hr, hsl, hsat⟩ := happ 0
  have hsat2 : Sat w' (.blk b (plateObj M m qv) :: .blk m (.map es clk) :: (h' ++ F)) := by
    have s2 := hsat.perm (List.perm_append_comm_assoc (l₁ := h') (l₂ := [HItem.blk b (plateObj M m qv), .blk m (.map es clk), .blk x (.cells #[kI n, kS s] 88)]) (l₃ := F))
    exact s2.rot3.tail
  refine ⟨qv, v', w', ?_, fun ty => hr, ⟨qv, ?_⟩, ?_, ⟨m, es, clk, v', h', h1, ?_, ?_⟩, ?_⟩
  · rw [cell_of hs.h0]; rfl
  · rw [cell_of hsat2.h0]; rfl
  · exact unfrozen_of hsat2.h0 2
  · simp only [pushM]
    rw [flatQ_snoc, List.length_append]
    exact hsl
  · exact hsat2.setCell (i := 2) v'
  · rcases hsl.2 with ⟨_, hn, _⟩ | ⟨g, cap, cur, rfl, _⟩
    · omega
    · exact ⟨_, _, rfl⟩
def writeM (M : PM) (n : Int) (s : ByteArray) : Int × PM :=
  if readyM M n ≠ 0 then (readyM M n, M) else if s.size ≠ 256 then (1, M) else actM (pushM M n s)
theorem write_nil (n : Int) (s : ByteArray) (w : World) : Calls Tryz.prog 18 #[.pointer none, .int .i64 n, .string s] w (Ret (.int .i64 2) (Same w)) := by
  have Hr := Lib.hid (ready_nil n w)
  go_enter Tryz.func18, Tryz.ntmps18
  go_wp2_with (go_at_call 52; refine (Hr.out).mono ?_; rintro e w' ⟨rfl, rfl⟩)
  go_ret
  exact ⟨rfl, rfl⟩
set_option maxRecDepth 100000 in
set_option maxHeartbeats 800000 in
theorem write_any (b : Nat) (M : PM) (F : Heaplet) (n : Int) (s : ByteArray) (w : World) (h : PlateIs b M F w) (hq : M.queue.length + 1 ≤ 1000000) (h0 : 0 ≤ M.life ∧ M.life < 9223372036854775807) (h1 : 0 ≤ M.acts ∧ M.acts < 9223372036854775807) (h2 : M.armed ≤ 9223372036854775807) :
    Calls Tryz.prog 18 #[.pointer (some ⟨b, 0, none⟩), .int .i64 n, .string s] w (Ret (.int .i64 (writeM M n s).1) (PlateIs b (writeM M n s).2 F)) := by
  have hr := ready_any b M F n w h
  unfold writeM
  by_cases hz : readyM M n ≠ 0
  · rw [if_pos hz]
    have Hr := Lib.hid hr
    have H := Lib.hid h
    have hb : (readyM M n == 0) = false := by simpa using hz
    have hb2 : (readyM M n != 0) = true := by rw [bne, hb]; rfl
    clear hz h hr h0 h1 h2
    generalize readyM M n = rm at *
    go_enter Tryz.func18, Tryz.ntmps18
    go_wp2_with (go_at_call 52; refine (Hr.out).mono ?_; rintro e w' ⟨rfl, rfl⟩)
    go_ret
    exact ⟨rfl, H.out⟩
  · rw [if_neg hz]
    have hz0 : readyM M n = 0 := by simpa using hz
    rw [hz0] at hr
    have Hr := Lib.hid hr
    by_cases hsz : s.size ≠ 256
    · rw [if_pos hsz]
      have H := Lib.hid h
      have hb : ((s.size : Int) == 256) = false := by rw [beq_eq_false_iff_ne]; omega
      have hb2 : ((s.size : Int) != 256) = true := by rw [bne, hb]; rfl
      clear hz h hr h0 h1 h2 hz0 hsz
      go_enter Tryz.func18, Tryz.ntmps18
      go_wp2_with (go_at_call 52; refine (Hr.out).mono ?_; rintro e w' ⟨rfl, rfl⟩)
      go_ret
      exact ⟨rfl, H.out⟩
    · rw [if_neg hsz]
      have hsz0 : s.size = 256 := by simpa using hsz
      have hb : ((s.size : Int) == 256) = true := by rw [beq_iff_eq]; omega
      have hb2 : ((s.size : Int) != 256) = false := by rw [bne, hb]; rfl
      have hnew := h.new (.cells #[kI n, kS s] 88)
      obtain ⟨qv, v', w', c2, hap, ⟨u, hu⟩, hfz, hfin, ⟨g, cap, rfl⟩⟩ := hnew.push hq
      have c2' : w.cell? ⟨b, 2, none⟩ = some qv := by
        have hlt : b < w.heap.size := by
          obtain ⟨m, es, clk, qv, qh, _, _, hs⟩ := h
          exact (Array.getElem?_eq_some_iff.1 hs.h0).1
        rw [← c2]
        exact (World.cell?_alloc_old w _ ⟨b, 2, none⟩ (Nat.ne_of_lt hlt)).symm
      have Hact := Lib.hid (act_any b _ F _ hfin h0 h1 h2)
      clear hz h hr h0 h1 h2 hz0 hsz hsz0 hnew hfin c2
      go_enter Tryz.func18, Tryz.ntmps18
      go_wp2_with fail
      refine (Hr.out).mono ?_
      rintro e w1 ⟨rfl, rfl⟩
      have Hap := Lib.hid hap
      generalize M.queue.length + 1 = ql at *
      clear hap
      go_wp2_with (at_builtin; refine wpList_append_run rfl _ _ _ _ rfl _ _ _ _ rfl rfl Hap.out ?_)
      refine (Hact.out).mono ?_
      rintro e w2 ⟨rfl, h3⟩
      have Fin := Lib.hid h3
      clear h3
      go_wp2_with fail
      go_ret
      exact ⟨rfl, Fin.out⟩
end Go.Proofs.YtgocmnejlbfplaaGreatDoor
