/- Texts put together: Plate7, Plate8. Conditions: none. -/
import Derived.Test.YtgocmnejlbfplaaGreatDoorTy4
import Derived.Test.YtgocmnejlbfplaaGreatDoorTy14
namespace Go.Proofs.YtgocmnejlbfplaaGreatDoor
open Go Go.MapKept Go.RowKit Go.Proofs Go.Shelf

attribute [local go_sem] Oper.semAt_some

theorem backward_in (F : Fence) (n : Nat) (hF : F.fn 56) (hro : F.round = none) (a : Option Addr) (len cap : Nat) (w : World) :
    CallsIn F n Tryz.prog 56 #[.slice a len cap] w fun e w' => e = .returned (.func (.func 66) #[] #[.pointer (some ⟨w.heap.size, 0, none⟩)]) ∧ w' = w.alloc (.cells #[.slice a len cap] 61) := by
  refine callsIn_of_wp Tryz.func56 rfl hF ?_ hro
  simp only [Tryz.ntmps56, List.size_toArray, List.length_cons, List.length_nil, Nat.reduceAdd, Nat.reduceSub, Array.replicate_succ, Array.replicate_zero, List.push_toArray, List.append_toArray, List.nil_append, List.cons_append]
  gi_wp2
  go_ret
  exact ⟨rfl, rfl⟩
theorem back_stops (F : Fence) (n : Nat) (hF : F.fn 66) (hro : F.round = none) (hn : 1 ≤ n) (Bs cap : Nat) (p : Option Addr) (q : List (Int × ByteArray)) (hq : q.length ≤ 1000000) (w : World) (hb : Bs < w.heap.size)
    (hBs : w.cell? ⟨Bs, 0, none⟩ = some (.slice p q.length cap))
    (hc : ∀ j x, q[j]? = some x → ∃ b, p = some ⟨b, 0, none⟩ ∧ b < w.heap.size ∧ w.cell? ⟨b, j * 2, none⟩ = some (kI x.1) ∧ w.cell? ⟨b, j * 2 + 1, none⟩ = some (kS x.2)) :
    SeqStopsK F n Tryz.prog 66 #[.pointer (some ⟨Bs, 0, none⟩)] (fun x : (Int × ByteArray) × Nat => #[.int .i64 (x.2 : Int), .agg #[kI x.1.1, kS x.1.2]]) (Below w.heap.size) (fun ys => ys = backFrom q 0) (fun pre => pre <+: backFrom q 0) q.length w := fun l J Jx W hW _ _ hY h0 =>
  back1_in F n hF hro hn l Bs w.heap.size cap p q hq J Jx hY W hb ((hW.cell (p := ⟨Bs, 0, none⟩) hb).trans hBs)
    (fun j x hx => by
      obtain ⟨b, e, hbn, h1, h2⟩ := hc j x hx
      exact ⟨b, e, hbn, (hW.cell (p := ⟨b, j * 2, none⟩) hbn).trans h1, (hW.cell (p := ⟨b, j * 2 + 1, none⟩) hbn).trans h2⟩) h0
theorem sat_grown {w w' : World} {H : Heaplet} {row : Option Nat} (s : Sat w H) (hg : w.grownBy w' row) (hr : ∀ r, row = some r → ∀ o, HItem.blk r o ∉ H) : Sat w' H := by
  refine ⟨fun x hx => ?_, s.2⟩
  have h := s.1 x hx
  cases x with
  | blk b o =>
    have hlt : b < w.heap.size := (Array.getElem?_eq_some_iff.1 h).1
    exact (hg.block b hlt (fun e => hr b e.symm o hx)).trans h
  | env w0 => exact ⟨hg.os.trans h.1, hg.tape.trans h.2.1, hg.output.trans h.2.2⟩
theorem Sat.mono {w w' : World} {H : Heaplet} (s : Sat w H) (hb : Below w.heap.size w w') : Sat w' H := by
  refine ⟨fun x hx => ?_, s.2⟩
  have h := s.1 x hx
  cases x with
  | blk b o => exact (hb.block b (Array.getElem?_eq_some_iff.1 h).1).trans h
  | env w0 => exact ⟨hb.os.trans h.1, hb.tape.trans h.2.1, hb.output.trans h.2.2⟩
/-- Every block of it lies below B. -/
def Under (B : Nat) (H : Heaplet) : Prop := ∀ b o, HItem.blk b o ∈ H → b < B
theorem Sat.under {w : World} {H : Heaplet} (s : Sat w H) : Under w.heap.size H := fun _ _ h => (Array.getElem?_eq_some_iff.1 (s.1 _ h)).1
theorem Sat.ownGrown {B : Nat} {w w' : World} {H : Heaplet} {row : Option Nat} (s : Sat w H) (hu : Under B H) (hg : w.grownBy w' row) (hr : ∀ r, row = some r → B ≤ r ∧ ∃ o : Obj, w.heap[r]? = some o ∧ o.isCells = false) : Sat w' H :=
  sat_grown s hg (fun r e o ho => by have h1 := (hr r e).1; have h2 := hu r o ho; omega)
/-- The last write that waits for this sector. -/
def lastM (n : Int) (q : List (Int × ByteArray)) : Option ByteArray := (q.reverse.find? (fun x => x.1 == n)).map (·.2)
def zeros256 : ByteArray := ⟨(List.replicate 256 (0 : UInt8)).toArray⟩
def readM (M : PM) (n : Int) : ByteArray × Int :=
  if readyM M n ≠ 0 then (⟨#[]⟩, readyM M n) else match lastM n M.queue with
  | some s => (s, 0)
  | none => match getL n M.secs with
    | none => (zeros256, 0)
    | some s => if s.size = 0 then (⟨#[]⟩, 20) else (s, 0)
theorem zeroS (w : World) : (zeroValue 9).run Tryz.prog w = .ok (.string ⟨#[]⟩) w := by kernel_rfl
/-- Between two rounds: nothing of what came is this sector's. -/
def ReadI (n : Int) (B : Nat) (H : Heaplet) (pre : List ((Int × ByteArray) × Nat)) (W : World) : Prop := (∀ y ∈ pre, y.1.1 ≠ n) ∧ B ≤ W.heap.size ∧ Sat W H
/-- The last that came is this sector's: it is what is read. -/
def ReadX (n : Int) (H : ByteArray → Heaplet) (c : Code) (pre : List ((Int × ByteArray) × Nat)) (W : World) : Prop :=
  c = .ret ∧ ∃ pre' y, pre = pre' ++ [y] ∧ y.1.1 = n ∧ (∀ z ∈ pre', z.1.1 ≠ n) ∧ Sat W (H y.1.2)
theorem readI_snoc {n : Int} {B : Nat} {H : Heaplet} {pre : List ((Int × ByteArray) × Nat)} {W : World} (h : ReadI n B H pre W) {y : (Int × ByteArray) × Nat} (hy : ¬ y.1.1 = n) : ReadI n B H (pre ++ [y]) W :=
  ⟨fun z hz => by
    rcases List.mem_append.1 hz with hz | hz
    · exact h.1 z hz
    · obtain rfl : z = y := by simpa using hz
      exact hy, h.2⟩
theorem backFrom_fst {α : Type} (q : List α) : (backFrom q 0).map (·.1) = q.reverse := by
  unfold backFrom
  rw [List.drop_zero, List.map_reverse]
  congr 1
  exact List.zipIdx_map_fst 0 q
theorem lastM_none {n : Int} {q : List (Int × ByteArray)} (h : ∀ y ∈ backFrom q 0, y.1.1 ≠ n) : lastM n q = none := by
  unfold lastM
  rw [← backFrom_fst q, List.find?_map, Option.map_map]
  have : (backFrom q 0).find? ((fun x : Int × ByteArray => x.1 == n) ∘ fun x => x.1) = none := by
    rw [List.find?_eq_none]
    intro y hy
    simpa using h y hy
  rw [this]; rfl
theorem lastM_some {n : Int} {q : List (Int × ByteArray)} {pre : List ((Int × ByteArray) × Nat)} {y : (Int × ByteArray) × Nat} (hp : pre ++ [y] <+: backFrom q 0) (hy : y.1.1 = n) (h : ∀ z ∈ pre, z.1.1 ≠ n) : lastM n q = some y.1.2 := by
  unfold lastM
  obtain ⟨r, hr⟩ := hp
  rw [← backFrom_fst q, ← hr, List.find?_map, Option.map_map, List.append_assoc, List.find?_append]
  have : pre.find? ((fun x : Int × ByteArray => x.1 == n) ∘ fun x => x.1) = none := by
    rw [List.find?_eq_none]
    intro z hz
    simpa using h z hz
  rw [this]
  simp [hy]
set_option maxRecDepth 100000 in
set_option maxHeartbeats 2000000 in
theorem read_wide (b : Nat) (M : PM) (F : Heaplet) (n : Int) (w : World) (h : PlateIs b M F w) (hz : readyM M n = 0) (hq : M.queue.length ≤ 1000000) :
    Calls Tryz.prog 27 #[.pointer (some ⟨b, 0, none⟩), .int .i64 n] w (Ret (.tuple #[.string (readM M n).1, .int .i64 (readM M n).2]) (PlateIs b M F)) := by
  obtain ⟨m, qv, qh, hv⟩ := h.v
  obtain ⟨p, cap, rfl, hel⟩ := hv.slice
  have h1 := ((hv.new (.cells #[kI n] 3)).new (.cells #[.string ⟨#[]⟩] 9)).new (.cells #[.int .i64 0] 30)
  simp only [World.size_alloc] at h1
  have hr := ready_any b M _ n _ h1.is
  rw [hz] at hr
  have Hr := Lib.hid hr
  obtain ⟨h2, es, clk, hm, hs⟩ := h1
  refine (callsIn_wide (n := 9)).1 ?_
  refine callsIn_of_wp_marks Tryz.func27 rfl trivial ?_ rfl
  simp only [Tryz.ntmps27, List.size_toArray, List.length_cons, List.length_nil, Nat.reduceAdd, Nat.reduceSub, Array.replicate_succ, Array.replicate_zero, List.push_toArray, List.append_toArray, List.nil_append, List.cons_append]
  gi_wp2_with fail
  refine ⟨trivial, ?_⟩
  refine (callsIn_wide.2 Hr.out).mono ?_
  rintro e w1 ⟨rfl, rfl⟩
  generalize hW1 : World.alloc _ (.cells #[.int .i64 0] 30) = W1 at *
  have c0 : W1.cell? ⟨b, 2, none⟩ = some (.slice p M.queue.length cap) := by rw [cell_of hs.h0]; rfl
  gi_wp2_with fail
  refine ⟨trivial, ?_⟩
  refine (backward_in Fence.wide _ trivial rfl p M.queue.length cap W1).mono ?_
  rintro e w2 ⟨rfl, rfl⟩
  gi_wp2_with fail
  have hs1 := hs.perm (List.perm_append_comm_assoc (l₁ := [HItem.blk b (plateObj M m (Value.slice p M.queue.length cap)), .blk m (.map es clk)] ++ qh) (l₂ := [HItem.blk (w.heap.size + 1 + 1) (.cells #[.int .i64 0] 30), .blk (w.heap.size + 1) (.cells #[.string ⟨#[]⟩] 9), .blk w.heap.size (.cells #[kI n] 3)]) (l₃ := F))
  generalize hk : w.heap.size = k at *
  obtain ⟨R, hR⟩ : ∃ R, ([HItem.blk b (plateObj M m (Value.slice p M.queue.length cap)), .blk m (.map es clk)] ++ qh ++ F) = R := ⟨_, rfl⟩
  rw [hR] at hs1
  have hfinR : ∀ W, Sat W R → PlateIs b M F W := fun W hW => ⟨m, es, clk, _, qh, hm, h2, by rw [← hR] at hW; simpa using hW⟩
  obtain ⟨H, hH⟩ : ∃ H : ByteArray → Int → Heaplet, H = fun s e => .blk (k + 1 + 1) (.cells #[.int .i64 e] 30) :: .blk (k + 1) (.cells #[.string s] 9) :: .blk k (.cells #[kI n] 3) :: R := ⟨_, rfl⟩
  have hs2 : Sat W1 (H ⟨#[]⟩ 0) := by rw [hH]; exact hs1
  have hs3 := hs2.new (.cells #[.slice p M.queue.length cap] 61)
  have hbox : (W1.alloc (.cells #[.slice p M.queue.length cap] 61)).cell? ⟨W1.heap.size, 0, none⟩ = some (.slice p M.queue.length cap) := by rw [cell_of hs3.h0]; rfl
  have hcs : ∀ j x, M.queue[j]? = some x → ∃ g, p = some ⟨g, 0, none⟩ ∧ g < (W1.alloc (.cells #[.slice p M.queue.length cap] 61)).heap.size ∧ (W1.alloc (.cells #[.slice p M.queue.length cap] 61)).cell? ⟨g, j * 2, none⟩ = some (kI x.1) ∧ (W1.alloc (.cells #[.slice p M.queue.length cap] 61)).cell? ⟨g, j * 2 + 1, none⟩ = some (kS x.2) := by
    intro j x hx
    obtain ⟨g, e, hg⟩ := hel j x hx
    have hp : PlateV b M m (.slice p M.queue.length cap) qh F (W1.alloc (.cells #[.slice p M.queue.length cap] 61)) := ⟨h2, es, clk, hm, by
      have := hs3.tail
      rw [hH] at this
      have := this.tail.tail.tail
      rw [← hR] at this
      simpa using this⟩
    obtain ⟨g0, g1⟩ := hg hp
    exact ⟨g, e, World.block_lt_of_cell? _ ⟨g, j * 2, none⟩ g0, g0, g1⟩
  have hbx : W1.heap.size < (W1.alloc (.cells #[.slice p M.queue.length cap] 61)).heap.size := by simp
  have hs4 := hs3.tail
  generalize W1.alloc (.cells #[.slice p M.queue.length cap] 61) = W2 at *
  have hu : ∀ s e, Under W2.heap.size (H s e) := by
    intro s e
    have := Sat.under hs4
    rw [hH] at this ⊢
    intro c o ho
    simp only [List.mem_cons, HItem.blk.injEq] at ho
    rcases ho with ⟨rfl, _⟩ | ⟨rfl, _⟩ | ⟨rfl, _⟩ | ho
    · exact this _ _ (.head _)
    · exact this _ _ (.tail _ (.head _))
    · exact this _ _ (.tail _ (.tail _ (.head _)))
    · exact this _ _ (.tail _ (.tail _ (.tail _ ho)))
  refine wpIn_rangeFunc_ownH (F := Fence.wide) rfl (by omega) (gf := 66) (lb := #[.pointer (some ⟨W1.heap.size, 0, none⟩)]) rfl trivial (enters_of Tryz.func66 (by kernel_rfl) rfl)
    (back_stops Fence.wide _ trivial rfl (by omega) W1.heap.size cap p M.queue hq W2 hbx hbox hcs) belowK_t (belowK_b (Nat.le_refl _)) (Below.refl _ _) (fun _ => rfl)
    (ReadI n W2.heap.size (H ⟨#[]⟩ 0))
    (ReadX n (fun s => H s 0))
    (fun s W W' row hI hg hr => ⟨hI.1, Nat.le_trans hI.2.1 hg.size, hI.2.2.ownGrown (hu _ _) hg hr⟩)
    (fun c s W W' row hI hg hr => by
      obtain ⟨e1, pre', y, e2, e3, e4, e5⟩ := hI
      exact ⟨e1, pre', y, e2, e3, e4, e5.ownGrown (hu _ _) hg hr⟩)
    ⟨by simp, Nat.le_refl _, hs4⟩
    (fun x a' W => ∃ Bx, W2.heap.size ≤ Bx ∧ W.heap[Bx]? = some (.cells #[kI x.1.1, kS x.1.2] 88) ∧ a' = { tmps := #[Value.pointer (some { block := b, off := 0 }), Value.int IntKind.i64 n, undef, Value.pointer (some { block := k, off := 0 }), Value.pointer (some { block := k + 1, off := 0 }), Value.pointer (some { block := k + 1 + 1, off := 0 }), Value.int IntKind.i64 0, undef, .pointer (some ⟨Bx, 0, none⟩), undef, undef, Value.pointer (some { block := b, off := 0 }), Value.int IntKind.i64 n, Value.int IntKind.i64 0, Value.int IntKind.i64 0, Value.bool false, undef, Value.pointer (some { block := b, off := 0 }), Value.pointer (some { block := b, off := 0 }), Value.pointer (some { block := b, off := 2 }), Value.slice p M.queue.length cap, Value.func (Fn.func 66) #[] #[Value.pointer (some { block := W1.heap.size, off := 0 })], .int .i64 (x.2 : Int), .agg #[kI x.1.1, kS x.1.2], undef, undef, undef, undef, undef, undef, undef, undef, undef, undef, undef, undef, undef, undef, undef, undef, undef, undef, undef, undef, undef, undef, undef], defers := [] })
    (fun x a' s W W' row hI hg hr => by
      obtain ⟨Bx, e1, e2, e3⟩ := hI
      refine ⟨Bx, e1, (hg.block Bx (Array.getElem?_eq_some_iff.1 e2).1 (fun e => ?_)).trans e2, e3⟩
      obtain ⟨o, h1, h2⟩ := (hr Bx e.symm).2
      rw [e2] at h1; cases h1; cases h2) ?assign ?body ?done ?stop
  case assign =>
    rintro l pre x W K ⟨hp, hsz, hsW⟩ hK
    gi_wp2
    refine hK _ _ ((KeepsOthers.alloc _ _).from _) ((Below.refl _ W).alloc hsz _) ⟨hp, ?_, (hsW.new _).tail⟩ ⟨W.heap.size, hsz, World.alloc_heap_new _ _, rfl⟩
    simp; omega
  case body =>
    rintro l pre x a' W hl ⟨r, hr⟩ ⟨hp, hsz, hsW⟩ ⟨Bx, hBx, hcx, rfl⟩ hlt
    have b0 : W.cell? ⟨Bx, 0, none⟩ = some (kI x.1.1) := by rw [cell_of hcx]; rfl
    have b1 : W.cell? ⟨Bx, 1, none⟩ = some (kS x.1.2) := by rw [cell_of hcx]; rfl
    have hsW' := hsW
    rw [hH] at hsW'
    have n0 : W.cell? ⟨k, 0, none⟩ = some (kI n) := by rw [cell_of hsW'.h2]; rfl
    have r0 : W.cell? ⟨k + 1, 0, none⟩ = some (kS ⟨#[]⟩) := by rw [cell_of hsW'.h1]; rfl
    have v0 : W.frozen? ⟨k + 1, 0, none⟩ = false := unfrozen_of hsW'.h1 0
    have e0 : W.cell? ⟨k + 1 + 1, 0, none⟩ = some (kI 0) := by rw [cell_of hsW'.h0]; rfl
    have w0 : W.frozen? ⟨k + 1 + 1, 0, none⟩ = false := unfrozen_of hsW'.h0 0
    have HH := Lib.hid hH
    clear hH
    by_cases hx : x.1.1 = n
    · have fin : Sat ((W.setCell ⟨k + 1, 0, none⟩ (kS x.1.2)).setCell ⟨k + 1 + 1, 0, none⟩ (kI 0)) (H x.1.2 0) := by
        rw [HH.out]
        exact ((hsW'.swap.setCell (i := 0) (kS x.1.2)).swap.setCell (i := 0) (kI 0))
      have Fin := Lib.hid fin
      clear fin hsW' hsW
      gi_wp2
      exact ⟨((KeepsOthers.setCell _ _ _).trans (KeepsOthers.setCell _ _ _)).from _, rfl, pre, x, rfl, hx, hp, Fin.out⟩
    · have hx2 : (x.1.1 == n) = false := by simpa using hx
      have HI : Hid (ReadI n W2.heap.size (H ⟨#[]⟩ 0) (pre ++ [x]) W) := Lib.hid (readI_snoc ⟨hp, hsz, hsW⟩ hx)
      clear hsW hsW' hp
      gi_wp2
      exact ⟨KeepsFrom.refl _ _, Below.refl _ _, HI.out⟩
  case stop =>
    rintro D c pre W hD hS ⟨rfl, pre', y, rfl, hy, hp, hsW⟩ hKD
    have hlast := lastM_some hS hy hp
    have hm1 : readM M n = (y.1.2, 0) := by
      unfold readM
      simp [hz, hlast]
    rw [hm1]
    have hsW' : Sat (W.putObj D (.deferred none)) (H y.1.2 0) := hsW.ownGrown (hu _ _) (grownBy_putObj' W D (.deferred none)) (fun r e => by cases e; exact ⟨hD, _, hKD, rfl⟩)
    rw [hH] at hsW'
    have r0 : (W.putObj D (.deferred none)).cell? ⟨k + 1, 0, none⟩ = some (kS y.1.2) := by rw [cell_of hsW'.h1]; rfl
    have e0 : (W.putObj D (.deferred none)).cell? ⟨k + 1 + 1, 0, none⟩ = some (kI 0) := by rw [cell_of hsW'.h0]; rfl
    have hR := hfinR _ hsW'.tail.tail.tail
    have HR := Lib.hid hR
    clear hsW hsW' hR hH hS hp hy hlast hm1
    gi_wp2
    refine ⟨by simp, .inl ⟨_, _, rfl, run_takeDeferred hKD, ?_⟩⟩
    refine ⟨_, ?_, rfl, HR.out⟩
    simp [results, Tryz.f27, go_sem, r0, e0]
  case done =>
    rintro D ys W hD rfl ⟨hp, hsz, hsW⟩ hKD
    have hlast := lastM_none hp
    rw [hH] at hsW
    obtain ⟨h2', es', clk', hm', hsp⟩ : PlateV b M m (.slice p M.queue.length cap) qh F W := ⟨h2, es, clk, hm, by
      have := hsW.tail.tail.tail
      rw [← hR] at this
      simpa using this⟩
    have n0 : W.cell? ⟨k, 0, none⟩ = some (kI n) := by rw [cell_of hsW.h2]; rfl
    have v0 : W.frozen? ⟨k + 1, 0, none⟩ = false := unfrozen_of hsW.h1 0
    have w0 : W.frozen? ⟨k + 1 + 1, 0, none⟩ = false := unfrozen_of hsW.h0 0
    have r0 : W.cell? ⟨k + 1, 0, none⟩ = some (kS ⟨#[]⟩) := by rw [cell_of hsW.h1]; rfl
    have e0 : W.cell? ⟨k + 1 + 1, 0, none⟩ = some (kI 0) := by rw [cell_of hsW.h0]; rfl
    have hl := fun nq => run_lookup2_ok (P := Tryz.prog) (t := 60) (kt := 3) (et := 9) (z := .string ⟨#[]⟩) Tryz.underlying60 Tryz.underlying3 (zeroS _) (w := W.drewN nq) (by rw [World.heap_drewN]; exact hsp.h1) hm' n
    have s1 : W.cell? ⟨b, 1, none⟩ = some (.map (some m)) := by rw [cell_of hsp.h0]; rfl
    have hKq : ∀ nq, (W.drewN nq).heap[D]? = some (.deferred (some [])) := fun nq => hKD
    have hsq : ∀ nq, Sat (W.drewN nq) (H ⟨#[]⟩ 0) := fun nq => by rw [hH]; exact hsW.of_heap rfl ⟨rfl, rfl, rfl⟩
    have hDq : ∀ nq, W2.heap.size ≤ (W.drewN nq).heap.size := fun nq => hsz
    have HSQ := Lib.hid hsq
    have HKQ := Lib.hid hKq
    have HDQ := Lib.hid hDq
    have HH := Lib.hid hH
    clear hsW hsp hH hR hp hKD hKq hsq hDq
    have hgo : ∀ (W3 : World) (s : ByteArray) (e : Int), readM M n = (s, e) → Sat W3 (H s e) → W3.heap[D]? = some (.deferred (some [])) →
        (W3.putObj D (.deferred none)).cell? ⟨k + 1, 0, none⟩ = some (kS s) ∧ (W3.putObj D (.deferred none)).cell? ⟨k + 1 + 1, 0, none⟩ = some (kI e) ∧ PlateIs b M F (W3.putObj D (.deferred none)) := by
      intro W3 s e hm3 hs3 hK3
      have hsW' : Sat (W3.putObj D (.deferred none)) (H s e) := hs3.ownGrown (hu _ _) (grownBy_putObj' W3 D (.deferred none)) (fun r e => by cases e; exact ⟨hD, _, hK3, rfl⟩)
      rw [HH.out] at hsW'
      exact ⟨by rw [cell_of hsW'.h1]; rfl, by rw [cell_of hsW'.h0]; rfl, hfinR _ hsW'.tail.tail.tail⟩
    have HGO := Lib.hid hgo
    have hset : ∀ (W3 : World) (s : ByteArray) (e : Int), Sat W3 (H ⟨#[]⟩ 0) → Sat ((W3.setCell ⟨k + 1, 0, none⟩ (kS s)).setCell ⟨k + 1 + 1, 0, none⟩ (kI e)) (H s e) := by
      intro W3 s e hs3
      rw [HH.out] at hs3 ⊢
      exact ((hs3.swap.setCell (i := 0) (kS s)).swap.setCell (i := 0) (kI e))
    have hdef : ∀ (W3 : World) (s : ByteArray) (e : Int), W3.heap[D]? = some (.deferred (some [])) → ((W3.setCell ⟨k + 1, 0, none⟩ (kS s)).setCell ⟨k + 1 + 1, 0, none⟩ (kI e)).heap[D]? = some (.deferred (some [])) :=
      fun W3 s e h3 => ((KeepsOthers.setCell _ _ _).trans (KeepsOthers.setCell _ _ _)).same D _ h3 rfl
    have HSET := Lib.hid hset
    have HDEF := Lib.hid hdef
    have hcells : ∀ W3 : World, Sat W3 (H ⟨#[]⟩ 0) → W3.frozen? ⟨k + 1, 0, none⟩ = false ∧ W3.frozen? ⟨k + 1 + 1, 0, none⟩ = false ∧ W3.cell? ⟨k + 1, 0, none⟩ = some (kS ⟨#[]⟩) ∧ W3.cell? ⟨k + 1 + 1, 0, none⟩ = some (kI 0) := by
      intro W3 hs3
      rw [HH.out] at hs3
      exact ⟨unfrozen_of hs3.h1 0, unfrozen_of hs3.h0 0, by rw [cell_of hs3.h1]; rfl, by rw [cell_of hs3.h0]; rfl⟩
    have HCELLS := Lib.hid hcells
    clear hset hgo hdef hcells
    cases hg : getL n M.secs with
    | none =>
      have hm1 : readM M n = (zeros256, 0) := by
        unfold readM
        simp [hz, hlast, hg]
      rw [hg] at hl
      simp only [Option.map_none, Option.getD_none, Option.isSome_none] at hl
      have HM := Lib.hid hm1
      clear hm1 hg hlast
      gi_wp2_with fail
      refine wpIn_wide.2 ?_
      go_quiet (fail)
      have hs5 := HSQ.out nq
      have hk5 := HKQ.out nq
      generalize World.drewN W nq = W5 at *
      clear hl
      gi_wp2_with fail
      refine ⟨trivial, ?_⟩
      refine (callsIn_wide.2 (Any.strings_Repeat_main Tryz.lays105 Tryz.Builder_Extra_105 ⟨#[0]⟩ 256 W5 (by omega) (by omega) (by decide) (by decide))).mono ?_
      rintro e W6 ⟨rfl, hb6⟩
      have hs6 := hs5.mono hb6
      have hk6 := (hb6.block D (Array.getElem?_eq_some_iff.1 hk5).1).trans hk5
      obtain ⟨v0, w0, r0, e0⟩ := HCELLS.out W6 hs6
      have ez : (⟨(Lib.repeatL (⟨#[0]⟩ : ByteArray).data.toList 256).toArray⟩ : ByteArray) = zeros256 := by decide +kernel
      rw [ez]
      have hs7 := HSET.out W6 zeros256 0 hs6
      have hk7 := HDEF.out W6 zeros256 0 hk6
      obtain ⟨c0, c1, hp7⟩ := HGO.out _ _ _ HM.out hs7 hk7
      have HK7 := Lib.hid hk7
      have HP7 := Lib.hid hp7
      have HS6 := Lib.hid hs6
      clear hs7 hk7 hp7 hs6 hk6 hs5 hk5 hb6 ez
      gi_wp2_with fail
      refine ⟨by simp, .inl ⟨_, _, rfl, run_takeDeferred HK7.out, ?_⟩⟩
      refine ⟨_, ?_, rfl, HP7.out⟩
      simp [results, Tryz.f27, go_sem, c0, c1, HM.out]
    | some s =>
      rw [hg] at hl
      simp only [Option.map_some, Option.getD_some, Option.isSome_some] at hl
      by_cases h0 : s.size = 0
      · have hm1 : readM M n = (⟨#[]⟩, 20) := by
          unfold readM
          simp [hz, hlast, hg, h0]
        have HM := Lib.hid hm1
        have hs0 : s = ⟨#[]⟩ := by
          obtain ⟨d⟩ := s
          have : d = #[] := Array.eq_empty_of_size_eq_zero h0
          rw [this]
        subst hs0
        clear hm1 hg hlast h0
        gi_wp2_with fail
        refine wpIn_wide.2 ?_
        go_quiet (fail)
        have hs5 := HSQ.out nq
        have hk5 := HKQ.out nq
        generalize World.drewN W nq = W5 at *
        clear hl
        obtain ⟨v0, w0, r0, e0⟩ := HCELLS.out W5 hs5
        have hs7 := HSET.out W5 ⟨#[]⟩ 20 hs5
        have hk7 := HDEF.out W5 ⟨#[]⟩ 20 hk5
        obtain ⟨c0, c1, hp7⟩ := HGO.out _ _ _ HM.out hs7 hk7
        have HK7 := Lib.hid hk7
        have HP7 := Lib.hid hp7
        have HS6 := Lib.hid hs5
        clear hs7 hk7 hp7 hs5 hk5
        gi_wp2_with fail
        refine ⟨by simp, .inl ⟨_, _, rfl, run_takeDeferred HK7.out, ?_⟩⟩
        refine ⟨_, ?_, rfl, HP7.out⟩
        simp [results, Tryz.f27, go_sem, c0, c1, HM.out]
      · have hm1 : readM M n = (s, 0) := by
          unfold readM
          simp [hz, hlast, hg, h0]
        have HM := Lib.hid hm1
        have hq1 : s.toList.isEmpty = false := by
          rw [ByteArray.toList_eq]
          cases hl : s.data.toList with
          | nil =>
            exfalso
            have h1 := congrArg List.length hl
            rw [Array.length_toList] at h1
            exact h0 h1
          | cons _ _ => rfl
        clear hm1 hg hlast h0
        gi_wp2_with fail
        refine wpIn_wide.2 ?_
        go_quiet (fail)
        have hs5 := HSQ.out nq
        have hk5 := HKQ.out nq
        generalize World.drewN W nq = W5 at *
        clear hl
        obtain ⟨v0, w0, r0, e0⟩ := HCELLS.out W5 hs5
        have hs7 := HSET.out W5 s 0 hs5
        have hk7 := HDEF.out W5 s 0 hk5
        obtain ⟨c0, c1, hp7⟩ := HGO.out _ _ _ HM.out hs7 hk7
        have HK7 := Lib.hid hk7
        have HP7 := Lib.hid hp7
        have HS6 := Lib.hid hs5
        clear hs7 hk7 hp7 hs5 hk5
        gi_wp2_with fail
        refine ⟨by simp, .inl ⟨_, _, rfl, run_takeDeferred HK7.out, ?_⟩⟩
        refine ⟨_, ?_, rfl, HP7.out⟩
        simp [results, Tryz.f27, go_sem, c0, c1, HM.out]
end Go.Proofs.YtgocmnejlbfplaaGreatDoor
namespace Go.Proofs.YtgocmnejlbfplaaGreatDoor
open Go Go.MapKept Go.RowKit Go.Proofs

theorem PlateIs.permF {b : Nat} {M : PM} {F F' : Heaplet} {w : World} (h : PlateIs b M F w) (p : F.Perm F') : PlateIs b M F' w := by
  obtain ⟨m, es, clk, qv, qh, h1, h2, hs⟩ := h
  exact ⟨m, es, clk, qv, qh, h1, h2, hs.perm (((p.append_left qh).cons _).cons _)⟩
theorem PlateIs.setF {b g i : Nat} {M : PM} {F : Heaplet} {w : World} {c : Array Value} {t : TypeId} {z : Nat × Nat} (h : PlateIs b M (.blk g (.cells c t z) :: F) w) (v : Value) :
    PlateIs b M (.blk g (.cells (c.setIfInBounds i v) t z) :: F) (w.setCell ⟨g, i, none⟩ v) := by
  obtain ⟨m, es, clk, qv, qh, h1, h2, hs⟩ := h
  have s1 := (hs.perm (List.perm_middle (l₁ := HItem.blk b _ :: .blk m _ :: qh))).setCell (i := i) v
  exact ⟨m, es, clk, qv, qh, h1, h2, s1.perm (List.perm_middle (l₁ := HItem.blk b _ :: .blk m _ :: qh)).symm⟩
set_option maxRecDepth 100000 in
set_option maxHeartbeats 800000 in
theorem read_bad (b : Nat) (M : PM) (F : Heaplet) (n : Int) (w : World) (h : PlateIs b M F w) (hz : readyM M n ≠ 0) :
    Calls Tryz.prog 27 #[.pointer (some ⟨b, 0, none⟩), .int .i64 n] w (Ret (.tuple #[.string (readM M n).1, .int .i64 (readM M n).2]) (PlateIs b M F)) := by
  have h1 := ((h.new (.cells #[kI n] 3)).new (.cells #[.string ⟨#[]⟩] 9)).new (.cells #[.int .i64 0] 30)
  simp only [World.size_alloc] at h1
  have hr := ready_any b M _ n _ h1
  have e : readM M n = (⟨#[]⟩, readyM M n) := by
    unfold readM
    simp [hz]
  rw [e]
  have Hr := Lib.hid hr
  have hb : (readyM M n == 0) = false := by simpa using hz
  have hb2 : (readyM M n != 0) = true := by rw [bne, hb]; rfl
  have f1 := h1.frame
  have H1 := Lib.hid h1
  clear h h1 hr hz e
  generalize readyM M n = rm at *
  go_enter Tryz.func27, Tryz.ntmps27
  go_wp2_with fail
  refine (Hr.out).mono ?_
  rintro e w1 ⟨rfl, rfl⟩
  generalize hW1 : World.alloc _ (.cells #[.int .i64 0] 30) = W1 at *
  generalize w.heap.size = k at *
  have r0 : W1.cell? ⟨k + 1, 0, none⟩ = some (kS ⟨#[]⟩) := by rw [cell_of f1.h1]; rfl
  have v0 : W1.frozen? ⟨k + 1, 0, none⟩ = false := unfrozen_of f1.h1 0
  have e0 : W1.cell? ⟨k + 1 + 1, 0, none⟩ = some (kI 0) := by rw [cell_of f1.h0]; rfl
  have w0 : W1.frozen? ⟨k + 1 + 1, 0, none⟩ = false := unfrozen_of f1.h0 0
  have hfin : PlateIs b M F ((W1.setCell ⟨k + 1, 0, none⟩ (kS ⟨#[]⟩)).setCell ⟨k + 1 + 1, 0, none⟩ (kI rm)) := ((((H1.out.permF (List.Perm.swap _ _ _)).setF (i := 0) (kS ⟨#[]⟩)).permF (List.Perm.swap _ _ _)).setF (i := 0) (kI rm)).unF.unF.unF
  have Fin := Lib.hid hfin
  clear hW1 f1 hfin
  go_wp2_with fail
  refine bodyPost_ret (v := .tuple #[.string ⟨#[]⟩, .int .i64 rm]) ?_ rfl ⟨rfl, Fin.out⟩
  simp [results, Tryz.f27, go_sem, r0, e0]
set_option maxRecDepth 100000 in
set_option maxHeartbeats 800000 in
theorem read_nil (n : Int) (w : World) : Calls Tryz.prog 27 #[.pointer none, .int .i64 n] w (fun e w' => e = .returned (.tuple #[.string ⟨#[]⟩, .int .i64 2]) ∧ Below w.heap.size w w') := by
  have Hr := fun w => Lib.hid (ready_nil n w)
  go_enter Tryz.func27, Tryz.ntmps27
  go_wp2_with fail
  refine ((Hr _).out).mono ?_
  rintro e w1 ⟨rfl, rfl⟩
  go_wp2_with fail
  refine bodyPost_ret (v := .tuple #[.string ⟨#[]⟩, .int .i64 2]) ?_ rfl ⟨rfl, ?_⟩
  · simp [results, Tryz.f27, go_sem]
  · exact (((Below.refl _ w).alloc (Nat.le_refl _) _).alloc (by simp) _).alloc (by simp; omega) _
theorem PlateIs.mono {b : Nat} {M : PM} {F : Heaplet} {w w' : World} (h : PlateIs b M F w) (hb : Below w.heap.size w w') : PlateIs b M F w' := by
  obtain ⟨m, es, clk, qv, qh, h1, h2, hs⟩ := h
  exact ⟨m, es, clk, qv, qh, h1, h2, hs.mono hb⟩
theorem read_any (b : Nat) (M : PM) (F : Heaplet) (n : Int) (w : World) (h : PlateIs b M F w) (hq : M.queue.length ≤ 1000000) :
    Calls Tryz.prog 27 #[.pointer (some ⟨b, 0, none⟩), .int .i64 n] w (Ret (.tuple #[.string (readM M n).1, .int .i64 (readM M n).2]) (PlateIs b M F)) := by
  by_cases hz : readyM M n = 0
  · exact read_wide b M F n w h hz hq
  · exact read_bad b M F n w h hz
end Go.Proofs.YtgocmnejlbfplaaGreatDoor
