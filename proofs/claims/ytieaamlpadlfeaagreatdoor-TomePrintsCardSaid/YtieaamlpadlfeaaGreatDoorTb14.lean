/- A script's steps in memory. Conditions: none. -/
import Derived.Test.YtieaamlpadlfeaaGreatDoorRest
import Derived.Test.YtieaamlpadlfeaaGreatDoorTb13
namespace Go.Proofs.YtieaamlpadlfeaaGreatDoor
open Go Go.MapKept Go.RowKit Go.Proofs Go.Shelf

attribute [local go_sem] Oper.semAt_some

/-- A step's nine cells, its fates' slice named. -/
def fT (x : Value × StepM) : List Value := [kI x.2.kind, kI x.2.client, .bool x.2.up, kI x.2.n, x.1, kI x.2.call.kind, kI x.2.call.page, kI x.2.call.slot, kL x.2.call.data]
theorem infoT : (Tryz.prog.info? 26).map (fun i => (i.zero, i.size, i.bytes)) = some (some (.agg #[kI 0, kI 0, .bool false, kI 0, .slice none 0 0, kI 0, kI 0, kI 0, kL []]), 9, 96) := by kernel_rfl
/-- Where F holds, these steps lie there. -/
def StAt (F : Heaplet) (v : Value) (L : List StepM) : Prop := ∃ a cap, v = .slice a L.length cap ∧ ∀ (i : Nat) x, L[i]? = some x → ∃ g off fv, a = some ⟨g, off, none⟩ ∧ FtAt F fv x.fates ∧ ∀ w, Sat w F → ∀ j u, (fT (fv, x))[j]? = some u → w.cell? ⟨g, off + i * 9 + j, none⟩ = some u
theorem StAt.mono {F F' : Heaplet} {v : Value} {L : List StepM} (h : StAt F v L) (hF : ∀ w, Sat w F' → Sat w F) : StAt F' v L := by
  obtain ⟨a, cap, e, hu⟩ := h
  refine ⟨a, cap, e, fun i x hi => ?_⟩
  obtain ⟨g, off, fv, e2, h1, h2⟩ := hu i x hi
  exact ⟨g, off, fv, e2, h1.mono hF, fun w hw => h2 w (hF w hw)⟩
theorem StAt.nil (F : Heaplet) (a : Option Addr) (cap : Nat) : StAt F (.slice a 0 cap) [] := ⟨a, cap, rfl, fun i x h => by simp at h⟩
/-- A row of steps of the call's own. -/
def SOwn (v : Value) (rows : List (Value × StepM)) (h hf : Heaplet) : Prop := SliceIs 26 9 v rows.length (rows.flatMap fT) h ∧ (∀ r ∈ rows, FtAt hf r.1 r.2.fates) ∧ CellsOnly hf
theorem SOwn.nil : SOwn (.slice none 0 0) [] [] [] := ⟨SliceIs.nil _ _, (fun r h => by cases h), (fun x h => by cases h)⟩
theorem SOwn.at {v : Value} {rows : List (Value × StepM)} {h hf : Heaplet} (hv : SOwn v rows h hf) : StAt (h ++ hf) v (rows.map (·.2)) := by
  obtain ⟨h1, h2, h3⟩ := hv
  obtain ⟨a, cap, e⟩ := sl_form h1
  refine ⟨a, cap, by rw [List.length_map]; exact e, fun i x hi => ?_⟩
  rw [List.getElem?_map] at hi
  obtain ⟨r, hr, rfl⟩ := Option.map_eq_some_iff.1 hi
  have hil := (List.getElem?_eq_some_iff.1 hr).1
  obtain ⟨g, cap', e2⟩ := sl_some h1 (by omega)
  rw [e2] at e
  cases e
  refine ⟨g, 0, r.1, rfl, (h2 r (List.mem_of_getElem? hr)).mono (fun w hw => hw.right), fun w hw j u hu => ?_⟩
  have hc := (h1.cell (F := hf) hw e2 (j := i * 9 + j) (u := u) (fm_get (fl := fT) (sz := 9) (fun _ => rfl) rows i j r u hr hu)).2.2
  rw [Nat.zero_add]
  exact hc
/-- One step more. -/
theorem SOwn.push {v : Value} {rows : List (Value × StepM)} {h hf hp G : Heaplet} {w : World} {x : Nat} {fv : Value} (y : StepM) (hv : SOwn v rows h hf) (hy : FtAt hp fv y.fates) (hc : CellsOnly hp) (s : Sat w (.blk x (.cells (fT (fv, y)).toArray 26) :: (h ++ G))) (hl : rows.length ≤ 1000000) :
    ∃ a' cap' w' h', (∀ ty, (Builtin.append_ #[36, 36] ty #[v, .slice (some ⟨x, 0, none⟩) 1 1]).run Tryz.prog w = .ok (.slice a' (rows.length + 1) cap') w') ∧ SOwn (.slice a' (rows.length + 1) cap') (rows ++ [(fv, y)]) h' (hf ++ hp) ∧ Sat w' (h' ++ G) := by
  obtain ⟨h1, h2, h3⟩ := hv
  obtain ⟨i0, hi, hz, hsize, hby⟩ := info_parts infoT
  have h1c : ∀ u ∈ fT (fv, y), u.oneCell' = true := by
    obtain ⟨a, cp, rfl, _⟩ := hy
    intro u hu
    simp only [fT, List.mem_cons, List.not_mem_nil, or_false] at hu
    rcases hu with rfl | rfl | rfl | rfl | rfl | rfl | rfl | rfl | rfl <;> rfl
  obtain ⟨v', w', k', hap, hv', s'⟩ := sl_push (P := Tryz.prog) (fl := fT) (fun _ => rfl) Tryz.underlying36 hi hz hsize hby rfl (by decide) h1 (A := []) (B := G) (fv, y) s h1c (by unfold maxLen; omega) (by omega)
  obtain ⟨a', cap', e⟩ := sl_form hv'
  rw [show (rows ++ [(fv, y)]).length = rows.length + 1 by simp] at e
  subst e
  refine ⟨a', cap', w', k', hap, ⟨hv', fun r hr => ?_, h3.append hc⟩, s'⟩
  rcases List.mem_append.1 hr with hr | hr
  · obtain ⟨a, cp, e, hu⟩ := h2 r hr
    refine ⟨a, cp, e, fun i f hi => ?_⟩
    obtain ⟨g, off, e2, h9⟩ := hu i f hi
    exact ⟨g, off, e2, fun w hw => h9 w hw.lft⟩
  · rw [List.mem_singleton.1 hr]
    exact hy.mono (fun w hw => hw.right)
/-- Between two lines of a script. -/
def ScI (B A2 A3 b : Nat) (F : Heaplet) (pre : List Bs) (W : World) : Prop :=
  B ≤ W.heap.size ∧ ∃ rows v h hf X, rows.map (·.2) = (scriptS pre).1 ∧ SOwn v rows h hf ∧ Sat W (.blk A2 (.cells #[v] 36) :: .blk A3 (.cells #[kI ((scriptS pre).2 : Int)] 3) :: .blk b (.cells #[X] 9) :: .blk (b + 1) (.cells #[.string ⟨#[10]⟩] 9) :: .blk (b + 2) (.cells #[.int .i64 0] 3) :: (h ++ (hf ++ F)))
theorem ScI.under {B A2 A3 b : Nat} {F : Heaplet} {v v' X : Value} {rows : List (Value × StepM)} {h hf : Heaplet} {sk : Value} (hF : ∀ c o, HItem.blk c o ∈ F → c < B) (hv : SOwn v' rows h hf) : UnderC B (.blk A2 (.cells #[v] 36) :: .blk A3 (.cells #[sk] 3) :: .blk b (.cells #[X] 9) :: .blk (b + 1) (.cells #[.string ⟨#[10]⟩] 9) :: .blk (b + 2) (.cells #[.int .i64 0] 3) :: (h ++ (hf ++ F))) := by
  intro c o hm
  simp only [List.mem_cons, HItem.blk.injEq, List.mem_append] at hm
  rcases hm with ⟨_, rfl⟩ | ⟨_, rfl⟩ | ⟨_, rfl⟩ | ⟨_, rfl⟩ | ⟨_, rfl⟩ | hm | hm | hm
  · exact .inr rfl
  · exact .inr rfl
  · exact .inr rfl
  · exact .inr rfl
  · exact .inr rfl
  · exact .inr (slice_cells hv.1 c o hm)
  · obtain ⟨b', o', e, ho⟩ := hv.2.2 _ hm
    cases e
    exact .inr ho
  · exact .inl (hF c o hm)
theorem ScI.grown {B A2 A3 b : Nat} {F : Heaplet} {pre : List Bs} {W W' : World} {row : Option Nat} (hI : ScI B A2 A3 b F pre W) (hF : ∀ c o, HItem.blk c o ∈ F → c < B) (hg : W.grownBy W' row) (hr : ∀ r, row = some r → B ≤ r ∧ ∃ o : Obj, W.heap[r]? = some o ∧ o.isCells = false) : ScI B A2 A3 b F pre W' := by
  obtain ⟨h1, rows, v, h, hf, X, h2, h3, h4⟩ := hI
  exact ⟨Nat.le_trans h1 hg.size, rows, v, h, hf, X, h2, h3, h4.ownGrownC (ScI.under hF h3) hg hr⟩
theorem ScI.box {B A2 A3 b : Nat} {F : Heaplet} {pre : List Bs} {W : World} (hI : ScI B A2 A3 b F pre W) (u : Value) : ScI B A2 A3 b F pre (W.setCell ⟨b, 0, none⟩ u) := by
  obtain ⟨h1, rows, v, h, hf, X, h2, h3, h4⟩ := hI
  refine ⟨by simpa [World.setCell] using h1, rows, v, h, hf, u, h2, h3, ?_⟩
  have h5 : Sat W (.blk b (.cells #[X] 9) :: .blk A2 (.cells #[v] 36) :: .blk A3 (.cells #[kI ((scriptS pre).2 : Int)] 3) :: .blk (b + 1) (.cells #[.string ⟨#[10]⟩] 9) :: .blk (b + 2) (.cells #[.int .i64 0] 3) :: (h ++ (hf ++ F))) := h4.perm (((List.Perm.swap _ _ _).cons _).trans (List.Perm.swap _ _ _))
  have h6 := h5.setCell (i := 0) u
  exact h6.perm ((List.Perm.swap _ _ _).trans ((List.Perm.swap _ _ _).cons _))
/-- What Script answers. -/
def ScriptRet (F : Heaplet) (c : Int) (L : List StepM) (n : Int) (e : Ending) (w' : World) : Prop := ∃ v h, e = .returned (.tuple #[v, kI n, .int .i64 c]) ∧ StAt h v L ∧ Sat w' (h ++ F)
end Go.Proofs.YtieaamlpadlfeaaGreatDoor
