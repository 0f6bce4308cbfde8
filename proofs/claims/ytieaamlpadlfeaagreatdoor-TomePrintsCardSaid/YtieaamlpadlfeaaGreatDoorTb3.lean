/- What the library's functions that are called do, beside frames. Conditions: none. -/
import Derived.Test.YtieaamlpadlfeaaGreatDoorTb2
import Derived.Shelf.Strconv.ErrVarAll
namespace Go.Proofs.YtieaamlpadlfeaaGreatDoor
open Go Go.MapKept Go.RowKit Go.Proofs

attribute [local go_sem] Oper.semAt_some

abbrev kL (l : Bs) : Value := .string ⟨l.toArray⟩
/-- What the library's variables hold. -/
structure VarsAt (w : World) : Prop where
  syn : ∃ te pe, w.cell? ⟨3, 0, none⟩ = some (.iface te pe)
  rng : ∃ te pe, w.cell? ⟨4, 0, none⟩ = some (.iface te pe)
  max : ∃ m, w.cell? ⟨2, 0, none⟩ = some (.int .i64 m)
  spc : Lib.TabIs Tryz.prog w "strings.asciiSpace" .u8 Lib.asciiSpaceTab
  pow : Lib.TabIs Tryz.prog w "internal/strconv.uint64pow10" .u64 Lib.pow10Tab
abbrev LibF (F : Heaplet) : Prop := ∀ W, Sat W F → VarsAt W
theorem LibF.mono {F F' : Heaplet} (h : LibF F) (hF : ∀ W, Sat W F' → Sat W F) : LibF F' := fun W hW => h W (hF W hW)
/-- A call that leaves what lay there: a value, and the frame. -/
theorem keepF {F : Heaplet} {w : World} (s : Sat w F) {e : Ending} {v : Value} {w' : World} (h : Ret v (Below w.heap.size w) e w') : Ret v (fun W => Sat W F) e w' := ⟨h.1, s.monoB h.2⟩
theorem data_bs (l : Bs) : (⟨l.toArray⟩ : ByteArray).data.toList = l := by simp
theorem size_bs (l : Bs) : (⟨l.toArray⟩ : ByteArray).size = l.length := by simp [ByteArray.size]
theorem word_at {F : Heaplet} {w : World} (s : Sat w F) (x : Bs) (hx : x.length ≤ 1000000) : Calls Tryz.prog 8 #[kL x] w (Ret (kL (wordL x)) (fun W => Sat W F)) := by
  have h := word_any ⟨x.toArray⟩ (by rw [size_bs]; exact hx) w
  rw [data_bs] at h
  exact h.mono (fun e w' h => keepF s h)
theorem itoa_at {F : Heaplet} {w : World} (hL : LibF F) (s : Sat w F) (n : Int) (hn : I64 n) : Calls Tryz.prog 32 #[.int .i64 n] w (Ret (kL (Lib.itoa n)) (fun W => Sat W F)) := by
  refine (Any.strconv_Itoa Tryz.laysItoa n hn.1 hn.2 w (hL w s).pow).mono ?_
  rintro e w' ⟨rfl, k, os, rfl⟩
  exact ⟨rfl, s.grown ⟨k, os, rfl⟩⟩
theorem atoi_ok {F : Heaplet} {w : World} (s : Sat w F) (x : Bs) (hx : x.length ≤ 1000000) {n : Int} (h : Lib.atoiAll x = .ok n) : Calls Tryz.prog 46 #[kL x] w (Ret (.tuple #[.int .i64 n, .nilIface]) (fun W => Sat W F)) := by
  refine (Any.strconv_Atoi_ok Tryz.laysAtoi ⟨x.toArray⟩ (by rw [size_bs]; omega) n (by rw [data_bs]; exact h) w).mono ?_
  rintro e w' ⟨rfl, h2⟩
  refine ⟨rfl, ?_⟩
  rcases h2 with rfl | ⟨t, rfl⟩
  · exact s
  · exact s.monoB (Lib.bytesWorld_below w _ t)
theorem atoi_bad {F : Heaplet} {w : World} (hL : LibF F) (s : Sat w F) (x : Bs) (hx : x.length ≤ 1000000) (h : ∀ n, Lib.atoiAll x ≠ .ok n) : Calls Tryz.prog 46 #[kL x] w (fun e w' => ∃ N, e = .returned (.tuple #[.int .i64 (numV x), .iface 110 (.pointer (some ⟨N, 0, none⟩))]) ∧ Sat w' F) := by
  cases ha : Lib.atoiAll x with
  | ok n => exact absurd ha (h n)
  | range =>
    obtain ⟨te, pe, hv⟩ := (hL w s).rng
    have e : numV x = Lib.atoiSat x := by unfold numV; rw [ha]
    rw [e]
    have h2 := Any.strconv_Atoi_range Tryz.laysAtoi ⟨x.toArray⟩ (by rw [size_bs]; omega) (by rw [data_bs]; exact ha) _ w hv (.inr ⟨te, pe, rfl⟩)
    rw [data_bs] at h2
    refine h2.mono ?_
    rintro e w' ⟨N, rfl, _, _, hb⟩
    exact ⟨N, rfl, s.monoB hb⟩
  | _ =>
    obtain ⟨te, pe, hv⟩ := (hL w s).syn
    have e : numV x = 0 := by unfold numV; rw [ha]
    rw [e]
    refine (Any.strconv_Atoi_syntax Tryz.laysAtoi ⟨x.toArray⟩ (by rw [size_bs]; omega) (by rw [data_bs]; exact ha) _ w hv (.inr ⟨te, pe, rfl⟩)).mono ?_
    rintro e w' ⟨N, rfl, _, _, hb⟩
    exact ⟨N, rfl, s.monoB hb⟩
/-- Where F holds, these strings lie there. -/
def WsAt (F : Heaplet) (v : Value) (ws : List Bs) : Prop := ∃ a cap, v = .slice a ws.length cap ∧ ws.length ≤ cap ∧ ∀ (i : Nat) x, ws[i]? = some x → ∃ g off, a = some ⟨g, off, none⟩ ∧ ∀ w, Sat w F → w.cell? ⟨g, off + i, none⟩ = some (kL x)
theorem WsAt.mono {F F' : Heaplet} {v : Value} {ws : List Bs} (h : WsAt F v ws) (hF : ∀ w, Sat w F' → Sat w F) : WsAt F' v ws := by
  obtain ⟨a, cap, e, hc, hu⟩ := h
  refine ⟨a, cap, e, hc, fun i x hx => ?_⟩
  obtain ⟨g, off, e2, hw⟩ := hu i x hx
  exact ⟨g, off, e2, fun w hw2 => hw w (hF w hw2)⟩
theorem ba_mk (d : ByteArray) : (⟨d.data.toList.toArray⟩ : ByteArray) = d := by cases d; simp
/-- Split at blanks. -/
theorem split_at {F : Heaplet} {w : World} (hL : LibF F) (s : Sat w F) (l : Bs) (hl : l.length ≤ 1000000) : Calls Tryz.prog 23 #[kL l, .string ⟨#[32]⟩] w (fun e w' => ∃ v h, e = .returned v ∧ WsAt h v (wordsL l) ∧ Sat w' (h ++ F)) := by
  obtain ⟨m, hm⟩ := (hL w s).max
  have hc := split_cut 32 ⟨l.toArray⟩
  rw [data_bs] at hc
  refine (Any.strings_Split { Tryz.laysSplit with } Tryz.laysSplit.i9 ⟨l.toArray⟩ ⟨#[32]⟩ m w (by rw [size_bs]; omega) hm (by decide)).mono ?_
  rintro e w' ⟨rfl, rfl⟩
  obtain ⟨D, hD⟩ : ∃ D, Lib.splitB ⟨#[32]⟩ 0 (Lib.countB ⟨l.toArray⟩ ⟨#[32]⟩) ⟨l.toArray⟩ = D := ⟨_, rfl⟩
  have hlen := Lib.splitB_all ⟨#[32]⟩ (by decide) 0 _ ⟨l.toArray⟩ rfl
  rw [hD] at hc hlen ⊢
  have hlw : (wordsL l).length = D.length := by
    show (cutL 32 l).length = D.length
    rw [← hc, List.length_map]
  refine ⟨_, [.blk w.heap.size (.cells (D.map Value.string).toArray 9)], rfl, ⟨_, _, by rw [hlw, hlen], by rw [hlw, hlen]; exact Nat.le_refl _, fun i x hx => ⟨w.heap.size, 0, rfl, fun W hW => ?_⟩⟩, s.new _⟩
  rw [Nat.zero_add, cell_of hW.h0]
  unfold wordsL at hx
  rw [← hc, List.getElem?_map] at hx
  rw [List.getElem?_toArray, List.getElem?_map]
  cases hd : D[i]? with
  | none => rw [hd] at hx; cases hx
  | some d =>
    rw [hd] at hx
    cases hx
    simp only [Option.map_some]
end Go.Proofs.YtieaamlpadlfeaaGreatDoor
