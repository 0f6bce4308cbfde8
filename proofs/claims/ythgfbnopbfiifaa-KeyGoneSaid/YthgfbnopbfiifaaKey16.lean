/- Waits where nobody waits: walked. Conditions: none. -/
import Derived.Test.YthgfbnopbfiifaaKey15
import Derived.Test.YthgfbnopbfiifaaLayF
import Derived.Shelf.SlSortCmp.NoneTotal
namespace Go.Proofs.Ythgfbnopbfiifaa
open Go Go.MapKept Go.RowKit Go.Proofs Go.Sort Go.Shelf

theorem waits_nil (w : World) : Calls Try.prog 16 #[.pointer none] w (Ret (.slice none 0 0) (Same w)) := by
  go_enter Try.func16, Try.ntmps16
  go_wp2
  go_ret
  exact ⟨rfl, rfl⟩
theorem sortf_nil (f : Value) (W : World) : Calls Try.prog 25 #[.slice none 0 0, f] W fun e w' => e = .returned (.tuple #[]) ∧ w' = W := AnyF.slices_SortFunc_none Try.sortF none 0 _ W
theorem compact_nil (W : World) : Calls Try.prog 28 #[.slice none 0 0] W (Ret (.slice none 0 0) (Same W)) := by
  go_enter Try.func28, Try.ntmps28
  go_wp2
  go_ret
  exact ⟨rfl, rfl⟩
/-- While the pages are gone over. -/
def WtI (b m : Nat) (es : Array MapEntry) (clk : Nat) (D : List (Int × Nat)) (K : KtM) (rr : Nat) (F : Heaplet) (n : Nat) (wx : World) : Prop :=
  ∃ (lp : List (Int × Nat)) (since : Nat) (seen : Array Nat) (c0 : Nat), IterOk kI pt es since seen c0 lp ∧ since ≤ clk ∧ lp.length = n ∧ (∀ q ∈ lp, q ∈ D) ∧ KtAt b m es clk D K (.blk rr (.mapIter (some m) since seen c0) :: F) wx
set_option maxRecDepth 100000 in
set_option maxHeartbeats 4000000 in
theorem waits_none {b : Nat} {K : KtM} {F : Heaplet} {w : World} (h : KtIs b K F w) (hq : ∀ p l, getL p K.tab = some l → l.queue = []) :
    Calls Try.prog 16 #[.pointer (some ⟨b, 0, none⟩)] w (Ret (.slice none 0 0) (KtIs b K F)) := by
  obtain ⟨m, es, clk, D, hat⟩ := h.at_
  have hmok := hat.mapOk
  have c0 := hat.table
  obtain ⟨A, hs, hmem, back⟩ := hat.split
  obtain ⟨hrun, hs2⟩ := sat_range (P := Try.prog) (t := 49) (b := m) (es := es) (clk := clk) Try.underlying49 hs (List.mem_append_left _ hmem)
  have hat2 : KtAt b m es clk D K (.blk w.heap.size (.mapIter (some m) clk #[] clk) :: F) (w.alloc (.mapIter (some m) clk #[] clk)) := back (hs2.perm List.perm_middle.symm)
  have hLV : WtI b m es clk D K w.heap.size F D.length (w.alloc (.mapIter (some m) clk #[] clk)) := ⟨D, clk, #[], clk, iter_start hmok, Nat.le_refl _, rfl, fun q hq => hq, hat2⟩
  have H0 := Lib.hid hLV
  have HM := Lib.hid hmok
  have HQ := Lib.hid hq
  clear h hq hat hmok hs hmem back hs2 hat2 hLV
  go_enter Try.func16, Try.ntmps16
  go_wp2_with fail
  clear c0 hrun
  generalize w.heap.size = rr at *
  go_loopg [3] (D.length) (fun n v3 wx => v3 = .slice none 0 0 ∧ WtI b m es clk D K rr F n wx)
  case atStart => exact ⟨rfl, H0.out⟩
  case round =>
    clear H0
    obtain ⟨rfl, lp, since, seen, c0, hit, hle, hln, hsub, hat⟩ := hrel
    obtain ⟨A, hs, hmem, back⟩ := hat.split
    rcases sat_next (P := Try.prog) HM.out hit (hs.perm List.perm_middle) (List.mem_append_left _ hmem) hle 0 with ⟨rfl, hrn⟩ | ⟨q, lp', seen', w', hp, hit', hrn, hs', hen⟩
    · have HK := Lib.hid (KtIs.weaken (D := [_]) hat.is)
      clear hit hle hln hsub hat hs hmem back
      go_wp2_with fail
      refine (sortf_nil _ _).mono ?_
      rintro e w1 ⟨rfl, rfl⟩
      go_wp2_with fail
      refine (compact_nil _).mono ?_
      rintro e w1 ⟨rfl, rfl⟩
      go_wp2_with fail
      go_ret
      exact ⟨rfl, HK.out⟩
    · obtain ⟨page, g⟩ := q
      have hat2 : KtAt b m es clk D K (.blk rr (.mapIter (some m) since seen' clk) :: F) w' := back (hs'.perm List.perm_middle.symm)
      have hpD : (page, g) ∈ D := hsub _ (hp.mem_iff.2 (.head _))
      obtain ⟨l, O, hgl, hpg, _, _, _⟩ := hat2.page hpD
      have hgk : lp'.length < gk := by have := hp.length_eq; simp only [List.length_cons] at this; omega
      have hql := HQ.out page l hgl
      obtain ⟨wv, wh, hh, hw, hlp, s⟩ := hpg
      obtain ⟨qa, qc, hq1, _⟩ := lkp_rq hlp
      have c1 := hq1 _ _ (PgIs.sw s)
      rw [hql] at c1
      simp only [List.length_nil] at c1
      have FIN : Hid (WtI b m es clk D K rr F lp'.length w') := Lib.hid ⟨lp', since, seen', clk, hit', hle, rfl, fun q hq => hsub q (hp.mem_iff.2 (.tail _ hq)), hat2⟩
      clear hit hle hln hsub hat hs hmem back hp hit' hs' hat2 hpD hgl hql hw hlp s hq1
      go_wp2_with fail
      go_loopw [3, 28] (fun v3 v28 wx => v3 = .slice none 0 0 ∧ v28 = .int .i64 0 ∧ wx = w') (fun _ _ _ => 0)
      case atStart => exact ⟨rfl, rfl, rfl⟩
      case round =>
        obtain ⟨rfl, rfl, rfl⟩ := hrel
        go_wp2_with fail
        go_roundg lp'.length
        case measure => exact hgk
        case rel => exact ⟨rfl, FIN.out⟩
end Go.Proofs.Ythgfbnopbfiifaa
