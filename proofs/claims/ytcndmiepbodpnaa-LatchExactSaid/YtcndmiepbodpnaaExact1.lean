/- The locks and the reference: Clear walked. Conditions: none. -/
import Derived.Test.YtcndmiepbodpnaaExactM
namespace Go.Proofs.Ytcndmiepbodpnaa
open Go Go.MapKept Go.RowKit Go.Proofs

theorem mapOk_empty {K V : Type} [DecidableEq K] {d : TypeDesc} {ke : K → Value} {ve : V → Value} (clk : Nat) (h1 : ∀ k, IsKey d (ke k)) (h2 : ∀ a b, ke a = ke b → a = b) : MapOk d ke ve #[] clk [] := ⟨rfl, h1, h2, stamped_empty clk⟩
theorem run_clear_map {P : Program} {w : World} {b clk : Nat} {es : Array MapEntry} {t kt et ty : TypeId} (ht : P.underlying t = some (.map kt et)) (hb : w.heap[b]? = some (.map es clk)) :
    (Builtin.clear_ #[t] ty #[.map (some b)]).run P w = .ok (.tuple #[]) (ChangeMaps.setBlock w b (.map #[] clk)) := by
  simp [Builtin.clear_, run_underlying ht, MapKept.run_getObj_map hb, MapKept.run_setObj_map _ hb, Result.andThen, ChangeMaps.setBlock]
theorem clear_any (b : Nat) (D : Lks) (F : Heaplet) (w : World) (h : LatchIs b D F w) : Calls Try.prog 19 #[.pointer (some ⟨b, 0, none⟩)] w (Ret (.tuple #[]) (LatchIs b [] F)) := by
  obtain ⟨m, L, _, h⟩ := h
  have c0 := h.cell
  obtain ⟨es, clk, hm, hs⟩ := h
  have hr := fun ty => run_clear_map (P := Try.prog) (ty := ty) (t := 53) (kt := 3) (et := 56) Try.underlying53 hs.h1
  have s1 := (hs.swap.setBlock (.map #[] clk)).swap
  have s2 : Sat (ChangeMaps.setBlock w m (.map #[] clk)) (.blk b (.cells #[.map (some m)] 55) :: .blk m (.map #[] clk) :: F) := by
    refine (Sat.right (h' := lkH L) (s1.perm ?_))
    exact List.perm_append_comm_assoc [_, _] (lkH L) F
  have hfin : LatchIs b [] F (ChangeMaps.setBlock w m (.map #[] clk)) := ⟨m, [], rfl, #[], clk, mapOk_empty clk kI_key kI_inj, s2⟩
  have Fin := Lib.hid hfin
  clear s1 s2 hfin hs hm
  go_enter Try.func19, Try.ntmps19
  go_wp2_with fail
  refine bodyPost_end (results_none rfl _ _ _) rfl ?_
  exact ⟨rfl, Fin.out⟩
end Go.Proofs.Ytcndmiepbodpnaa
