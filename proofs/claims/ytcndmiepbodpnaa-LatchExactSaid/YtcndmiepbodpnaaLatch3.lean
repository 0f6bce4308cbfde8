/- The locks: Pages, and the transaction's end. Conditions: none. -/
import Derived.Test.YtcndmiepbodpnaaLatch2
import Derived.Test.YtcndmiepbodpnaaSortK16
import Derived.Deep.DeepCutAuto
namespace Go.Proofs.Ytcndmiepbodpnaa
open Go Go.MapKept Go.RowKit Go.Proofs

theorem pages_nil (w : World) : Calls Try.prog 23 #[.pointer none] w (Ret (.slice none 0 0) (Same w)) := by
  go_enter Try.func23, Try.ntmps23
  go_wp2
  go_ret
  exact ⟨rfl, rfl⟩
theorem pages_any (b m : Nat) (L : LL) (F : Heaplet) (w : World) (h : LocksP b m L F w) (hr : ∀ p ∈ L, -9223372036854775808 ≤ p.1 ∧ p.1 ≤ 9223372036854775807) (hl : L.length ≤ 1000000) :
    Calls Try.prog 23 #[.pointer (some ⟨b, 0, none⟩)] w fun e w' => ∃ v h, e = .returned v ∧ SliceIs 3 1 v L.length ((sortK (L.map (·.1))).map kI) h ∧ LocksP b m L (h ++ F) w' ∧ Below w.heap.size w w' := by
  have c0 := h.cell
  obtain ⟨A, hs, back⟩ := h.split
  obtain ⟨es, clk, hm, hs0⟩ := h
  have h1 := hs.new (.cells #[.map (some m)] (Try.keysA_ren.t 23))
  have h2 := hs0.new (.cells #[.map (some m)] (Try.keysA_ren.t 23))
  have hsk := sorted_latch hm w.heap.size m (w.alloc (.cells #[.map (some m)] (Try.keysA_ren.t 23))) (by rw [cell_of h1.h0]; rfl) h2.h2 hr hl
  have hb1 : Below w.heap.size w (w.alloc (.cells #[.map (some m)] (Try.keysA_ren.t 23))) := (Below.refl _ w).alloc (Nat.le_refl _) _
  have hfin : ∀ v hh w', (∀ F, Sat (w.alloc (.cells #[.map (some m)] (Try.keysA_ren.t 23))) F → Sat w' (hh ++ F)) → LocksP b m L (hh ++ F) w' ∧ (v : Nat) = v := by
    intro v hh w' hf
    refine ⟨back ?_, rfl⟩
    exact (hf _ h1.tail).perm (List.perm_append_comm_assoc hh A F)
  have HSK := Lib.hid hsk
  have HB1 := Lib.hid hb1
  have HFIN := Lib.hid hfin
  clear hs back hm hs0 h1 h2 hsk hb1 hfin
  go_enter Try.func23, Try.ntmps23
  go_wp2_with fail
  refine (keys_latch _ _).mono ?_
  rintro e w1 ⟨rfl, rfl⟩
  go_wp2_with fail
  refine (HSK.out).mono ?_
  rintro e w2 ⟨v, hh, rfl, h1, h2, h3⟩
  have H1 := Lib.hid h1
  have H2 := Lib.hid (HFIN.out 0 hh w2 h2).1
  have H3 := Lib.hid (HB1.out.trans (h3.mono (by simp)))
  clear h1 h2 h3
  go_wp2_with fail
  go_ret
  exact ⟨v, hh, rfl, H1.out, H2.out, H3.out⟩
theorem infoLet : (Try.prog.info? 38).map (fun i => (i.zero, i.size, i.bytes)) = some (some (.agg #[.int .i64 0, .bool false]), 2, 16) := by kernel_rfl
def flatLet (l : List (Int × Bool)) : List Value := l.flatMap fun x => [kI x.1, .bool x.2]
theorem LocksP.setF {b m g i : Nat} {L : LL} {F : Heaplet} {w : World} {c : Array Value} {t : TypeId} {z : Nat × Nat} (h : LocksP b m L (.blk g (.cells c t z) :: F) w) (v : Value) :
    LocksP b m L (.blk g (.cells (c.setIfInBounds i v) t z) :: F) (w.setCell ⟨g, i, none⟩ v) := by
  obtain ⟨A, hs, back⟩ := h.split
  exact back (((hs.perm List.perm_middle).setCell (i := i) v).perm List.perm_middle.symm)
/-- One word more is told. -/
theorem LocksP.push {b m x : Nat} {L : LL} {R h3 : Heaplet} {w : World} {v3 : Value} {l : List (Int × Bool)} {p : Int} {k : Bool} (h : LocksP b m L (.blk x (.cells #[kI p, .bool k] 38) :: (h3 ++ R)) w)
    (hv : SliceIs 38 2 v3 l.length (flatLet l) h3) (hl : l.length + 1 ≤ 1000000) :
    ∃ v' w' h', (∀ ty, (Builtin.append_ #[31, 31] ty #[v3, .slice (some ⟨x, 0, none⟩) 1 1]).run Try.prog w = .ok v' w') ∧ SliceIs 38 2 v' (l ++ [(p, k)]).length (flatLet (l ++ [(p, k)])) h' ∧ LocksP b m L (h' ++ R) w' := by
  obtain ⟨A, hs, back⟩ := h.split
  obtain ⟨i0, hi, hz, hsize, hby⟩ := info_parts infoLet
  have s1 : Sat w (h3 ++ (A ++ (.blk x (.cells #[kI p, .bool k] 38) :: R))) := by
    refine hs.perm ?_
    refine List.Perm.trans (List.Perm.append_left A (List.perm_middle (l₁ := h3)).symm) ?_
    exact List.perm_append_comm_assoc A h3 _
  have hx : w.heap[x]? = some (.cells #[kI p, .bool k] 38) := s1.get (List.mem_append_right _ (List.mem_append_right _ (.head _)))
  have hnews : ∀ j u, ([kI p, .bool k] : List Value)[j]? = some u → w.cell? ((⟨x, 0, none⟩ : Addr).add j) = some u := by
    intro j u hu
    have hadd : (⟨x, 0, none⟩ : Addr).add j = ⟨x, j, none⟩ := by unfold Addr.add; split <;> simp_all
    rw [hadd, cell_of hx]
    match j, hu with
    | 0, hu => simpa using hu
    | 1, hu => simpa using hu
    | j + 2, hu => simp at hu
  obtain ⟨v', w', h', hr, hsl, hsat⟩ := sat_append (P := Try.prog) (ty := 0) Try.underlying31 hi hz hsize hby rfl (by decide) hv s1 ⟨x, 0, none⟩ 1 1 [kI p, .bool k] rfl hnews (by simp [Value.oneCell']) (by decide) (by unfold maxLen; omega) (by omega)
  refine ⟨v', w', h', fun ty => hr, ?_, back ?_⟩
  · have e : flatLet (l ++ [(p, k)]) = flatLet l ++ [kI p, .bool k] := by simp [flatLet]
    rw [e, List.length_append]
    exact hsl
  · have s2 := hsat.perm (List.perm_append_comm_assoc h' A _)
    have s3 := s2.perm (List.Perm.append_left A (List.perm_middle (l₁ := h')))
    exact (s3.perm List.perm_middle).tail
end Go.Proofs.Ytcndmiepbodpnaa
