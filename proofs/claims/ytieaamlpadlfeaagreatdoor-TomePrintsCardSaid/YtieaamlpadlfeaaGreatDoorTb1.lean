/- The methods of a strings.Builder of the call's own. Conditions: none. -/
import Derived.Test.YtieaamlpadlfeaaGreatDoorBld
import Derived.Test.YtieaamlpadlfeaaGreatDoorLayT
import Derived.Test.YtieaamlpadlfeaaGreatDoorTo5
import Derived.Shelf.Strings.BuilderK
namespace Go.Proofs.YtieaamlpadlfeaaGreatDoor
open Go Go.MapKept Go.RowKit Go.Proofs

attribute [local go_sem] Oper.semAt_some

abbrev fB (c : UInt8) : List Value := [byV c]
theorem fmB (R : Bs) : R.flatMap fB = R.map byV := by
  induction R with
  | nil => rfl
  | cons x r ih => simp [fB, ih]
theorem infoBy : (Tryz.prog.info? 5).map (fun i => (i.zero, i.size, i.bytes)) = some (some (.int .u8 0), 1, 1) := by kernel_rfl
/-- Block b is a builder that holds these bytes; p: its own address, if it was written. -/
def BldP (b : Nat) (p : Value) (bs : Bs) (F : Heaplet) (w : World) : Prop := ∃ v h, SliceIs 5 1 v bs.length (bs.flatMap fB) h ∧ Sat w (.blk b (.cells #[p, v] 48) :: (h ++ F))
def BldIs (b : Nat) (bs : Bs) (F : Heaplet) (w : World) : Prop := BldP b (.pointer none) bs F w ∨ BldP b (.pointer (some ⟨b, 0, none⟩)) bs F w
theorem BldP.frame {b : Nat} {p : Value} {bs : Bs} {F : Heaplet} {w : World} (h : BldP b p bs F w) : Sat w F := by
  obtain ⟨v, h, _, s⟩ := h
  exact s.tail.right
theorem BldIs.frame {b : Nat} {bs : Bs} {F : Heaplet} {w : World} (h : BldIs b bs F w) : Sat w F := h.elim BldP.frame BldP.frame
theorem BldIs.fresh {F : Heaplet} {w : World} (s : Sat w F) : BldIs w.heap.size [] F (w.alloc (.cells #[.pointer none, .slice none 0 0] 48)) :=
  .inl ⟨_, [], SliceIs.nil 5 1, s.new _⟩
theorem BldIs.drewN {b : Nat} {bs : Bs} {F : Heaplet} {w : World} (h : BldIs b bs F w) (n : Nat) : BldIs b bs F (w.drewN n) := by
  rcases h with ⟨v, k, h1, s⟩ | ⟨v, k, h1, s⟩
  · exact .inl ⟨v, k, h1, s.grown (Grown.drewN w n)⟩
  · exact .inr ⟨v, k, h1, s.grown (Grown.drewN w n)⟩
theorem cc_any {b : Nat} {bs : Bs} {F : Heaplet} {w : World} (h : BldIs b bs F w) :
    Calls Tryz.prog 42 #[.pointer (some ⟨b, 0, none⟩)] w (Ret (.tuple #[]) (BldP b (.pointer (some ⟨b, 0, none⟩)) bs F)) := by
  rcases h with ⟨v, k, h1, s⟩ | ⟨v, k, h1, s⟩
  · have hb := s.h0
    refine (Any.Builder_copyCheck_fresh { Tryz.laysJoin with } Tryz.extra_laysJoin.toX72 b w (by rw [cell_of hb]; rfl) (by simp [World.shape?, hb]; rfl) (unfrozen_of hb 0)).mono ?_
    rintro e w' ⟨rfl, rfl⟩
    exact ⟨rfl, v, k, h1, s.setCell (i := 0) _⟩
  · have hb := s.h0
    refine (Any.Builder_copyCheck_used { Tryz.laysJoin with } Tryz.extra_laysJoin.toX72 b w (by rw [cell_of hb]; rfl)).mono ?_
    rintro e w' ⟨rfl, rfl⟩
    exact ⟨rfl, v, k, h1, s⟩
set_option maxRecDepth 100000 in
theorem write_byte {b : Nat} {bs : Bs} {F : Heaplet} {w : World} (h : BldIs b bs F w) (c : UInt8) (hl : bs.length ≤ 100000000) :
    Calls Tryz.prog 19 #[.pointer (some ⟨b, 0, none⟩), .int .u8 (c.toNat : Int)] w (Ret .nilIface (BldIs b (bs ++ [c]) F)) := by
  have HCC := Lib.hid (cc_any h)
  clear h
  go_enter Tryz.func19, Tryz.ntmps19
  go_upto_region 2 with (go_at_call 42; refine (HCC.out).mono ?_; rintro e w1 ⟨rfl, h1⟩; have H1 := Lib.hid h1; clear h1)
  clear HCC
  obtain ⟨v, k, hv, s⟩ := H1.out
  obtain ⟨a, cap, rfl⟩ := sl_form hv
  have c0 : w1.cell? ⟨b, 1, none⟩ = some (.slice a bs.length cap) := by rw [cell_of s.h0]; rfl
  obtain ⟨i, hi, hz, hsize, hby⟩ := info_parts infoBy
  obtain ⟨v', w', k', hap, hv', s'⟩ := sl_push (P := Tryz.prog) (fl := fB) (fun _ => rfl) Tryz.underlying46 hi hz hsize hby rfl (by decide) hv (A := [.blk b (.cells #[.pointer (some ⟨b, 0, none⟩), .slice a bs.length cap] 48)]) (B := F) c (s.new (.cells #[byV c] 5)) (fun u hu => by rw [List.mem_singleton.1 hu]; rfl) (by unfold maxLen; omega) (by omega)
  obtain ⟨a', cap', rfl⟩ := sl_form hv'
  have HAP := Lib.hid hap
  have s2 : Sat w' (.blk b (.cells #[.pointer (some ⟨b, 0, none⟩), .slice a bs.length cap] 48) :: (k' ++ F)) := s'
  have f1 : w'.frozen? ⟨b, 1, none⟩ = false := unfrozen_of s2.h0 1
  have e1 : w'.cell? ⟨b, 1, none⟩ = some (.slice a bs.length cap) := by rw [cell_of s2.h0]; rfl
  have FIN : Hid (BldIs b (bs ++ [c]) F (w'.setCell ⟨b, 1, none⟩ (.slice a' (bs ++ [c]).length cap'))) := Lib.hid (.inr ⟨_, k', hv', s2.setCell (i := 1) _⟩)
  clear hap s s' s2 hv hv' H1 hi hz hsize hby
  generalize (bs ++ [c]).length = nl at *
  go_wp2_with (at_builtin; refine wpList_append_run rfl _ _ _ _ rfl _ _ _ _ rfl rfl HAP.out ?_)
  go_ret
  exact ⟨rfl, FIN.out⟩
set_option maxRecDepth 100000 in
theorem write_string {b : Nat} {bs : Bs} {F : Heaplet} {w : World} (h : BldIs b bs F w) (d : ByteArray) (hl : bs.length ≤ 100000000) (hd : d.size ≤ 100000000) :
    Calls Tryz.prog 20 #[.pointer (some ⟨b, 0, none⟩), .string d] w (fun e w' => (∃ v, e = .returned v) ∧ BldIs b (bs ++ d.data.toList) F w') := by
  have HCC := Lib.hid (cc_any h)
  clear h
  go_enter Tryz.func20, Tryz.ntmps20
  go_upto_region 2 with (go_at_call 42; refine (HCC.out).mono ?_; rintro e w1 ⟨rfl, h1⟩; have H1 := Lib.hid h1; clear h1)
  clear HCC
  obtain ⟨v, k, hv, s⟩ := H1.out
  obtain ⟨a, cap, rfl⟩ := sl_form hv
  have c0 : w1.cell? ⟨b, 1, none⟩ = some (.slice a bs.length cap) := by rw [cell_of s.h0]; rfl
  obtain ⟨i, hi, hz, hsize, hby⟩ := info_parts infoBy
  have hsz : d.size = d.data.toList.length := by rw [Array.length_toList]; rfl
  obtain ⟨v', w', k', hap, hv', s'⟩ := sat_appendS (P := Tryz.prog) Tryz.underlying46 Tryz.underlying9 hi hz hsize hby hv (F := .blk b (.cells #[.pointer (some ⟨b, 0, none⟩), .slice a bs.length cap] 48) :: F) (w := w1) (s.perm (List.perm_middle (l₁ := k)).symm) d (by omega)
  obtain ⟨a', cap', rfl⟩ := sl_form hv'
  have hv2 : SliceIs 5 1 (.slice a' (bs.length + d.size) cap') (bs ++ d.data.toList).length ((bs ++ d.data.toList).flatMap fB) k' := by
    rw [List.length_append, ← hsz, List.flatMap_append, fmB d.data.toList]
    exact hv'
  have HAP := Lib.hid hap
  have s2 : Sat w' (.blk b (.cells #[.pointer (some ⟨b, 0, none⟩), .slice a bs.length cap] 48) :: (k' ++ F)) := s'.perm List.perm_middle
  have f1 : w'.frozen? ⟨b, 1, none⟩ = false := unfrozen_of s2.h0 1
  have e1 : w'.cell? ⟨b, 1, none⟩ = some (.slice a bs.length cap) := by rw [cell_of s2.h0]; rfl
  have FIN : Hid (BldIs b (bs ++ d.data.toList) F (w'.setCell ⟨b, 1, none⟩ (.slice a' (bs.length + d.size) cap'))) := Lib.hid (.inr ⟨_, k', hv2, s2.setCell (i := 1) _⟩)
  clear hap s s' s2 hv hv' hv2 H1 hi hz hsize hby hsz
  go_wp2_with (at_builtin; refine wpList_append_run rfl _ _ _ _ rfl _ _ _ _ rfl rfl HAP.out ?_)
  go_ret2
  exact ⟨⟨_, rfl⟩, FIN.out⟩
theorem old_ge {W0 w : World} {b : Nat} {o : Obj} {h : Heaplet} (s : Sat w (.blk b o :: (h ++ allOf W0))) : W0.heap.size ≤ b := by
  refine Decidable.byContradiction fun hc => ?_
  have hb : b < W0.heap.size := by omega
  refine s.notIn (.blk b (W0.heap[b]?.getD default)) ?_ rfl
  refine List.mem_append_right _ (List.mem_cons_of_mem _ ?_)
  exact List.mem_map.2 ⟨b, List.mem_range.2 hb, rfl⟩
theorem sl_owns {W0 w : World} {b : Nat} {p v : Value} {T : TypeId} {bs : Bs} {h : Heaplet} (hv : SliceIs 5 1 v bs.length (bs.flatMap fB) h) (s : Sat w (.blk b (.cells #[p, v] T) :: (h ++ allOf W0))) :
    w.ownsRow W0.heap.size 5 1 v bs.length (Lib.byteCells bs) ∧ v.ownBlock ≠ some b := by
  have e : bs.flatMap fB = Lib.byteCells bs := fmB bs
  rw [e] at hv
  rcases hv.2 with ⟨rfl, hn, rfl⟩ | ⟨g, cap, cur, rfl, hnc, hcm, hcs, htake, rfl⟩
  · exact ⟨⟨hv.1, .inl ⟨rfl, hn⟩⟩, by simp [Value.ownBlock]⟩
  · have s2 : Sat w (.blk g (.cells cur 5) :: ([HItem.blk b (.cells #[p, .slice (some ⟨g, 0, none⟩) bs.length cap] T)] ++ allOf W0)) := s.swap
    refine ⟨⟨hv.1, .inr ⟨g, cap, cur, rfl, old_ge s2, s2.h0, hnc, hcm, hcs, htake⟩⟩, fun hx => ?_⟩
    simp only [Value.ownBlock, Option.some.injEq] at hx
    exact s.ne (.head _) hx
theorem bld_string {W0 w : World} {b : Nat} {bs : Bs} (h : BldIs b bs (allOf W0) w) :
    Calls Tryz.prog 21 #[.pointer (some ⟨b, 0, none⟩)] w (Ret (.string ⟨bs.toArray⟩) (Below W0.heap.size W0)) := by
  have hb := h.frame.below
  have h2 : Lib.IsBuilderF (Tryz.laysSt_ren.t 72) (Tryz.laysSt_ren.t 5) W0.heap.size b (Lib.byteCells bs) w := by
    rcases h with ⟨v, k, hv, s⟩ | ⟨v, k, hv, s⟩
    · obtain ⟨h1, h2⟩ := sl_owns hv s
      exact .inl ⟨old_ge s, v, s.h0, by rw [Lib.byteCells_length]; exact World.ownsRowF_of h1, h2⟩
    · obtain ⟨h1, h2⟩ := sl_owns hv s
      exact .inr ⟨old_ge s, v, s.h0, by rw [Lib.byteCells_length]; exact World.ownsRowF_of h1, h2⟩
  refine (Any.Builder_String_any_k Tryz.laysSt Tryz.extra_laysSt W0.heap.size b bs w h2 hb.size).mono ?_
  rintro e w' ⟨rfl, _, hb2, _⟩
  exact ⟨rfl, hb.trans hb2⟩
end Go.Proofs.YtieaamlpadlfeaaGreatDoor
