/- A text's lines gone over: strings.SplitSeq walked. Conditions: none. -/
import Derived.Test.YtieaamlpadlfeaaGreatDoorTbE
import Derived.Test.YtieaamlpadlfeaaGreatDoorSeqBox
import Derived.Test.YtieaamlpadlfeaaGreatDoorTo6
namespace Go.Proofs.YtieaamlpadlfeaaGreatDoor
open Go Go.MapKept Go.RowKit Go.Proofs Go.Shelf

attribute [local go_sem] Oper.semAt_some

theorem sindex_at (x : Bs) (W : World) : Calls Tryz.prog 55 #[kL x, .string ⟨#[10]⟩] W (fun e w' => e = .returned (.int .i64 (Lib.indexByte x 10)) ∧ w' = W) := by
  have h := Any.strings_Index_one (ρ := Tryz.laysSplit_ren) { Tryz.laysSplit with } ⟨x.toArray⟩ 10 W
  rw [data_bs] at h
  exact h
theorem ext_list' (s : ByteArray) (a b : Nat) : (s.extract a b).data.toList = (s.data.toList.take b).drop a := by
  rw [ByteArray.data_extract, Array.toList_extract, List.extract_eq_take_drop, List.drop_take]
theorem run_upto (x : Bs) (k : Nat) (h : k ≤ x.length) (W : World) : (Instr.slice 9 (kL x) none (some (.int .i64 (k : Int))) none).run Tryz.prog W = .ok (kL (x.take k)) W := by
  rw [run_slice_string_h (P := Tryz.prog) (w := W) (t := 9) (s := ⟨x.toArray⟩) Tryz.underlying9 .i64 (k : Int) (by omega) (by rw [size_bs]; omega)]
  have e := ext_list' ⟨x.toArray⟩ 0 k
  rw [data_bs] at e
  have e2 := ba_mk ((⟨x.toArray⟩ : ByteArray).extract 0 k)
  rw [e, List.drop_zero] at e2
  rw [Int.toNat_natCast, ← e2]
theorem run_from (x : Bs) (k : Nat) (i : Int) (hi : i = (k : Int)) (h : k ≤ x.length) (W : World) : (Instr.slice 9 (kL x) (some (.int .i64 i)) none none).run Tryz.prog W = .ok (kL (x.drop k)) W := by
  subst hi
  rw [run_slice_string_l (P := Tryz.prog) (w := W) (t := 9) (s := ⟨x.toArray⟩) Tryz.underlying9 .i64 (k : Int) (by omega) (by rw [size_bs]; omega)]
  have e := ext_list' ⟨x.toArray⟩ k x.length
  rw [data_bs, List.take_length] at e
  have e2 := ba_mk ((⟨x.toArray⟩ : ByteArray).extract k x.length)
  rw [e] at e2
  rw [Int.toNat_natCast, size_bs, ← e2]
/-- The three variables of a split: what is left, the separator, how much of it is kept. -/
abbrev seqH (b : Nat) (x : Bs) : Heaplet := [.blk b (.cells #[kL x] 9), .blk (b + 1) (.cells #[.string ⟨#[10]⟩] 9), .blk (b + 2) (.cells #[.int .i64 0] 3)]
abbrev seqV (b : Nat) : Value := .func (.func 61) #[] #[.pointer (some ⟨b + 1, 0, none⟩), .pointer (some ⟨b, 0, none⟩), .pointer (some ⟨b + 2, 0, none⟩)]
theorem splitSeq_any (x : Bs) (w : World) : Calls Tryz.prog 48 #[kL x, .string ⟨#[10]⟩, .int .i64 0] w (fun e w' => e = .returned (seqV w.heap.size) ∧ ∀ F, Sat w F → Sat w' (seqH w.heap.size x ++ F)) := by
  go_enter Tryz.func48, Tryz.ntmps48
  go_wp2
  go_ret
  refine ⟨rfl, fun F s => ?_⟩
  have h := ((s.new (.cells #[kL x] 9)).new (.cells #[.string ⟨#[10]⟩] 9)).new (.cells #[.int .i64 0] 3)
  simp only [World.size_alloc] at h
  exact h.perm (by
    refine (List.Perm.swap _ _ _).trans ?_
    refine (List.Perm.cons _ (List.Perm.swap _ _ _)).trans ?_
    exact List.Perm.swap _ _ _)
theorem SplitSeq_any (x : Bs) (w : World) : Calls Tryz.prog 29 #[kL x, .string ⟨#[10]⟩] w (fun e w' => e = .returned (seqV w.heap.size) ∧ ∀ F, Sat w F → Sat w' (seqH w.heap.size x ++ F)) := by
  have H := Lib.hid (splitSeq_any x w)
  go_enter Tryz.func29, Tryz.ntmps29
  go_wp2_with (go_at_call 48; refine (H.out).mono ?_; rintro e w2 ⟨rfl, h2⟩; have H2 := Lib.hid h2; clear h2)
  go_ret
  exact ⟨rfl, H2.out⟩
/-- What the iterator wants kept between two rounds: its own variables. -/
def KpB (b : Nat) (W W' : World) : Prop := ∀ k, b ≤ k → k < b + 3 → W'.heap[k]? = W.heap[k]?
theorem KpB.trans {b : Nat} {X Y Z : World} (h : KpB b X Y) (k : KpB b Y Z) : KpB b X Z := fun j h1 h2 => (k j h1 h2).trans (h j h1 h2)
theorem KpB.sat {b : Nat} {W W' : World} {x : Bs} (h : KpB b W W') (s : Sat W (seqH b x)) : Sat W' (seqH b x) := by
  refine ⟨fun i hi => ?_, s.2⟩
  have h9 := s.1 i hi
  simp only [List.mem_cons, List.not_mem_nil, or_false] at hi
  rcases hi with rfl | rfl | rfl
  · exact (h b (by omega) (by omega)).trans h9
  · exact (h (b + 1) (by omega) (by omega)).trans h9
  · exact (h (b + 2) (by omega) (by omega)).trans h9
/-- How long the text in a variable is. -/
def strAt (w : World) (b : Nat) : Nat := match w.cell? ⟨b, 0, none⟩ with
  | some (.string d) => d.size
  | _ => 0
theorem strAt_of {w : World} {b : Nat} {l : Bs} (h : w.cell? ⟨b, 0, none⟩ = some (kL l)) : strAt w b = l.length := by
  unfold strAt
  rw [h]
  exact size_bs l
set_option maxRecDepth 100000 in
set_option maxHeartbeats 4000000 in
theorem seq_lines (n : Nat) (hn : 1 ≤ n) (b : Nat) (x : Bs) (w0 : World) (s0 : Sat w0 (seqH b x)) (hx : x.length ≤ 900000) :
    SeqBox Fence.wide n Tryz.prog 61 #[.pointer (some ⟨b + 1, 0, none⟩), .pointer (some ⟨b, 0, none⟩), .pointer (some ⟨b + 2, 0, none⟩)] (fun l : Bs => #[kL l]) (KpB b) (cutL 10 x) b w0 := by
  intro l J W hW hJ hJB hY h0
  have hs : Sat W (seqH b x) := s0.monoB hW
  obtain ⟨YS, hYS⟩ : ∃ YS, cutL 10 x = YS := ⟨_, rfl⟩
  rw [hYS] at hY ⊢
  have HYS := Lib.hid hYS
  have c1 : W.cell? ⟨b + 1, 0, none⟩ = some (.string ⟨#[10]⟩) := by rw [cell_of hs.h1]; rfl
  have HS := Lib.hid hs
  have HX := Lib.hid hx
  have HJB := Lib.hid hJB
  have H0 := Lib.hid h0
  clear s0 hs hYS hx hJ hJB hW h0
  refine callsIn_of_wp Tryz.func61 rfl trivial ?_ rfl
  simp only [Tryz.ntmps61, List.size_toArray, List.length_cons, List.length_nil, Nat.reduceAdd, Nat.reduceSub, Array.replicate_succ, Array.replicate_zero, List.push_toArray, List.append_toArray, List.nil_append, List.cons_append]
  gi_wp2_with fail
  gi_loopw [7] (fun _ wr => ∃ (ps : List Bs) (r : Bs), YS = ps ++ cutL 10 r ∧ r.length ≤ x.length ∧ J ps wr ∧ Sat wr (seqH b r)) (fun _ wr => strAt wr b)
  case atStart => exact ⟨[], x, by rw [← HYS.out]; rfl, by omega, H0.out, HS.out⟩
  case round =>
    clear HS H0
    obtain ⟨ps, r, hps, hr, hj, hs⟩ := hrel
    have d0 : wr.cell? ⟨b, 0, none⟩ = some (kL r) := by rw [cell_of hs.h0]; rfl
    have d1 : wr.cell? ⟨b + 1, 0, none⟩ = some (.string ⟨#[10]⟩) := by rw [cell_of hs.h1]; rfl
    have d2 : wr.cell? ⟨b + 2, 0, none⟩ = some (.int .i64 0) := by rw [cell_of hs.h2]; rfl
    have HI := Lib.hid (sindex_at r wr)
    have HSW := Lib.hid hs
    by_cases hf : Lib.indexByte r 10 = -1
    · have hn := index_byte_not hf
      rw [hf] at HI
      have hcut : cutL 10 r = [r] := cut_free hn
      rw [hcut] at hps
      obtain ⟨fn, tmps, assign, body, hy, hR'⟩ := hY ps r wr hj (by rw [hps]; exact List.prefix_refl _)
      rw [← hps] at hR'
      clear hps hr hj hs hf hn hcut
      gi_wp2_with fail
      refine ⟨trivial, ?_⟩
      refine (callsIn_wide.2 HI.out).mono ?_
      rintro e w2 ⟨rfl, rfl⟩
      gi_wp2_with fail
      refine hR'.mono ?_
      rintro e W4 ⟨rfl, hJ4, hk4⟩
      have HJ4 := Lib.hid hJ4
      clear hJ4 hk4
      gi_wp2_with fail
      go_end0
      exact ⟨⟨_, rfl⟩, HJ4.out⟩
    · obtain ⟨k, hk⟩ : ∃ k : Nat, Lib.indexByte r 10 = (k : Int) := by
        have := Lib.indexByte_ge r 10
        exact ⟨(Lib.indexByte r 10).toNat, by omega⟩
      obtain ⟨h1, h2⟩ := index_byte_at hk
      rw [hk] at HI
      have hkl : k < r.length := by
        have := congrArg List.length h2
        simp only [List.length_append, List.length_take, List.length_cons, List.length_drop] at this
        omega
      have hcut : cutL 10 r = r.take k :: cutL 10 (r.drop (k + 1)) := by
        conv => lhs; rw [h2]
        exact cut_append 10 _ _ h1
      obtain ⟨fn, tmps, assign, body, hy, hR'⟩ := hY ps (r.take k) wr hj (by rw [hps, hcut]; exact ⟨cutL 10 (r.drop (k + 1)), by simp⟩)
      have HN : Hid (YS = (ps ++ [r.take k]) ++ cutL 10 (r.drop (k + 1)) ∧ (r.drop (k + 1)).length ≤ x.length ∧ (r.drop (k + 1)).length < r.length) := Lib.hid ⟨by rw [hps, hcut]; simp, by rw [List.length_drop]; omega, by rw [List.length_drop]; omega⟩
      have k0 : (0 : Int) ≤ (k : Int) := by omega
      have k9 : (k : Int) ≤ 900000 := by have := HX.out; omega
      have hc1 : ∀ W, (Instr.slice 9 (kL r) none (some (.int .i64 (k : Int))) none).run Tryz.prog W = .ok (kL (r.take k)) W := fun W => run_upto r k (by omega) W
      have hc2 : ∀ W, (Instr.slice 9 (kL r) (some (.int .i64 ((k : Int) + 1))) none none).run Tryz.prog W = .ok (kL (r.drop (k + 1))) W := fun W => run_from r (k + 1) _ (by omega) (by omega) W
      clear hps hr hj hs hf hk h1 h2 hkl hcut
      gi_wp2_with fail
      refine ⟨trivial, ?_⟩
      refine (callsIn_wide.2 HI.out).mono ?_
      rintro e w2 ⟨rfl, rfl⟩
      gi_wp2_with fail
      refine hR'.mono ?_
      rintro e W4 ⟨rfl, hJ4, hk4⟩
      have hs4 := hk4.sat HSW.out
      have e0 : W4.cell? ⟨b, 0, none⟩ = some (kL r) := by rw [cell_of hs4.h0]; rfl
      have e1 : W4.cell? ⟨b + 1, 0, none⟩ = some (.string ⟨#[10]⟩) := by rw [cell_of hs4.h1]; rfl
      have e3 : W4.frozen? ⟨b, 0, none⟩ = false := unfrozen_of hs4.h0 0
      have FIN := Lib.hid (And.intro (HJB.out _ _ (kL (r.drop (k + 1))) hJ4) (hs4.setCell (i := 0) (kL (r.drop (k + 1)))))
      clear hJ4 hk4 hs4
      gi_wp2_with fail
      refine ⟨⟨_, _, HN.out.1, HN.out.2.1, FIN.out.1, FIN.out.2⟩, ?_⟩
      rw [strAt_of d0]
      exact Nat.lt_of_le_of_lt (Nat.le_of_eq (strAt_of (l := r.drop (k + 1)) (by rw [cell_of FIN.out.2.h0]; rfl))) HN.out.2.2
end Go.Proofs.YtieaamlpadlfeaaGreatDoor
