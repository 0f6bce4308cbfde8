/- Texts put together: Tw4. Conditions: none. -/
import Derived.Test.YtgocmnejlbfplaaGreatDoorTy9
namespace Go.Proofs.YtgocmnejlbfplaaGreatDoor
open Go Go.MapKept Go.RowKit Go.Proofs

def secM (n : Nat) (p : Pg) : ByteArray := ⟨(secB n p).toArray⟩
theorem secM_size {n : Nat} {p : Pg} (h : goodP p = true) : (secM n p).size = 256 := by
  show (secB n p).toArray.size = 256
  rw [List.size_toArray]
  exact secB_len h
theorem good_bds {p : Pg} (h : goodP p = true) : p.slots.length ≤ 1000 ∧ (∀ x ∈ p.slots, x.2.size ≤ 1000000) ∧ (-9223372036854775808 ≤ p.lsn ∧ p.lsn ≤ 9223372036854775807) := by
  have hg := goodP_iff.1 h
  refine ⟨by omega, fun x hx => ?_, by omega⟩
  have := (odd_no (hg.2.2.2.1 x hx)).2
  omega
set_option maxRecDepth 100000 in
theorem sector_any {v : Value} {p : Pg} {F : Heaplet} {w : World} (n : Nat) (hn : n < 4294967296) (hg : goodP p = true) (hv : SlAt F v p.slots) (s : Sat w F) :
    Calls Tryz.prog 61 #[.int .i64 (n : Int), pgV p.lsn v] w (Ret (.string (secM n p)) (Below w.heap.size w)) := by
  obtain ⟨h1, h2, h3⟩ := good_bds hg
  obtain ⟨F2, hF2⟩ : ∃ F2, allOf w = F2 := ⟨_, rfl⟩
  have s2 : Sat w F2 := by rw [← hF2]; exact sat_all w
  have hFF : ∀ W, Sat W F2 → Sat W F := fun W hW => by rw [← hF2] at hW; exact s.monoB hW.below
  have HB : Hid (∀ W, Sat W F2 → Below w.heap.size w W) := Lib.hid (fun W hW => by rw [← hF2] at hW; exact hW.below)
  have hs1 := s2.new (.cells #[kI p.lsn, v] 48)
  have HEN := Lib.hid (enc_any hv (hFF _ hs1.tail) h1 h2 h3)
  have HS1 := Lib.hid hs1
  have hem : encM p = ⟨(encB p).toArray⟩ := by unfold encM; rw [hg]; rfl
  have hee : encE p = 0 := by unfold encE; rw [hg]; rfl
  rw [hem, hee] at HEN
  have HP4 : Hid (∀ W, Calls Tryz.prog 82 #[.int .u64 (n : Int), .int .i64 4] W (fun e w' => e = .returned (.string ⟨(be4 n).toArray⟩) ∧ Below W.heap.size W w')) := Lib.hid (fun W => by
    have := hput_any n 4 (.inl rfl) (by omega) W
    rw [beL_4] at this
    exact this)
  have HP8 : Hid (∀ W, Calls Tryz.prog 82 #[.int .u64 0, .int .i64 8] W (fun e w' => e = .returned (.string ⟨(be8 0).toArray⟩) ∧ Below W.heap.size W w')) := Lib.hid (fun W => by
    have := hput_any 0 8 (.inr rfl) (by omega) W
    rw [beL_8] at this
    exact this)
  have hfin : ((⟨(encB p).toArray⟩ : ByteArray) ++ ⟨#[80, 65, 71, 69]⟩ ++ ⟨(be4 n).toArray⟩ ++ ⟨(be8 0).toArray⟩) = secM n p := by
    apply ba_ext
    simp only [ByteArray.data_append, Array.toList_append, secM, secB]
    have e8 : be8 0 = [0, 0, 0, 0, 0, 0, 0, 0] := by decide
    rw [e8]
    simp
  have HFE := Lib.hid hfin
  have n0 : (0 : Int) ≤ (n : Int) := by omega
  have n1 : (n : Int) < 4294967296 := by omega
  have c0 : (w.alloc (.cells #[kI p.lsn, v] 48)).cell? ⟨w.heap.size, 0, none⟩ = some (kI p.lsn) := by rw [cell_of HS1.out.h0]; rfl
  have c1 : (w.alloc (.cells #[kI p.lsn, v] 48)).cell? ⟨w.heap.size, 1, none⟩ = some v := by rw [cell_of HS1.out.h0]; rfl
  have hE : (encB p).toArray.size = 240 := by rw [List.size_toArray]; exact encB_len hg
  have h8 : (be8 0).toArray.size = 8 := rfl
  have h4 : (be4 n).toArray.size = 4 := rfl
  generalize (encB p).toArray = EB at *
  generalize (be8 0).toArray = B8 at *
  generalize (be4 n).toArray = B4 at *
  generalize secM n p = SM at *
  clear hv s h1 h2 h3 hF2 s2 hFF hs1 hem hee hfin hn hg
  go_enter Tryz.func61, Tryz.ntmps61
  go_wp2_with (first
    | (go_at_call 81; refine (HEN.out).mono ?_; rintro e w2 ⟨rfl, hb⟩; have HS2 := Lib.hid (HS1.out.monoB hb); clear hb)
    | (go_at_call 82; first
        | ((with_reducible refine (HP4.out _).mono ?_); rintro e w3 ⟨rfl, hb⟩; have HS3 := Lib.hid (HS2.out.monoB hb); clear hb)
        | ((with_reducible refine (HP8.out _).mono ?_); rintro e w4 ⟨rfl, hb⟩; have HS4 := Lib.hid (HS3.out.monoB hb); clear hb)))
  rw [HFE.out]
  have HE := Lib.hid (HB.out _ HS4.out.tail)
  go_ret
  exact ⟨rfl, HE.out⟩
theorem Sat.lft {w : World} {h F : Heaplet} (s : Sat w (h ++ F)) : Sat w h := ⟨fun x hx => s.1 x (List.mem_append_left F hx), by
  have := s.2
  rw [List.filterMap_append] at this
  exact (List.nodup_append.1 this).1⟩
theorem two_at {W : World} {b : Nat} {x0 x1 : Value} {T : TypeId} {F : Heaplet} (hW : Sat W (.blk b (.cells #[x0, x1] T) :: F)) : W.cell? ⟨b, 0, none⟩ = some x0 ∧ W.cell? ⟨b, 1, none⟩ = some x1 ∧ ∀ i, W.frozen? ⟨b, i, none⟩ = false :=
  ⟨by rw [cell_of hW.h0]; rfl, by rw [cell_of hW.h0]; rfl, unfrozen_of hW.h0⟩
theorem two_set {W : World} {b : Nat} {x0 x1 : Value} {T : TypeId} {F : Heaplet} (hW : Sat W (.blk b (.cells #[x0, x1] T) :: F)) (y0 y1 : Value) : Sat ((W.setCell ⟨b, 0, none⟩ y0).setCell ⟨b, 1, none⟩ y1) (.blk b (.cells #[y0, y1] T) :: F) :=
  (hW.setCell (i := 0) y0).setCell (i := 1) y1
/-- What page answers. -/
def PageRet (o : Option Pg) (F : Heaplet) (e : Ending) (w' : World) : Prop := ∃ (sv : Value) (h : Heaplet), Sat w' (h ++ F) ∧ match o with
  | some p => e = .returned (.tuple #[pgV p.lsn sv, .bool true]) ∧ SlAt h sv p.slots
  | none => e = .returned (.tuple #[pgV 0 (.slice none 0 0), .bool false])
def pageM (n : Nat) (s : ByteArray) : Option Pg := pageB n s.data.toList
theorem page_results (tm : Array Value) (W9 : World) (g : Nat) (n : Int) (c : Bool) (sv : Value) (h1 : (tm[4]?).getD undef = .pointer (some ⟨g, 0, none⟩)) (h2 : (tm[5]?).getD undef = .bool c) (r0 : W9.cell? ⟨g, 0, none⟩ = some (kI n)) (r1 : W9.cell? ⟨g, 1, none⟩ = some sv) :
    (results Tryz.f58 tm).run Tryz.prog W9 = .ok (.tuple #[pgV n sv, .bool c]) W9 := by
  simp [results, Tryz.results58, go_sem, h1, h2, r0, r1]
set_option maxRecDepth 100000 in
theorem page_any (n : Nat) (hn : n < 4294967296) (s : ByteArray) (h256 : s.size = 256) (F : Heaplet) (w : World) (hs : Sat w F) :
    Calls Tryz.prog 58 #[.int .i64 (n : Int), .string s] w (PageRet (pageM n s) F) := by
  have h0 := hs.new (.cells #[kI 0, .slice none 0 0] 48)
  have hx : (s.extract 0 240).size = 240 := by rw [ByteArray.size_extract]; omega
  have hdl : (s.extract 0 240).data.toList = s.data.toList.take 240 := by rw [ext_list]; rfl
  have HD := Lib.hid (dec_any (s.extract 0 240) hx _ _ h0)
  rw [hdl] at HD
  obtain ⟨pb, hpb⟩ : ∃ pb, w.heap.size = pb := ⟨_, rfl⟩
  rw [hpb] at HD
  have HSE : Hid (∀ (W : World) (G : Heaplet) (sv : Value) (q : Pg), goodP q = true → SlAt G sv q.slots → Sat W G → Calls Tryz.prog 61 #[.int .i64 (n : Int), pgV q.lsn sv] W (Ret (.string (secM n q)) (Below W.heap.size W))) := Lib.hid (fun W G sv q h1 h2 h3 => sector_any n hn h1 h2 h3)
  have hsz : (240 : Int) ≤ (s.size : Int) := by omega
  clear h0 hx hdl hs hn
  cases hd : decB (s.data.toList.take 240) with
  | none =>
    rw [hd] at HD
    have hpm : pageM n s = none := by unfold pageM pageB; rw [hd]
    rw [hpm]
    clear hpm HSE hd
    go_enter Tryz.func58, Tryz.ntmps58
    go_upto_if 22 with (go_at_call 73; refine (HD.out).mono ?_; rintro e w2 ⟨sv, h, hs2, rfl⟩; have HS2 := Lib.hid (hs2.perm (List.perm_middle (l₁ := h))); clear hs2)
    have HS3 := Lib.hid ((HS2.out.new (.cells #[kI 0, .slice none 0 0] 48)).swap)
    obtain ⟨c0, c1, ff⟩ := two_at HS3.out
    have h9 := two_set HS3.out (kI 0) (.slice none 0 0)
    have R9 := Lib.hid (two_at h9)
    have FIN := Lib.hid h9.tail.tail
    clear h9 HS2 HS3
    go_wp2_with fail
    exact bodyPost_ret (v := .tuple #[pgV 0 (.slice none 0 0), .bool false]) (page_results _ _ pb 0 false _ rfl rfl R9.out.1 R9.out.2.1) rfl ⟨.slice none 0 0, h, FIN.out, rfl⟩
  | some p =>
    rw [hd] at HD
    have hg : goodP p = true := (decB_some hd).1
    have hsz2 := secM_size (n := n) hg
    have hpm : pageM n s = if secM n p = s then some p else none := by
      unfold pageM pageB
      rw [hd]
      by_cases h : secM n p = s
      · rw [if_pos h]
        show (if secB n p = s.data.toList then some p else none) = _
        rw [if_pos (by rw [← h]; rfl)]
      · rw [if_neg h]
        show (if secB n p = s.data.toList then some p else none) = _
        rw [if_neg (show ¬ secB n p = s.data.toList from fun e => h (ba_ext (a := secM n p) (b := s) e))]
    obtain ⟨O, hO⟩ : ∃ O, pageM n s = O := ⟨_, rfl⟩
    rw [hO] at hpm ⊢
    have HO := Lib.hid hpm
    clear hpm hd hO
    go_enter Tryz.func58, Tryz.ntmps58
    go_upto_region 2 with (go_at_call 73; refine (HD.out).mono ?_; rintro e w2 ⟨sv, h4, hs2, rfl, hsl⟩; obtain ⟨sa, sc, rfl, _⟩ := id hsl; have HS2 := Lib.hid (hs2.perm (List.perm_middle (l₁ := h4))); have HSL := Lib.hid hsl; clear hs2 hsl)
    have HS3 := Lib.hid ((HS2.out.new (.cells #[kI p.lsn, .slice sa p.slots.length sc] 48)))
    obtain ⟨g0, g1, _⟩ := two_at HS3.out
    have HSE2 := Lib.hid (HSE.out _ _ _ p hg (HSL.out.mono (F' := .blk w2.heap.size (.cells #[kI p.lsn, .slice sa p.slots.length sc] 48) :: .blk pb (.cells #[kI 0, .slice none 0 0] 48) :: (h4 ++ F)) (fun w hw => Sat.lft (F := F) hw.tail.tail)) HS3.out)
    clear HSE HD HS2
    obtain ⟨sm, hsm⟩ : ∃ sm, secM n p = sm := ⟨_, rfl⟩
    rw [hsm] at HSE2 hsz2 HO
    clear hsm
    by_cases heq : sm = s
    · obtain rfl : O = some p := by rw [HO.out, if_pos heq]
      subst heq
      go_upto_if 22 with (go_at_call 61; refine (HSE2.out).mono ?_; rintro e w4 ⟨rfl, hb⟩; have HS4 := Lib.hid (HS3.out.monoB hb); clear hb)
      clear g0 g1
      obtain ⟨g0, g1, _⟩ := two_at HS4.out
      have hp := HS4.out.swap
      obtain ⟨c0, c1, ff⟩ := two_at hp
      have h9 := two_set hp (kI p.lsn) (.slice sa p.slots.length sc)
      have R9 := Lib.hid (two_at h9)
      have FIN := Lib.hid h9.tail.tail
      clear h9 hp HS3
      go_wp2_with fail
      exact bodyPost_ret (v := .tuple #[pgV p.lsn (.slice sa p.slots.length sc), .bool true]) (page_results _ _ pb p.lsn true _ rfl rfl R9.out.1 R9.out.2.1) rfl ⟨_, h4, FIN.out, rfl, HSL.out⟩
    · obtain rfl : O = none := by rw [HO.out, if_neg heq]
      have hq : (sm.toList == s.toList) = false := by rw [ba_cmp]; exact decide_eq_false heq
      have hq2 : (sm = s) = False := eq_false heq
      go_upto_if 22 with (go_at_call 61; refine (HSE2.out).mono ?_; rintro e w4 ⟨rfl, hb⟩; have HS4 := Lib.hid (HS3.out.monoB hb); clear hb)
      have hp := HS4.out.swap
      obtain ⟨c0, c1, ff⟩ := two_at hp
      have h9 := two_set hp (kI 0) (.slice none 0 0)
      have R9 := Lib.hid (two_at h9)
      have FIN := Lib.hid h9.tail.tail
      clear h9 hp HS3 g0 g1
      go_wp2_with fail
      exact bodyPost_ret (v := .tuple #[pgV 0 (.slice none 0 0), .bool false]) (page_results _ _ pb 0 false _ rfl rfl R9.out.1 R9.out.2.1) rfl ⟨.slice none 0 0, h4, FIN.out, rfl⟩
end Go.Proofs.YtgocmnejlbfplaaGreatDoor
