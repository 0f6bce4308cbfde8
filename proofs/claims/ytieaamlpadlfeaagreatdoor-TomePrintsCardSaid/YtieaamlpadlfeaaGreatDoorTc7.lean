/- The document's numbers walked. Conditions: none. -/
import Derived.Test.YtieaamlpadlfeaaGreatDoorTc6
import Derived.Test.YtieaamlpadlfeaaGreatDoorTc4
namespace Go.Proofs.YtieaamlpadlfeaaGreatDoor
open Go Go.MapKept Go.RowKit Go.Proofs

attribute [local go_sem] Oper.semAt_some

/-- Integers of a call's own. -/
abbrev IOwn (v : Value) (ns : List Int) (h : Heaplet) : Prop := SliceIs 3 1 v ns.length (ns.flatMap fI) h
theorem IOwn.push {v : Value} {ns : List Int} {h G : Heaplet} {w : World} (n : Int) (hv : IOwn v ns h) (s : Sat w (h ++ G)) (hl : ns.length ≤ 1000000) :
    ∃ a' cap' w' h', (∀ ty, (Builtin.append_ #[22, 22] ty #[v, .slice (some ⟨w.heap.size, 0, none⟩) 1 1]).run Tryz.prog (w.alloc (.cells #[kI n] 3)) = .ok (.slice a' (ns.length + 1) cap') w') ∧ IOwn (.slice a' (ns.length + 1) cap') (ns ++ [n]) h' ∧ Sat w' (h' ++ G) := by
  obtain ⟨i, hi, hz, hsize, hby⟩ := info_parts infoI
  obtain ⟨v', w', k', hap, hv', s'⟩ := sl_push (P := Tryz.prog) (fl := fI) (fun _ => rfl) Tryz.underlying22 hi hz hsize hby rfl (by decide) hv (A := []) (B := G) n (s.new (.cells #[kI n] 3)) (fun u hu => by rw [List.mem_singleton.1 hu]; rfl) (by unfold maxLen; omega) (by omega)
  obtain ⟨a', cap', e⟩ := sl_form hv'
  rw [show (ns ++ [n]).length = ns.length + 1 by simp] at e
  subst e
  exact ⟨a', cap', w', k', hap, hv', s'⟩
theorem NumRet.of_some {F : Heaplet} {x : Bs} {e : Ending} {w' : World} {n : Int} (h : NumRet F x e w') (hn : numS x = some n) : e = .returned (.tuple #[.int .i64 n, .bool true]) ∧ Sat w' F := by
  obtain ⟨v, he, hv, hs⟩ := h
  rw [hv n hn, hn] at he
  exact ⟨he, hs⟩
theorem NumRet.of_none {F : Heaplet} {x : Bs} {e : Ending} {w' : World} (h : NumRet F x e w') (hn : numS x = none) : ∃ v, e = .returned (.tuple #[.int .i64 v, .bool false]) ∧ Sat w' F := by
  obtain ⟨v, he, hv, hs⟩ := h
  rw [hn] at he
  exact ⟨v, he, hs⟩
/-- What numbers answers. -/
def NumsRet (F : Heaplet) (o : Option (List Int)) (e : Ending) (w' : World) : Prop := match o with
  | some ns => ∃ v h, e = .returned (.tuple #[v, .bool true]) ∧ IOwn v ns h ∧ Sat w' (h ++ F)
  | none => e = .returned (.tuple #[.slice none 0 0, .bool false]) ∧ Sat w' F
set_option maxRecDepth 100000 in
set_option maxHeartbeats 4000000 in
theorem rnums_any {F : Heaplet} {w : World} {v : Value} {l : List Bs} (s : Sat w F) (hv : WsAt F v l) (hl : l.length ≤ 1000000) (hs : ∀ x ∈ l, x.length ≤ 900000) : Calls Tryz.prog 41 #[v] w (NumsRet F (numsS l)) := by
  obtain ⟨a, cap, rfl, hcap, hu⟩ := hv
  have HU := Lib.hid hu
  have HSH := Lib.hid hs
  have hl9 : (l.length : Int) ≤ 1000000 := by omega
  have H0 := Lib.hid (s.new (.cells #[] 3))
  obtain ⟨PB, hPB⟩ : ∃ PB : Ending → World → Prop, NumsRet F (numsS l) = PB := ⟨_, rfl⟩
  rw [hPB]
  have HPB := Lib.hid hPB
  have HL := Lib.hid hl
  clear hPB s hu hs hcap hl
  go_enter Tryz.func41, Tryz.ntmps41
  go_upto_block 0 with (fail)
  go_wp2_with fail
  go_loopw [4, 5] (fun v4 v5 wr => ∃ (i : Nat) (out : List Int) (h : Heaplet), i ≤ l.length ∧ v5 = .int .i64 (i : Int) ∧ out.length = i ∧ IOwn v4 out h ∧ Sat wr (h ++ F) ∧ numsS l = (numsS (l.drop i)).map (out ++ ·)) (fun _ v5 _ => 2000000 - (RowKit.intOf v5).toNat)
  case atStart => exact ⟨0, [], _, by omega, rfl, rfl, sl_new 3 1 w.heap.size, H0.out, by simp⟩
  case round =>
    clear H0
    obtain ⟨i, out, h, hi, rfl, hol, hv, hs, hn⟩ := hrel
    have i0 : (0 : Int) ≤ (i : Int) := by omega
    obtain ⟨va, vc, rfl⟩ := sl_form hv
    have HOE := Lib.hid hol
    clear hol
    by_cases hil : i < l.length
    · have i1 : (i : Int) < (l.length : Int) := by omega
      have i8 : i < 2000000 := by have := HL.out; omega
      obtain ⟨y, hy⟩ : ∃ y, l[i]? = some y := ⟨_, List.getElem?_eq_getElem hil⟩
      obtain ⟨g, off, rfl, hc⟩ := HU.out i y hy
      have c0 := hc wr hs.right
      have HNU := Lib.hid (refnum_any hs y (HSH.out y (List.mem_of_getElem? hy)))
      obtain ⟨hsome, hnone⟩ := nums_more hn hy
      obtain ⟨o, ho⟩ : ∃ o, numS y = o := ⟨_, rfl⟩
      have HOY := Lib.hid ho
      cases o with
      | none =>
        have hno := hnone ho
        have HNO := Lib.hid hno
        clear hsome hnone hno ho hn hv hs hc hy hil hi i8 HU HSH
        go_wp2_with (go_at_call 39; refine (HNU.out).mono ?_; intro e w2 h9; obtain ⟨v2, rfl, h2⟩ := h9.of_none HOY.out; have H2 := Lib.hid h2.right; clear h2)
        rw [← HPB.out, HNO.out]
        exact ⟨rfl, H2.out⟩
      | some n =>
        have hso := hsome n ho
        have HST := Lib.hid (And.intro hso (And.intro hil (show (out ++ [n]).length = i + 1 by simp [HOE.out])))
        have HV : Hid (IOwn (.slice va out.length vc) out h) := Lib.hid hv
        have HOL := Lib.hid (show out.length ≤ 1000000 by have := HL.out; have := HOE.out; omega)
        clear hsome hnone hso ho hn hv hs hc hy hil hi HU HSH
        go_wp2_with (first
          | (at_builtin; refine wpList_append_run rfl _ _ _ _ rfl _ _ _ _ rfl rfl HAP.out ?_)
          | (go_at_call 39; refine (HNU.out).mono ?_; intro e w2 h9; obtain ⟨rfl, h2⟩ := h9.of_some HOY.out; obtain ⟨a', cap', w', h', hap, hv', hs'⟩ := IOwn.push n HV.out h2 HOL.out; have HAP := Lib.hid hap; have FIN := Lib.hid (And.intro hv' hs'); clear hap hv' hs' h2))
        exact ⟨⟨i + 1, out ++ [n], h', HST.out.2.1, by simp, HST.out.2.2, FIN.out.1, FIN.out.2, HST.out.1⟩, by simp only [RowKit.intOf]; omega⟩
    · obtain rfl : i = l.length := by omega
      have hdone := nums_done hn
      have HD := Lib.hid hdone
      have FIN := Lib.hid (And.intro hv hs)
      clear hdone hn hv hs hil hi HU HSH
      go_wp2_with fail
      rw [← HPB.out, HD.out]
      exact ⟨.slice va out.length vc, h, rfl, FIN.out.1, FIN.out.2⟩
end Go.Proofs.YtieaamlpadlfeaaGreatDoor
