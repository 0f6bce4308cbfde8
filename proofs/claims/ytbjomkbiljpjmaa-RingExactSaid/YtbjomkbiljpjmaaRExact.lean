/- RingExact walked. Conditions: none. -/
import Derived.Test.YtbjomkbiljpjmaaEx9R5
import Derived.Test.YtbjomkbiljpjmaaRing09
import Derived.Test.YtbjomkbiljpjmaaArgs9
import Derived.Test.YtbjomkbiljpjmaaPRows
namespace Go.Proofs.Ytbjomkbiljpjmaa
open Go Go.MapKept Go.RowKit Go.Proofs Go.Shelf

attribute [local go_sem] Oper.semAt_some

theorem Mid.start {rb hand : Nat} {fr : FrsS} {H : Heaplet} {w : World} (h : RS.RingIs rb fr hand H w) : ∃ F', Sat w F' ∧ ∀ w' ub g fr' hand', RefF ub g fr' hand' F' w' → Mid rb ub g fr hand fr' hand' H w' := by
  obtain ⟨L, e, h0, fb, m, es, clk, D, q1, q2, q3⟩ := h
  refine ⟨ringHS rb fb m es clk L hand ++ H, q3, fun w' ub g fr' hand' h' => ⟨⟨L, e, h0, fb, m, es, clk, D, q1, q2, ?_⟩, h'.1⟩⟩
  have q5 : Sat w' (refH ub g fr' hand' ++ (ringHS rb fb m es clk L hand ++ H)) := h'.2
  exact q5.perm (List.perm_append_comm_assoc (refH ub g fr' hand') _ H)
theorem Mid.ref2 {rb ub g hand1 hand2 : Nat} {fr1 fr2 : FrsS} {H : Heaplet} {w : World} (h : Mid rb ub g fr1 hand1 fr2 hand2 H w) : ∃ F', RefF ub g fr2 hand2 F' w ∧ ∀ E w' fr' hand', RefF ub g fr' hand' (E ++ F') w' → Mid rb ub g fr1 hand1 fr' hand' (E ++ H) w' := by
  obtain ⟨⟨L, e, h0, fb, m, es, clk, D, q1, q2, q3⟩, hb⟩ := h
  have q4 : Sat w (ringHS rb fb m es clk L hand1 ++ (refH ub g fr2 hand2 ++ H)) := q3
  refine ⟨ringHS rb fb m es clk L hand1 ++ H, ⟨hb, ?_⟩, fun E w' fr' hand' h' => ⟨⟨L, e, h0, fb, m, es, clk, D, q1, q2, ?_⟩, h'.1⟩⟩
  · exact q4.perm (List.perm_append_comm_assoc _ (refH ub g fr2 hand2) H)
  · have q5 : Sat w' (refH ub g fr' hand' ++ (E ++ (ringHS rb fb m es clk L hand1 ++ H))) := h'.2
    exact (q5.perm ((List.perm_append_comm_assoc E _ H).append_left _)).perm (List.perm_append_comm_assoc (refH ub g fr' hand') _ (E ++ H))
theorem ba_inj {a b : ByteArray} (h : a.toList = b.toList) : a = b := by
  rw [ByteArray.toList_eq, ByteArray.toList_eq] at h
  exact ByteArray.ext (Array.toList_inj.1 h)
theorem full_now (fr : FrsS) : fullK (keysOf fr) = (RS.nowR fr).length := by
  induction fr with
  | nil => rfl
  | cons o t ih =>
    cases o with
    | none => exact ih
    | some f =>
      have h1 : fullK (keysOf (some f :: t)) = fullK (keysOf t) + 1 := rfl
      have h2 : RS.nowR (some f :: t) = f :: RS.nowR t := rfl
      rw [h1, h2, ih]; rfl
theorem ringIs_drewS {rb hand : Nat} {fr : FrsS} {F : Heaplet} {w : World} (h : RS.RingIs rb fr hand F w) : RS.RingIs rb fr hand F w.drew := by
  obtain ⟨L, e, h0, fb, m, es, clk, D, q1, q2, q3⟩ := h
  exact ⟨L, e, h0, fb, m, es, clk, D, q1, q2, q3.drew⟩
/-- Ahead of a call. -/
def ExJ (rb ub k : Nat) (H : Heaplet) (w : World) : Prop := ∃ g fr hand, Mid rb ub g fr hand fr hand H w ∧ RS.PinsLe fr k
/-- Between two rounds of the going over. -/
def RxI (R : List (Int × ByteArray)) (B : Nat) (HX : Nat → Heaplet) (pre : List (Int × ByteArray)) (W : World) : Prop := B ≤ W.heap.size ∧ pre <+: R ∧ Sat W (HX pre.length)
theorem RxI.grown {R : List (Int × ByteArray)} {B : Nat} {HX : Nat → Heaplet} {pre : List (Int × ByteArray)} {W W' : World} {row : Option Nat} (h : RxI R B HX pre W) (hu : ∀ n, Under B (HX n)) (hg : W.grownBy W' row)
    (hr : ∀ r, row = some r → B ≤ r ∧ ∃ o : Obj, W.heap[r]? = some o ∧ o.isCells = false) : RxI R B HX pre W' :=
  ⟨Nat.le_trans h.1 hg.size, h.2.1, h.2.2.ownGrown (hu _) hg hr⟩
def RxX (R : List (Int × ByteArray)) (c : Code) (pre : List (Int × ByteArray)) (_ : World) : Prop := c = .ret ∧ ¬ pre <+: R
theorem out_both (o : Option (Fr ByteArray)) : ∃ kk vv gg pp ff, RS.outV o = .agg #[kI kk, kS vv, .bool gg] ∧ outR o = .agg #[.bool gg, kI kk, kS vv, kI pp, .bool ff] := by
  cases o with
  | none => exact ⟨0, ⟨#[]⟩, false, 0, false, rfl, rfl⟩
  | some f => exact ⟨f.key, f.val, true, f.pins, f.fresh, rfl, rfl⟩
theorem valV_str (o : Option ByteArray) : ∃ s, RS.valV o = kS s := by
  cases o with
  | none => exact ⟨_, rfl⟩
  | some v => exact ⟨v, rfl⟩
theorem act3 {w : World} {x : Nat} {kind key : Int} {s : ByteArray} {H : Heaplet} (h : Sat w (.blk x (.cells #[kI kind, kI key, kS s] 53) :: H)) :
    w.cell? ⟨x, 0, none⟩ = some (kI kind) ∧ w.cell? ⟨x, 1, none⟩ = some (kI key) ∧ w.cell? ⟨x, 2, none⟩ = some (kS s) := by
  refine ⟨?_, ?_, ?_⟩
  all_goals
    rw [cell_of h.h0]; rfl
/-- Behind a call: what both answered. -/
def ExK (rb ub k x : Nat) (kind key : Int) (s : ByteArray) (H : Heaplet) (v9 v10 v11 v12 : Value) (w : World) : Prop :=
  ∃ t b g fr hand, v9 = kS t ∧ v10 = kS t ∧ v11 = .bool b ∧ v12 = .bool b ∧ Mid rb ub g fr hand fr hand (.blk x (.cells #[kI kind, kI key, kS s] 53) :: H) w ∧ RS.PinsLe fr k
set_option maxRecDepth 100000 in
set_option maxHeartbeats 40000000 in
theorem rexact_walk (frames : Int) (p : Option Addr) (len cap : Nat) (K1 K2 : Nat → Int) (S : Nat → ByteArray) (Wi : World) (ha : Acts9 Wi p len K1 K2 S) :
    Calls Try.prog 8 #[.int .i64 frames, .slice p len cap] Wi (Ret (.bool true) (RowKit.Below Wi.heap.size Wi)) := by
  have Ha := Lib.hid ha
  have hlen := ha.1
  clear ha
  refine (callsIn_wide (n := 9)).1 ?_
  refine callsIn_of_wp_marks Try.func8 rfl trivial ?_ rfl
  simp only [Try.ntmps8, List.size_toArray, List.length_cons, List.length_nil, Nat.reduceAdd, Nat.reduceSub, Array.replicate_succ, Array.replicate_zero, List.push_toArray, List.append_toArray, List.nil_append, List.cons_append]
  refine wpIn_wide.2 ?_
  have h0 := (sat_all Wi).new (.cells #[.bool false] 4)
  go_wp2_with fail
  refine (awake9 _ _ h0).mono ?_
  rintro e w1 ⟨rfl, hs1⟩
  clear h0
  go_wp2_with fail
  refine (RS.new_any _ frames w1 hs1).mono ?_
  rintro e w2 ⟨rb, rfl, h2⟩
  obtain ⟨F', hF', back⟩ := Mid.start h2
  have HBK := Lib.hid back
  clear hs1 h2 back
  go_wp2_with fail
  refine (new_ref F' frames w2 hF').mono ?_
  rintro e w3 ⟨ub, g, rfl, h3⟩
  have hM := HBK.out _ _ _ _ _ h3
  obtain ⟨H1, hH1⟩ : ∃ H1, HItem.blk Wi.heap.size (.cells #[.bool false] 4) :: allOf Wi = H1 := ⟨_, rfl⟩
  rw [hH1] at hM
  have hJ : ExJ rb ub 0 H1 w3 := ⟨g, _, _, hM, fun i f hf => by rw [List.getElem?_replicate] at hf; split at hf <;> cases hf⟩
  have hH : ∀ w, Sat w H1 → w.cell? ⟨Wi.heap.size, 0, none⟩ = some (.bool false) ∧ w.frozen? ⟨Wi.heap.size, 0, none⟩ = false ∧ Sat w (allOf Wi) := by
    intro w hw
    rw [← hH1] at hw
    exact ⟨by rw [cell_of hw.h0]; rfl, unfrozen_of hw.h0 0, hw.tail⟩
  have HH1 := Lib.hid hH1
  have HH := Lib.hid hH
  have HJ := Lib.hid hJ
  clear hF' h3 hM hH1 hJ hH HBK
  go_upto_block 0 with (fail)
  go_cut [] from 7 to 156 (fun wx => ExJ rb ub 200 H1 wx)
  case first =>
    go_wp2_with fail
    go_loopw [7] (fun i wr => ∃ k : Nat, k ≤ len ∧ k ≤ 200 ∧ i = .int .i64 k ∧ ExJ rb ub k H1 wr) (fun i _ => 200 - (intOf i).toNat)
    case atStart => exact ⟨0, by omega, by omega, rfl, HJ.out⟩
    case round =>
      obtain ⟨k, hk1, hk2, rfl, g, fr, hand, hM, hpl⟩ := hrel
      clear HJ
      by_cases hlt : k < len ∧ k < 200
      · obtain ⟨hlt1, hlt2⟩ := hlt
        obtain ⟨ba, off, rfl, hba, hA0, hA1, hA2⟩ := (Ha.out).2 k hlt1
        obtain ⟨_, _, hs⟩ := HH.out _ hM.frame
        have c0 : wr.cell? ⟨ba, off + k * 3, none⟩ = some (kI (K1 k)) := (hs.cellOld (a := ⟨ba, off + k * 3, none⟩) hba).trans hA0
        have c1 := (hs.cellOld (a := ⟨ba, off + k * 3 + 1, none⟩) hba).trans hA1
        have c2 := (hs.cellOld (a := ⟨ba, off + k * 3 + 2, none⟩) hba).trans hA2
        have hk0 : (0 : Int) ≤ (k : Int) := by omega
        have hMn := hM.new (.cells #[kI (K1 k), kI (K2 k), kS (S k)] 53)
        have HM := Lib.hid hMn
        have HPL := Lib.hid hpl
        clear hs hA0 hA1 hA2 hM hMn hpl
        generalize K1 k = kind at *
        generalize K2 k = key at *
        generalize S k = s at *
        go_upto_block 2 with (fail)
        clear c0 c1 c2
        generalize wr.alloc (.cells #[.int .i64 kind, .int .i64 key, .string s] 53) = W1 at *
        generalize wr.heap.size = x at *
        go_cut [9, 10, 11, 12, 13, 14, 15, 16] from 28 to 137 (fun v9 v10 v11 v12 _ _ _ _ wx => ExK rb ub (k + 1) x kind key s H1 v9 v10 v11 v12 wx)
        case first =>
          by_cases k1 : kind = 1
          · have b1 : (kind == 1) = true := by simpa using k1
            clear k1
            obtain ⟨a0, a1, a2⟩ := act3 HM.out.frame
            have hpt := RS.put_any rb fr hand _ W1 HM.out.ring key s
            have hpl2 := PinsLe.put HPL.out (by omega) hand key s
            obtain ⟨⟨⟨o, ok⟩, fr', hand'⟩, hput⟩ : ∃ pr, putM fr hand key s = pr := ⟨_, rfl⟩
            rw [hput] at hpt hpl2
            simp only at hpt hpl2
            obtain ⟨kk, vv, gg, pp, ff, ho1, ho2⟩ := out_both o
            rw [ho1] at hpt
            have HPT := Lib.hid hpt
            have HP2 := Lib.hid hpl2
            have HPU := Lib.hid hput
            have HO2 := Lib.hid ho2
            clear hpt hpl2 hput ho1 ho2
            go_wp2_with fail
            refine (HPT.out).mono ?_
            rintro e w5 ⟨rfl, h5⟩
            have hM5 := (HM.out.of_ring h5).new (.cells #[kI kk, kS vv, .bool gg] 55)
            obtain ⟨F2, hR2, back2⟩ := hM5.ref
            have hr := rput_any ub g fr hand F2 _ hR2 (PinsLe.nn HPL.out) key s
            rw [HPU.out] at hr
            simp only [HO2.out] at hr
            have HR := Lib.hid hr
            have HBK := Lib.hid back2
            obtain ⟨_, d1, d2⟩ := act3 hM5.frame.tail
            clear h5 hM5 hR2 back2 hr HPT a0 a1 a2
            go_wp2_with fail
            refine (HR.out).mono ?_
            rintro e w7 ⟨rfl, h7⟩
            have hM7 := (HBK.out _ _ _ h7).new (.cells #[.bool gg, kI kk, kS vv, kI pp, .bool ff] 64)
            have s7 := hM7.frame
            have t0 : (w7.alloc (.cells #[.bool gg, kI kk, kS vv, kI pp, .bool ff] 64)).cell? ⟨w5.heap.size, 0, none⟩ = some (kI kk) := by rw [cell_of s7.h1]; rfl
            have t1 : (w7.alloc (.cells #[.bool gg, kI kk, kS vv, kI pp, .bool ff] 64)).cell? ⟨w5.heap.size, 1, none⟩ = some (kS vv) := by rw [cell_of s7.h1]; rfl
            have t2 : (w7.alloc (.cells #[.bool gg, kI kk, kS vv, kI pp, .bool ff] 64)).cell? ⟨w5.heap.size, 2, none⟩ = some (.bool gg) := by rw [cell_of s7.h1]; rfl
            have fin : ExK rb ub (k + 1) x kind key s H1 (kS ⟨#[]⟩) (kS ⟨#[]⟩) (.bool ok) (.bool ok) (w7.alloc (.cells #[.bool gg, kI kk, kS vv, kI pp, .bool ff] 64)) := ⟨⟨#[]⟩, ok, g, _, _, rfl, rfl, rfl, rfl, hM7.unF.unF, PinsLe.up HP2.out (by omega)⟩
            have FIN := Lib.hid fin
            clear fin h7 hM7 s7 HR HBK d1 d2
            go_wp2_with fail
            go_meet
            exact FIN.out
          · have b1 : (kind == 1) = false := by simpa using k1
            by_cases k2 : kind = 2
            · have b2 : (kind == 2) = true := by simpa using k2
              clear k1 k2
              obtain ⟨a0, a1, a2⟩ := act3 HM.out.frame
              have hg := RS.get_any rb fr hand _ W1 HM.out.ring key
              obtain ⟨t, ht⟩ := valV_str (getM fr key).1
              obtain ⟨b, hb⟩ : ∃ b, (getM fr key).1.isSome = b := ⟨_, rfl⟩
              rw [ht, hb] at hg
              have HG := Lib.hid hg
              have HT := Lib.hid ht
              have HB := Lib.hid hb
              clear hg ht hb
              go_wp2_with fail
              refine (HG.out).mono ?_
              rintro e w5 ⟨rfl, h5⟩
              have hM5 := HM.out.of_ring h5
              obtain ⟨F2, hR2, back2⟩ := hM5.ref
              have hr := get_ref ub g fr hand F2 _ hR2 key
              rw [HT.out, HB.out] at hr
              obtain ⟨_, d1, _⟩ := act3 hM5.frame
              have HR := Lib.hid hr
              have HBK := Lib.hid back2
              clear h5 hM5 hR2 back2 hr HG a0 a1 a2
              go_wp2_with fail
              refine (HR.out).mono ?_
              rintro e w7 ⟨rfl, h7⟩
              have hM7 : Hid (ExK rb ub (k + 1) x kind key s H1 (kS t) (kS t) (.bool b) (.bool b) w7) := Lib.hid ⟨t, b, g, _, _, rfl, rfl, rfl, rfl, HBK.out _ _ _ h7, PinsLe.up (PinsLe.get HPL.out key) (by omega)⟩
              clear h7 HR HBK
              go_wp2_with fail
              go_meet
              exact hM7.out
            · have b2 : (kind == 2) = false := by simpa using k2
              by_cases k3 : kind = 3
              · have b3 : (kind == 3) = true := by simpa using k3
                clear k1 k2 k3
                obtain ⟨a0, a1, a2⟩ := act3 HM.out.frame
                have hg := RS.del_any rb fr hand _ W1 HM.out.ring key
                obtain ⟨t, ht⟩ := valV_str (delM fr key).1
                obtain ⟨b, hb⟩ : ∃ b, (delM fr key).1.isSome = b := ⟨_, rfl⟩
                rw [ht, hb] at hg
                have HG := Lib.hid hg
                have HT := Lib.hid ht
                have HB := Lib.hid hb
                clear hg ht hb
                go_wp2_with fail
                refine (HG.out).mono ?_
                rintro e w5 ⟨rfl, h5⟩
                have hM5 := HM.out.of_ring h5
                obtain ⟨F2, hR2, back2⟩ := hM5.ref
                have hr := del_ref ub g fr hand F2 _ hR2 key
                rw [HT.out, HB.out] at hr
                obtain ⟨_, d1, _⟩ := act3 hM5.frame
                have HR := Lib.hid hr
                have HBK := Lib.hid back2
                clear h5 hM5 hR2 back2 hr HG a0 a1 a2
                go_wp2_with fail
                refine (HR.out).mono ?_
                rintro e w7 ⟨rfl, h7⟩
                have hM7 : Hid (ExK rb ub (k + 1) x kind key s H1 (kS t) (kS t) (.bool b) (.bool b) w7) := Lib.hid ⟨t, b, g, _, _, rfl, rfl, rfl, rfl, HBK.out _ _ _ h7, PinsLe.up (PinsLe.del HPL.out key) (by omega)⟩
                clear h7 HR HBK
                go_wp2_with fail
                go_meet
                exact hM7.out
              · have b3 : (kind == 3) = false := by simpa using k3
                by_cases k4 : kind = 4
                · have b4 : (kind == 4) = true := by simpa using k4
                  clear k1 k2 k3 k4
                  obtain ⟨a0, a1, a2⟩ := act3 HM.out.frame
                  have hg := RS.pin_any rb fr hand _ W1 HM.out.ring key HPL.out (by omega)
                  obtain ⟨b, hb⟩ : ∃ b, (pinM fr key).1 = b := ⟨_, rfl⟩
                  rw [hb] at hg
                  have HG := Lib.hid hg
                  have HB := Lib.hid hb
                  clear hg hb
                  go_wp2_with fail
                  refine (HG.out).mono ?_
                  rintro e w5 ⟨rfl, h5⟩
                  have hM5 := HM.out.of_ring h5
                  obtain ⟨F2, hR2, back2⟩ := hM5.ref
                  have hr := pin_ref ub g fr hand F2 _ hR2 key HPL.out (by omega)
                  rw [HB.out] at hr
                  obtain ⟨_, d1, _⟩ := act3 hM5.frame
                  have HR := Lib.hid hr
                  have HBK := Lib.hid back2
                  clear h5 hM5 hR2 back2 hr HG a0 a1 a2
                  go_wp2_with fail
                  refine (HR.out).mono ?_
                  rintro e w7 ⟨rfl, h7⟩
                  have hM7 : Hid (ExK rb ub (k + 1) x kind key s H1 (kS ⟨#[]⟩) (kS ⟨#[]⟩) (.bool b) (.bool b) w7) := Lib.hid ⟨⟨#[]⟩, b, g, _, _, rfl, rfl, rfl, rfl, HBK.out _ _ _ h7, PinsLe.up (PinsLe.pin HPL.out key) (by omega)⟩
                  clear h7 HR HBK
                  go_wp2_with fail
                  go_meet
                  exact hM7.out
                · have b4 : (kind == 4) = false := by simpa using k4
                  by_cases k5 : kind = 5
                  · have b5 : (kind == 5) = true := by simpa using k5
                    clear k1 k2 k3 k4 k5
                    obtain ⟨a0, a1, a2⟩ := act3 HM.out.frame
                    have hg := RS.let_any rb fr hand _ W1 HM.out.ring key HPL.out (by omega)
                    obtain ⟨b, hb⟩ : ∃ b, (letM fr key).1 = b := ⟨_, rfl⟩
                    rw [hb] at hg
                    have HG := Lib.hid hg
                    have HB := Lib.hid hb
                    clear hg hb
                    go_wp2_with fail
                    refine (HG.out).mono ?_
                    rintro e w5 ⟨rfl, h5⟩
                    have hM5 := HM.out.of_ring h5
                    obtain ⟨F2, hR2, back2⟩ := hM5.ref
                    have hr := let_ref ub g fr hand F2 _ hR2 key HPL.out (by omega)
                    rw [HB.out] at hr
                    obtain ⟨_, d1, _⟩ := act3 hM5.frame
                    have HR := Lib.hid hr
                    have HBK := Lib.hid back2
                    clear h5 hM5 hR2 back2 hr HG a0 a1 a2
                    go_wp2_with fail
                    refine (HR.out).mono ?_
                    rintro e w7 ⟨rfl, h7⟩
                    have hM7 : Hid (ExK rb ub (k + 1) x kind key s H1 (kS ⟨#[]⟩) (kS ⟨#[]⟩) (.bool b) (.bool b) w7) := Lib.hid ⟨⟨#[]⟩, b, g, _, _, rfl, rfl, rfl, rfl, HBK.out _ _ _ h7, PinsLe.up (PinsLe.letP HPL.out key) (by omega)⟩
                    clear h7 HR HBK
                    go_wp2_with fail
                    go_meet
                    exact hM7.out
                  · have b5 : (kind == 5) = false := by simpa using k5
                    clear k1 k2 k3 k4 k5
                    have FIN : Hid (ExK rb ub (k + 1) x kind key s H1 (kS ⟨#[]⟩) (kS ⟨#[]⟩) (.bool true) (.bool true) W1) := Lib.hid ⟨⟨#[]⟩, true, g, _, _, rfl, rfl, rfl, rfl, HM.out, PinsLe.up HPL.out (by omega)⟩
                    go_wp2_with fail
                    go_meet
                    exact FIN.out
        case rest =>
          clear HM HPL
          obtain ⟨t, b, g2, fr2, hand2, rfl, rfl, rfl, rfl, hM, hpl⟩ := hcut
          obtain ⟨_, a1, _⟩ := act3 hM.frame
          obtain ⟨F2, hR2, _⟩ := hM.ref
          have HQ1 : Hid (∀ n, Calls Try.prog 37 #[.pointer (some ⟨rb, 0, none⟩), .int .i64 key] (wc.drewN n) (fun e w'' => e = .returned (.int .i64 (RS.pinsM fr2 key)) ∧ ∃ m, w'' = wc.drewN m)) := Lib.hid fun n => Calls.quiet_of_same ((RS.pins_any rb fr2 hand2 _ _ (hM.drewN n).ring key).mono fun _ _ h => ⟨h.1, h.2.symm⟩)
          have HQ2 : Hid (∀ n, Calls Try.prog 38 #[.pointer (some ⟨ub, 0, none⟩), .int .i64 key] (wc.drewN n) (fun e w'' => e = .returned (.int .i64 (RS.pinsM fr2 key)) ∧ ∃ m, w'' = wc.drewN m)) := Lib.hid fun n => Calls.quiet_of_same ((pins_ref ub g2 fr2 hand2 F2 _ (hR2.drewN n) key).mono fun _ _ h => ⟨h.1, h.2.symm⟩)
          have FIN : Hid (∀ n, ExJ rb ub (k + 1) H1 (wc.drewN n)) := Lib.hid fun n => ⟨g2, fr2, hand2, (hM.drewN n).unF, hpl⟩
          clear hM hpl hR2
          generalize RS.pinsM fr2 key = pz at *
          go_upto_region 33 with (fail)
          go_quiet (first | (go_at_call 37; with_reducible exact HQ1.out _) | (go_at_call 38; with_reducible exact HQ2.out _))
          go_wp2_with fail
          go_roundw
          case rel => exact ⟨k + 1, by omega, by omega, by go_num, FIN.out _⟩
          case measure => simp [intOf]; omega
      · have hx : ¬ (k < len) ∨ (k < len ∧ ¬ (k < 200)) := by omega
        have HE : Hid (ExJ rb ub 200 H1 wr) := Lib.hid ⟨g, fr, hand, hM, PinsLe.up hpl (by omega)⟩
        clear hM hlt hpl
        rcases hx with hx | ⟨hx1, hx⟩
        all_goals
          go_wp2_with fail
          go_meet
          exact HE.out
  case rest =>
    clear HJ
    obtain ⟨g, fr, hand, hM, _⟩ := hcut
    have hfn : ∀ w, (binOp .eql 68 (.func (.func 60) #[] #[.pointer (some ⟨wc.heap.size, 0, none⟩)]) .nilFunc).run Try.prog w = .ok (.bool false) w := fun w => by kernel_rfl
    have hM1 := hM.new (.cells #[.pointer (some ⟨rb, 0, none⟩)] 48)
    obtain ⟨F2, hR2, back⟩ := hM1.ref2
    have har := all_ref ub g fr hand F2 _ hR2
    have HAR := Lib.hid har
    have HBK := Lib.hid back
    clear hM hM1 hR2 back har
    go_wp2_with fail
    refine (RS.ring_all rb _).mono ?_
    rintro e w4 ⟨rfl, rfl⟩
    go_wp2_with fail
    refine (HAR.out).mono ?_
    rintro e w5 ⟨v, h', rfl, hv, hR5⟩
    have hM5 := HBK.out h' w5 fr hand hR5
    obtain ⟨av, cv, rfl⟩ := sl_form hv
    have HV := Lib.hid hv
    have HM5 := Lib.hid hM5
    generalize hk2 : wc.heap.size = k2 at *
    clear hv hM5 hR5 HAR HBK
    go_wp2_with fail
    have hM7 := (HM5.out.new (.cells #[.slice av (RS.nowR fr).length cv] 70)).new (.cells #[.int .i64 0] 3)
    simp only [World.size_alloc] at hM7
    have hfull := full_now fr
    have hRow : RS.rowsR fr = (RS.nowR fr).map fun f => (f.key, f.val) := rfl
    obtain ⟨⟨L, eL, h0, fb, m, es, clk, D, q1, q2, q3⟩, hb⟩ := hM7
    have hnl : (RS.nowR fr).length ≤ 64 := by
      have h1 := RS.nowR_len fr
      omega
    have hP : RS.RingP rb (ptrs L) L hand _ _ := ⟨h0, fb, m, es, clk, D, q1, q2, q3⟩
    generalize hk5 : w5.heap.size = k5 at *
    obtain ⟨rest, hrest⟩ : ∃ rest, refH ub g fr hand ++ (HItem.blk k5 (.cells #[.slice av (RS.nowR fr).length cv] 70) :: (h' ++ (.blk k2 (.cells #[.pointer (some ⟨rb, 0, none⟩)] 48) :: H1))) = rest := ⟨_, rfl⟩
    obtain ⟨HX, hHX⟩ : ∃ HX : Nat → Heaplet, HX = fun n : Nat => HItem.blk (k5 + 1) (.cells #[kI (n : Int)] 3) :: (ringHS rb fb m es clk L hand ++ rest) := ⟨_, rfl⟩
    have hsX : Sat ((w5.alloc (.cells #[.slice av (RS.nowR fr).length cv] 70)).alloc (.cells #[.int .i64 0] 3)) (HX 0) := by
      rw [hHX, ← hrest]
      have q4 : Sat _ (ringHS rb fb m es clk L hand ++ (refH ub g fr hand ++ (HItem.blk (k5 + 1) (.cells #[.int .i64 0] 3) :: _))) := q3
      exact q4.perm ((List.Perm.append_left _ (List.perm_middle (l₁ := refH ub g fr hand))).trans (List.perm_middle (l₁ := ringHS rb fb m es clk L hand)))
    have hsz : ((w5.alloc (.cells #[.slice av (RS.nowR fr).length cv] 70)).alloc (.cells #[.int .i64 0] 3)).heap.size = k5 + 2 := by simp [hk5]
    generalize (w5.alloc (.cells #[.slice av (RS.nowR fr).length cv] 70)).alloc (.cells #[.int .i64 0] 3) = Wl at *
    have hu : ∀ n, Under Wl.heap.size (HX n) := by
      intro n
      have := Sat.under hsX
      rw [hHX] at this ⊢
      intro d o ho
      rcases List.mem_cons.1 ho with e | ho
      · simp only [HItem.blk.injEq] at e
        obtain ⟨rfl, _⟩ := e
        exact this _ _ (.head _)
      · exact this _ _ (.tail _ ho)
    have hX : ∀ W n, Sat W (HX n) → W.cell? ⟨k5 + 1, 0, none⟩ = some (kI n) ∧ W.frozen? ⟨k5 + 1, 0, none⟩ = false ∧ W.cell? ⟨k5, 0, none⟩ = some (.slice av (RS.nowR fr).length cv) ∧
        (∀ j f, (RS.nowR fr)[j]? = some f → ∃ g, av = some ⟨g, 0, none⟩ ∧ W.cell? ⟨g, j * 5 + 1, none⟩ = some (kI f.key) ∧ W.cell? ⟨g, j * 5 + 2, none⟩ = some (kS f.val)) ∧ W.cell? ⟨k2, 0, none⟩ = some (.pointer (some ⟨rb, 0, none⟩)) ∧ RS.RingIs rb fr hand rest W ∧ Sat W H1 := by
      intro W n hW
      rw [hHX] at hW
      have h2 := hW.tail.right
      rw [← hrest] at h2
      have h3 : Sat W (HItem.blk k5 (.cells #[.slice av (RS.nowR fr).length cv] 70) :: (h' ++ (.blk k2 (.cells #[.pointer (some ⟨rb, 0, none⟩)] 48) :: H1))) := h2.right
      have h4 := h3.tail.right
      refine ⟨by rw [cell_of hW.h0]; rfl, unfrozen_of hW.h0 0, by rw [cell_of h3.h0]; rfl, fun j f hf => ?_, by rw [cell_of h4.h0]; rfl, ⟨L, eL, h0, fb, m, es, clk, D, q1, q2, hW.tail⟩, h4.tail⟩
      obtain ⟨a', c', e', hc⟩ := sl_cells fG_len HV.out h3.tail
      cases e'
      obtain ⟨g', ea, _, hcu⟩ := hc j f hf
      exact ⟨g', ea, hcu 1 _ rfl, hcu 2 _ rfl⟩
    have hstep : ∀ W (n n' : Nat), Sat W (HX n) → Sat (W.setCell ⟨k5 + 1, 0, none⟩ (kI n')) (HX n') := by
      intro W n n' hW
      rw [hHX] at hW ⊢
      exact hW.setCell (i := 0) (kI n')
    have HXF := Lib.hid hX
    have HSTEP := Lib.hid hstep
    obtain ⟨_, _, _, _, q2k, _, qH⟩ := hX _ _ hsX
    have hwi : Wi.heap.size < Wl.heap.size := World.block_lt_of_cell? Wl ⟨Wi.heap.size, 0, none⟩ (HH.out Wl qH).1
    have HSX := Lib.hid hsX
    have HUN := Lib.hid hu
    have hlo : k5 + 2 ≤ Wl.heap.size := by omega
    have hst := RS.ring_all_stops (9 - 1) (by omega) k2 rb L hand _ Wl q2k hP
    rw [eL] at hst
    have HROW := Lib.hid hRow
    have HFL := Lib.hid hfull
    clear hX hstep hsX hu hsz hHX qH q2k hP q1 q2 q3 hb h0 hrest HM5 hk2 hk5 hRow hfull HV
    generalize hR : RS.rowsR fr = R at *
    generalize RS.nowR fr = now at *
    clear hR
    refine (wpIn_wide (n := 9)).1 ?_
    apply wpIn_rangeFunc_ownG (F := Fence.wide) (n := 9) rfl (by omega) (gf := 60) (lb := #[.pointer (some ⟨k2, 0, none⟩)]) rfl trivial (enters_of Try.func60 (by kernel_rfl) rfl)
      hst KeepsAbove.trans (fun W l o o' _ h1 h2 h3 => KeepsAbove.put _ W l o o' h1 h2 h3) (Below.refl _ _) (fun _ => rfl)
      (RxI R Wl.heap.size HX)
      (RxX R)
      (fun s W W' row hI hg hr => hI.grown (HUN.out) hg hr)
      (fun c s W W' row hI _ _ => hI)
      ⟨Nat.le_refl _, List.nil_prefix, HSX.out⟩ _ ?assign ?body ?done ?stop
    case assign =>
      intro l x W K hK
      have HK := Lib.hid hK
      clear hK
      gi_wp2
      exact HK.out
    case body =>
      rintro l pre x W ⟨hB, hpre, hsW⟩ hlen1
      obtain ⟨d0, e0, d1, hcs, _, _, hH1⟩ := HXF.out W _ hsW
      obtain ⟨f0, f1, _⟩ := HH.out W hH1
      have HPRE := Lib.hid hpre
      have HSW := Lib.hid hsW
      have HC := Lib.hid hcs
      have n0 : (0 : Int) ≤ (pre.length : Int) := by omega
      have hl1 : 1 ≤ 9 - 1 - 1 := by omega
      have hRl : R.length = now.length := by rw [HROW.out, List.length_map]
      have hpl : pre.length ≤ 64 := by have := hpre.length_le; omega
      have HRL := Lib.hid hRl
      clear hst hpre hsW hH1 hcs hRl
      obtain ⟨x1, x2⟩ := x
      by_cases hlt : pre.length < now.length
      · obtain ⟨q, hq⟩ : ∃ q, now[pre.length]? = some q := ⟨_, List.getElem?_eq_getElem hlt⟩
        obtain ⟨gq, rfl, c1, c2⟩ := HC.out _ q hq
        have n1 : (pre.length : Int) < (now.length : Int) := by omega
        have hRq : R[pre.length]? = some (q.key, q.val) := by rw [HROW.out, List.getElem?_map, hq]; rfl
        have HQ := Lib.hid hRq
        clear hq hRq
        have hnd : (x1 = q.key ∧ x2 = q.val) ∨ ¬ (pre ++ [(x1, x2)] <+: R) := by
          by_cases hp : pre ++ [(x1, x2)] <+: R
          · left
            obtain ⟨tl, htl⟩ := hp
            have := HQ.out
            rw [← htl, List.append_assoc, List.getElem?_append_right (Nat.le_refl _)] at this
            simp at this
            exact this
          · exact .inr hp
        have hng : (x1 = q.key ∧ x2 = q.val) → RxI R Wl.heap.size HX (pre ++ [(x1, x2)]) (W.setCell ⟨k5 + 1, 0, none⟩ (kI ((pre.length : Int) + 1))) := by
          rintro ⟨rfl, rfl⟩
          refine ⟨by simpa [World.setCell] using hB, ?_, by simpa using HSTEP.out W _ (pre.length + 1) HSW.out⟩
          obtain ⟨tl, htl⟩ := HPRE.out
          have := HQ.out
          rw [← htl, List.getElem?_append_right (Nat.le_refl _), Nat.sub_self] at this
          cases tl with
          | nil => simp at this
          | cons y tl =>
            simp at this
            subst this
            exact ⟨tl, by rw [← htl]; simp⟩
        have HND := Lib.hid hnd
        have HNG := Lib.hid hng
        clear hnd hng
        by_cases z1 : q.key = x1
        · have t1' : (q.key != x1) = false := by simpa using z1
          by_cases z2 : q.val = x2
          · have t2' : (ByteArray.toList q.val == ByteArray.toList x2) = true := by rw [z2]; exact beq_self_eq_true _
            have HI := HNG.out ⟨z1.symm, z2.symm⟩
            have HI := Lib.hid HI
            clear z1 z2 HNG HND
            gi_wp2_with fail
            refine ⟨(KeepsOthers.setCell _ _ _).from _, KeepsAbove.setCell (by omega) _ _ _, ?_⟩
            have e9 : (pre.length : Int) + 1 = wrap64 ((pre.length : Int) + 1) := by rw [IntWalk.wrap64_in _ (by omega)]
            first | exact HI.out | (rw [← e9]; exact HI.out)
          · have t2' : (ByteArray.toList q.val == ByteArray.toList x2) = false := by rw [beq_eq_false_iff_ne]; exact fun e => z2 (ba_inj e)
            have HN := Lib.hid (HND.out.resolve_left (fun e => z2 e.2.symm))
            clear z1 z2 HNG HND
            gi_wp2_with fail
            exact ⟨(KeepsOthers.setCell _ _ _).from _, rfl, HN.out⟩
        · have t1' : (q.key != x1) = true := by simpa using z1
          have HN := Lib.hid (HND.out.resolve_left (fun e => z1 e.1.symm))
          clear z1 HNG HND
          gi_wp2_with fail
          exact ⟨(KeepsOthers.setCell _ _ _).from _, rfl, HN.out⟩
      · have n1 : ¬ (pre.length : Int) < (now.length : Int) := by omega
        have n2 : (now.length : Int) ≤ (pre.length : Int) := by omega
        have HN : Hid (¬ (pre ++ [(x1, x2)] <+: R)) := Lib.hid fun hp => by
          have := hp.length_le
          rw [List.length_append] at this
          simp only [List.length_cons, List.length_nil] at this
          have := HRL.out
          omega
        clear hlt
        gi_wp2_with fail
        exact ⟨(KeepsOthers.setCell _ _ _).from _, rfl, HN.out⟩
    case done =>
      rintro Dk ys W hDk hys ⟨hB, _, hsW⟩ hK
      rw [hys] at hsW
      have hRl : R.length = now.length := by rw [HROW.out, List.length_map]
      rw [hRl] at hsW
      obtain ⟨d0, e0, d1, _, _, hRI, hH1⟩ := HXF.out W _ hsW
      obtain ⟨f0, f1, _⟩ := HH.out W hH1
      have n0 : (0 : Int) ≤ (now.length : Int) := by omega
      have hb1 : Sat (W.setCell ⟨Wi.heap.size, 0, none⟩ (.bool true)).drew (allOf Wi) ∧ (W.setCell ⟨Wi.heap.size, 0, none⟩ (.bool true)).drew.cell? ⟨Wi.heap.size, 0, none⟩ = some (.bool true) ∧ (W.setCell ⟨Wi.heap.size, 0, none⟩ (.bool true)).drew.heap[Dk]? = some (.deferred (some [])) := by
        have h1 := hH1
        rw [← HH1.out] at h1
        have h2 := (h1.setCell (i := 0) (.bool true)).drew
        refine ⟨h2.tail, by rw [cell_of h2.h0]; rfl, ?_⟩
        exact (KeepsOthers.setCell W ⟨Wi.heap.size, 0, none⟩ (.bool true)).same Dk _ hK rfl
      obtain ⟨hb2, hb3, hb4⟩ := hb1
      have hb5 : Sat ((W.setCell ⟨Wi.heap.size, 0, none⟩ (.bool true)).drew.putObj Dk (.deferred none)) (allOf Wi) := by
        refine hb2.ownGrown (B := Wi.heap.size) (fun c o ho => (sat_all Wi).lt ho) (grownBy_putObj' _ Dk (.deferred none)) (fun r e => by cases e; exact ⟨by omega, _, hb4, rfl⟩)
      have hb6 : ((W.setCell ⟨Wi.heap.size, 0, none⟩ (.bool true)).drew.putObj Dk (.deferred none)).cell? ⟨Wi.heap.size, 0, none⟩ = some (.bool true) :=
        cell_kept hb3 (grownBy_putObj' _ Dk (.deferred none)) (fun r e => by cases e; exact ⟨_, hb4, rfl⟩)
      have HB4 := Lib.hid hb4
      have HB5 := Lib.hid hb5.below
      have hle : Calls Try.prog 31 #[.pointer (some ⟨rb, 0, none⟩)] W.drew (Ret (.int .i64 (fullK (keysOf fr))) (Same W.drew)) := RS.len_any rb fr hand rest W.drew (ringIs_drewS hRI)
      rw [HFL.out] at hle
      have HLE := Lib.hid hle
      clear hb2 hb3 hb4 hb5 hK hsW hst hH1 hRI hle hRl hys
      go_wp2_with fail
      refine wp_region_noPanic ?_
      go_region_with ((go_at_call 31; refine (HLE.out).mono ?_; rintro e w9 ⟨rfl, rfl⟩))
      all_goals
        refine NoPanic.normal ?_
        go_wp2_with fail
        refine ⟨by simp, .inl ⟨_, _, rfl, run_takeDeferred HB4.out, ?_⟩⟩
        refine ⟨_, ?_, rfl, HB5.out⟩
        simp [results, Try.f8, go_sem, hb6]
    case stop =>
      rintro Dk c pre W hDk hpre ⟨rfl, hn⟩ hK
      exact absurd hpre hn
end Go.Proofs.Ytbjomkbiljpjmaa
