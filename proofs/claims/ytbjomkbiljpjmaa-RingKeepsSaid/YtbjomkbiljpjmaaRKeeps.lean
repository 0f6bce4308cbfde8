/- RingKeeps: what is at hand is what was put last. -/
import Derived.Test.YtbjomkbiljpjmaaRKeepsM
import Derived.Test.YtbjomkbiljpjmaaArgs9
import Derived.Test.YtbjomkbiljpjmaaRing09
import Derived.Deep.CutBlock
import Derived.Deep.RegionHeld3
namespace Go.Proofs.Ytbjomkbiljpjmaa
open Go Go.MapKept Go.RowKit Go.Proofs

abbrev strArr (vs : Nat → ByteArray) : Obj := .cells (arrOf fun j => .string (vs j)) 9
abbrev boolArr (hs : Nat → Bool) : Obj := .cells (arrOf fun j => .bool (hs j)) 4
abbrev intArr (ps : Nat → Int) : Obj := .cells (arrOf fun j => .int .i64 (ps j)) 3
/-- What holds between two rounds: the ring, and the law's three arrays. -/
def KeepsR (rb n vb hb pb : Nat) (cnt top : Int) (W w : World) : Prop :=
  ∃ fr hand vs hs ps, RK n fr vs hs ps cnt top ∧ RS.RingIs rb fr hand (.blk vb (strArr vs) :: .blk hb (boolArr hs) :: .blk pb (intArr ps) :: allOf W) w

section
variable {rb n vb hb pb hand : Nat} {fr : Frs ByteArray} {vs : Nat → ByteArray} {hs : Nat → Bool} {ps : Nat → Int} {W w : World}
theorem RingIs.perm {F F' : Heaplet} (h : RS.RingIs rb fr hand F w) (p : F.Perm F') : RS.RingIs rb fr hand F' w := by
  obtain ⟨L, e, h0, fb, m, es, clk, D, hm, hpl, hs⟩ := h
  exact ⟨L, e, h0, fb, m, es, clk, D, hm, hpl, hs.perm (((((List.Perm.refl _).append p).cons _).cons _).cons _)⟩
theorem RingIs.setF {F : Heaplet} {g i : Nat} {c : Array Value} {t : TypeId} {z : Nat × Nat} (h : RS.RingIs rb fr hand (.blk g (.cells c t z) :: F) w) (v : Value) :
    RS.RingIs rb fr hand (.blk g (.cells (c.setIfInBounds i v) t z) :: F) (w.setCell ⟨g, i, none⟩ v) := by
  obtain ⟨L, e, h⟩ := h
  exact ⟨L, e, h.setF v⟩
theorem RingIs.drew {F : Heaplet} (h : RS.RingIs rb fr hand F w) : RS.RingIs rb fr hand F w.drew := by
  obtain ⟨L, e, h⟩ := h
  exact ⟨L, e, h.drew⟩
theorem RingIs.drewN {F : Heaplet} (h : RS.RingIs rb fr hand F w) (a : Nat) : RS.RingIs rb fr hand F (w.drewN a) := by
  obtain ⟨L, e, h0, fb, m, es, clk, D, hm, hpl, hs⟩ := h
  exact ⟨L, e, h0, fb, m, es, clk, D, hm, hpl, hs.of_heap rfl ⟨rfl, rfl, rfl⟩⟩
theorem RingIs.drewN_eq {F : Heaplet} {w' : World} {a : Nat} (h : RS.RingIs rb fr hand F w) (e : w.drewN a = w') : RS.RingIs rb fr hand F w' := e ▸ RingIs.drewN h a
theorem arr_str (k : Nat) (v : ByteArray) : (arrOf fun j => .string (vs j)).setIfInBounds k (.string v) = arrOf fun j => .string (updF vs k v j) := by
  rw [arrOf_set]; congr 1; exact updF_map (fun s => .string s) vs k v
theorem arr_bool (k : Nat) (v : Bool) : (arrOf fun j => .bool (hs j)).setIfInBounds k (.bool v) = arrOf fun j => .bool (updF hs k v j) := by
  rw [arrOf_set]; congr 1; exact updF_map (fun s => .bool s) hs k v
theorem arr_int (k : Nat) (v : Int) : (arrOf fun j => .int .i64 (ps j)).setIfInBounds k (.int .i64 v) = arrOf fun j => .int .i64 (updF ps k v j) := by
  rw [arrOf_set]; congr 1; exact updF_map (fun s => .int .i64 s) ps k v
/-- A text is stored. -/
theorem set_val (h : RS.RingIs rb fr hand (.blk vb (strArr vs) :: .blk hb (boolArr hs) :: .blk pb (intArr ps) :: allOf W) w) (k : Nat) (v : ByteArray) :
    RS.RingIs rb fr hand (.blk vb (strArr (updF vs k v)) :: .blk hb (boolArr hs) :: .blk pb (intArr ps) :: allOf W) (w.setCell ⟨vb, k, none⟩ (.string v)) := by
  have := RingIs.setF (i := k) h (.string v)
  rw [arr_str] at this
  exact this
theorem set_here (h : RS.RingIs rb fr hand (.blk vb (strArr vs) :: .blk hb (boolArr hs) :: .blk pb (intArr ps) :: allOf W) w) (k : Nat) (v : Bool) :
    RS.RingIs rb fr hand (.blk vb (strArr vs) :: .blk hb (boolArr (updF hs k v)) :: .blk pb (intArr ps) :: allOf W) (w.setCell ⟨hb, k, none⟩ (.bool v)) := by
  have := RingIs.setF (i := k) (RingIs.perm h (List.Perm.swap _ _ _)) (.bool v)
  rw [arr_bool] at this
  exact RingIs.perm this (List.Perm.swap _ _ _)
theorem set_pins (h : RS.RingIs rb fr hand (.blk vb (strArr vs) :: .blk hb (boolArr hs) :: .blk pb (intArr ps) :: allOf W) w) (k : Nat) (v : Int) :
    RS.RingIs rb fr hand (.blk vb (strArr vs) :: .blk hb (boolArr hs) :: .blk pb (intArr (updF ps k v)) :: allOf W) (w.setCell ⟨pb, k, none⟩ (.int .i64 v)) := by
  have := RingIs.setF (i := k) (RingIs.perm h (List.perm_middle (l₁ := [_, _]))) (.int .i64 v)
  rw [arr_int] at this
  exact RingIs.perm this (List.perm_middle (l₁ := [_, _])).symm
/-- What a walk reads of the three arrays at one index. -/
theorem look3 (h : RS.RingIs rb fr hand (.blk vb (strArr vs) :: .blk hb (boolArr hs) :: .blk pb (intArr ps) :: allOf W) w) {k : Nat} (hk : k < 64) :
    w.cell? ⟨vb, k, none⟩ = some (.string (vs k)) ∧ w.cell? ⟨hb, k, none⟩ = some (.bool (hs k)) ∧ w.cell? ⟨pb, k, none⟩ = some (.int .i64 (ps k)) ∧
      w.frozen? ⟨vb, k, none⟩ = false ∧ w.frozen? ⟨hb, k, none⟩ = false ∧ w.frozen? ⟨pb, k, none⟩ = false := by
  have hf := h.frame
  refine ⟨?_, ?_, ?_, unfrozen_of hf.h0 k, unfrozen_of hf.h1 k, unfrozen_of hf.h2 k⟩
  · rw [cell_of hf.h0, arrOf_get _ hk]
  · rw [cell_of hf.h1, arrOf_get _ hk]
  · rw [cell_of hf.h2, arrOf_get _ hk]
end

set_option maxRecDepth 100000 in
set_option maxHeartbeats 40000000 in
theorem rkeeps_walk (frames : Int) (p : Option Addr) (len cap : Nat) (K1 K2 : Nat → Int) (S : Nat → ByteArray) (W : World) (_ : -9223372036854775808 ≤ frames) (_ : frames ≤ 9223372036854775807) (ha : Acts9 W p len K1 K2 S) :
    Calls Try.prog 7 #[.int .i64 frames, .slice p len cap] W (Ret (.bool true) (RowKit.Below W.heap.size W)) := by
  obtain ⟨m, hm, hm0, hm1⟩ : ∃ m, wrap64 ((IntKind.u64.wrap frames).tmod 64) = m ∧ 0 ≤ m ∧ m < 64 := ⟨_, rfl, umod_bd frames 64 (by omega) (by omega)⟩
  obtain ⟨n, hn⟩ : ∃ n : Nat, (n : Int) = 1 + m := ⟨(1 + m).toNat, by omega⟩
  have hn3 : 1 ≤ n := by omega
  have hn62 : n ≤ 64 := by omega
  have hN := Lib.hid hn
  have Ha := Lib.hid ha
  have hlen := ha.1
  clear hn ha
  have hmk1 : ∀ w, (Instr.makeSlice 50 (.int .i64 64) (.int .i64 64)).run Try.prog w = .ok (.slice (some ⟨w.heap.size, 0, none⟩) 64 64) (w.alloc (strArr fun _ => ⟨#[]⟩)) := fun _ => by kernel_rfl
  have hmk2 : ∀ w, (Instr.makeSlice 51 (.int .i64 64) (.int .i64 64)).run Try.prog w = .ok (.slice (some ⟨w.heap.size, 0, none⟩) 64 64) (w.alloc (boolArr fun _ => false)) := fun _ => by kernel_rfl
  have hmk3 : ∀ w, (Instr.makeSlice 27 (.int .i64 64) (.int .i64 64)).run Try.prog w = .ok (.slice (some ⟨w.heap.size, 0, none⟩) 64 64) (w.alloc (intArr fun _ => 0)) := fun _ => by kernel_rfl
  go_enter Try.func7, Try.ntmps7
  go_wp2_with fail
  refine (awake9 _ _ (sat_all W)).mono ?_
  rintro e w1 ⟨rfl, hs1⟩
  have hnew := RS.new_any _ (1 + m) w1 hs1
  rw [← hN.out, show (min (max (n : Int) 1) 64).toNat = n from by omega] at hnew
  have Hnew := Lib.hid hnew
  clear hnew hs1
  go_upto_region 4 with (fail)
  rw [hm, ← hN.out]
  clear hm hN hm0 hm1
  go_wp2_with fail
  refine (Hnew.out).mono ?_
  rintro e w2 ⟨rb, rfl, h2⟩
  clear Hnew
  have h3 := ((h2.new (strArr fun _ => ⟨#[]⟩)).new (boolArr fun _ => false)).new (intArr fun _ => 0)
  simp only [World.size_alloc] at h3
  have h4 := RingIs.perm h3 ((List.perm_middle (l₁ := [_, _])).trans ((List.Perm.swap _ _ _).cons _))
  have hK0 : KeepsR rb n w2.heap.size (w2.heap.size + 1) (w2.heap.size + 1 + 1) 0 0 W (((w2.alloc (strArr fun _ => ⟨#[]⟩)).alloc (boolArr fun _ => false)).alloc (intArr fun _ => 0)) := by
    refine ⟨List.replicate n none, 0, _, _, _, ⟨by simp, ?_, ?_, ?_, ?_, ?_, ?_⟩, h4⟩
    · have : keysOf (List.replicate n (none : Option (Fr ByteArray))) = List.replicate n none := by simp [keysOf]
      rw [this]; simp [fullK]
    · intro i j k hi
      simp only [keysOf, List.getElem?_map, List.getElem?_replicate] at hi
      split at hi <;> simp at hi
    · intro i f hf
      rw [List.getElem?_replicate] at hf
      split at hf <;> simp at hf
    · intro i f hf
      rw [List.getElem?_replicate] at hf
      split at hf <;> simp at hf
    · intro j hj
      rw [findF_absent (fun i f hf => by rw [List.getElem?_replicate] at hf; split at hf <;> simp at hf)]
      rfl
    · intro j i f hf
      rw [findF_absent (fun i f hf => by rw [List.getElem?_replicate] at hf; split at hf <;> simp at hf)] at hf
      cases hf
  clear h2 h3 h4
  go_wp2_with fail
  generalize w2.heap.size + 1 + 1 = pb at *
  generalize w2.heap.size + 1 = hb at *
  generalize w2.heap.size = vb at *
  clear hmk1 hmk2 hmk3
  go_loopw [9, 10] (fun cn c wr => ∃ (k : Nat) (cnt : Int), k ≤ len ∧ k ≤ 200 ∧ c = .int .i64 k ∧ cn = .int .i64 cnt ∧ KeepsR rb n vb hb pb cnt k W wr) (fun _ c _ => 300 - (intOf c).toNat)
  case atStart => exact ⟨0, 0, by omega, by omega, rfl, rfl, hK0⟩
  case round =>
    obtain ⟨k, cnt, hk1, hk2, rfl, rfl, hI⟩ := hrel
    by_cases hlt : k < len ∧ k < 200
    · obtain ⟨hl1, hl2⟩ := hlt
      obtain ⟨ba, off, rfl, hba, hA0, hA1, hA2⟩ := (Ha.out).2 k hl1
      obtain ⟨fr, hand, vs, hs, ps, hrk, hring⟩ := hI
      have hfo := hring.frame.tail.tail.tail
      have c0 := (hfo.cellOld (a := ⟨ba, off + k * 3, none⟩) hba).trans hA0
      have c1 := (hfo.cellOld (a := ⟨ba, off + k * 3 + 1, none⟩) hba).trans hA1
      have c2 := (hfo.cellOld (a := ⟨ba, off + k * 3 + 2, none⟩) hba).trans hA2
      obtain ⟨x, hx, hx0, hx1⟩ : ∃ x, wrap64 ((IntKind.u64.wrap (K2 k)).tmod 64) = x ∧ 0 ≤ x ∧ x < 64 := ⟨_, rfl, umod_bd (K2 k) 64 (by omega) (by omega)⟩
      obtain ⟨j, hj⟩ : ∃ j : Nat, (j : Int) = x := ⟨x.toNat, by omega⟩
      have hj64 : j < 64 := by omega
      have hj0 : (0 : Int) ≤ (j : Int) := by omega
      have hj1 : (j : Int) < 64 := by omega
      have hcn := hrk.le
      have HJ := Lib.hid hj
      have HK := Lib.hid hrk
      have HR := Lib.hid hring
      have HA2 := Lib.hid hA2
      clear hj hrk hring hfo hA0 hA1 hA2 hx0 hx1
      go_upto_region 13 with (fail)
      rw [hx, ← HJ.out]
      clear hx HJ
      go_upto_block 2 with (fail)
      go_cut [9] (fun cn wx => ∃ cnt', cn = .int .i64 cnt' ∧ KeepsR rb n vb hb pb cnt' (k + 1 : Nat) W wx)
      case first =>
        by_cases hkind : K1 k = 1
        · 
          have kb1 : (K1 k == 1) = true := by simpa using hkind
          have kb2 : (K1 k == 2) = false := by rw [beq_eq_false_iff_ne]; omega
          have kb3 : (K1 k == 3) = false := by rw [beq_eq_false_iff_ne]; omega
          have kb4 : (K1 k == 4) = false := by rw [beq_eq_false_iff_ne]; omega
          have kb5 : (K1 k == 5) = false := by rw [beq_eq_false_iff_ne]; omega
          clear hkind
          as_aux_lemma =>
            have hput := RS.put_any rb _ _ _ _ HR.out j (S k)
            cases hf : findF fr (j : Int) with
            | some y =>
              obtain ⟨i, f⟩ := y
              have hh : hs j = true := by rw [HK.out.here j hj64, hf]; rfl
              have hvv := (HK.out.vals j i f hf)
              have htn := HK.out.turn (f' := { f with val := S k, fresh := true }) (vs' := updF vs j (S k)) (ps' := ps) (top' := ((k + 1 : Nat) : Int)) hf rfl (by simp [updF]) hvv.2 (fun a ha => by simp [updF, ha]) (fun _ _ => rfl) (by omega) (by have := HK.out.pins i f (findF_some hf).2.1; simp only; omega)
              simp only [putM, hf, RS.outV] at hput
              have Hg := Lib.hid hput
              have HH := Lib.hid hh
              have HT := Lib.hid htn
              clear hf hput hh hvv htn
              go_wp2_with fail
              refine (Hg.out).mono ?_
              rintro e w3 ⟨rfl, h3⟩
              have h4 := h3.new (.cells #[.int .i64 0, .string ⟨#[]⟩, .bool false] 55)
              clear h3
              go_upto_region 16 with (fail)
              generalize w3.alloc _ = W3 at *
              generalize w3.heap.size = ob at *
              have o2 : W3.cell? ⟨ob, 2, none⟩ = some (.bool false) := by rw [cell_of h4.frame.h0]; rfl
              have h5 := h4.unF
              obtain ⟨d0, d1, d2, u0, u1, u2⟩ := look3 h5 hj64
              rw [HH.out] at d1
              have a2 := (h5.frame.tail.tail.tail.cellOld (a := ⟨ba, off + k * 3 + 2, none⟩) hba).trans HA2.out
              have H3 := Lib.hid (set_val h5 j (S k))
              clear h4 h5
              go_wp2_with fail
              go_meet
              exact ⟨cnt, rfl, _, hand, _, hs, ps, HT.out, H3.out⟩
            | none =>
              have hh : hs j = false := by rw [HK.out.here j hj64, hf]; rfl
              cases hv : vacM fr with
              | some i =>
                have htn := (HK.out.fill hj64 hf (vacM_some hv).1 (S k) (by omega)).grow (top' := ((k + 1 : Nat) : Int)) (by omega)
                simp only [putM, hf, hv, RS.outV] at hput
                have hcn2 := htn.le
                have Hg := Lib.hid hput
                have HH := Lib.hid hh
                have HT := Lib.hid htn
                clear hf hput hh htn hv
                go_wp2_with fail
                refine (Hg.out).mono ?_
                rintro e w3 ⟨rfl, h3⟩
                have h4 := h3.new (.cells #[.int .i64 0, .string ⟨#[]⟩, .bool false] 55)
                clear h3
                go_upto_region 16 with (fail)
                generalize w3.alloc _ = W3 at *
                generalize w3.heap.size = ob at *
                have o2 : W3.cell? ⟨ob, 2, none⟩ = some (.bool false) := by rw [cell_of h4.frame.h0]; rfl
                have h5 := h4.unF
                obtain ⟨d0, d1, d2, u0, u1, u2⟩ := look3 h5 hj64
                rw [HH.out] at d1
                have h6 := set_here h5 j true
                obtain ⟨_, _, f2, _, _, y2⟩ := look3 h6 hj64
                have h7 := set_pins h6 j 0
                obtain ⟨g0, _, _, z0, _, _⟩ := look3 h7 hj64
                have a2 := (h7.frame.tail.tail.tail.cellOld (a := ⟨ba, off + k * 3 + 2, none⟩) hba).trans HA2.out
                have H3 := Lib.hid (set_val h7 j (S k))
                clear h4 h5 h6 h7
                go_wp2_with fail
                go_meet
                exact ⟨cnt + 1, rfl, _, hand, _, _, _, HT.out, H3.out⟩
              | none =>
                have hall : AllFull fr := vacM_none hv
                have hcnt : cnt = (n : Int) := by rw [HK.out.cnt, fullK_all hall, HK.out.len]
                cases hp : pinnedM fr with
                | true =>
                  simp only [putM, hf, hv, hp, RS.outV, if_true] at hput
                  have Hg := Lib.hid hput
                  have HH := Lib.hid hh
                  subst hcnt
                  clear hf hput hh hv hp hall
                  go_wp2_with fail
                  refine (Hg.out).mono ?_
                  rintro e w3 ⟨rfl, h3⟩
                  have h4 := h3.new (.cells #[.int .i64 0, .string ⟨#[]⟩, .bool false] 55)
                  clear h3
                  go_upto_region 16 with (fail)
                  generalize w3.alloc _ = W3 at *
                  generalize w3.heap.size = ob at *
                  have o2 : W3.cell? ⟨ob, 2, none⟩ = some (.bool false) := by rw [cell_of h4.frame.h0]; rfl
                  have h5 := h4.unF
                  obtain ⟨d0, d1, d2, u0, u1, u2⟩ := look3 h5 hj64
                  rw [HH.out] at d1
                  have H3 := Lib.hid h5
                  clear h4 h5
                  go_wp2_with fail
                  go_meet
                  exact ⟨(n : Int), rfl, fr, hand, vs, hs, ps, HK.out.grow (by omega), H3.out⟩
                | false =>
                  obtain ⟨⟨a, g, fr', hand'⟩, hr⟩ := freeM_some hv hp HR.out.len.2.2
                  obtain ⟨s1, s2, s3, _, _⟩ := freeM_spec _ _ _ _ _ _ _ hr
                  have hrk' := HK.out.stripped s1
                  have hgk := hrk'.keys _ _ s2
                  obtain ⟨q, hq⟩ : ∃ q : Nat, g.key = (q : Int) := ⟨g.key.toNat, by omega⟩
                  have hq64 : q < 64 := by omega
                  have hfq : findF fr' (q : Int) = some (a, g) := by rw [← hq]; exact findF_of (idxK_of hrk'.uniq (by rw [keysOf_get s2]; rfl)) s2
                  have hvq := hrk'.vals q a g hfq
                  have hhq : hs q = true := by rw [hrk'.here q hq64, hfq]; rfl
                  have hp0 : g.pins = 0 := by simpa using s3
                  have hfj : findF fr' (j : Int) = none := findF_of_none (by rw [strips_keys s1]; exact findF_none hf)
                  have hjq : j ≠ q := by rintro rfl; rw [hfq] at hfj; cases hfj
                  have hvac := hrk'.vacate s2 hq
                  have hal : a < fr'.length := (List.getElem?_eq_some_iff.1 s2).1
                  have hfj2 : findF (fr'.set a none) (j : Int) = none := by
                    refine findF_absent (fun b f hb => ?_)
                    rw [List.getElem?_set] at hb
                    by_cases e : a = b
                    · subst e; simp [hal] at hb
                    · simp only [e, if_false] at hb
                      intro hk
                      have := findF_there hb
                      rw [hk, hfj] at this
                      cases this
                  have htn := (hvac.fill hj64 hfj2 (i := a) (by simp [hal]) (S k) (by omega)).grow (top' := ((k + 1 : Nat) : Int)) (by omega)
                  rw [List.set_set] at htn
                  simp only [putM, hf, hv, hp, hr, RS.outV, Bool.false_eq_true, if_false, hq] at hput
                  have Hg := Lib.hid hput
                  have HH := Lib.hid hh
                  have HHQ := Lib.hid hhq
                  have HVQ := Lib.hid hvq
                  have HP0 := Lib.hid hp0
                  have HT := Lib.hid htn
                  subst hcnt
                  clear hf hput hh hv hp hall hr s1 s2 s3 hrk' hgk hq hfq hvq hhq hp0 hfj hvac hfj2 htn hal
                  have hne1 : ¬ ((q : Int) < 0) := by omega
                  have hne2 : ¬ (63 < (q : Int)) := by omega
                  go_wp2_with fail
                  refine (Hg.out).mono ?_
                  rintro e w3 ⟨rfl, h3⟩
                  have h4 := h3.new (.cells #[.int .i64 q, .string g.val, .bool true] 55)
                  clear h3
                  go_upto_region 16 with (fail)
                  generalize w3.alloc _ = W3 at *
                  generalize w3.heap.size = ob at *
                  have o0 : W3.cell? ⟨ob, 0, none⟩ = some (.int .i64 q) := by rw [cell_of h4.frame.h0]; rfl
                  have o1 : W3.cell? ⟨ob, 1, none⟩ = some (.string g.val) := by rw [cell_of h4.frame.h0]; rfl
                  have o2 : W3.cell? ⟨ob, 2, none⟩ = some (.bool true) := by rw [cell_of h4.frame.h0]; rfl
                  have h5 := h4.unF
                  obtain ⟨d0, d1, d2, u0, u1, u2⟩ := look3 h5 hj64
                  rw [HH.out] at d1
                  obtain ⟨p0, p1, p2, q0, q1, q2⟩ := look3 h5 hq64
                  rw [HHQ.out] at p1
                  rw [HVQ.out.1] at p0
                  rw [HVQ.out.2, HP0.out] at p2
                  have H4 := Lib.hid h4
                  clear h4 h5
                  go_upto_region 17 with (fail)
                  have hq0 : (0 : Int) ≤ (q : Int) := by omega
                  have hq1 : (q : Int) < 64 := by omega
                  go_quiet (fail)
                  clear d0 d1 d2 u0 u1 u2 p0 p1 p2 q0 q1 q2 o0 o1 o2
                  generalize hW4 : World.drewN W3 _ = W4
                  have h4 := RingIs.drewN_eq H4.out hW4
                  have o0 : W4.cell? ⟨ob, 0, none⟩ = some (.int .i64 q) := by rw [cell_of h4.frame.h0]; rfl
                  have h5 := h4.unF
                  have q1 := (look3 h5 hq64).2.1
                  have q4 := (look3 h5 hq64).2.2.2.2.1
                  have h6 := set_here h5 q false
                  obtain ⟨_, f1, _, _, y1, _⟩ := look3 h6 hj64
                  rw [show updF hs q false j = false from by simp only [updF, hjq, if_false]; exact HH.out] at f1
                  have h7 := set_here h6 j true
                  obtain ⟨_, _, g2, _, _, z2⟩ := look3 h7 hj64
                  have h8 := set_pins h7 j 0
                  obtain ⟨i0, _, _, x0, _, _⟩ := look3 h8 hj64
                  have a2 := (h8.frame.tail.tail.tail.cellOld (a := ⟨ba, off + k * 3 + 2, none⟩) hba).trans HA2.out
                  have H3 := Lib.hid (set_val h8 j (S k))
                  clear h4 h5 h6 h7 h8 hW4
                  go_wp2_with fail
                  go_meet
                  exact ⟨(n : Int), rfl, _, _, _, _, _, (by have := HT.out; rwa [show (n : Int) - 1 + 1 = (n : Int) from by omega] at this), H3.out⟩
        · by_cases hkind : K1 k = 2
          · 
            have kb1 : (K1 k == 1) = false := by rw [beq_eq_false_iff_ne]; omega
            have kb2 : (K1 k == 2) = true := by simpa using hkind
            have kb3 : (K1 k == 3) = false := by rw [beq_eq_false_iff_ne]; omega
            have kb4 : (K1 k == 4) = false := by rw [beq_eq_false_iff_ne]; omega
            have kb5 : (K1 k == 5) = false := by rw [beq_eq_false_iff_ne]; omega
            clear hkind
            as_aux_lemma =>
              cases hf : findF fr (j : Int) with
              | none =>
                have hg := RS.get_any rb _ _ _ _ HR.out j
                have hh : hs j = false := by rw [HK.out.here j hj64, hf]; rfl
                simp only [getM, hf, Option.isSome_none, RS.valV] at hg
                have Hg := Lib.hid hg
                have HH := Lib.hid hh
                clear hf hg hh
                go_wp2_with fail
                refine (Hg.out).mono ?_
                rintro e w3 ⟨rfl, h3⟩
                obtain ⟨d0, d1, d2, u0, u1, u2⟩ := look3 h3 hj64
                rw [HH.out] at d1
                have H3 := Lib.hid h3
                clear h3
                go_wp2_with fail
                go_meet
                exact ⟨cnt, rfl, fr, hand, vs, hs, ps, HK.out.grow (by omega), H3.out⟩
              | some y =>
                obtain ⟨i, f⟩ := y
                have hg := RS.get_any rb _ _ _ _ HR.out j
                have hh : hs j = true := by rw [HK.out.here j hj64, hf]; rfl
                have hvv := (HK.out.vals j i f hf)
                have htn := HK.out.turn (f' := { f with fresh := true }) (vs' := vs) (ps' := ps) (top' := ((k + 1 : Nat) : Int)) hf rfl hvv.1 hvv.2 (fun _ _ => rfl) (fun _ _ => rfl) (by omega) (by have := HK.out.pins i f (findF_some hf).2.1; simp only; omega)
                simp only [getM, hf, Option.isSome_some, RS.valV] at hg
                have Hg := Lib.hid hg
                have HH := Lib.hid hh
                have HV := Lib.hid hvv
                have HT := Lib.hid htn
                clear hf hg hh hvv htn
                go_wp2_with fail
                refine (Hg.out).mono ?_
                rintro e w3 ⟨rfl, h3⟩
                obtain ⟨d0, d1, d2, u0, u1, u2⟩ := look3 h3 hj64
                rw [HH.out] at d1
                rw [HV.out.1] at d0
                have H3 := Lib.hid h3
                clear h3
                go_wp2_with fail
                go_meet
                exact ⟨cnt, rfl, _, hand, vs, hs, ps, HT.out, H3.out⟩
          · by_cases hkind : K1 k = 3
            · 
              have kb1 : (K1 k == 1) = false := by rw [beq_eq_false_iff_ne]; omega
              have kb2 : (K1 k == 2) = false := by rw [beq_eq_false_iff_ne]; omega
              have kb3 : (K1 k == 3) = true := by simpa using hkind
              have kb4 : (K1 k == 4) = false := by rw [beq_eq_false_iff_ne]; omega
              have kb5 : (K1 k == 5) = false := by rw [beq_eq_false_iff_ne]; omega
              clear hkind
              as_aux_lemma =>
                cases hf : findF fr (j : Int) with
                | none =>
                  have hg := RS.del_any rb _ _ _ _ HR.out j
                  have hh : hs j = false := by rw [HK.out.here j hj64, hf]; rfl
                  simp only [delM, hf, Option.isSome_none, RS.valV] at hg
                  have Hg := Lib.hid hg
                  have HH := Lib.hid hh
                  clear hf hg hh
                  go_wp2_with fail
                  refine (Hg.out).mono ?_
                  rintro e w3 ⟨rfl, h3⟩
                  obtain ⟨d0, d1, d2, u0, u1, u2⟩ := look3 h3 hj64
                  rw [HH.out] at d1
                  have H3 := Lib.hid h3
                  clear h3
                  go_wp2_with fail
                  go_meet
                  exact ⟨cnt, rfl, fr, hand, vs, hs, ps, HK.out.grow (by omega), H3.out⟩
                | some y =>
                  obtain ⟨i, f⟩ := y
                  have hg := RS.del_any rb _ _ _ _ HR.out j
                  have hh : hs j = true := by rw [HK.out.here j hj64, hf]; rfl
                  have hvv := (HK.out.vals j i f hf)
                  have htn := (HK.out.vacate (findF_some hf).2.1 (findF_some hf).2.2).grow (top' := ((k + 1 : Nat) : Int)) (by omega)
                  have hcn2 := htn.le
                  simp only [delM, hf, Option.isSome_some, RS.valV] at hg
                  have Hg := Lib.hid hg
                  have HH := Lib.hid hh
                  have HV := Lib.hid hvv
                  have HT := Lib.hid htn
                  clear hf hg hh hvv htn
                  go_wp2_with fail
                  refine (Hg.out).mono ?_
                  rintro e w3 ⟨rfl, h3⟩
                  obtain ⟨d0, d1, d2, u0, u1, u2⟩ := look3 h3 hj64
                  rw [HH.out] at d1
                  rw [HV.out.1] at d0
                  have H3 := Lib.hid (set_here h3 j false)
                  clear h3
                  go_wp2_with fail
                  go_meet
                  exact ⟨cnt - 1, rfl, _, hand, vs, _, ps, HT.out, H3.out⟩
            · by_cases hkind : K1 k = 4
              · 
                have kb1 : (K1 k == 1) = false := by rw [beq_eq_false_iff_ne]; omega
                have kb2 : (K1 k == 2) = false := by rw [beq_eq_false_iff_ne]; omega
                have kb3 : (K1 k == 3) = false := by rw [beq_eq_false_iff_ne]; omega
                have kb4 : (K1 k == 4) = true := by simpa using hkind
                have kb5 : (K1 k == 5) = false := by rw [beq_eq_false_iff_ne]; omega
                clear hkind
                as_aux_lemma =>
                  cases hf : findF fr (j : Int) with
                  | none =>
                    have hg := RS.pin_any rb _ _ _ _ (RingIs.drew HR.out) j HK.out.pins (by omega)
                    have hh : hs j = false := by rw [HK.out.here j hj64, hf]; rfl
                    simp only [pinM, hf] at hg
                    obtain ⟨d0, d1, d2, u0, u1, u2⟩ := look3 HR.out hj64
                    rw [hh] at d1
                    have Hg := Lib.hid hg
                    have HH := Lib.hid hh
                    clear hf hg hh
                    go_upto_region 41 with (fail)
                    go_region_held3 (fun w' => w'.cell? ⟨hb, j, none⟩ = some (.bool false) ∧ w'.cell? ⟨pb, j, none⟩ = some (.int .i64 (ps j))) (go_keep)
                      ((go_at_call 29; refine (Hg.out).mono ?_; rintro e w3 ⟨rfl, h3⟩; obtain ⟨e0, e1, e2, x0, x1, x2⟩ := look3 h3 hj64; rw [HH.out] at e1; have H3 := Lib.hid h3; clear h3))
                    all_goals
                      go_wp2_with fail
                      go_meet
                      exact ⟨cnt, rfl, fr, hand, vs, hs, ps, HK.out.grow (by omega), H3.out⟩
                  | some y =>
                    obtain ⟨i, f⟩ := y
                    have hg := RS.pin_any rb _ _ _ _ (RingIs.drew HR.out) j HK.out.pins (by omega)
                    have hh : hs j = true := by rw [HK.out.here j hj64, hf]; rfl
                    have hvv := (HK.out.vals j i f hf)
                    have hpb := HK.out.pins i f (findF_some hf).2.1
                    have htn := HK.out.turn (f' := { f with pins := f.pins + 1 }) (vs' := vs) (ps' := updF ps j (f.pins + 1)) (top' := ((k + 1 : Nat) : Int)) hf rfl hvv.1 (by simp [updF]) (fun _ _ => rfl) (fun a ha => by simp [updF, ha]) (by omega) (by simp only; omega)
                    simp only [pinM, hf] at hg
                    obtain ⟨d0, d1, d2, u0, u1, u2⟩ := look3 HR.out hj64
                    rw [hh] at d1
                    rw [hvv.2] at d2
                    have Hg := Lib.hid hg
                    have HH := Lib.hid hh
                    have HV := Lib.hid hvv
                    have HT := Lib.hid htn
                    clear hf hg hh hvv htn
                    obtain ⟨hp0, hp1⟩ := hpb
                    generalize f.pins = fp at *
                    go_upto_region 41 with (fail)
                    go_region_held3 (fun w' => w'.cell? ⟨hb, j, none⟩ = some (.bool true) ∧ w'.cell? ⟨pb, j, none⟩ = some (.int .i64 fp)) (go_keep)
                      ((go_at_call 29; refine (Hg.out).mono ?_; rintro e w3 ⟨rfl, h3⟩; obtain ⟨e0, e1, e2, x0, x1, x2⟩ := look3 h3 hj64; rw [HH.out] at e1; rw [HV.out.2] at e2; have H3 := Lib.hid (set_pins h3 j (fp + 1)); clear h3))
                    all_goals
                      go_wp2_with fail
                      go_meet
                      exact ⟨cnt, rfl, _, hand, vs, hs, _, HT.out, H3.out⟩
              · by_cases hkind : K1 k = 5
                · 
                  have kb1 : (K1 k == 1) = false := by rw [beq_eq_false_iff_ne]; omega
                  have kb2 : (K1 k == 2) = false := by rw [beq_eq_false_iff_ne]; omega
                  have kb3 : (K1 k == 3) = false := by rw [beq_eq_false_iff_ne]; omega
                  have kb4 : (K1 k == 4) = false := by rw [beq_eq_false_iff_ne]; omega
                  have kb5 : (K1 k == 5) = true := by simpa using hkind
                  clear hkind
                  as_aux_lemma =>
                    cases hf : findF fr (j : Int) with
                    | none =>
                      have hh : hs j = false := by rw [HK.out.here j hj64, hf]; rfl
                      obtain ⟨d0, d1, d2, u0, u1, u2⟩ := look3 HR.out hj64
                      rw [hh] at d1
                      have HF := Lib.hid hf
                      clear hf hh
                      go_upto_region 46 with (fail)
                      go_quiet ((go_at_call 30; exact Calls.quiet_of_same ((RS.let_none rb _ _ _ _ (RingIs.drewN HR.out _) j HF.out).mono fun _ _ h => ⟨h.1, h.2.symm⟩)))
                      go_wp2_with fail
                      go_meet
                      exact ⟨cnt, rfl, fr, hand, vs, hs, ps, HK.out.grow (by omega), RingIs.drewN HR.out _⟩
                    | some y =>
                      obtain ⟨i, f⟩ := y
                      have hg := RS.let_any rb _ _ _ _ (RingIs.drew HR.out) j HK.out.pins (by omega)
                      have hh : hs j = true := by rw [HK.out.here j hj64, hf]; rfl
                      have hvv := (HK.out.vals j i f hf)
                      have hpb := HK.out.pins i f (findF_some hf).2.1
                      simp only [letM, hf] at hg
                      obtain ⟨d0, d1, d2, u0, u1, u2⟩ := look3 HR.out hj64
                      rw [hh] at d1
                      rw [hvv.2] at d2
                      have HH := Lib.hid hh
                      have HV := Lib.hid hvv
                      by_cases hz : f.pins = 0
                      · simp only [hz, beq_self_eq_true, if_true] at hg
                        rw [hz] at d2
                        have Hg := Lib.hid hg
                        have HZ := Lib.hid hz
                        clear hf hg hh hvv hz hpb
                        go_upto_region 46 with (fail)
                        go_region_held3 (fun w' => w'.cell? ⟨hb, j, none⟩ = some (.bool true) ∧ w'.cell? ⟨pb, j, none⟩ = some (.int .i64 0)) (go_keep)
                          ((go_at_call 30; refine (Hg.out).mono ?_; rintro e w3 ⟨rfl, h3⟩; obtain ⟨e0, e1, e2, x0, x1, x2⟩ := look3 h3 hj64; rw [HH.out] at e1; rw [HV.out.2, HZ.out] at e2; have H3 := Lib.hid h3; clear h3))
                        all_goals
                          go_wp2_with fail
                          go_meet
                          exact ⟨cnt, rfl, fr, hand, vs, hs, ps, HK.out.grow (by omega), H3.out⟩
                      · have hz2 : (f.pins == 0) = false := by simpa using hz
                        simp only [hz2, Bool.false_eq_true, if_false] at hg
                        have htn := HK.out.turn (f' := { f with pins := f.pins - 1 }) (vs' := vs) (ps' := updF ps j (f.pins - 1)) (top' := ((k + 1 : Nat) : Int)) hf rfl hvv.1 (by simp [updF]) (fun _ _ => rfl) (fun a ha => by simp [updF, ha]) (by omega) (by simp only; omega)
                        have Hg := Lib.hid hg
                        have HT := Lib.hid htn
                        have hp0 : 0 < f.pins := by omega
                        have hp1 := hpb.2
                        clear hf hg hh hvv hz hz2 htn hpb
                        generalize f.pins = fp at *
                        go_upto_region 46 with (fail)
                        go_region_held3 (fun w' => w'.cell? ⟨hb, j, none⟩ = some (.bool true) ∧ w'.cell? ⟨pb, j, none⟩ = some (.int .i64 fp)) (go_keep)
                          ((go_at_call 30; refine (Hg.out).mono ?_; rintro e w3 ⟨rfl, h3⟩; obtain ⟨e0, e1, e2, x0, x1, x2⟩ := look3 h3 hj64; rw [HH.out] at e1; rw [HV.out.2] at e2; have H3 := Lib.hid (set_pins h3 j (fp - 1)); clear h3))
                        all_goals
                          go_wp2_with fail
                          go_meet
                          exact ⟨cnt, rfl, _, hand, vs, hs, _, HT.out, H3.out⟩
                · 
                  have kb1 : (K1 k == 1) = false := by rw [beq_eq_false_iff_ne]; omega
                  have kb2 : (K1 k == 2) = false := by rw [beq_eq_false_iff_ne]; omega
                  have kb3 : (K1 k == 3) = false := by rw [beq_eq_false_iff_ne]; omega
                  have kb4 : (K1 k == 4) = false := by rw [beq_eq_false_iff_ne]; omega
                  have kb5 : (K1 k == 5) = false := by rw [beq_eq_false_iff_ne]; omega
                  clear hkind
                  as_aux_lemma =>
                    go_wp2_with fail
                    go_meet
                    exact ⟨cnt, rfl, fr, hand, vs, hs, ps, HK.out.grow (by omega), HR.out⟩
      case rest =>
        as_aux_lemma =>
          clear HK HR c0 c1 c2 hcn
          obtain ⟨cnt', rfl, fr, hand, vs, hs, ps, hrk, hring⟩ := hcut
          have hl := RS.len_any rb _ _ _ _ hring
          rw [← hrk.cnt] at hl
          have hle := hrk.le
          have HL := Lib.hid hl
          have HK := Lib.hid hrk
          have HR := Lib.hid hring
          clear hl hrk hring
          go_wp2_with fail
          refine (HL.out).mono ?_
          rintro e w4 ⟨rfl, rfl⟩
          go_wp2_with fail
          go_roundw
          case rel => exact ⟨k + 1, cnt', by omega, by omega, by go_num, rfl, fr, hand, vs, hs, ps, HK.out, HR.out⟩
          case measure => simp [intOf]; omega
    · as_aux_lemma =>
      obtain ⟨fr, hand, vs, hs, ps, hrk, hring⟩ := hI
      have Fin := Lib.hid hring.frame.tail.tail.tail.below
      have hx : ¬ (k < len) ∨ (k < len ∧ ¬ (k < 200)) := by omega
      clear hlt hrk hring
      rcases hx with hx | ⟨hx1, hx⟩
      all_goals
        go_wp2_with fail
        go_ret
        exact ⟨rfl, Fin.out⟩
end Go.Proofs.Ytbjomkbiljpjmaa
