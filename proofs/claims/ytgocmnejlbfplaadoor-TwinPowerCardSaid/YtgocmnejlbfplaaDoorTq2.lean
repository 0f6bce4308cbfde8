/- What TwinPower's walk leans on. Conditions: none. -/
import Derived.Test.YtgocmnejlbfplaaDoorTq1
import Derived.Test.YtgocmnejlbfplaaDoorSlA
import Derived.Test.YtgocmnejlbfplaaDoorTw22
namespace Go.Proofs.YtgocmnejlbfplaaDoor
open Go Go.MapKept Go.RowKit Go.Proofs Go.Sort

/-- A leaf's cells. -/
abbrev Lr := Int × Int × Value
abbrev lrC (r : Lr) : List Value := [kI r.1, kI r.2.1, r.2.2]
theorem lrC_len (r : Lr) : (lrC r).length = 3 := rfl
abbrev LrSl (v : Value) (R : List Lr) (h : Heaplet) : Prop := SliceIs 27 3 v R.length (R.flatMap lrC) h
/-- The slots of leaves lie in h. -/
def LrIs (h : Heaplet) (R : List Lr) (P : List Lf) : Prop := R.length = P.length ∧ ∀ (i : Nat) r p, R[i]? = some r → P[i]? = some p → r.1 = p.1 ∧ r.2.1 = p.2.lsn ∧ SlAt h r.2.2 p.2.slots
/-- A slice of leaves of its own. -/
def LvOwn (v : Value) (P : List Lf) (h : Heaplet) : Prop := ∃ R h1 h2, LrSl v R h1 ∧ LrIs h2 R P ∧ h = h1 ++ h2
theorem LvOwn.nil : LvOwn (.slice none 0 0) [] [] := ⟨[], [], [], SliceIs.nil _ _, ⟨rfl, fun i r p h => by simp at h⟩, rfl⟩
theorem LvOwn.form {v : Value} {P : List Lf} {h : Heaplet} (hv : LvOwn v P h) : ∃ a cap, v = .slice a P.length cap := by
  obtain ⟨R, h1, h2, hs, hi, _⟩ := hv
  obtain ⟨a, cap, e⟩ := sl_form hs
  exact ⟨a, cap, by rw [e, hi.1]⟩
theorem LvOwn.at {v : Value} {P : List Lf} {h : Heaplet} (hv : LvOwn v P h) (F : Heaplet) : LvAt (h ++ F) v P := by
  obtain ⟨R, h1, h2, hs, hi, rfl⟩ := hv
  obtain ⟨a, cap, rfl⟩ := sl_form hs
  refine ⟨a, cap, by rw [hi.1], fun i p hp => ?_⟩
  have hil : i < P.length := (List.getElem?_eq_some_iff.1 hp).1
  obtain ⟨r, hr⟩ : ∃ r, R[i]? = some r := ⟨_, List.getElem?_eq_getElem (by rw [hi.1]; exact hil)⟩
  obtain ⟨e1, e2, e3⟩ := hi.2 i r p hr hp
  have hcell : ∀ w, Sat w (h1 ++ h2 ++ F) → ∃ g, a = some ⟨g, 0, none⟩ ∧ w.cell? ⟨g, i * 3, none⟩ = some (kI p.1) ∧ w.cell? ⟨g, i * 3 + 1, none⟩ = some (kI p.2.lsn) ∧ w.cell? ⟨g, i * 3 + 2, none⟩ = some r.2.2 := by
    intro w hw
    obtain ⟨a', cap', e, hc⟩ := sl_cells lrC_len hs (show Sat w (h1 ++ (h2 ++ F)) by rw [← List.append_assoc]; exact hw)
    cases e
    obtain ⟨g, ea, _, hu⟩ := hc i r hr
    refine ⟨g, ea, ?_, ?_, ?_⟩
    · rw [← e1]; exact hu 0 _ rfl
    · rw [← e2]; exact hu 1 _ rfl
    · exact hu 2 _ rfl
  have hslot : SlAt (h1 ++ h2 ++ F) r.2.2 p.2.slots := e3.mono (fun w hw => by (refine Sat.part hw ?_; intro a; simp only [cnt_append]; omega))
  rcases hs.2 with ⟨e, e0, _⟩ | ⟨g', cap', cur, e, _, _, _, _, rfl⟩
  · have := (List.getElem?_eq_some_iff.1 hr).1
    omega
  · cases e
    refine ⟨g', 0, r.2.2, rfl, hslot, fun w hw => ?_⟩
    obtain ⟨g, ea, c0, c1, c2⟩ := hcell w hw
    cases ea
    rw [Nat.zero_add]
    exact ⟨c0, c1, c2⟩
theorem infoLf : (Tryd.prog.info? 27).map (fun i => (i.zero, i.size, i.bytes)) = some (some (.agg #[kI 0, kI 0, .slice none 0 0]), 3, 40) := by kernel_rfl
theorem lv_push {P : List Lf} {v : Value} {h hn B : Heaplet} {w : World} {x : Nat} {n : Int} {q : Pg} {a : Option Addr} {len cap : Nat} (hv : LvOwn v P h) (s : Sat w (.blk x (.cells #[kI n, kI q.lsn, .slice a len cap] 27) :: (h ++ (hn ++ B)))) (hsl : SlAt hn (.slice a len cap) q.slots) (hlen : P.length + 1 ≤ 200000) :
    ∃ v' w' h', (∀ ty, (Builtin.append_ #[22, 22] ty #[v, .slice (some ⟨x, 0, none⟩) 1 1]).run Tryd.prog w = .ok v' w') ∧ LvOwn v' (P ++ [(n, q)]) h' ∧ Sat w' (h' ++ B) := by
  obtain ⟨R, h1, h2, hs, hi, rfl⟩ := hv
  obtain ⟨i0, hin, hz, hsize, hby⟩ := info_parts infoLf
  have s2 : Sat w (.blk x (.cells (lrC (n, q.lsn, .slice a len cap)).toArray 27) :: ([] ++ (h1 ++ (h2 ++ (hn ++ B))))) := by
    have s' : Sat w (.blk x (.cells (lrC (n, q.lsn, .slice a len cap)).toArray 27) :: (h1 ++ h2 ++ (hn ++ B))) := s
    (refine Sat.part s' ?_; intro a; simp only [cnt_cons, cnt_append, List.nil_append]; omega)
  obtain ⟨v', w', h', hap, hv', hs'⟩ := sl_push (P := Tryd.prog) lrC_len Tryd.underlying22 hin hz hsize hby rfl (by decide) hs (n, q.lsn, .slice a len cap) s2 (by intro u hu; simp only [lrC, List.mem_cons, List.not_mem_nil, or_false] at hu; rcases hu with rfl | rfl | rfl <;> rfl) (by unfold maxLen; rw [hi.1]; omega) (by rw [hi.1]; omega)
  refine ⟨v', w', h' ++ (h2 ++ hn), hap, ⟨R ++ [(n, q.lsn, .slice a len cap)], h', h2 ++ hn, by (show SliceIs 27 3 v' (R ++ [((n, q.lsn, .slice a len cap) : Lr)]).length ((R ++ [((n, q.lsn, .slice a len cap) : Lr)]).flatMap lrC) h'); rw [List.length_append, List.flatMap_append]; simpa using hv', ⟨by simp [hi.1], fun i r p hr hp => ?_⟩, rfl⟩, by (refine Sat.part hs' ?_; intro a; simp only [cnt_append, List.nil_append]; omega)⟩
  by_cases hil : i < P.length
  · rw [List.getElem?_append_left (by rw [hi.1]; exact hil)] at hr
    rw [List.getElem?_append_left hil] at hp
    obtain ⟨e1, e2, e3⟩ := hi.2 i r p hr hp
    exact ⟨e1, e2, e3.mono (fun w hw => hw.lft)⟩
  · rw [List.getElem?_append_right (by rw [hi.1]; omega)] at hr
    rw [List.getElem?_append_right (by omega)] at hp
    have h0 : i - P.length = 0 := by
      have := (List.getElem?_eq_some_iff.1 hp).1
      simp only [List.length_cons, List.length_nil] at this
      omega
    rw [hi.1, h0] at hr
    rw [h0] at hp
    cases hr; cases hp
    exact ⟨rfl, rfl, hsl.mono (fun w hw => by (refine Sat.part hw ?_; intro a; simp only [cnt_append]; omega))⟩
end Go.Proofs.YtgocmnejlbfplaaDoor
namespace Go.Proofs.YtgocmnejlbfplaaDoor
open Go Go.MapKept Go.RowKit Go.Proofs

attribute [local go_sem] Oper.semAt_some

/-- Where F holds, a slice of whole numbers lies there. -/
def IsAt (F : Heaplet) (p : Option Addr) (len : Nat) (A : Nat → Int) : Prop := ∀ i, i < len → ∃ b off, p = some ⟨b, off, none⟩ ∧ (-9223372036854775808 ≤ A i ∧ A i ≤ 9223372036854775807) ∧ ∀ w, Sat w F → w.cell? ⟨b, off + i, none⟩ = some (kI (A i))
theorem IsAt.mono {F F' : Heaplet} {p : Option Addr} {len : Nat} {A : Nat → Int} (h : IsAt F p len A) (hF : ∀ w, Sat w F' → Sat w F) : IsAt F' p len A := fun i hi => by
  obtain ⟨b, off, e, hb, hw⟩ := h i hi
  exact ⟨b, off, e, hb, fun w s => hw w (hF w s)⟩
/-- Leaves that a group comes to. -/
structure LaidOk (lsn : Int) (L : List Lf) : Prop where
  nd : (L.map (·.1)).Nodup
  le : L.length ≤ 3
  at5 : ∀ p ∈ L, 0 ≤ p.1 ∧ p.1 < 5 ∧ ∃ c : UInt8, p.2 = imgP lsn ⟨#[c]⟩
theorem img_good {lsn : Int} (h : 0 ≤ lsn ∧ lsn ≤ 1000) (c : UInt8) : goodP (imgP lsn ⟨#[c]⟩) = true := by
  rw [goodP_iff]
  refine ⟨h.1, by show lsn ≤ _; omega, by show 1 ≤ 32; omega, fun s hs => ?_, rfl, ?_⟩
  · obtain rfl : s = (true, ⟨#[c]⟩) := by simpa [imgP] using hs
    rfl
  · show 9 + (1 + 1 + 0) ≤ 240
    omega
theorem LaidOk.fits {lsn : Int} {L : List Lf} (h : LaidOk lsn L) (hl : 0 ≤ lsn ∧ lsn ≤ 1000) : Fits5 L := ⟨h.nd, fun p hp => by
  obtain ⟨h1, h2, c, e⟩ := h.at5 p hp
  exact ⟨h1, h2, by rw [e]; exact img_good hl c⟩, h.le⟩
theorem fitPM_of {len : Nat} : ∀ {L : List Lf} {S : List Int}, (L.map (·.1)).Nodup → (∀ p ∈ L, 0 ≤ p.1 ∧ p.1 < (len : Int) ∧ goodP p.2 = true) → (∀ p ∈ L, p.1 ∉ S) → fitPM len S L = true
  | [], _, _, _, _ => rfl
  | q :: r, S, hn, hb, hS => by
    rw [List.map_cons, List.nodup_cons] at hn
    obtain ⟨b1, b2, b3⟩ := hb q (.head _)
    unfold fitPM
    have hs := hS q (.head _)
    rw [if_neg (by simp [b3, hs]; omega)]
    refine fitPM_of hn.2 (fun p hp => hb p (.tail _ hp)) (fun p hp hm => ?_)
    rcases List.mem_cons.1 hm with e | hm
    · exact hn.1 (List.mem_map.2 ⟨p, hp, e⟩)
    · exact hS p (.tail _ hp) hm
theorem Fits5.true {L : List Lf} (h : Fits5 L) {S : TS} (hp : S.pages.length = 5) (ht : S.twins = 3) : fitsT S L = true := by
  unfold fitsT
  rw [fitPM_of h.nd (fun p hm => ?_) (fun p _ hm => by cases hm), ht, Bool.true_and, decide_eq_true_eq]
  · have := h.le; omega
  · have := h.ok p hm
    rw [hp]; exact ⟨this.1, this.2.1, this.2.2⟩
theorem LaidOk.push {lsn : Int} {L : List Lf} (h : LaidOk lsn L) {n : Int} (hn : 0 ≤ n ∧ n < 5) (hl : L.length < 3) (hno : ∀ p ∈ L, p.1 ≠ n) (c : UInt8) : LaidOk lsn (L ++ [(n, imgP lsn ⟨#[c]⟩)]) := by
  refine ⟨?_, by simp; omega, fun p hp => ?_⟩
  · rw [List.map_append, List.nodup_append]
    refine ⟨h.nd, by simp, fun a ha b hb e => ?_⟩
    obtain ⟨p, hp, rfl⟩ := List.mem_map.1 ha
    simp only [List.map_cons, List.map_nil, List.mem_singleton] at hb
    exact hno p hp (by rw [e, hb])
  · rcases List.mem_append.1 hp with hp | hp
    · exact h.at5 p hp
    · obtain rfl : p = (n, imgP lsn ⟨#[c]⟩) := by simpa using hp
      exact ⟨hn.1, hn.2, c, rfl⟩
theorem LaidOk.nil (lsn : Int) : LaidOk lsn [] := ⟨List.nodup_nil, by simp, fun p hp => by cases hp⟩
theorem laid_push {oa : Option Addr} {oc xi ux bx : Nat} {L : List Lf} {h F : Heaplet} {w : World} {n lsn : Int} {d : ByteArray} {U G : Obj} (ho : LvOwn (.slice oa L.length oc) L h) (s : Sat w (.blk xi (.cells #[.bool true, kS d] 60) :: .blk ux U :: .blk bx G :: (h ++ F))) (hl : L.length ≤ 3) :
    ∃ v' w' h', (∀ ty, (Builtin.append_ #[22, 22] ty #[.slice oa L.length oc, .slice (some ⟨w.heap.size, 0, none⟩) 1 1]).run Tryd.prog (w.alloc (.cells #[kI n, kI lsn, .slice (some ⟨xi, 0, none⟩) 1 1] 27)) = .ok v' w') ∧ LvOwn v' (L ++ [(n, imgP lsn d)]) h' ∧ Sat w' (.blk bx G :: (h' ++ F)) := by
  have s2 := s.new (.cells #[kI n, kI lsn, .slice (some ⟨xi, 0, none⟩) 1 1] 27)
  have s3 : Sat (w.alloc (.cells #[kI n, kI lsn, .slice (some ⟨xi, 0, none⟩) 1 1] 27)) (.blk w.heap.size (.cells #[kI n, kI (imgP lsn d).lsn, .slice (some ⟨xi, 0, none⟩) 1 1] 27) :: (h ++ ([.blk xi (.cells #[.bool true, kS d] 60)] ++ (.blk bx G :: F)))) := by
    refine s2.part (fun a => ?_)
    simp only [cnt_cons, cnt_append, cnt_nil]
    show _ ≤ _
    have e : kI (imgP lsn d).lsn = kI lsn := rfl
    rw [e]
    omega
  obtain ⟨v', w', h', hap, ho', hs'⟩ := lv_push (n := n) (q := imgP lsn d) ho s3 (slAt_one xi d []) (by omega)
  exact ⟨v', w', h', hap, ho', hs'.perm (List.perm_middle (l₁ := h'))⟩
set_option maxRecDepth 100000 in
set_option maxHeartbeats 4000000 in
theorem laid_any {p : Option Addr} {len cap : Nat} {A : Nat → Int} {c : UInt8} {lsn : Int} {F : Heaplet} {w : World} (hI : IsAt F p len A) (hl : (len : Int) ≤ 9223372036854775807) (hs : Sat w F) :
    Calls Tryd.prog 15 #[.agg #[.slice p len cap, .int .u8 (c.toNat : Int)], .int .i64 lsn] w (fun e w' => ∃ v L h, e = .returned v ∧ LvOwn v L h ∧ LaidOk lsn L ∧ Sat w' (h ++ F)) := by
  have h1 := hs.new (.cells #[.slice p len cap, .int .u8 (c.toNat : Int)] 54)
  obtain ⟨bx, hbx⟩ : ∃ bx, w.heap.size = bx := ⟨_, rfl⟩
  rw [hbx] at h1
  have HI := Lib.hid hI
  have HS := Lib.hid h1
  obtain ⟨x0, x1, _⟩ := two_at h1
  clear hI h1 hs
  go_enter Tryd.func15, Tryd.ntmps15
  go_upto_block 0 with (fail)
  have hs2 := HS.out.new (.cells #[] 27)
  rw [World.size_alloc, hbx] at hs2
  have HS2 := Lib.hid (hs2.perm (List.Perm.swap _ _ _))
  have HO2 : Hid (LvOwn (.slice (some ⟨bx + 1, 0, none⟩) 0 0) [] [.blk (bx + 1) (.cells #[] 27)]) := Lib.hid ⟨[], [.blk (bx + 1) (.cells #[] 27)], [], sl_new _ _ _, ⟨rfl, fun i r p h => by simp at h⟩, rfl⟩
  clear hs2 HS x0 x1
  generalize (w.alloc (.cells #[.slice p len cap, .int .u8 (c.toNat : Int)] 54)).alloc (.cells #[] 27) = W2 at *
  generalize bx + 1 = by2 at *
  clear hbx
  go_wp2_with fail
  go_loopw [5, 6] (fun v5 v6 wr => ∃ (i : Nat) (L : List Lf) (h : Heaplet), i ≤ len ∧ v6 = .int .i64 i ∧ LvOwn v5 L h ∧ LaidOk lsn L ∧ Sat wr (.blk bx (.cells #[.slice p len cap, .int .u8 (c.toNat : Int)] 54) :: (h ++ F))) (fun _ v6 _ => 9223372036854775809 - (RowKit.intOf v6).toNat)
  case atStart => exact ⟨0, [], _, by omega, rfl, HO2.out, LaidOk.nil lsn, HS2.out⟩
  case round =>
    clear HS2 HO2
    obtain ⟨i, L, h, hi, rfl, ho, hL, hst⟩ := hrel
    obtain ⟨oa, oc, rfl⟩ := ho.form
    have HO := Lib.hid ho
    have HL := Lib.hid hL
    have HST := Lib.hid hst
    obtain ⟨x0, x1, _⟩ := two_at hst
    have i0 : (0 : Int) ≤ (i : Int) := by omega
    have hl3 : L.length ≤ 3 := hL.le
    clear ho hL hst
    by_cases hil : i < len
    · have i1 : (i : Int) < (len : Int) := by omega
      by_cases hl2 : L.length < 3
      · have l1 : (L.length : Int) < 3 := by omega
        obtain ⟨b, off, rfl, hA, hu⟩ := HI.out i hil
        have u0 := hu wr HST.out.tail.right
        obtain ⟨n, hn, n0, n5⟩ : ∃ n, RowKit.wrap64 ((IntKind.u64.wrap (A i)).tmod 5) = n ∧ 0 ≤ n ∧ n < 5 := ⟨_, rfl, umod_bd (A i) 5 (by omega) (by omega)⟩
        go_upto_block 2 with (fail)
        rw [hn]
        clear u0 hn hA hu
        obtain ⟨a', cp', e', hcc⟩ := HO.out.at F
        simp only [Value.slice.injEq] at e'
        obtain ⟨rfl, _, rfl⟩ := e'
        have HCC := Lib.hid hcc
        clear hcc
        go_wp2_with fail
        go_loopw [8, 9] (fun v8 v9 wx => ∃ k : Nat, k ≤ L.length ∧ v9 = .int .i64 k ∧ v8 = .bool ((L.take k).any (fun p => p.1 == n)) ∧ wr = wx) (fun _ v9 _ => 1000 - (RowKit.intOf v9).toNat)
        case atStart => exact ⟨0, by omega, rfl, by simp, rfl⟩
        case round =>
          obtain ⟨k, hk, rfl, rfl, rfl⟩ := hrel
          have k0 : (0 : Int) ≤ (k : Int) := by omega
          by_cases hkl : k < L.length
          · have k1 : (k : Int) < (L.length : Int) := by omega
            obtain ⟨q, hq⟩ : ∃ q, L[k]? = some q := ⟨_, List.getElem?_eq_getElem hkl⟩
            obtain ⟨g, off2, sv, rfl, _, hu⟩ := HCC.out k q hq
            obtain ⟨u0, _, _⟩ := hu wr HST.out.tail
            have htk : L.take (k + 1) = L.take k ++ [q] := by rw [List.take_add_one, hq]; rfl
            have hst : (L.take (k + 1)).any (fun p => p.1 == n) = ((L.take k).any (fun p => p.1 == n) || (q.1 == n)) := by
              rw [htk, List.any_append]
              simp
            have HT := Lib.hid hst
            have HK := Lib.hid hkl
            obtain ⟨bt, hbt⟩ : ∃ bt, (L.take k).any (fun p => p.1 == n) = bt := ⟨_, rfl⟩
            rw [hbt] at HT ⊢
            clear hst htk hq hu hk hkl hbt
            cases bt with
            | true =>
              go_wp2_with fail
              exact ⟨⟨k + 1, by have := HK.out; omega, by simp, by rw [HT.out]; rfl, trivial⟩, by simp only [RowKit.intOf]; omega⟩
            | false =>
              go_wp2_with fail
              exact ⟨⟨k + 1, by have := HK.out; omega, by simp, by rw [HT.out, Bool.false_or], trivial⟩, by simp only [RowKit.intOf]; omega⟩
          · obtain rfl : k = L.length := by omega
            have k1 : ((L.length : Int) < (L.length : Int)) = False := eq_false (by omega)
            rw [List.take_length]
            cases hhas : L.any (fun p => p.1 == n) with
            | true =>
              clear hk hkl hhas HCC
              go_wp2_with fail
              exact ⟨⟨i + 1, L, h, by omega, by simp, HO.out, HL.out, HST.out⟩, by simp only [RowKit.intOf]; omega⟩
            | false =>
              have hno : ∀ p ∈ L, p.1 ≠ n := fun p hp e => by
                rw [List.any_eq_false] at hhas
                exact hhas p hp (by simpa using e)
              have HNO := Lib.hid hno
              clear hk hkl hhas HCC hno
              have hs4 := HST.out.new (.cells #[.int .u8 (c.toNat : Int)] 5)
              have HS4 := Lib.hid hs4
              have HIM := Lib.hid (image_any lsn ⟨#[c]⟩ _ _ hs4)
              clear hs4
              have hcv : (convert 74 9 (.slice (some ⟨wr.heap.size, 0, none⟩) 1 1)).run Tryd.prog (wr.alloc (.cells #[.int .u8 (c.toNat : Int)] 5)) = .ok (.string ⟨#[c]⟩) (wr.alloc (.cells #[.int .u8 (c.toNat : Int)] 5)) := by
                have h := run_convert_bytes_back (P := Tryd.prog) (wr.alloc (.cells #[.int .u8 (c.toNat : Int)] 5)) 74 9 5 ⟨wr.heap.size, 0, none⟩ 1 [c] Tryd.underlying74 Tryd.underlying5 Tryd.underlying9 (fun j hj => by
                  simp only [List.length_cons, List.length_nil] at hj
                  obtain rfl : j = 0 := by omega
                  rw [show (⟨wr.heap.size, 0, none⟩ : Addr).add 0 = ⟨wr.heap.size, 0, none⟩ from rfl, cell_of HS4.out.h0]
                  rfl)
                exact h
              go_upto_region 12 with (fail)
              have hl3' := hl3
              go_wp2_with (first | (go_at_call 10; refine (HIM.out).mono ?_; rintro e w5 ⟨xi, rfl, hs5⟩; obtain ⟨v5, w6, h5, hap, hown, hs6⟩ := laid_push (n := n) (lsn := lsn) HO.out hs5 hl3'; have HAP := Lib.hid hap; have HOW := Lib.hid (And.intro hown hs6); clear hs5 hcv hap hown hs6) | (at_builtin; refine wpList_append_run rfl _ _ _ _ rfl _ _ _ _ rfl rfl HAP.out ?_))
              exact ⟨⟨i + 1, L ++ [(n, imgP lsn ⟨#[c]⟩)], h5, by omega, by simp, HOW.out.1, HL.out.push ⟨n0, n5⟩ hl2 HNO.out c, HOW.out.2⟩, by simp only [RowKit.intOf]; omega⟩
      · have l1 : ((L.length : Int) < 3) = False := eq_false (by omega)
        have FIN : Hid (LvOwn (.slice oa L.length oc) L h ∧ LaidOk lsn L ∧ Sat wr (h ++ F)) := Lib.hid ⟨HO.out, HL.out, HST.out.tail⟩
        clear HST
        go_wp2_with fail
        go_ret
        exact ⟨_, L, h, rfl, FIN.out.1, FIN.out.2.1, FIN.out.2.2⟩
    · have i1 : ((i : Int) < (len : Int)) = False := eq_false (by omega)
      have FIN : Hid (LvOwn (.slice oa L.length oc) L h ∧ LaidOk lsn L ∧ Sat wr (h ++ F)) := Lib.hid ⟨HO.out, HL.out, HST.out.tail⟩
      clear HST
      go_wp2_with fail
      go_ret
      exact ⟨_, L, h, rfl, FIN.out.1, FIN.out.2.1, FIN.out.2.2⟩
end Go.Proofs.YtgocmnejlbfplaaDoor
namespace Go.Proofs.YtgocmnejlbfplaaDoor
open Go Go.MapKept Go.RowKit Go.Proofs

theorem fate_at {F : Heaplet} {p : Option Addr} {len cap : Nat} {A : Nat → Int} (hI : IsAt F p len A) (hl : (len : Int) ≤ 9223372036854775807) (i : Nat) (w : World) (hi : i < 1000000) (hs : Sat w F) :
    Calls Tryd.prog 31 #[.slice p len cap, .int .i64 (i : Int)] w (Ret (.int .i64 (fateM len A i)) (Same w)) := by
  refine fate_any p len cap A i w w ⟨by omega, fun j hj => ?_⟩ (Below.refl _ _) (by omega)
  obtain ⟨b, off, e, hb, hw⟩ := hI j hj
  have hc := hw w hs
  exact ⟨b, off, e, World.block_lt_of_cell? w ⟨b, off + j, none⟩ hc, hc, hb⟩
theorem on_at {pb : Nat} {M : PM} {F : Heaplet} {w : World} (h : PlateIs pb M F w) {b : Nat} (hk : PlOk b M) {p : Option Addr} {len cap : Nat} {A : Nat → Int} (hI : IsAt F p len A) (hl : (len : Int) ≤ 9223372036854775807) :
    Calls Tryd.prog 16 #[.pointer (some ⟨pb, 0, none⟩), .slice p len cap] w (Ret (.tuple #[]) (PlateIs pb (onM M (fateM len A)) F)) :=
  on_any pb M F _ _ w h (by have := hk.2.2; omega) (fun i w' hi hs => fate_at hI hl i w' hi hs)
theorem on_none {pb : Nat} {M : PM} {F : Heaplet} {w : World} (h : PlateIs pb M F w) {b : Nat} (hk : PlOk b M) :
    Calls Tryd.prog 16 #[.pointer (some ⟨pb, 0, none⟩), .slice none 0 0] w (Ret (.tuple #[]) (PlateIs pb (onM M (fateM 0 (fun _ => 0))) F)) :=
  on_at (A := fun _ => 0) h hk (fun i hi => absurd hi (by omega)) (by decide)
theorem off_at {pb : Nat} {M : PM} {F : Heaplet} {w : World} (h : PlateIs pb M F w) {b : Nat} (hk : PlOk b M) :
    Calls Tryd.prog 17 #[.pointer (some ⟨pb, 0, none⟩)] w (Ret (.tuple #[]) (PlateIs pb (offM M) F)) :=
  off_any pb M F w h (by have := hk.2.2; omega) (by have := hk.2.2; omega)
theorem StIs.arm {tb pb : Nat} {S : TS} {M : PM} {G : Heaplet} {w : World} (h : StIs tb pb S M G w) (n : Int) :
    Calls Tryd.prog 14 #[.pointer (some ⟨pb, 0, none⟩), .int .i64 n] w (Ret (.tuple #[]) (StIs tb pb S (armM M n) G)) := by
  obtain ⟨pv, R, h', K, h1, h2, hp⟩ := h
  refine (arm_any pb M _ n w hp).mono ?_
  rintro e w' ⟨rfl, hp'⟩
  exact ⟨rfl, pv, R, h', K, h1, h2, hp'⟩
/-- Open, whatever it comes to. -/
theorem open_again {pb : Nat} {M : PM} {F : Heaplet} {w : World} (h : PlateIs pb M F w) {b : Nat} (hk : PlOk b M) (hb : b + 2000 ≤ 100000) (hc : M.count = 16) :
    Calls Tryd.prog 8 #[.pointer (some ⟨pb, 0, none⟩), .int .i64 0, .int .i64 3, .int .i64 5] w (fun e w' => (∃ v, e = .returned v) ∧ PlateIs pb (openP M 0 3 5).2.2 F w') := by
  refine (open_any h hk hb (by omega) 0 3 5).mono ?_
  intro e w' hr
  unfold OpRet at hr
  cases ho : (openP M 0 3 5).1 with
  | none => rw [ho] at hr; obtain ⟨e1, e2⟩ := hr; exact ⟨⟨_, e1⟩, e2⟩
  | some S => rw [ho] at hr; obtain ⟨tb, e1, e2⟩ := hr; exact ⟨⟨_, e1⟩, e2.toPlate⟩
/-- Open with no fate near. -/
theorem open_calm {pb : Nat} {M : PM} {F : Heaplet} {w : World} (h : PlateIs pb M F w) {b : Nat} {was now : Nat → Pg} {lim : Int} (hr : Rcv b was now lim M) (ha : M.armed = 0) (hb : b + 2000 ≤ 100000) :
    Calls Tryd.prog 8 #[.pointer (some ⟨pb, 0, none⟩), .int .i64 0, .int .i64 3, .int .i64 5] w (fun e w' => ∃ tb pg S M', e = .returned (.tuple #[.pointer (some ⟨tb, 0, none⟩), .int .i64 0]) ∧ (∀ n : Nat, n < 5 → pg n = was n ∨ pg n = now n) ∧ St8 (b + 8) pg lim S M' ∧ M'.armed = 0 ∧ StIs tb pb S M' F w') := by
  obtain ⟨pg, S, M', e1, e2, e3, e4⟩ := hr.open (by omega) ha
  have := open_any h hr.ok hb (by rw [hr.ct]; decide) 0 3 5
  rw [e1] at this
  refine this.mono ?_
  rintro e w' ⟨tb, rfl, hs⟩
  exact ⟨tb, pg, S, M', rfl, e2, e3, e4, hs⟩
/-- A part of the frame is turned. -/
theorem StIs.turn {tb pb : Nat} {S : TS} {M : PM} {h G : Heaplet} {w : World} (hs : StIs tb pb S M (h ++ G) w) : ∃ F, Sat w (h ++ F) ∧ (∀ W, Sat W F → Sat W G) ∧ ∀ h' w', Sat w' (h' ++ F) → StIs tb pb S M (h' ++ G) w' := by
  obtain ⟨pv, R, hh, K, h1, h2, m, es, clk, qv, qh, g1, g2, s⟩ := hs
  refine ⟨.blk pb (plateObj M m qv) :: .blk m (.map es clk) :: (qh ++ (.blk tb (stO S pb pv) :: (hh ++ (K ++ G)))), s.part (fun a => ?_), fun W hW => hW.part (fun a => ?_), fun h' w' hw => ⟨pv, R, hh, K, h1, h2, m, es, clk, qv, qh, g1, g2, hw.part (fun a => ?_)⟩⟩
  all_goals
    simp only [cnt_cons, cnt_append]
    omega
/-- Pages in a row, their slots in K. -/
def RowAt (v : Value) (P : Nat → Pg) (h K : Heaplet) : Prop := ∃ R, PrSl v R h ∧ PrIs K R ((List.range 5).map P)
theorem PrIs.mono {K K' : Heaplet} {R : List Pr} {P : List Pg} (h : PrIs K R P) (hK : ∀ w, Sat w K' → Sat w K) : PrIs K' R P := ⟨h.1, fun i r p hr hp => ⟨(h.2 i r p hr hp).1, (h.2 i r p hr hp).2.mono hK⟩⟩
theorem RowAt.mono {v : Value} {P : Nat → Pg} {h K K' : Heaplet} (hr : RowAt v P h K) (hK : ∀ w, Sat w K' → Sat w K) : RowAt v P h K' := by
  obtain ⟨R, h1, h2⟩ := hr
  exact ⟨R, h1, h2.mono hK⟩
theorem RowAt.len {P : Nat → Pg} {R : List Pr} {K : Heaplet} (h : PrIs K R ((List.range 5).map P)) : R.length = 5 := by rw [h.1]; simp
theorem RowAt.new (g : Nat) : RowAt (.slice (some ⟨g, 0, none⟩) 5 5) (fun _ => emptyP) [.blk g (.cells #[kI 0, .slice none 0 0, kI 0, .slice none 0 0, kI 0, .slice none 0 0, kI 0, .slice none 0 0, kI 0, .slice none 0 0] 25)] [] := by
  refine ⟨List.replicate 5 (0, .slice none 0 0), ⟨rfl, .inr ⟨g, 5, _, rfl, by decide, by decide, rfl, rfl, rfl⟩⟩, rfl, fun i r p hr hp => ?_⟩
  have e1 := List.mem_of_getElem? hr
  have e2 := List.mem_of_getElem? hp
  rw [List.eq_of_mem_replicate e1]
  obtain ⟨n, _, rfl⟩ := List.mem_map.1 e2
  exact ⟨rfl, SlAt.nil _ _ _⟩
/-- A page of the row, read. -/
theorem RowAt.read {v : Value} {P : Nat → Pg} {h K : Heaplet} (hr : RowAt v P h K) : ∃ g cap, v = .slice (some ⟨g, 0, none⟩) 5 cap ∧ ∀ n : Nat, n < 5 → ∃ sa sc, SlAt K (.slice sa (P n).slots.length sc) (P n).slots ∧ ∀ w F, Sat w (h ++ F) → w.cell? ⟨g, n * 2, none⟩ = some (kI (P n).lsn) ∧ w.cell? ⟨g, n * 2 + 1, none⟩ = some (.slice sa (P n).slots.length sc) ∧ ∀ i, w.frozen? ⟨g, i, none⟩ = false := by
  obtain ⟨R, h1, h2⟩ := hr
  have hl := RowAt.len h2
  obtain ⟨g, cap, e⟩ := sl_some h1 (by omega)
  subst e
  refine ⟨g, cap, by rw [hl], fun n hn => ?_⟩
  obtain ⟨r, hr⟩ : ∃ r, R[n]? = some r := ⟨_, List.getElem?_eq_getElem (by omega)⟩
  have hp : ((List.range 5).map P)[n]? = some (P n) := by rw [List.getElem?_map, List.getElem?_range hn]; rfl
  obtain ⟨e1, e2⟩ := h2.2 n r (P n) hr hp
  obtain ⟨sa, sc, e3, _⟩ := id e2
  refine ⟨sa, sc, by rw [← e3]; exact e2, fun w F hs => ?_⟩
  obtain ⟨a', cap', e, hc⟩ := sl_cells prC_len h1 hs
  obtain ⟨g', ea, fz, hu⟩ := hc n r hr
  simp only [Value.slice.injEq] at e
  rw [ea] at e
  obtain ⟨e5, _, _⟩ := e
  cases e5
  refine ⟨by rw [← e1]; exact hu 0 _ rfl, by rw [← e3]; exact hu 1 _ rfl, fz⟩
/-- A page of the row is another. -/
theorem RowAt.set {g cap n : Nat} {P : Nat → Pg} {h K F : Heaplet} {w : World} {q : Pg} {sa : Option Addr} {sc : Nat} (hr : RowAt (.slice (some ⟨g, 0, none⟩) 5 cap) P h K) (hn : n < 5) (hsl : SlAt K (.slice sa q.slots.length sc) q.slots) (s : Sat w (h ++ F)) :
    ∃ h', RowAt (.slice (some ⟨g, 0, none⟩) 5 cap) (fun i => if i = n then q else P i) h' K ∧ Sat ((w.setCell ⟨g, n * 2, none⟩ (kI q.lsn)).setCell ⟨g, n * 2 + 1, none⟩ (.slice sa q.slots.length sc)) (h' ++ F) := by
  obtain ⟨R, h1, h2⟩ := hr
  have hl := RowAt.len h2
  obtain ⟨r, hr⟩ : ∃ r, R[n]? = some r := ⟨_, List.getElem?_eq_getElem (by omega)⟩
  obtain ⟨h', a1, s1⟩ := pr_set2 (k := n) ((q.lsn, .slice sa q.slots.length sc) : Pr) rfl h1 s hr
  refine ⟨h', ⟨R.set n (q.lsn, .slice sa q.slots.length sc), a1, by simp [hl], fun i r' p hr' hp => ?_⟩, s1⟩
  have hi : i < 5 := by
    have := (List.getElem?_eq_some_iff.1 hp).1
    simpa using this
  have hp' : p = if i = n then q else P i := by
    rw [List.getElem?_map, List.getElem?_range hi] at hp
    exact (Option.some.inj hp).symm
  by_cases e : i = n
  · subst e
    rw [List.getElem?_set_self (by omega)] at hr'
    cases hr'
    rw [if_pos rfl] at hp'
    subst hp'
    exact ⟨rfl, hsl⟩
  · rw [List.getElem?_set_ne (fun x => e x.symm)] at hr'
    rw [if_neg e] at hp'
    exact h2.2 i r' p hr' (by rw [List.getElem?_map, List.getElem?_range hi, hp']; rfl)
abbrev Pz := Int × Option Addr × Nat × Nat
abbrev pzC (r : Pz) : List Value := [kI r.1, .slice r.2.1 r.2.2.1 r.2.2.2]
def pzR (r : Pz) : Pr := (r.1, .slice r.2.1 r.2.2.1 r.2.2.2)
theorem pz_of : ∀ (R : List Pr), (∀ r ∈ R, ∃ a n c, r.2 = .slice a n c) → ∃ Z : List Pz, Z.map pzR = R
  | [], _ => ⟨[], rfl⟩
  | r :: R, h => by
    obtain ⟨Z, hZ⟩ := pz_of R (fun x hx => h x (.tail _ hx))
    obtain ⟨a, n, c, e⟩ := h r (.head _)
    exact ⟨(r.1, a, n, c) :: Z, by rw [List.map_cons, hZ]; congr 1; unfold pzR; rw [← e]⟩
theorem pz_flat (Z : List Pz) : (Z.map pzR).flatMap prC = Z.flatMap pzC := by rw [List.flatMap_map]; rfl
/-- The row, copied. -/
theorem RowAt.copy {v : Value} {P : Nat → Pg} {h K F : Heaplet} {w : World} {ge : Nat} (hr : RowAt v P h K) (s : Sat w ([HItem.blk ge (.cells #[] 25)] ++ (h ++ F))) :
    ∃ v' w' h', (∀ ty, (Builtin.append_ #[49, 49] ty #[.slice (some ⟨ge, 0, none⟩) 0 0, v]).run Tryd.prog w = .ok v' w') ∧ RowAt v' P h' K ∧ Sat w' (h' ++ (h ++ F)) := by
  obtain ⟨R, h1, h2⟩ := hr
  have hl := RowAt.len h2
  obtain ⟨Z, rfl⟩ := pz_of R (fun r hr => by
    obtain ⟨i, hi⟩ := List.mem_iff_getElem?.1 hr
    have hil := (List.getElem?_eq_some_iff.1 hi).1
    obtain ⟨p, hp⟩ : ∃ p, ((List.range 5).map P)[i]? = some p := ⟨_, List.getElem?_eq_getElem (by rw [← h2.1]; exact hil)⟩
    obtain ⟨_, sa, sc, e, _⟩ := h2.2 i r p hi hp
    exact ⟨_, _, _, e⟩)
  rw [List.length_map] at hl
  obtain ⟨i0, hin, hz, hsize, hby⟩ := info_parts infoPg
  obtain ⟨a, cap, e, hc⟩ := sl_cells prC_len h1 s.right
  have src : SrcAt pzC 2 w a Z := fun i q hq => by
    obtain ⟨g, ea, _, hu⟩ := hc i (pzR q) (by rw [List.getElem?_map, hq]; rfl)
    refine ⟨g, 0, ea, fun j u hj => ?_⟩
    rw [Nat.zero_add]
    exact hu j u hj
  obtain ⟨v', w', h', hap, hv', hs'⟩ := sl_app (P := Tryd.prog) (R := ([] : List Pz)) (fl := pzC) (c := cap) (fun _ => rfl) Tryd.underlying49 hin hz hsize hby rfl (by decide) (sl_new 25 2 ge) s src (fun q u hu => by
    simp only [pzC, List.mem_cons, List.not_mem_nil, or_false] at hu
    rcases hu with rfl | rfl <;> rfl) (by simp [hl, maxLen]) (by simp [hl])
  rw [List.nil_append] at hv'
  rw [List.length_map] at e
  rw [e]
  exact ⟨v', w', h', hap, ⟨Z.map pzR, by unfold PrSl; rw [pz_flat, List.length_map]; exact hv', h2⟩, hs'⟩
end Go.Proofs.YtgocmnejlbfplaaDoor
namespace Go.Proofs.YtgocmnejlbfplaaDoor
open Go Go.MapKept Go.RowKit Go.Proofs

theorem StIs.laid {tb pb : Nat} {S : TS} {M : PM} {G : Heaplet} {w : World} (h : StIs tb pb S M G w) {p : Option Addr} {len cap : Nat} {A : Nat → Int} (hI : IsAt G p len A) (hl : (len : Int) ≤ 9223372036854775807) (c : UInt8) (lsn : Int) :
    Calls Tryd.prog 15 #[.agg #[.slice p len cap, .int .u8 (c.toNat : Int)], .int .i64 lsn] w (fun e w' => ∃ a c L h, e = .returned (.slice a L.length c) ∧ LvOwn (.slice a L.length c) L h ∧ LaidOk lsn L ∧ StIs tb pb S M (h ++ G) w') := by
  obtain ⟨F, s, hF, hmk⟩ := StIs.turn (h := []) h
  refine (laid_any (hI.mono hF) hl s).mono ?_
  rintro e w' ⟨v, L, hL, rfl, ho, hok, s'⟩
  obtain ⟨a, c, rfl⟩ := ho.form
  exact ⟨a, c, L, hL, rfl, ho, hok, hmk hL w' s'⟩
theorem StIs.copy {tb pb ge : Nat} {S : TS} {M : PM} {h K G : Heaplet} {w : World} {v : Value} {P : Nat → Pg} (hs : StIs tb pb S M (.blk ge (.cells #[] 25) :: (h ++ G)) w) (hr : RowAt v P h K) :
    ∃ v' w' h', (∀ ty, (Builtin.append_ #[49, 49] ty #[.slice (some ⟨ge, 0, none⟩) 0 0, v]).run Tryd.prog w = .ok v' w') ∧ RowAt v' P h' K ∧ StIs tb pb S M (h' ++ (h ++ G)) w' := by
  obtain ⟨F, s, hF, hmk⟩ := StIs.turn (h := [HItem.blk ge (.cells #[] 25)] ++ h) (G := G) (by rw [List.append_assoc]; exact hs)
  rw [List.append_assoc] at s
  obtain ⟨v', w', h', h1, h2, h3⟩ := hr.copy s
  exact ⟨v', w', h', h1, h2, by rw [← List.append_assoc]; exact hmk _ _ (by rw [List.append_assoc]; exact h3)⟩
/-- A page of a row is written beside a store. -/
theorem StIs.rowSet {tb pb g cap n : Nat} {S : TS} {M : PM} {h K G : Heaplet} {w : World} {P : Nat → Pg} {q : Pg} {sa : Option Addr} {sc : Nat} (hs : StIs tb pb S M (h ++ G) w) (hr : RowAt (.slice (some ⟨g, 0, none⟩) 5 cap) P h K) (hn : n < 5) (hsl : SlAt K (.slice sa q.slots.length sc) q.slots) :
    ∃ h', RowAt (.slice (some ⟨g, 0, none⟩) 5 cap) (fun i => if i = n then q else P i) h' K ∧ StIs tb pb S M (h' ++ G) ((w.setCell ⟨g, n * 2, none⟩ (kI q.lsn)).setCell ⟨g, n * 2 + 1, none⟩ (.slice sa q.slots.length sc)) := by
  obtain ⟨F, s, hF, hmk⟩ := hs.turn
  obtain ⟨h', h1, h2⟩ := hr.set hn hsl s
  exact ⟨h', h1, hmk _ _ h2⟩
theorem RowAt.congr {v : Value} {P Q : Nat → Pg} {h K : Heaplet} (hr : RowAt v P h K) (e : ∀ n, n < 5 → P n = Q n) : RowAt v Q h K := by
  obtain ⟨R, h1, h2⟩ := hr
  refine ⟨R, h1, ?_⟩
  rw [show (List.range 5).map Q = (List.range 5).map P from List.map_congr_left (fun n hn => (e n (List.mem_range.1 hn)).symm)]
  exact h2
theorem nowF_snoc {was : Nat → Pg} {L : List Lf} {p : Lf} (hn : ((L ++ [p]).map (·.1)).Nodup) (h0 : 0 ≤ p.1) : nowF was (L ++ [p]) = fun i => if i = p.1.toNat then p.2 else nowF was L i := by
  funext i
  by_cases e : i = p.1.toNat
  · rw [if_pos e]
    exact nowF_in hn (List.mem_append_right _ (.head _)) (by omega)
  · rw [if_neg e]
    unfold nowF
    rw [List.find?_append]
    have : ([p] : List Lf).find? (fun p => p.1 == (i : Int)) = none := by
      rw [List.find?_eq_none]
      intro x hx
      rw [List.mem_singleton] at hx
      subst hx
      simp only [beq_iff_eq]
      omega
    rw [this, Option.or_none]
theorem tread8 {tb pb b : Nat} {S : TS} {M : PM} {G : Heaplet} {w : World} {was : Nat → Pg} {lim : Int} (h : StIs tb pb S M G w) (hk : St8 b was lim S M) (n : Nat) (hn : n < 5) :
    Calls Tryd.prog 12 #[.pointer (some ⟨tb, 0, none⟩), .int .i64 (n : Int)] w (fun e w' => ∃ a c h', e = .returned (.tuple #[pgV (was n).lsn (.slice a (was n).slots.length c), .int .i64 0]) ∧ SlAt h' (.slice a (was n).slots.length c) (was n).slots ∧ StIs tb pb S M (h' ++ G) w') := by
  have hst := hk.st
  have hp : S.pages = (List.range 5).map was := by rw [hst]
  have := tread_any h (n : Int) (fun p hm => by
    rw [hp] at hm
    obtain ⟨m, hm2, rfl⟩ := List.mem_map.1 hm
    exact hk.gd m (List.mem_range.1 hm2)) (by rw [hp]; simp)
  have e : readT S M (n : Int) = (was n, 0) := by
    unfold readT
    rw [rdyT_calm hk.up (by rw [hst]) (by rw [hst]), if_neg (by simp), if_neg (by omega), Int.toNat_natCast, hp, List.getElem?_map, List.getElem?_range hn]
    rfl
  rw [e] at this
  refine this.mono ?_
  rintro e w' ⟨sv, h', rfl, h1, h2⟩
  obtain ⟨a, c, rfl, _⟩ := id h2
  exact ⟨a, c, h', rfl, h2, h1⟩
theorem St8.new : St8 0 (fun _ => emptyP) 0 (newT 0 3 5) (newM 16) := by
  refine ⟨rfl, by decide, rfl, rfl, rfl, fun n hn => ⟨rfl, .inr ⟨rfl, rfl⟩⟩, fun n _ => by decide, fun c _ n p _ _ h => ?_, plOk_new (by decide) 0 (by decide)⟩
  have e : (holdD (newM 16).secs (c : Int)).1 = zeros256 := rfl
  rw [e, pageM_zero] at h
  cases h
theorem St8.mono {b b' : Nat} {was : Nat → Pg} {lim : Int} {S : TS} {M : PM} (h : St8 b was lim S M) (hb : b ≤ b') (h2 : b' ≤ 100000) : St8 b' was lim S M := { h with ok := h.ok.mono hb h2 }
theorem Rcv.mono {b b' : Nat} {was now : Nat → Pg} {lim : Int} {M : PM} (h : Rcv b was now lim M) (hb : b ≤ b') (h2 : b' ≤ 100000) : Rcv b' was now lim M := { h with ok := h.ok.mono hb h2 }
/-- Off and on again. -/
theorem St8.cycle {b : Nat} {was : Nat → Pg} {lim : Int} {S : TS} {M : PM} (h : St8 b was lim S M) (hb : b + 1 ≤ 100000) (f : Nat → Int) : Rcv (b + 1) was was lim (onM (offM M) f) ∧ (onM (offM M) f).armed = 0 := by
  have hok := h.ok.off hb
  have e : offM M = { M with down := true, armed := 0, life := M.life + 1 } := by unfold offM; rw [h.up]; simp
  have hg : Gone (b + 1) was was lim (offM M) := by
    rw [e] at hok ⊢
    refine ⟨rfl, rfl, h.ct, fun f => ?_, hok⟩
    simp only [h.qu]
    exact ⟨fun n hn => .inl (h.hm n hn), h.cp⟩
  exact hg.on f
/-- Where F holds, groups lie there. -/
def GrAt (F : Heaplet) (ga : Option Addr) (gn : Nat) : Prop := ∀ i, i < gn → ∃ b off p len cap A, ∃ c : UInt8, ga = some ⟨b, off, none⟩ ∧ IsAt F p len A ∧ (len : Int) ≤ 9223372036854775807 ∧ ∀ w, Sat w F → w.cell? ⟨b, off + i * 2, none⟩ = some (.slice p len cap) ∧ w.cell? ⟨b, off + i * 2 + 1, none⟩ = some (.int .u8 (c.toNat : Int))
/-- Between two groups. -/
def Main8 (pb : Nat) (G : Heaplet) (i : Nat) (v6 v8 : Value) (wx : World) : Prop := ∃ tb S M was h K, v6 = .pointer (some ⟨tb, 0, none⟩) ∧ St8 (600 * i) was (i : Int) S M ∧ RowAt v8 was h K ∧ StIs tb pb S M (h ++ (K ++ G)) wx
end Go.Proofs.YtgocmnejlbfplaaDoor
namespace Go.Proofs.YtgocmnejlbfplaaDoor
open Go Go.MapKept Go.RowKit Go.Proofs

theorem wrap64_hi (x : Int) : RowKit.wrap64 x ≤ 9223372036854775807 := by
  unfold RowKit.wrap64
  omega
/-- Power is back, a loss may be near. -/
def RcW (pb b : Nat) (was now : Nat → Pg) (lim : Int) (G : Heaplet) (w : World) : Prop := ∃ M, Rcv b was now lim M ∧ PlateIs pb M G w
/-- Power is back, none near. -/
def RcA (pb b : Nat) (was now : Nat → Pg) (lim : Int) (G : Heaplet) (w : World) : Prop := ∃ M, Rcv b was now lim M ∧ M.armed = 0 ∧ PlateIs pb M G w
def OpW (pb b : Nat) (was now : Nat → Pg) (lim : Int) (G : Heaplet) (w : World) : Prop := ∃ M, Rcv b was now lim M ∧ PlateIs pb (openP M 0 3 5).2.2 G w
def OfW (pb b : Nat) (was now : Nat → Pg) (lim : Int) (G : Heaplet) (w : World) : Prop := ∃ M, Rcv b was now lim M ∧ PlateIs pb (offM (openP M 0 3 5).2.2) G w
/-- A store that is steady. -/
def StR (tb pb b : Nat) (was : Nat → Pg) (lim : Int) (G : Heaplet) (w : World) : Prop := ∃ S M, St8 b was lim S M ∧ StIs tb pb S M G w
def OfS (pb b : Nat) (was : Nat → Pg) (lim : Int) (G : Heaplet) (w : World) : Prop := ∃ S M, St8 b was lim S M ∧ PlateIs pb (offM M) G w
section
variable {tb pb b : Nat} {was now : Nat → Pg} {lim : Int} {G : Heaplet} {w : World}
theorem RcA.frame (h : RcA pb b was now lim G w) : Sat w G := by
  obtain ⟨M, _, _, h⟩ := h
  exact h.frame
theorem OfW.frame (h : OfW pb b was now lim G w) : Sat w G := by
  obtain ⟨M, _, h⟩ := h
  exact h.frame
theorem StR.frame (h : StR tb pb b was lim G w) : Sat w G := by
  obtain ⟨S, M, _, h⟩ := h
  exact h.frame
theorem RcA.arm (h : RcA pb b was now lim G w) {n : Int} (hn : n ≤ 9223372036854775807) :
    Calls Tryd.prog 14 #[.pointer (some ⟨pb, 0, none⟩), .int .i64 n] w (Ret (.tuple #[]) (RcW pb b was now lim G)) := by
  obtain ⟨M, h1, _, h2⟩ := h
  refine (arm_any pb M _ n w h2).mono ?_
  rintro e w' ⟨rfl, hp⟩
  exact ⟨rfl, _, h1.arm hn, hp⟩
theorem RcW.open (h : RcW pb b was now lim G w) (hb : b + 2000 ≤ 100000) :
    Calls Tryd.prog 8 #[.pointer (some ⟨pb, 0, none⟩), .int .i64 0, .int .i64 3, .int .i64 5] w (fun e w' => (∃ v, e = .returned v) ∧ OpW pb b was now lim G w') := by
  obtain ⟨M, h1, h2⟩ := h
  refine (open_again h2 h1.ok hb h1.ct).mono ?_
  rintro e w' ⟨hv, hp⟩
  exact ⟨hv, M, h1, hp⟩
theorem OpW.off (h : OpW pb b was now lim G w) (hb : b + 2000 ≤ 100000) :
    Calls Tryd.prog 17 #[.pointer (some ⟨pb, 0, none⟩)] w (Ret (.tuple #[]) (OfW pb b was now lim G)) := by
  obtain ⟨M, h1, h2⟩ := h
  refine (off_at h2 (open_ok h1.ok (by omega))).mono ?_
  rintro e w' ⟨rfl, hp⟩
  exact ⟨rfl, M, h1, hp⟩
theorem OfW.on (h : OfW pb b was now lim G w) (hb : b + 2000 ≤ 100000) {p : Option Addr} {len cap : Nat} {A : Nat → Int} (hI : IsAt G p len A) (hl : (len : Int) ≤ 9223372036854775807) :
    Calls Tryd.prog 16 #[.pointer (some ⟨pb, 0, none⟩), .slice p len cap] w (Ret (.tuple #[]) (RcA pb (b + 8) was now lim G)) := by
  obtain ⟨M, h1, h2⟩ := h
  refine (on_at h2 ((open_ok h1.ok (by omega)).off (by omega)) hI hl).mono ?_
  rintro e w' ⟨rfl, hp⟩
  obtain ⟨k1, k2⟩ := h1.again (by omega) (fateM len A)
  exact ⟨rfl, _, k1, k2, hp⟩
theorem RcA.open (h : RcA pb b was now lim G w) (hb : b + 2000 ≤ 100000) :
    Calls Tryd.prog 8 #[.pointer (some ⟨pb, 0, none⟩), .int .i64 0, .int .i64 3, .int .i64 5] w (fun e w' => ∃ tb pg, e = .returned (.tuple #[.pointer (some ⟨tb, 0, none⟩), .int .i64 0]) ∧ (∀ n : Nat, n < 5 → pg n = was n ∨ pg n = now n) ∧ StR tb pb (b + 8) pg lim G w') := by
  obtain ⟨M, h1, h2, h3⟩ := h
  refine (open_calm h3 h1 h2 hb).mono ?_
  rintro e w' ⟨tb, pg, S, M', rfl, k1, k2, _, k3⟩
  exact ⟨tb, pg, rfl, k1, S, M', k2, k3⟩
theorem RcA.mono (h : RcA pb b was now lim G w) {b' : Nat} (hb : b ≤ b') (h2 : b' ≤ 100000) : RcA pb b' was now lim G w := by
  obtain ⟨M, h1, h3, h4⟩ := h
  exact ⟨M, h1.mono hb h2, h3, h4⟩
theorem StR.mono (h : StR tb pb b was lim G w) {b' : Nat} (hb : b ≤ b') (h2 : b' ≤ 100000) : StR tb pb b' was lim G w := by
  obtain ⟨S, M, h1, h3⟩ := h
  exact ⟨S, M, h1.mono hb h2, h3⟩
theorem StR.part {G' : Heaplet} (h : StR tb pb b was lim G w) (hc : ∀ a, cnt a G' ≤ cnt a G) : StR tb pb b was lim G' w := by
  obtain ⟨S, M, h1, h3⟩ := h
  exact ⟨S, M, h1, h3.part hc⟩
theorem StR.new (h : StR tb pb b was lim G w) (o : Obj) : StR tb pb b was lim (.blk w.heap.size o :: G) (w.alloc o) := by
  obtain ⟨S, M, h1, h3⟩ := h
  exact ⟨S, M, h1, h3.new o⟩
theorem StR.below {w' : World} (h : StR tb pb b was lim G w) (hb : Below w.heap.size w w') : StR tb pb b was lim G w' := by
  obtain ⟨S, M, h1, h3⟩ := h
  exact ⟨S, M, h1, h3.below hb⟩
theorem StR.read (h : StR tb pb b was lim G w) (n : Nat) (hn : n < 5) :
    Calls Tryd.prog 12 #[.pointer (some ⟨tb, 0, none⟩), .int .i64 (n : Int)] w (fun e w' => ∃ a c h', e = .returned (.tuple #[pgV (was n).lsn (.slice a (was n).slots.length c), .int .i64 0]) ∧ SlAt h' (.slice a (was n).slots.length c) (was n).slots ∧ StR tb pb b was lim (h' ++ G) w') := by
  obtain ⟨S, M, h1, h3⟩ := h
  refine (tread8 h3 h1 n hn).mono ?_
  rintro e w' ⟨a, c, h', rfl, k1, k2⟩
  exact ⟨a, c, h', rfl, k1, S, M, h1, k2⟩
theorem StR.small (h : StR tb pb b was lim G w) {n : Nat} (hn : n < 5) : (was n).slots.length ≤ 1000 := by
  obtain ⟨S, M, h1, _⟩ := h
  exact h1.gd n hn
theorem StR.same {va vb : Value} {p q : Pg} (h : StR tb pb b was lim G w) (ha : SlAt G va p.slots) (hb : SlAt G vb q.slots) (hl : p.slots.length ≤ 1000) (hl2 : q.slots.length ≤ 1000) (res : Bool) (hres : res = true ↔ p = q) :
    Calls Tryd.prog 13 #[pgV p.lsn va, pgV q.lsn vb] w (Ret (.bool res) (StR tb pb b was lim G)) := by
  obtain ⟨S, M, h1, h3⟩ := h
  refine (h3.same ha hb hl hl2 res hres).mono ?_
  rintro e w' ⟨rfl, k⟩
  exact ⟨rfl, S, M, h1, k⟩
theorem StR.rowSet {g cap n : Nat} {h K : Heaplet} {P : Nat → Pg} {q : Pg} {sa : Option Addr} {sc : Nat} (hs : StR tb pb b was lim (h ++ G) w) (hr : RowAt (.slice (some ⟨g, 0, none⟩) 5 cap) P h K) (hn : n < 5) (hsl : SlAt K (.slice sa q.slots.length sc) q.slots) :
    ∃ h', RowAt (.slice (some ⟨g, 0, none⟩) 5 cap) (fun i => if i = n then q else P i) h' K ∧ StR tb pb b was lim (h' ++ G) ((w.setCell ⟨g, n * 2, none⟩ (kI q.lsn)).setCell ⟨g, n * 2 + 1, none⟩ (.slice sa q.slots.length sc)) := by
  obtain ⟨S, M, h1, h3⟩ := hs
  obtain ⟨h', k1, k2⟩ := h3.rowSet hr hn hsl
  exact ⟨h', k1, S, M, h1, k2⟩
theorem StR.off (h : StR tb pb b was lim G w) (_hb : b + 2000 ≤ 100000) :
    Calls Tryd.prog 17 #[.pointer (some ⟨pb, 0, none⟩)] w (Ret (.tuple #[]) (OfS pb b was lim G)) := by
  obtain ⟨S, M, h1, h3⟩ := h
  refine (off_at h3.toPlate h1.ok).mono ?_
  rintro e w' ⟨rfl, k⟩
  exact ⟨rfl, S, M, h1, k⟩
theorem OfS.on (h : OfS pb b was lim G w) (hb : b + 2000 ≤ 100000) :
    Calls Tryd.prog 16 #[.pointer (some ⟨pb, 0, none⟩), .slice none 0 0] w (Ret (.tuple #[]) (RcA pb (b + 1) was was lim G)) := by
  obtain ⟨S, M, h1, h2⟩ := h
  refine (on_none h2 (h1.ok.off (by omega))).mono ?_
  rintro e w' ⟨rfl, hp⟩
  obtain ⟨k1, k2⟩ := h1.cycle (by omega) (fateM 0 (fun _ => 0))
  exact ⟨rfl, _, k1, k2, hp⟩
end
/-- While pages are picked: the first n are chosen. -/
def Pick8 (tb pb b : Nat) (pg was now : Nat → Pg) (lim : Int) (G : Heaplet) (v8 v12 : Value) (n : Nat) (w : World) : Prop :=
  ∃ h hq K, RowAt v8 (fun m => if m < n then pg m else was m) h K ∧ RowAt v12 now hq K ∧ StR tb pb b pg lim (h ++ (hq ++ (K ++ G))) w
theorem pick_next {pg was : Nat → Pg} {n : Nat} : (fun i => if i = n then pg n else if i < n then pg i else was i) = (fun m => if m < n + 1 then pg m else was m) := by
  funext i
  by_cases e : i = n
  · subst e; rw [if_pos rfl, if_pos (by omega)]
  · rw [if_neg e]
    by_cases e2 : i < n
    · rw [if_pos e2, if_pos (by omega)]
    · rw [if_neg e2, if_neg (by omega)]
theorem Pick8.done {tb pb b i : Nat} {pg was now : Nat → Pg} {G : Heaplet} {v8 v12 : Value} {w : World} (h : Pick8 tb pb b pg was now (i : Int) G v8 v12 5 w) (hb : b ≤ 600 * i) (h2 : 600 * i ≤ 100000) : Main8 pb G i (.pointer (some ⟨tb, 0, none⟩)) v8 w := by
  obtain ⟨h, hq, K, hr, _, hs⟩ := h
  obtain ⟨S, M, h1, h3⟩ := hs.mono hb h2
  exact ⟨tb, S, M, pg, h, K, rfl, h1, hr.congr (fun n hn => if_pos hn), h3.part (fun a => by simp only [cnt_append]; omega)⟩
end Go.Proofs.YtgocmnejlbfplaaDoor
