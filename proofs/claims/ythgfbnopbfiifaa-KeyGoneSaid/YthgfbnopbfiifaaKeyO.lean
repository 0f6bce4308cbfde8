/- The pages of which a client has an X: walked. Conditions: none. -/
import Derived.Test.YthgfbnopbfiifaaKey15
import Derived.Test.YthgfbnopbfiifaaKey11
namespace Go.Proofs.Ythgfbnopbfiifaa
open Go Go.MapKept Go.RowKit Go.Proofs Go.Sort

theorem of_nil (c : Int) (w : World) : Calls Try.prog 17 #[.pointer none, .int .i64 c] w (Ret (.slice none 0 0) (Same w)) := by
  go_enter Try.func17, Try.ntmps17
  go_wp2
  go_ret
  exact ⟨rfl, rfl⟩
def ofM (T : TabM) (c : Int) : List Int := sortK ((T.map (·.1)).filter fun p => decide (holdsM T c p = 2))
/-- While the pages are gone over. -/
def OfI (b m : Nat) (es : Array MapEntry) (clk : Nat) (D : List (Int × Nat)) (K : KtM) (c : Int) (rr : Nat) (F : Heaplet) (n : Nat) (v5 : Value) (wx : World) : Prop :=
  ∃ (lp : List (Int × Nat)) (since : Nat) (seen : Array Nat) (c0 : Nat) (ts : List Int) (th : Heaplet), IterOk kI pt es since seen c0 lp ∧ since ≤ clk ∧ lp.length = n ∧ (∀ q ∈ lp, q ∈ D) ∧ (lp.map (·.1)).Nodup ∧ ISl v5 ts th ∧ ts.length + n ≤ D.length ∧ ts.Nodup ∧
    (∀ p, p ∈ ts ↔ p ∈ K.tab.map (·.1) ∧ p ∉ lp.map (·.1) ∧ holdsM K.tab c p = 2) ∧ KtAt b m es clk D K (.blk rr (.mapIter (some m) since seen c0) :: (th ++ F)) wx
set_option maxRecDepth 100000 in
set_option maxHeartbeats 8000000 in
theorem of_any {b : Nat} {K : KtM} {F : Heaplet} {w : World} (h : KtIs b K F w) (c : Int) (hl : K.tab.length ≤ 1100) :
    Calls Try.prog 17 #[.pointer (some ⟨b, 0, none⟩), .int .i64 c] w fun e w' => ∃ v vh, e = .returned v ∧ ISl v (ofM K.tab c) vh ∧ KtIs b K (vh ++ F) w' := by
  obtain ⟨m, es, clk, D, hat⟩ := h.at_
  have hkeys := hat.keys
  have hmok := hat.mapOk
  have c0 := hat.table
  have hnd := h.nodup
  have hDl : D.length = K.tab.length := by
    have := congrArg List.length hkeys
    simpa using this
  obtain ⟨A, hs, hmem, back⟩ := hat.split
  obtain ⟨hrun, hs2⟩ := sat_range (P := Try.prog) (t := 49) (b := m) (es := es) (clk := clk) Try.underlying49 hs (List.mem_append_left _ hmem)
  have hat2 : KtAt b m es clk D K (.blk w.heap.size (.mapIter (some m) clk #[] clk) :: ([] ++ F)) (w.alloc (.mapIter (some m) clk #[] clk)) := back (hs2.perm List.perm_middle.symm)
  have hst : ∀ p, p ∈ ([] : List Int) ↔ p ∈ K.tab.map (·.1) ∧ p ∉ D.map (·.1) ∧ holdsM K.tab c p = 2 := by
    intro p
    constructor
    · intro h; cases h
    · rintro ⟨h1, h2, _⟩
      exact absurd (by rw [hkeys]; exact h1) h2
  have hLV : OfI b m es clk D K c w.heap.size F D.length (.slice none 0 0) (w.alloc (.mapIter (some m) clk #[] clk)) :=
    ⟨D, clk, #[], clk, [], [], iter_start hmok, Nat.le_refl _, rfl, fun q hq => hq, hmok.nodup, SliceIs.nil _ _, by simp, List.nodup_nil, hst, hat2⟩
  have H0 := Lib.hid hLV
  have HL : Hid (D.length ≤ 1100) := Lib.hid (by omega)
  have HM := Lib.hid hmok
  have HND := Lib.hid (And.intro hnd hkeys)
  clear h hl hat hkeys hmok hnd hDl hs hmem back hs2 hat2 hLV hst
  go_enter Try.func17, Try.ntmps17
  go_wp2_with fail
  clear c0 hrun
  generalize w.heap.size = rr at *
  go_loopg [5] (D.length) (fun n v5 wx => OfI b m es clk D K c rr F n v5 wx)
  case atStart => exact H0.out
  case round =>
    clear H0
    obtain ⟨lp, since, seen, c0, ts, th, hit, hle, hln, hsub, hlnd, hv5, htl, htn, htm, hat⟩ := hrel
    obtain ⟨A, hs, hmem, back⟩ := hat.split
    obtain ⟨a5, cap5, rfl⟩ := sl_form hv5
    rcases sat_next (P := Try.prog) HM.out hit (hs.perm List.perm_middle) (List.mem_append_left _ hmem) hle 0 with ⟨rfl, hrn⟩ | ⟨q, lp', seen', w', hp, hit', hrn, hs', hen⟩
    · have hs1 : Sat wr (th ++ ((A ++ [.blk rr (.mapIter (some m) since seen c0)]) ++ F)) := sat_ap (h1 := A ++ [.blk rr (.mapIter (some m) since seen c0)]) (h2 := th) (by simpa using hs)
      have hsort := sort_ints hv5 hs1 (by have := HL.out; omega)
      have hss : sortK ts = ofM K.tab c := by
        unfold ofM
        refine sortK_of_perm ?_
        refine (List.perm_ext_iff_of_nodup htn (HND.out.1.filter _)).2 fun p => ?_
        rw [htm, List.mem_filter]
        simp
      have HBK : Hid (∀ h' w2, Sat w2 (h' ++ ((A ++ [.blk rr (.mapIter (some m) since seen c0)]) ++ F)) → KtIs b K (h' ++ F) w2) := Lib.hid (fun h' w2 hs2 => by
        have hs3 := sat_ap (h1 := h') (h2 := A ++ [.blk rr (.mapIter (some m) since seen c0)]) hs2
        have h2 : KtAt b m es clk D K (.blk rr (.mapIter (some m) since seen c0) :: (h' ++ F)) w2 := back (by simpa using hs3)
        exact KtIs.weaken (D := [_]) h2.is)
      rw [hss] at hsort
      have hlen : (ofM K.tab c).length = ts.length := by rw [← hss]; exact (sortK_perm ts).length_eq
      have HSORT := Lib.hid hsort
      clear hit hle hln hsub hlnd hv5 htl htn htm hat hs hmem back hs1 hsort hss
      go_wp2_with fail
      refine (HSORT.out).mono ?_
      rintro e w2 ⟨rfl, th', hv', hs2⟩
      have FIN : Hid (ISl (.slice a5 ts.length cap5) (ofM K.tab c) th' ∧ KtIs b K (th' ++ F) w2) := Lib.hid ⟨hv', HBK.out _ _ hs2⟩
      clear HSORT HBK hv' hs2 hlen
      go_wp2_with fail
      go_ret
      exact ⟨_, th', rfl, FIN.out.1, FIN.out.2⟩
    · obtain ⟨page, g⟩ := q
      have hat2 : KtAt b m es clk D K (.blk rr (.mapIter (some m) since seen' clk) :: (th ++ F)) w' := back (hs'.perm List.perm_middle.symm)
      have hpD : (page, g) ∈ D := hsub _ (hp.mem_iff.2 (.head _))
      have hpk : page ∈ K.tab.map (·.1) := by rw [← HND.out.2]; exact List.mem_map.2 ⟨_, hpD, rfl⟩
      have hgk : lp'.length < gk := by have := hp.length_eq; simp only [List.length_cons] at this; omega
      have hpn : ((page, g) :: lp').map (·.1) |>.Nodup := (hp.map _).nodup_iff.1 hlnd
      have hnp : page ∉ lp'.map (·.1) ∧ (lp'.map (·.1)).Nodup := by simpa using hpn
      have hSS : ∀ x, x ∈ lp.map (·.1) ↔ x = page ∨ x ∈ lp'.map (·.1) := by
        intro x
        rw [(hp.map (·.1)).mem_iff]
        simp
      have hpt : page ∉ ts := fun h => ((htm page).1 h).2.1 ((hSS page).2 (.inl rfl))
      have hlt : ts.length + 1 + lp'.length ≤ D.length := by have := hp.length_eq; simp only [List.length_cons] at this; omega
      have FACT := Lib.hid (And.intro hnp (And.intro (fun q hq => hsub q (hp.mem_iff.2 (.tail _ hq))) hit'))
      have hno : holdsM K.tab c page ≠ 2 → ∀ p, p ∈ ts ↔ p ∈ K.tab.map (·.1) ∧ p ∉ lp'.map (·.1) ∧ holdsM K.tab c p = 2 := by
        intro hn p
        rw [htm, hSS]
        constructor
        · rintro ⟨h1, h2, h3⟩
          exact ⟨h1, fun h => h2 (.inr h), h3⟩
        · rintro ⟨h1, h2, h3⟩
          refine ⟨h1, fun h => ?_, h3⟩
          rcases h with rfl | h
          · exact hn h3
          · exact h2 h
      have hyes : holdsM K.tab c page = 2 → ∀ p, p ∈ ts ++ [page] ↔ p ∈ K.tab.map (·.1) ∧ p ∉ lp'.map (·.1) ∧ holdsM K.tab c p = 2 := by
        intro hy p
        rw [List.mem_append, List.mem_singleton, htm, hSS]
        constructor
        · rintro (⟨h1, h2, h3⟩ | rfl)
          · exact ⟨h1, fun h => h2 (.inr h), h3⟩
          · exact ⟨hpk, hnp.1, hy⟩
        · rintro ⟨h1, h2, h3⟩
          by_cases e : p = page
          · exact .inr e
          · exact .inl ⟨h1, fun h => by rcases h with h | h; exact e h; exact h2 h, h3⟩
      have hhold := holds_any hat2.is c page
      have HHOLD := Lib.hid hhold
      have HNO := Lib.hid hno
      have HYES := Lib.hid hyes
      have HV := Lib.hid hv5
      have HAT := Lib.hid hat2
      have HT := Lib.hid (And.intro hle (And.intro hlt (And.intro htn hpt)))
      obtain ⟨hv, hhv⟩ : ∃ hv, holdsM K.tab c page = hv := ⟨_, rfl⟩
      rw [hhv] at HHOLD HNO HYES
      clear hit hle hln hsub hlnd hv5 htl htn htm hat hs hmem back hp hit' hs' hat2 hpD hpk hpn hnp hSS hpt hlt hno hyes hhold hhv
      go_wp2_with fail
      refine (HHOLD.out).mono ?_
      rintro e w2 ⟨rfl, rfl⟩
      by_cases h2 : hv = 2
      · have b2 : (hv == 2) = true := by simpa using h2
        obtain ⟨A2, s2, _, back⟩ := HAT.out.split
        have s3 : Sat (w'.alloc (.cells #[kI page] 3)) (.blk w'.heap.size (.cells #[kI page] 3) :: ((A2 ++ [.blk rr (.mapIter (some m) since seen' clk)]) ++ (th ++ F))) := by
          have := s2.new (.cells #[kI page] 3)
          simpa using this
        obtain ⟨p7, q7, w7, h7, hap, hv7, hs7⟩ := is_push page HV.out s3 (by have := HT.out.2.1; have := HL.out; omega)
        have hk7 : KtAt b m es clk D K (.blk rr (.mapIter (some m) since seen' clk) :: (h7 ++ F)) w7 := back (by simpa using hs7)
        have FIN : Hid (OfI b m es clk D K c rr F lp'.length (.slice p7 (ts.length + 1) q7) w7) := Lib.hid ⟨lp', since, seen', clk, ts ++ [page], h7, FACT.out.2.2, HT.out.1, rfl, FACT.out.2.1, FACT.out.1.2, hv7, by have := HT.out.2.1; simp only [List.length_append, List.length_cons, List.length_nil]; omega,
          List.nodup_append.2 ⟨HT.out.2.2.1, by simp, fun a ha b hb e => HT.out.2.2.2 (by have h9 : b = page := (by simpa using hb); rw [← h9, ← e]; exact ha)⟩, HYES.out h2, hk7⟩
        have HAP := Lib.hid hap
        clear s2 back s3 hap hv7 hs7 hk7 HV HAT HNO HYES FACT HT HHOLD
        go_wp2_with (at_builtin; refine wpList_append_run rfl _ _ _ _ rfl _ _ _ _ rfl rfl HAP.out ?_)
        go_roundg lp'.length
        case measure => exact hgk
        case rel => exact FIN.out
      · have b2 : (hv == 2) = false := by simpa using h2
        have FIN : Hid (OfI b m es clk D K c rr F lp'.length (.slice a5 ts.length cap5) w') := Lib.hid ⟨lp', since, seen', clk, ts, th, FACT.out.2.2, HT.out.1, rfl, FACT.out.2.1, FACT.out.1.2, HV.out, by have := HT.out.2.1; omega, HT.out.2.2.1, HNO.out h2, HAT.out⟩
        clear HV HAT HNO HYES FACT HT HHOLD
        go_wp2_with fail
        go_roundg lp'.length
        case measure => exact hgk
        case rel => exact FIN.out
end Go.Proofs.Ythgfbnopbfiifaa
