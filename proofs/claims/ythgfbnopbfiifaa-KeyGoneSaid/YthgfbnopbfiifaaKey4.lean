/- Who is called, walked. Conditions: none. -/
import Derived.Test.YthgfbnopbfiifaaKey3
namespace Go.Proofs.Ythgfbnopbfiifaa
open Go Go.MapKept Go.RowKit Go.Proofs Go.Sort

theorem callM_step (p : Int) (x : Bool) (cs : List Int) (s : Hds × List Wd) (j : Nat) (c : Int) (hc : cs[j]? = some c) : callM p x (cs.take (j + 1)) s = callStep p x (callM p x (cs.take j) s) c := by
  rw [List.take_add_one, hc]
  unfold callM
  rw [List.foldl_append]; rfl
theorem callStep_keys (p : Int) (x : Bool) (s : Hds × List Wd) (c k : Int) : (getL k (callStep p x s c).1).isSome = (getL k s.1).isSome := by
  unfold callStep
  cases e : getL c s.1 with
  | none => rfl
  | some d =>
    simp only
    by_cases h : d.called < lvl x
    · rw [if_pos h]
      simp only [getL_putL]
      by_cases hk : k = c
      · subst hk; simp [e]
      · rw [if_neg hk]
    · rw [if_neg h]
theorem PgIs.sw {b m : Nat} {wv : Value} {wh h O : Heaplet} {w : World} (s : Sat w (.blk b (tbO m wv) :: (wh ++ (h ++ O)))) : Sat w (h ++ (.blk b (tbO m wv) :: (wh ++ O))) := s.perm (by
  have p1 := List.perm_append_comm_assoc (HItem.blk b (tbO m wv) :: wh) h O
  simpa using p1)
theorem PgIs.ws {b m : Nat} {wv : Value} {wh h O : Heaplet} {w : World} (s : Sat w (h ++ (.blk b (tbO m wv) :: (wh ++ O)))) : Sat w (.blk b (tbO m wv) :: (wh ++ (h ++ O))) := s.perm (by
  have p1 := List.perm_append_comm_assoc h (HItem.blk b (tbO m wv) :: wh) O
  simpa using p1)
/-- One who is called: what is read, and what is said. -/
theorem call_round {b m g : Nat} {q : List Rq} {hs : Hds} {wss : List Wd} {O : Heaplet} {w : World} (p : Int) (x : Bool) (c : Int) (d : Hd) (h : PgIs b m g ⟨hs, q⟩ wss O w) (hO : OLk m p g O) (hd : getL c hs = some d) (hl : wss.length + 1 ≤ 1000000) :
    w.cell? ⟨b, 0, none⟩ = some (.map (some m)) ∧ lookT m p (pt g) w ∧ ∃ hm hgb, w.cell? ⟨g, 0, none⟩ = some (.map (some hm)) ∧ lookH hm c (pt hgb) w ∧ w.cell? ⟨hgb, 2, none⟩ = some (kI d.called) ∧ w.frozen? ⟨hgb, 2, none⟩ = false ∧
      Calls Try.prog 20 #[.pointer (some ⟨b, 0, none⟩), .agg #[.bool true, .int .i64 c, .int .i64 p, .bool x]] (w.setCell ⟨hgb, 2, none⟩ (kI (lvl x))) (Ret (.tuple #[]) (PgIs b m g ⟨putL c { d with called := lvl x } hs, q⟩ (wss ++ [⟨true, c, p, x⟩]) O)) := by
  have hlk : lookT m p (pt g) w := hO.look h.frame
  have t0 := h.table
  obtain ⟨wv, wh, hh, hw, hlp, s⟩ := h
  obtain ⟨hm, hgb, c0, c1, ⟨d0, d1, d2⟩, u, back⟩ := lkp_hold hlp (PgIs.sw s) hd
  obtain ⟨h', hl', s'⟩ := back 2 (kI (lvl x)) { d with called := lvl x } rfl
  refine ⟨t0, hlk, hm, hgb, c0, c1, d2, u 2, (say_any ⟨true, c, p, x⟩ hw (PgIs.ws s') hl).mono ?_⟩
  rintro e w1 ⟨rfl, wv', wh', hw', s2⟩
  exact ⟨rfl, wv', wh', h', hw', hl', s2⟩
set_option maxRecDepth 100000 in
set_option maxHeartbeats 4000000 in
theorem call_no {b m g : Nat} {l : LkM} {ws : List Wd} {O : Heaplet} {w : World} (p : Int) (cs : List Int) {ca : Option Addr} {cc : Nat} (h : PgIs b m g l ws O w) (hO : OLk m p g O)
    (hcs : ∀ w i c, Sat w O → cs[i]? = some c → ∃ gc, ca = some ⟨gc, 0, none⟩ ∧ w.cell? ⟨gc, i, none⟩ = some (kI c)) (hin : ∀ c ∈ cs, (getL c l.holds).isSome = true) (hn : cs.length ≤ 1000) (hl : ws.length ≤ 900000) :
    Calls Try.prog 32 #[.pointer (some ⟨b, 0, none⟩), .int .i64 p, .slice ca cs.length cc, .bool false] w (Ret (.tuple #[]) (PgIs b m g ⟨(callM p false cs (l.holds, ws)).1, l.queue⟩ (callM p false cs (l.holds, ws)).2 O)) := by
  have H0 := Lib.hid h
  have HO := Lib.hid hO
  have HCS := Lib.hid hcs
  have HIN := Lib.hid hin
  have HN := Lib.hid hn
  have HL := Lib.hid hl
  clear h hO hcs hin hn hl
  obtain ⟨res, hres⟩ : ∃ res, callM p false cs (l.holds, ws) = res := ⟨_, rfl⟩
  rw [hres]
  have HRES := Lib.hid hres
  clear hres
  go_enter Try.func32, Try.ntmps32
  go_wp2_with fail
  go_loopw [15] (fun v15 wr => ∃ (j : Nat) (hs : Hds) (wss : List Wd), j ≤ cs.length ∧ v15 = .int .i64 j ∧ callM p false (cs.take j) (l.holds, ws) = (hs, wss) ∧ wss.length ≤ ws.length + j ∧ (∀ k, (getL k hs).isSome = (getL k l.holds).isSome) ∧ PgIs b m g ⟨hs, l.queue⟩ wss O wr) (fun v15 _ => 200000 - (RowKit.intOf v15).toNat)
  case atStart => exact ⟨0, l.holds, ws, by omega, rfl, rfl, by omega, fun _ => rfl, H0.out⟩
  case round =>
    clear H0
    obtain ⟨j, hs, wss, hj, rfl, hcm, hwl, hks, hg⟩ := hrel
    have j0 : (0 : Int) ≤ (j : Int) := by omega
    have j9 : (j : Int) ≤ 1000 := by have := HN.out; omega
    by_cases hjl : j < cs.length
    · have j1 : (j : Int) < (cs.length : Int) := by omega
      obtain ⟨c, hc⟩ : ∃ c, cs[j]? = some c := ⟨_, List.getElem?_eq_getElem hjl⟩
      have hst := callM_step p false cs (l.holds, ws) j c hc
      rw [hcm] at hst
      obtain ⟨gc, e, u0⟩ := HCS.out wr j c hg.frame hc
      have hsome := HIN.out c (List.mem_of_getElem? hc)
      rw [← hks c] at hsome
      obtain ⟨d, hd⟩ := Option.isSome_iff_exists.1 hsome
      have hce : callStep p false (hs, wss) c = if d.called < 1 then (putL c { d with called := 1 } hs, wss ++ [⟨true, c, p, false⟩]) else (hs, wss) := by
        unfold callStep
        simp only
        rw [hd]; rfl
      rw [hce] at hst
      have hkk := fun k => (callStep_keys p false (hs, wss) c k).trans (hks k)
      rw [hce] at hkk
      obtain ⟨t0, hlk, hm, hgb, c0, c1, d2, u2, hsay⟩ := call_round p false c d hg HO.out hd (by have := HL.out; have := HN.out; omega)
      subst e
      unfold lookT at hlk
      unfold lookH at c1
      have HG := Lib.hid hg
      have HWL := Lib.hid hwl
      clear hce hsome hks hcm hc hd hg hwl
      obtain ⟨called, hcl⟩ : ∃ k, d.called = k := ⟨_, rfl⟩
      rw [hcl] at hst hkk d2
      by_cases hcall : called < 1
      · rw [if_pos hcall] at hst hkk
        have HSAY : Hid (Calls Try.prog 20 #[.pointer (some ⟨b, 0, none⟩), .agg #[.bool true, .int .i64 c, .int .i64 p, .bool false]] (wr.setCell ⟨hgb, 2, none⟩ (kI 1)) (Ret (.tuple #[]) (PgIs b m g ⟨putL c { d with called := 1 } hs, l.queue⟩ (wss ++ [⟨true, c, p, false⟩]) O))) := Lib.hid hsay
        have HST := Lib.hid hst
        have HKK := Lib.hid hkk
        clear hst hkk hsay HG
        go_wp2_with fail
        refine (HSAY.out).mono ?_
        rintro e w1 ⟨rfl, h1⟩
        have H1 := Lib.hid h1
        clear h1 t0 c0 d2 u2 u0
        go_wp2_with fail
        exact ⟨⟨j + 1, _, _, by omega, by simp, HST.out, by have := HWL.out; simp; omega, HKK.out, H1.out⟩, by simp only [RowKit.intOf]; omega⟩
      · rw [if_neg hcall] at hst hkk
        have hcall1 : (called < 1) = False := eq_false hcall
        have HST := Lib.hid hst
        have HKK := Lib.hid hkk
        clear hst hkk hsay hcall
        go_wp2_with fail
        exact ⟨⟨j + 1, _, _, by omega, by simp, HST.out, by have := HWL.out; omega, HKK.out, HG.out⟩, by simp only [RowKit.intOf]; omega⟩
    · obtain rfl : j = cs.length := by omega
      rw [List.take_length, HRES.out] at hcm
      have FIN := Lib.hid hg
      subst hcm
      clear hg hks hwl hjl j0 j9 hj
      go_wp2_with fail
      refine bodyPost_end (results_none rfl _ _ _) rfl ?_
      exact ⟨rfl, FIN.out⟩
set_option maxRecDepth 100000 in
set_option maxHeartbeats 4000000 in
theorem call_yes {b m g : Nat} {l : LkM} {ws : List Wd} {O : Heaplet} {w : World} (p : Int) (cs : List Int) {ca : Option Addr} {cc : Nat} (h : PgIs b m g l ws O w) (hO : OLk m p g O)
    (hcs : ∀ w i c, Sat w O → cs[i]? = some c → ∃ gc, ca = some ⟨gc, 0, none⟩ ∧ w.cell? ⟨gc, i, none⟩ = some (kI c)) (hin : ∀ c ∈ cs, (getL c l.holds).isSome = true) (hn : cs.length ≤ 1000) (hl : ws.length ≤ 900000) :
    Calls Try.prog 32 #[.pointer (some ⟨b, 0, none⟩), .int .i64 p, .slice ca cs.length cc, .bool true] w (Ret (.tuple #[]) (PgIs b m g ⟨(callM p true cs (l.holds, ws)).1, l.queue⟩ (callM p true cs (l.holds, ws)).2 O)) := by
  have H0 := Lib.hid h
  have HO := Lib.hid hO
  have HCS := Lib.hid hcs
  have HIN := Lib.hid hin
  have HN := Lib.hid hn
  have HL := Lib.hid hl
  clear h hO hcs hin hn hl
  obtain ⟨res, hres⟩ : ∃ res, callM p true cs (l.holds, ws) = res := ⟨_, rfl⟩
  rw [hres]
  have HRES := Lib.hid hres
  clear hres
  go_enter Try.func32, Try.ntmps32
  go_wp2_with fail
  go_loopw [15] (fun v15 wr => ∃ (j : Nat) (hs : Hds) (wss : List Wd), j ≤ cs.length ∧ v15 = .int .i64 j ∧ callM p true (cs.take j) (l.holds, ws) = (hs, wss) ∧ wss.length ≤ ws.length + j ∧ (∀ k, (getL k hs).isSome = (getL k l.holds).isSome) ∧ PgIs b m g ⟨hs, l.queue⟩ wss O wr) (fun v15 _ => 200000 - (RowKit.intOf v15).toNat)
  case atStart => exact ⟨0, l.holds, ws, by omega, rfl, rfl, by omega, fun _ => rfl, H0.out⟩
  case round =>
    clear H0
    obtain ⟨j, hs, wss, hj, rfl, hcm, hwl, hks, hg⟩ := hrel
    have j0 : (0 : Int) ≤ (j : Int) := by omega
    have j9 : (j : Int) ≤ 1000 := by have := HN.out; omega
    by_cases hjl : j < cs.length
    · have j1 : (j : Int) < (cs.length : Int) := by omega
      obtain ⟨c, hc⟩ : ∃ c, cs[j]? = some c := ⟨_, List.getElem?_eq_getElem hjl⟩
      have hst := callM_step p true cs (l.holds, ws) j c hc
      rw [hcm] at hst
      obtain ⟨gc, e, u0⟩ := HCS.out wr j c hg.frame hc
      have hsome := HIN.out c (List.mem_of_getElem? hc)
      rw [← hks c] at hsome
      obtain ⟨d, hd⟩ := Option.isSome_iff_exists.1 hsome
      have hce : callStep p true (hs, wss) c = if d.called < 2 then (putL c { d with called := 2 } hs, wss ++ [⟨true, c, p, true⟩]) else (hs, wss) := by
        unfold callStep
        simp only
        rw [hd]; rfl
      rw [hce] at hst
      have hkk := fun k => (callStep_keys p true (hs, wss) c k).trans (hks k)
      rw [hce] at hkk
      obtain ⟨t0, hlk, hm, hgb, c0, c1, d2, u2, hsay⟩ := call_round p true c d hg HO.out hd (by have := HL.out; have := HN.out; omega)
      subst e
      unfold lookT at hlk
      unfold lookH at c1
      have HG := Lib.hid hg
      have HWL := Lib.hid hwl
      clear hce hsome hks hcm hc hd hg hwl
      obtain ⟨called, hcl⟩ : ∃ k, d.called = k := ⟨_, rfl⟩
      rw [hcl] at hst hkk d2
      by_cases hcall : called < 2
      · rw [if_pos hcall] at hst hkk
        have HSAY : Hid (Calls Try.prog 20 #[.pointer (some ⟨b, 0, none⟩), .agg #[.bool true, .int .i64 c, .int .i64 p, .bool true]] (wr.setCell ⟨hgb, 2, none⟩ (kI 2)) (Ret (.tuple #[]) (PgIs b m g ⟨putL c { d with called := 2 } hs, l.queue⟩ (wss ++ [⟨true, c, p, true⟩]) O))) := Lib.hid hsay
        have HST := Lib.hid hst
        have HKK := Lib.hid hkk
        clear hst hkk hsay HG
        go_wp2_with fail
        refine (HSAY.out).mono ?_
        rintro e w1 ⟨rfl, h1⟩
        have H1 := Lib.hid h1
        clear h1 t0 c0 d2 u2 u0
        go_wp2_with fail
        exact ⟨⟨j + 1, _, _, by omega, by simp, HST.out, by have := HWL.out; simp; omega, HKK.out, H1.out⟩, by simp only [RowKit.intOf]; omega⟩
      · rw [if_neg hcall] at hst hkk
        have hcall1 : (called < 2) = False := eq_false hcall
        have HST := Lib.hid hst
        have HKK := Lib.hid hkk
        clear hst hkk hsay hcall
        go_wp2_with fail
        exact ⟨⟨j + 1, _, _, by omega, by simp, HST.out, by have := HWL.out; omega, HKK.out, HG.out⟩, by simp only [RowKit.intOf]; omega⟩
    · obtain rfl : j = cs.length := by omega
      rw [List.take_length, HRES.out] at hcm
      have FIN := Lib.hid hg
      subst hcm
      clear hg hks hwl hjl j0 j9 hj
      go_wp2_with fail
      refine bodyPost_end (results_none rfl _ _ _) rfl ?_
      exact ⟨rfl, FIN.out⟩
theorem call_any {b m g : Nat} {l : LkM} {ws : List Wd} {O : Heaplet} {w : World} (p : Int) (x : Bool) (cs : List Int) {ca : Option Addr} {cc : Nat} (h : PgIs b m g l ws O w) (hO : OLk m p g O)
    (hcs : ∀ w i c, Sat w O → cs[i]? = some c → ∃ gc, ca = some ⟨gc, 0, none⟩ ∧ w.cell? ⟨gc, i, none⟩ = some (kI c)) (hin : ∀ c ∈ cs, (getL c l.holds).isSome = true) (hn : cs.length ≤ 1000) (hl : ws.length ≤ 900000) :
    Calls Try.prog 32 #[.pointer (some ⟨b, 0, none⟩), .int .i64 p, .slice ca cs.length cc, .bool x] w (Ret (.tuple #[]) (PgIs b m g ⟨(callM p x cs (l.holds, ws)).1, l.queue⟩ (callM p x cs (l.holds, ws)).2 O)) := by
  cases x
  · exact call_no p cs h hO hcs hin hn hl
  · exact call_yes p cs h hO hcs hin hn hl
end Go.Proofs.Ythgfbnopbfiifaa
