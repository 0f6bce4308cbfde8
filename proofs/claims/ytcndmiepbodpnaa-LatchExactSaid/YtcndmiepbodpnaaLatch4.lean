/- The locks: the transaction's end walked. Conditions: none. -/
import Derived.Test.YtcndmiepbodpnaaLatch3
namespace Go.Proofs.Ytcndmiepbodpnaa
open Go Go.MapKept Go.RowKit Go.Proofs

theorem flatLet_len (l : List (Int × Bool)) : (flatLet l).length = l.length * 2 := by
  induction l with
  | nil => rfl
  | cons x r ih => simp [flatLet] at ih ⊢; omega
/-- Behind j pages. -/
def EndR (b m : Nat) (D : Lks) (ps : List Int) (hp F : Heaplet) (j : Nat) (v3 : Value) (w : World) : Prop :=
  ∃ h3 L', SliceIs 38 2 v3 (letS (ps.take j) D).length (flatLet (letS (ps.take j) D)) h3 ∧ bareL L' = endS (ps.take j) D ∧ LocksP b m L' (h3 ++ (hp ++ F)) w
theorem end_nil (w : World) : Calls Try.prog 12 #[.pointer none] w (Ret (.slice none 0 0) (Same w)) := by
  have Hp := Lib.hid (pages_nil w)
  go_enter Try.func12, Try.ntmps12
  go_wp2_with fail
  refine (Hp.out).mono ?_
  rintro e w1 ⟨rfl, rfl⟩
  go_wp2_with fail
  refine wp_loop_rounds 1 ?_
  rw [rounds_succ]
  go_wp2_with fail
  go_ret
  exact ⟨rfl, rfl⟩
set_option maxRecDepth 100000 in
set_option maxHeartbeats 4000000 in
theorem end_any (b : Nat) (D : Lks) (F : Heaplet) (w : World) (h : LatchIs b D F w) (hr : ∀ p ∈ D, -9223372036854775808 ≤ p.1 ∧ p.1 ≤ 9223372036854775807) (hl : D.length ≤ 100000) :
    Calls Try.prog 12 #[.pointer (some ⟨b, 0, none⟩)] w fun e w' => ∃ v hh, e = .returned v ∧ SliceIs 38 2 v (endM D).1.length (flatLet (endM D).1) hh ∧ LatchIs b (endM D).2 (hh ++ F) w' := by
  obtain ⟨m, L, rfl, hp⟩ := h
  have hlen : (bareL L).length = L.length := by unfold bareL; rw [List.length_map]
  have hpg := pages_any b m L F w hp (fun p hp => hr (p.1, p.2.2) (List.mem_map.2 ⟨p, hp, rfl⟩)) (by rw [← hlen]; omega)
  have hnd : ((bareL L).map (·.1)).Nodup := by rw [bare_keys]; exact hp.nodup
  generalize hD : bareL L = D at *
  have hps0 : sortK (L.map (·.1)) = sortK (D.map (·.1)) := by rw [← hD, bare_keys]
  rw [hps0, ← hlen] at hpg
  obtain ⟨ps, hps⟩ : ∃ ps, sortK (D.map (·.1)) = ps := ⟨_, rfl⟩
  have hperm : ps.Perm (D.map (·.1)) := by rw [← hps]; exact sortK_perm _
  have hpn : ps.Nodup := hperm.nodup_iff.2 hnd
  have hplen : ps.length = D.length := by rw [hperm.length_eq, List.length_map]
  rw [hps] at hpg
  have hEnd : endM D = (letS ps D, endS ps D) := by
    unfold endM
    rw [hps]
    congr 1
    rw [endS_all D (fun p hp => List.mem_map.2 ⟨p, hp, rfl⟩), endS_all D (fun p hp => hperm.mem_iff.2 (List.mem_map.2 ⟨p, hp, rfl⟩))]
  rw [hEnd]
  have HD := Lib.hid hD
  have HPG := Lib.hid hpg
  have HND := Lib.hid hnd
  have HPN := Lib.hid hpn
  have HPM := Lib.hid hperm
  have HPL := Lib.hid hplen
  clear hp hr hlen hpg hnd hD hps0 hps hperm hpn hplen hEnd
  go_enter Try.func12, Try.ntmps12
  go_wp2_with fail
  refine (HPG.out).mono ?_
  rintro e w1 ⟨v, hpp, rfl, hsl, hp1, _⟩
  have hform : ∃ a cap, v = .slice a D.length cap := by
    rcases hsl.2 with ⟨rfl, e0, rfl⟩ | ⟨g, cap, cur, rfl, _⟩
    · exact ⟨none, 0, by rw [e0]⟩
    · exact ⟨_, _, rfl⟩
  obtain ⟨a, cap, rfl⟩ := hform
  have hE0 : EndR b m D ps hpp F 0 (.slice none 0 0) w1 := ⟨[], L, SliceIs.nil _ _, by rw [HD.out]; simp [endS_nil], hp1⟩
  have HSL := Lib.hid hsl
  have HE0 := Lib.hid hE0
  clear hsl hp1 hE0 HPG
  go_wp2_with fail
  go_loopw [3, 10] (fun v3 v10 wr => ∃ j : Nat, j ≤ D.length ∧ v10 = .int .i64 j ∧ EndR b m D ps hpp F j v3 wr) (fun _ v10 _ => 100000 - (RowKit.intOf v10).toNat)
  case atStart => exact ⟨0, by omega, rfl, HE0.out⟩
  case round =>
    obtain ⟨j, hj, rfl, h3, L', hs3, hL', hp⟩ := hrel
    clear HE0
    have j0 : (0 : Int) ≤ (j : Int) := by omega
    by_cases hlt : j < D.length
    · have j1 : (j : Int) < (D.length : Int) := by omega
      obtain ⟨p, hpj⟩ : ∃ p, ps[j]? = some p := ⟨_, List.getElem?_eq_getElem (by rw [HPL.out]; exact hlt)⟩
      have hcell : ∃ g, a = some ⟨g, 0, none⟩ ∧ wr.cell? ⟨g, j, none⟩ = some (kI p) := by
        have hsl := HSL.out
        have hf := hp.frame.right
        rcases hsl.2 with ⟨e1, e0, _⟩ | ⟨g, cap', cur, e1, _⟩
        · omega
        · cases e1
          exact ⟨g, rfl, (hsl.cell hf rfl (by rw [List.getElem?_map, hpj]; rfl)).2.2⟩
      obtain ⟨pg, rfl, cp⟩ := hcell
      have hnot : p ∉ ps.take j := by
        intro hm
        obtain ⟨i, hi, e⟩ := List.getElem_of_mem hm
        rw [List.length_take] at hi
        rw [List.getElem_take] at e
        obtain ⟨h1, h2⟩ := (List.getElem?_eq_some_iff.1 hpj)
        exact List.pairwise_iff_getElem.1 HPN.out i j (by omega) h1 (by omega) (e.trans h2.symm)
      have hpD : p ∈ D.map (·.1) := HPM.out.mem_iff.1 (List.mem_of_getElem? hpj)
      obtain ⟨k, hk⟩ : ∃ k, getL p D = some k := by
        cases h : getL p D with
        | some k => exact ⟨k, rfl⟩
        | none => exact absurd hpD (getL_none.1 h)
      have hg : ∃ g, getL p L' = some (g, k) := by
        have h1 := getL_bare p L'
        rw [hL', getL_endS _ _ _ HND.out, if_neg hnot, hk] at h1
        cases h2 : getL p L' with
        | none => rw [h2] at h1; cases h1
        | some v =>
          rw [h2] at h1
          simp only [Option.map_some, Option.some.injEq] at h1
          exact ⟨v.1, by rw [h1]⟩
      obtain ⟨g, hg⟩ := hg
      have hlk := hp.look p
      rw [hg] at hlk
      have cb := hp.cell
      obtain ⟨c0, c1, c2, u⟩ := hp.lock hg
      have f1 := u 1
      have hp1 := hp.setLock (k' := { k with used := 0 }) hg 1 (kI 0) rfl
      have hg1 : getL p (putL p (g, { k with used := 0 }) L') = some (g, { k with used := 0 }) := by rw [getL_putL, if_pos rfl]
      have htk : ps.take (j + 1) = ps.take j ++ [p] := by rw [List.take_add_one, hpj]; rfl
      have hes := endS_step HND.out hnot hk
      have hls := letS_step (ps.take j) D p
      rw [← htk] at hes hls
      rw [hk] at hls
      obtain ⟨kx, ku, kw⟩ := k
      simp only [Option.bind_some] at hls
      simp only at c0 c1 c2 hp1 hg1
      replace hlk : (Instr.lookup 53 (.map (some m)) (.int .i64 p) false).run Try.prog wr = .ok (.pointer (some ⟨g, 0, none⟩)) wr := hlk
      obtain ⟨_, _, d2, u1⟩ := hp1.lock hg1
      by_cases hw : kw = 0
      · subst hw
        have hls2 : letS (ps.take (j + 1)) D = letS (ps.take j) D := by rw [hls]; simp [letK]
        rw [← hls2] at hs3
        have hb2 : bareL (putL p (g, ⟨kx, 0, 0⟩) L') = endS (ps.take (j + 1)) D := by
          rw [bare_put, hL', hes]
          simp [endK]
        have hfin := (⟨h3, _, hs3, hb2, hp1⟩ : EndR b m D ps hpp F (j + 1) _ _)
        have FIN := Lib.hid hfin
        clear hp hp1 hg1 hes hls hls2 hb2 hs3 hL' hfin hk hg htk hpD hnot u u1
        go_wp2_with fail
        exact ⟨⟨j + 1, by omega, by simp, FIN.out⟩, by simp only [RowKit.intOf]; omega⟩
      · have hwb : (kw == 0) = false := by simpa using hw
        have hpn := hp1.new (.cells #[kI p, .bool (kw == 1)] 38)
        have hsz : (wr.setCell ⟨g, 1, none⟩ (kI 0)).heap.size = wr.heap.size := by simp [World.setCell]
        rw [hsz] at hpn
        clear hsz
        have hlen3 : (letS (ps.take j) D).length + 1 ≤ 1000000 := by
          unfold letS
          have := List.length_filterMap_le (fun p => (getL p D).bind (letK p)) (ps.take j)
          rw [List.length_take] at this
          omega
        obtain ⟨v', w2, h', hap, hsl', hp2⟩ := hpn.push hs3 hlen3
        obtain ⟨e0, _, e2, u2⟩ := hp2.lock hg1
        have cb2 := hp2.cell
        have g0 := u2 0
        have g2 := u2 2
        have hnews : letS (ps.take (j + 1)) D = letS (ps.take j) D ++ [(p, kw == 1)] := by rw [hls]; simp [letK, hw]
        have d2n : (((wr.setCell ⟨g, 1, none⟩ (kI 0)).alloc (.cells #[kI p, .bool (kw == 1)] 38)).cell? ⟨g, 2, none⟩) = some (kI kw) := (hpn.lock hg1).2.2.1
        rw [← hnews] at hsl'
        have hvf : ∃ ga ca, v' = .slice (some ⟨ga, 0, none⟩) (letS (ps.take (j + 1)) D).length ca := by
          rcases hsl'.2 with ⟨_, e0, _⟩ | ⟨ga, ca, cur, rfl, _⟩
          · rw [hnews] at e0; simp at e0
          · exact ⟨_, _, rfl⟩
        obtain ⟨ga, ca, rfl⟩ := hvf
        have HAP := Lib.hid hap
        have HSL' := Lib.hid hsl'
        by_cases hw2 : kw = 2
        · have hwb2 : (kw == 2) = true := by simpa using hw2
          have HW2 := Lib.hid hw2
          obtain ⟨wd, hdel, hpd⟩ : ∃ wd, (∀ ty, (Builtin.delete_ #[53, 3] ty #[.map (some m), kI p]).run Try.prog w2 = .ok (.tuple #[]) wd) ∧ LocksP b m (delL p (putL p (g, ⟨kx, 0, kw⟩) L')) (.blk g (lkObj ⟨kx, 0, kw⟩) :: (h' ++ (hpp ++ F))) wd := by
            obtain ⟨es, clk, hm, hs⟩ := hp2
            obtain ⟨w', es', hr, hm', hs'⟩ := sat_delete (P := Try.prog) (ty := 0) (t := 53) (kt := 3) (et := 56) Try.underlying53 Try.underlying3 hm hs.swap p
            refine ⟨w', fun ty => hr, es', clk, hm', ?_⟩
            refine hs'.swap.perm (List.Perm.cons _ (List.Perm.cons _ ?_))
            refine List.Perm.trans ((lkH_get hg1).append_right _) ?_
            exact List.perm_middle.symm
          have hpx := (LocksP.setF hpd (i := 0) (.bool false))
          have hpz := (LocksP.setF hpx (i := 2) (kI 0)).weaken (D := [HItem.blk g _]) (List.Perm.refl _)
          have hgd := hpd.frame.h0
          have k0 : wd.cell? ⟨g, 0, none⟩ = some (.bool kx) := by rw [cell_of hgd]; rfl
          have k0f : wd.frozen? ⟨g, 0, none⟩ = false := unfrozen_of hgd 0
          have k2 : wd.cell? ⟨g, 2, none⟩ = some (kI kw) := by rw [cell_of hgd]; rfl
          have k2f : wd.frozen? ⟨g, 2, none⟩ = false := unfrozen_of hgd 2
          have hfin : EndR b m D ps hpp F (j + 1) (.slice (some ⟨ga, 0, none⟩) (letS (ps.take (j + 1)) D).length ca) ((wd.setCell ⟨g, 0, none⟩ (.bool false)).setCell ⟨g, 2, none⟩ (kI 0)) := by
            refine ⟨h', _, hsl', ?_, hpz⟩
            rw [bare_del, bare_put, hL', del_put p _ (by rw [getL_endS _ _ _ HND.out, if_neg hnot]; exact hk), hes]
            simp [endK, HW2.out]
          have FIN := Lib.hid hfin
          have HDEL := Lib.hid hdel
          clear hp hp1 hg1 hes hls hs3 hL' hfin hk hg htk hpD hnot u u1 hpn hap hsl' hp2 hnews hdel hpd hpx hpz hgd u2 HSL' hlen3 c0 hw hw2
          generalize (letS (ps.take (j + 1)) D).length = nl at *
          go_wp2_with (at_builtin; refine wpList_append_run rfl _ _ _ _ rfl _ _ _ _ rfl rfl HAP.out ?_; have hdel := HDEL.out)
          exact ⟨⟨j + 1, by omega, by simp, FIN.out⟩, by simp only [RowKit.intOf]; omega⟩
        · have hwb2 : (kw == 2) = false := by simpa using hw2
          have hpx := hp2.setLock (k' := ⟨false, 0, kw⟩) hg1 0 (.bool false) rfl
          have hg2 : getL p (putL p (g, (⟨false, 0, kw⟩ : Lk)) (putL p (g, ⟨kx, 0, kw⟩) L')) = some (g, ⟨false, 0, kw⟩) := by rw [getL_putL, if_pos rfl]
          have hpz := hpx.setLock (k' := ⟨false, 0, 0⟩) hg2 2 (kI 0) rfl
          rw [put_put, put_put] at hpz
          have hfin : EndR b m D ps hpp F (j + 1) (.slice (some ⟨ga, 0, none⟩) (letS (ps.take (j + 1)) D).length ca) ((w2.setCell ⟨g, 0, none⟩ (.bool false)).setCell ⟨g, 2, none⟩ (kI 0)) := by
            refine ⟨h', _, hsl', ?_, hpz⟩
            rw [bare_put, hL', hes]
            simp [endK, hw, hw2]
          have FIN := Lib.hid hfin
          clear hp hp1 hg1 hes hls hs3 hL' hfin hk hg htk hpD hnot u u1 hpn hap hsl' hp2 hnews hpx hpz hg2 u2 HSL' hlen3 c0 hw hw2
          generalize (letS (ps.take (j + 1)) D).length = nl at *
          go_wp2_with (at_builtin; refine wpList_append_run rfl _ _ _ _ rfl _ _ _ _ rfl rfl HAP.out ?_)
          exact ⟨⟨j + 1, by omega, by simp, FIN.out⟩, by simp only [RowKit.intOf]; omega⟩
    · obtain rfl : j = D.length := by omega
      have hte : ps.take D.length = ps := by rw [← HPL.out]; exact List.take_length
      rw [hte] at hs3 hL'
      have HS := Lib.hid hs3
      have HF : Hid (LatchIs b (endS ps D) (h3 ++ F) wr) := Lib.hid (LatchIs.of (hp.weaken (D := hpp) (List.perm_append_comm_assoc h3 hpp F)) hL')
      clear hp hs3 hL' hte
      go_wp2_with fail
      go_ret
      exact ⟨_, h3, rfl, HS.out, HF.out⟩
end Go.Proofs.Ytcndmiepbodpnaa
