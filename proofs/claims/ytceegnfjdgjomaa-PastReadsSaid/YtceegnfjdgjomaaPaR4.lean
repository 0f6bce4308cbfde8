/- The document's Same, walked at two views that are the same. Conditions: none. -/
import Derived.Test.YtceegnfjdgjomaaPaR3
namespace Go.Proofs.Ytceegnfjdgjomaa
open Go Go.MapKept Go.RowKit Go.Proofs Go.Sort Go.Shelf

theorem neq_lo (q : Tx × Int) (w : World) : (binOp .neq 36 (.agg #[kI q.1.c, kI q.1.e, kI q.1.n, kI q.2]) (.agg #[kI q.1.c, kI q.1.e, kI q.1.n, kI q.2])).run Try.prog w = .ok (.bool false) w := by
  obtain ⟨⟨a1, a2, a3⟩, a4⟩ := q
  simp [go_sem]
theorem neq_txn (a : Tx) (w : World) : (binOp .neq 23 (tV a) (tV a)).run Try.prog w = .ok (.bool false) w := by
  obtain ⟨a1, a2, a3⟩ := a
  simp [go_sem]
theorem neq_fi (q : Int × Int) (w : World) : (binOp .neq 38 (.agg #[kI q.1, kI q.2]) (.agg #[kI q.1, kI q.2])).run Try.prog w = .ok (.bool false) w := by
  obtain ⟨a1, a2⟩ := q
  simp [go_sem]
theorem VwAt.onto {F F' : Heaplet} {vb : Nat} {V : VM} {a0 a1 a2 : Option Addr} {c0 c1 c2 : Nat} (h : VwAt F vb V a0 c0 a1 c1 a2 c2) (hs : ∀ w, Sat w F' → Sat w F) : VwAt F' vb V a0 c0 a1 c1 a2 c2 := fun W hW => h W (hs W hW)
set_option maxRecDepth 100000 in
set_option maxHeartbeats 8000000 in
theorem SameR_any (va vb : Value) (V : VM) (ha hb F : Heaplet) (w : World) (hva : ViewIs va V ha) (hvb : ViewIs vb V hb) (hs : Sat w (hb ++ (ha ++ F))) (h0 : V.losers.length ≤ 1000) (h1 : V.done.length ≤ 1000) (h2 : V.pages.length ≤ 1000) :
    Calls Try.prog 16 #[va, vb] w (Ret (.bool true) (fun w' => Sat w' F)) := by
  obtain ⟨a0, c0, a1, c1, a2, c2, rfl, hA⟩ := vw_open hva
  obtain ⟨b0, d0, b1, d1, b2, d2, rfl, hB⟩ := vw_open hvb
  clear hva hvb
  obtain ⟨LL, DD, PP⟩ := V
  simp only at h0 h1 h2 hA hB ⊢
  have hs1 := (hs.new (vwO (.slice a0 LL.length c0) (.slice a1 DD.length c1) (.slice a2 PP.length c2))).new (vwO (.slice b0 LL.length d0) (.slice b1 DD.length d1) (.slice b2 PP.length d2))
  rw [World.size_alloc] at hs1
  have hA := hA w.heap.size F
  have hB := hB (w.heap.size + 1) []
  obtain ⟨H, hH⟩ : ∃ H, HItem.blk (w.heap.size + 1) (vwO (.slice b0 LL.length d0) (.slice b1 DD.length d1) (.slice b2 PP.length d2)) :: .blk w.heap.size (vwO (.slice a0 LL.length c0) (.slice a1 DD.length c1) (.slice a2 PP.length c2)) :: (hb ++ (ha ++ F)) = H := ⟨_, rfl⟩
  have hA2 := hA.onto (F' := H) (fun W hW => by
    rw [← hH] at hW
    refine hW.tail.sub ?_
    exact List.Sublist.cons_cons _ (List.sublist_append_right hb _))
  have hB2 := hB.onto (F' := H) (fun W hW => by
    rw [← hH] at hW
    refine hW.sub ?_
    refine List.Sublist.cons_cons _ (.cons _ ?_)
    exact List.Sublist.append_left (List.nil_sublist _) hb)
  have HFF : Hid (∀ W, Sat W H → Sat W F) := Lib.hid (fun W hW => by rw [← hH] at hW; exact hW.tail.tail.right.right)
  rw [hH] at hs1
  have HS1 := Lib.hid hs1
  have HA := Lib.hid hA2
  have HB := Lib.hid hB2
  obtain ⟨⟨z0, z1, z2⟩, _⟩ := hA2 _ hs1
  obtain ⟨⟨y0, y1, y2⟩, _⟩ := hB2 _ hs1
  have e0 : ((LL.length : Int) != (LL.length : Int)) = false := by simp
  have e1 : ((DD.length : Int) != (DD.length : Int)) = false := by simp
  have e2 : ((PP.length : Int) != (PP.length : Int)) = false := by simp
  clear hs hs1 hH hA hB hA2 hB2
  go_enter Try.func16, Try.ntmps16
  go_wp2_with fail
  clear z0 z1 z2 y0 y1 y2 e0 e1 e2
  generalize (w.alloc (.cells #[.slice a0 LL.length c0, .slice a1 DD.length c1, .slice a2 PP.length c2] 33)).alloc (.cells #[.slice b0 LL.length d0, .slice b1 DD.length d1, .slice b2 PP.length d2] 33) = W1 at *
  generalize w.heap.size + 1 = bb at *
  generalize w.heap.size = ab at *
  go_loopw [5] (fun v5 wr => ∃ k : Nat, k ≤ LL.length ∧ v5 = .int .i64 k ∧ Sat wr H) (fun v5 _ => 200000 - (RowKit.intOf v5).toNat)
  case atStart => exact ⟨0, by omega, rfl, HS1.out⟩
  case round =>
    clear HS1
    obtain ⟨k, hk, rfl, hg⟩ := hrel
    have k0 : (0 : Int) ≤ (k : Int) := by omega
    have k9 : (k : Int) ≤ 1000 := by omega
    obtain ⟨⟨z0, z1, z2⟩, hcz, _, _⟩ := HA.out _ hg
    obtain ⟨⟨y0, y1, y2⟩, hcy, _, _⟩ := HB.out _ hg
    have HG := Lib.hid hg
    clear hg z1 z2 y1 y2
    by_cases hkl : k < LL.length
    · have k1 : (k : Int) < (LL.length : Int) := by omega
      obtain ⟨q, hq⟩ : ∃ q, LL[k]? = some q := ⟨_, List.getElem?_eq_getElem hkl⟩
      obtain ⟨gz, rfl, s0, s1, s2, s3⟩ := hcz k q hq
      obtain ⟨gy, rfl, t0, t1, t2, t3⟩ := hcy k q hq
      have hne := fun w => neq_lo q w
      clear hq hcz hcy
      go_upto_region 6 with (fail)
      go_quiet (fail)
      have HG9 := Lib.hid (HG.out.grown (Grown.drewN _ nq))
      clear HG hne z0 y0 s0 s1 s2 s3 t0 t1 t2 t3
      go_wp2_with fail
      exact ⟨⟨k + 1, by omega, by simp, HG9.out⟩, by simp only [RowKit.intOf]; omega⟩
    · obtain rfl : k = LL.length := by omega
      clear hcz hcy hkl k0 k9 hk
      go_wp2_with fail
      clear z0 y0
      go_loopw [6] (fun v6 wr => ∃ k : Nat, k ≤ DD.length ∧ v6 = .int .i64 k ∧ Sat wr H) (fun v6 _ => 200000 - (RowKit.intOf v6).toNat)
      case atStart => exact ⟨0, by omega, rfl, HG.out⟩
      case round =>
        clear HG
        obtain ⟨k, hk, rfl, hg⟩ := hrel
        have k0 : (0 : Int) ≤ (k : Int) := by omega
        have k9 : (k : Int) ≤ 1000 := by omega
        obtain ⟨⟨z0, z1, z2⟩, _, hcz, _⟩ := HA.out _ hg
        obtain ⟨⟨y0, y1, y2⟩, _, hcy, _⟩ := HB.out _ hg
        have HG := Lib.hid hg
        clear hg z0 z2 y0 y2
        by_cases hkl : k < DD.length
        · have k1 : (k : Int) < (DD.length : Int) := by omega
          obtain ⟨q, hq⟩ : ∃ q, DD[k]? = some q := ⟨_, List.getElem?_eq_getElem hkl⟩
          obtain ⟨gz, rfl, s0, s1, s2⟩ := hcz k q hq
          obtain ⟨gy, rfl, t0, t1, t2⟩ := hcy k q hq
          have hne := fun w => neq_txn q w
          clear hq hcz hcy
          go_upto_region 11 with (fail)
          go_quiet (fail)
          have HG9 := Lib.hid (HG.out.grown (Grown.drewN _ nq))
          clear HG hne z1 y1 s0 s1 s2 t0 t1 t2
          go_wp2_with fail
          exact ⟨⟨k + 1, by omega, by simp, HG9.out⟩, by simp only [RowKit.intOf]; omega⟩
        · obtain rfl : k = DD.length := by omega
          clear hcz hcy hkl k0 k9 hk
          go_wp2_with fail
          clear z1 y1
          go_loopw [7] (fun v7 wr => ∃ k : Nat, k ≤ PP.length ∧ v7 = .int .i64 k ∧ Sat wr H) (fun v7 _ => 200000 - (RowKit.intOf v7).toNat)
          case atStart => exact ⟨0, by omega, rfl, HG.out⟩
          case round =>
            clear HG
            obtain ⟨k, hk, rfl, hg⟩ := hrel
            have k0 : (0 : Int) ≤ (k : Int) := by omega
            have k9 : (k : Int) ≤ 1000 := by omega
            obtain ⟨⟨z0, z1, z2⟩, _, _, hcz⟩ := HA.out _ hg
            obtain ⟨⟨y0, y1, y2⟩, _, _, hcy⟩ := HB.out _ hg
            have HG := Lib.hid hg
            clear hg z0 z1 y0 y1
            by_cases hkl : k < PP.length
            · have k1 : (k : Int) < (PP.length : Int) := by omega
              obtain ⟨q, hq⟩ : ∃ q, PP[k]? = some q := ⟨_, List.getElem?_eq_getElem hkl⟩
              obtain ⟨gz, rfl, s0, s1⟩ := hcz k q hq
              obtain ⟨gy, rfl, t0, t1⟩ := hcy k q hq
              have hne := fun w => neq_fi q w
              clear hq hcz hcy
              go_upto_region 16 with (fail)
              go_quiet (fail)
              have HG9 := Lib.hid (HG.out.grown (Grown.drewN _ nq))
              clear HG hne z2 y2 s0 s1 t0 t1
              go_wp2_with fail
              exact ⟨⟨k + 1, by omega, by simp, HG9.out⟩, by simp only [RowKit.intOf]; omega⟩
            · obtain rfl : k = PP.length := by omega
              clear hcz hcy hkl k0 k9 hk
              go_wp2_with fail
              go_ret
              exact ⟨rfl, HFF.out _ HG.out⟩
end Go.Proofs.Ytceegnfjdgjomaa
