/- The reference's locks: End walked. Conditions: none. -/
import Derived.Test.YtcndmiepbodpnaaRef5
namespace Go.Proofs.Ytcndmiepbodpnaa
open Go Go.MapKept Go.RowKit Go.Proofs

theorem RefIs.new {c : Nat} {R : Lks} {F : Heaplet} {w : World} (h : RefIs c R F w) (o : Obj) : RefIs c R (.blk w.heap.size o :: F) (w.alloc o) := by
  obtain ⟨v, hh, hv, hs⟩ := h
  refine ⟨v, hh, hv, (hs.new o).perm ?_⟩
  exact (List.perm_middle (a := HItem.blk w.heap.size o) (l₁ := HItem.blk c (.cells #[v] 43) :: hh) (l₂ := F)).symm
set_option maxRecDepth 100000 in
set_option maxHeartbeats 4000000 in
theorem end_ref (c : Nat) (R : Lks) (F : Heaplet) (w : World) (h : RefIs c R F w) (hl : R.length ≤ 100000) (hn : (R.map (·.1)).Nodup) (hg : GoodL R) :
    Calls Try.prog 18 #[.pointer (some ⟨c, 0, none⟩)] w fun e w' => ∃ v hh, e = .returned v ∧ SliceIs 38 2 v (letR R).length (flatLet (letR R)) hh ∧ RefIs c (stayR R) (hh ++ F) w' := by
  have hall : ∀ (r : Nat) (q : Int × Lk), R[r]? = some q → q.2.good := fun r (q : Int × Lk) hq => hg q.1 q.2 (getL_of_mem hn (show (q.1, q.2) ∈ R from List.mem_of_getElem? hq))
  obtain ⟨v0, h0, c0, hv0, ho⟩ := (h.new (.cells #[] 38)).out
  have hs0 : SliceIs 38 2 (.slice (some ⟨w.heap.size, 0, none⟩) 0 0) 0 [] [.blk w.heap.size (.cells #[] 38)] := ⟨rfl, .inr ⟨w.heap.size, 0, #[], rfl, by simp, by simp [maxLen], rfl, rfl, rfl⟩⟩
  rw [World.size_alloc] at ho
  have HO := Lib.hid ho
  have HV := Lib.hid hv0
  have HS := Lib.hid hs0
  have HA := Lib.hid hall
  clear h hn hg ho hv0 hs0 hall
  go_enter Try.func18, Try.ntmps18
  go_wp2_with fail
  go_loopw [3, 4, 5] (fun v3 v4 v5 wr => ∃ (r : Nat) (h4 : Heaplet), r ≤ R.length ∧ v5 = .int .i64 r ∧ SliceIs 38 2 v3 (letR (R.take r)).length (flatLet (letR (R.take r))) h4 ∧ OutIs c v0 h0 v4 (stayR (R.take r)) (h4 ++ F) wr) (fun _ _ v5 _ => 100000 - (RowKit.intOf v5).toNat)
  case atStart => exact ⟨0, _, by omega, rfl, HS.out, HO.out⟩
  case round =>
    clear HO c0 HS
    obtain ⟨r, h4, hr, rfl, hv, ho⟩ := hrel
    have r0 : (0 : Int) ≤ (r : Int) := by omega
    obtain ⟨a, cap, rfl, hcs⟩ := ho.old HV.out
    have c0 := ho.cell0
    have f0 := ho.froz
    by_cases hlr : r < R.length
    · have r1 : (r : Int) < (R.length : Int) := by omega
      obtain ⟨q, hq⟩ : ∃ q, R[r]? = some q := ⟨_, List.getElem?_eq_getElem hlr⟩
      obtain ⟨g, rfl, c1, c2, c3, c4⟩ := hcs r q hq
      have hgd := HA.out r q hq
      have hlt := letR_step hq
      have hst := stayR_step hq
      have hx := ho.new (.cells (flatK q).toArray 49)
      have hl1 : (letR (R.take r)).length + 1 ≤ 1000000 := by
        have := letR_len (R.take r)
        rw [List.length_take] at this
        omega
      have hl2 : (stayR (R.take r)).length + 1 ≤ 1000000 := by
        have := stayR_len (R.take r)
        rw [List.length_take] at this
        omega
      obtain ⟨q1, kx, ku, kw⟩ := q
      rcases hgd.2 with e | e | e
      · simp only at e
        subst e
        rw [show letK q1 (⟨kx, ku, 0⟩ : Lk) = none from rfl] at hlt
        rw [show endK (⟨kx, ku, 0⟩ : Lk) = some ⟨kx, 0, 0⟩ from rfl] at hst
        simp only [List.append_nil] at hlt hst
        obtain ⟨v', w', hap, ho'⟩ := hx.push (q1, ⟨kx, 0, 0⟩) hl2
        rw [← hst] at ho'
        rw [← hlt] at hv
        rw [World.size_alloc] at hap
        have HAP : ∀ ty, (Builtin.append_ #[41, 41] ty #[_, .slice (some ⟨wr.heap.size + 1, 0, none⟩) 1 1]).run Try.prog ((wr.alloc (.cells #[kI q1, .bool kx, kI ku, kI 0] 49)).alloc (.cells #[kI q1, .bool kx, kI 0, kI 0] 49)) = .ok v' w' := hap
        have HAP := Lib.hid HAP
        have Fin := Lib.hid ho'.unF
        have HVV := Lib.hid hv
        clear ho ho' hx hcs hap hv hst hlt hgd hq
        cases kx
        all_goals
          go_wp2_with (at_builtin; refine wpList_append_run rfl _ _ _ _ rfl _ _ _ _ rfl rfl HAP.out ?_)
          exact ⟨⟨r + 1, h4, by omega, by simp, HVV.out, Fin.out⟩, by simp only [RowKit.intOf]; omega⟩
      · simp only at e
        subst e
        rw [show letK q1 (⟨kx, ku, 1⟩ : Lk) = some (q1, true) from rfl] at hlt
        rw [show endK (⟨kx, ku, 1⟩ : Lk) = some ⟨false, 0, 0⟩ from rfl] at hst
        simp only at hlt hst
        obtain ⟨v', w', h', hap, hv', ho'⟩ := hx.tell hv q1 true hl1
        obtain ⟨v2, w2, hap2, ho2⟩ := ho'.push (q1, ⟨false, 0, 0⟩) hl2
        rw [← hst] at ho2
        rw [← hlt] at hv'
        rw [World.size_alloc] at hap
        have hb := ho'.rest.h0
        have d0 : w'.cell? ⟨wr.heap.size, 0, none⟩ = some (kI q1) := by rw [cell_of hb]; rfl
        have d1 : w'.cell? ⟨wr.heap.size, 1, none⟩ = some (.bool kx) := by rw [cell_of hb]; rfl
        have d3 : w'.cell? ⟨wr.heap.size, 3, none⟩ = some (kI 1) := by rw [cell_of hb]; rfl
        have HAP : ∀ ty, (Builtin.append_ #[31, 31] ty #[_, .slice (some ⟨wr.heap.size + 1, 0, none⟩) 1 1]).run Try.prog ((wr.alloc (.cells #[kI q1, .bool kx, kI ku, kI 1] 49)).alloc (.cells #[kI q1, .bool true] 38)) = .ok v' w' := hap
        have HAP2 : ∀ ty, (Builtin.append_ #[41, 41] ty #[_, .slice (some ⟨w'.heap.size, 0, none⟩) 1 1]).run Try.prog (w'.alloc (.cells #[kI q1, .bool false, kI 0, kI 0] 49)) = .ok v2 w2 := hap2
        have HAP := Lib.hid HAP
        have HAP2 := Lib.hid HAP2
        have Fin := Lib.hid ho2.unF
        have HVV := Lib.hid hv'
        clear ho ho' ho2 hx hcs hap hap2 hv hv' hst hlt hgd hq hb
        cases kx
        all_goals
          go_wp2_with (at_builtin; first | refine wpList_append_run rfl _ _ _ _ rfl _ _ _ _ rfl rfl HAP.out ?_ | refine wpList_append_run rfl _ _ _ _ rfl _ _ _ _ rfl rfl HAP2.out ?_)
          exact ⟨⟨r + 1, h', by omega, by simp, HVV.out, Fin.out⟩, by simp only [RowKit.intOf]; omega⟩
      · simp only at e
        subst e
        rw [show letK q1 (⟨kx, ku, 2⟩ : Lk) = some (q1, false) from rfl] at hlt
        rw [show endK (⟨kx, ku, 2⟩ : Lk) = none from rfl] at hst
        simp only [List.append_nil] at hlt hst
        obtain ⟨v', w', h', hap, hv', ho'⟩ := hx.tell hv q1 false hl1
        rw [← hst] at ho'
        rw [← hlt] at hv'
        rw [World.size_alloc] at hap
        have hb := ho'.rest.h0
        have d3 : w'.cell? ⟨wr.heap.size, 3, none⟩ = some (kI 2) := by rw [cell_of hb]; rfl
        have HAP : ∀ ty, (Builtin.append_ #[31, 31] ty #[_, .slice (some ⟨wr.heap.size + 1, 0, none⟩) 1 1]).run Try.prog ((wr.alloc (.cells #[kI q1, .bool kx, kI ku, kI 2] 49)).alloc (.cells #[kI q1, .bool false] 38)) = .ok v' w' := hap
        have HAP := Lib.hid HAP
        have Fin := Lib.hid ho'.unF
        have HVV := Lib.hid hv'
        clear ho ho' hx hcs hap hv hv' hst hlt hgd hq hb
        go_wp2_with (at_builtin; refine wpList_append_run rfl _ _ _ _ rfl _ _ _ _ rfl rfl HAP.out ?_)
        exact ⟨⟨r + 1, h', by omega, by simp, HVV.out, Fin.out⟩, by simp only [RowKit.intOf]; omega⟩
    · obtain rfl : r = R.length := by omega
      rw [List.take_length] at ho hv
      obtain ⟨a4, ca4, rfl⟩ := ho.form
      obtain ⟨a3, ca3, rfl⟩ := slice_form hv
      have fin := ho.take
      have Fin := Lib.hid fin
      have HVV := Lib.hid hv
      clear ho hcs fin hlr hv
      go_wp2_with fail
      go_ret
      exact ⟨_, h4, rfl, HVV.out, Fin.out⟩
end Go.Proofs.Ytcndmiepbodpnaa
