/- A slice that is cut off at its front: read, pushed, cut. Conditions: none. -/
import Derived.Test.YthgfbnopbfiifaaSl
import Derived.ArgAppend
namespace Go.Proofs.Ythgfbnopbfiifaa
open Go Go.MapKept Go.RowKit Go.Proofs

/-- THE SLICE v HOLDS n ELEMENTS, anywhere in a block of its own. -/
def QIs (T : TypeId) (sz : Nat) (v : Value) (n : Nat) (cs : List Value) (h : Heaplet) : Prop :=
  cs.length = n * sz ∧ ((v = .slice none 0 0 ∧ n = 0 ∧ h = []) ∨
    ∃ g off cap cur, v = .slice (some ⟨g, off, none⟩) n cap ∧ n ≤ cap ∧ cap ≤ maxLen ∧ off + cap * sz ≤ cur.size ∧ (cur.toList.drop off).take (n * sz) = cs ∧ h = [.blk g (.cells cur T)])
theorem QIs.nil (T : TypeId) (sz : Nat) : QIs T sz (.slice none 0 0) 0 [] [] := ⟨by simp, .inl ⟨rfl, rfl, rfl⟩⟩
theorem QIs.form {T : TypeId} {sz n : Nat} {v : Value} {cs : List Value} {h : Heaplet} (hs : QIs T sz v n cs h) : ∃ a cap, v = .slice a n cap ∧ n ≤ cap := by
  rcases hs.2 with ⟨rfl, e0, rfl⟩ | ⟨g, off, cap, cur, rfl, hc, _⟩
  · exact ⟨none, 0, by rw [e0], by omega⟩
  · exact ⟨_, _, rfl, hc⟩
theorem q_of_sl {T : TypeId} {sz n : Nat} {v : Value} {cs : List Value} {h : Heaplet} (hs : SliceIs T sz v n cs h) : QIs T sz v n cs h := by
  refine ⟨hs.1, ?_⟩
  rcases hs.2 with ⟨rfl, e0, rfl⟩ | ⟨g, cap, cur, rfl, hc, hm, hz, ht, rfl⟩
  · exact .inl ⟨rfl, e0, rfl⟩
  · exact .inr ⟨g, 0, cap, cur, rfl, hc, hm, by omega, by simpa using ht, rfl⟩
section
variable {α : Type} {fl : α → List Value} {T t : TypeId} {sz n : Nat} {v : Value} {R : List α} {h F : Heaplet} {w : World} {P : Program}
/-- Where an element lies. -/
theorem q_cells (hfl : ∀ q, (fl q).length = sz) (hv : QIs T sz v R.length (R.flatMap fl) h) (s : Sat w (h ++ F)) : ∃ a cap, v = .slice a R.length cap ∧
    ∀ i q, R[i]? = some q → ∃ g off, a = some ⟨g, off, none⟩ ∧ (∀ j, w.frozen? ⟨g, j, none⟩ = false) ∧ ∀ j u, (fl q)[j]? = some u → w.cell? ⟨g, off + i * sz + j, none⟩ = some u := by
  obtain ⟨a, cap, rfl, _⟩ := hv.form
  refine ⟨a, cap, rfl, fun i q hq => ?_⟩
  rcases hv.2 with ⟨_, e, _⟩ | ⟨g, off, cap', cur, e, hnc, _, hsz, htk, rfl⟩
  · have := (List.getElem?_eq_some_iff.1 hq).1
    omega
  · cases e
    refine ⟨g, off, rfl, fun j => unfrozen_of s.h0 j, fun j u hu => ?_⟩
    have h1 := fm_get hfl R i j q u hq hu
    rw [← htk, List.getElem?_take] at h1
    split at h1
    · rw [List.getElem?_drop, Array.getElem?_toList] at h1
      rw [cell_of s.h0, Nat.add_assoc]
      exact h1
    · cases h1
/-- One is cut off at the front. -/
theorem q_tail (hfl : ∀ q, (fl q).length = sz) {q : α} {a : Option Addr} {cap : Nat} (hv : QIs T sz (.slice a (R.length + 1) cap) (q :: R).length ((q :: R).flatMap fl) h) :
    ∃ g off, a = some ⟨g, off, none⟩ ∧ R.length + 1 ≤ cap ∧ ∀ off', (off' = off + sz ∨ (cap = 1 ∧ off' = off)) → QIs T sz (.slice (some ⟨g, off', none⟩) R.length (cap - 1)) R.length (R.flatMap fl) h := by
  rcases hv.2 with ⟨e, _⟩ | ⟨g, off, cap', cur, e, hnc, hcm, hsz, htk, rfl⟩
  · cases e
  · simp only [Value.slice.injEq] at e
    obtain ⟨rfl, _, rfl⟩ := e
    have hc1 : R.length + 1 ≤ cap := by simpa using hnc
    refine ⟨g, off, rfl, hc1, fun off' ho => ⟨fm_len hfl R, .inr ⟨g, off', cap - 1, cur, rfl, by omega, by omega, ?_, ?_, rfl⟩⟩⟩
    · rcases ho with rfl | ⟨rfl, rfl⟩
      · have : cap * sz = (cap - 1) * sz + sz := by
          rw [← Nat.succ_mul]; congr 1; omega
        omega
      · simp; omega
    · rcases ho with rfl | ⟨hc, rfl⟩
      · rw [List.flatMap_cons, List.length_cons, Nat.succ_mul] at htk
        have h1 := congrArg (List.drop sz) htk
        rw [List.drop_take, List.drop_drop, List.drop_left' (hfl q)] at h1
        rw [show R.length * sz + sz - sz = R.length * sz from by omega] at h1
        exact h1
      · have hR : R = [] := List.eq_nil_of_length_eq_zero (by omega)
        subst hR
        simp
/-- One more is pushed. -/
theorem q_push {i : TypeInfo} {z : Value} {bytes : Nat} (hfl : ∀ q, (fl q).length = sz) (ht : P.underlying t = some (.slice T)) (hi : P.info? T = some i) (hz : i.zero = some z) (hsize : i.size = sz) (hby : i.bytes = bytes) (hzs : z.cells.size = sz) (hsz : 0 < sz)
    (hv : QIs T sz v R.length (R.flatMap fl) h) {x : Nat} {Tn : TypeId} {A B : Heaplet} (q : α) (s : Sat w (.blk x (.cells (fl q).toArray Tn) :: (A ++ (h ++ B)))) (h1 : ∀ u ∈ fl q, u.oneCell' = true) (h63 : R.length + 1 ≤ maxLen) (hbytes : (R.length + 1) * bytes ≤ 140737488355328) :
    ∃ v' w' h', (∀ ty, (Builtin.append_ #[t, t] ty #[v, .slice (some ⟨x, 0, none⟩) 1 1]).run P w = .ok v' w') ∧ QIs T sz v' (R ++ [q]).length ((R ++ [q]).flatMap fl) h' ∧ Sat w' (A ++ (h' ++ B)) := by
  subst hsize
  subst hby
  have s1 : Sat w (h ++ (A ++ (.blk x (.cells (fl q).toArray Tn) :: B))) := by
    refine s.perm ?_
    have p1 : (HItem.blk x (.cells (fl q).toArray Tn) :: (A ++ (h ++ B))).Perm (A ++ (h ++ (.blk x (.cells (fl q).toArray Tn) :: B))) :=
      (List.perm_middle (l₁ := A)).symm.trans (List.Perm.append_left A (List.perm_middle (l₁ := h)).symm)
    exact p1.trans (List.perm_append_comm_assoc A h _)
  have hx := s.h0
  have hnews : ∀ j u, (fl q)[j]? = some u → w.cell? ((⟨x, 0, none⟩ : Addr).add j) = some u := by
    intro j u hu
    have hadd : (⟨x, 0, none⟩ : Addr).add j = ⟨x, j, none⟩ := by unfold Addr.add; split <;> simp_all
    rw [hadd, cell_of hx]
    simpa using hu
  have fin : ∀ {w' : World} {h' : Heaplet}, Sat w' (h' ++ (A ++ (.blk x (.cells (fl q).toArray Tn) :: B))) → Sat w' (A ++ (h' ++ B)) := fun {w' h'} hsat =>
    ((hsat.perm (List.perm_append_comm_assoc h' A _)).perm (List.Perm.append_left A (List.perm_middle (l₁ := h'))) |>.perm List.perm_middle).tail
  by_cases hcase : ∃ g off cap cur, v = .slice (some ⟨g, off, none⟩) R.length cap ∧ R.length + 1 ≤ cap ∧ cap ≤ maxLen ∧ off + cap * i.size ≤ cur.size ∧ (cur.toList.drop off).take (R.length * i.size) = R.flatMap fl ∧ h = [.blk g (.cells cur T)]
  · obtain ⟨g, off, cap, cur, rfl, hroom, hcm, hcs, htk, rfl⟩ := hcase
    have hmul : (R.length + 1) * i.size ≤ cap * i.size := Nat.mul_le_mul_right _ hroom
    rw [Nat.succ_mul] at hmul
    have hlt : ∀ j, j < (fl q).length → off + R.length * i.size + j < cur.size := by
      intro j hj
      rw [hfl] at hj
      omega
    have hr := fun ty => run_append_room_cells (P := P) w t ty T i ht hi g off R.length cap ⟨x, 0, none⟩ 1 1 (fl q) (by rw [hfl, Nat.one_mul]) hnews h1 hroom
      (fun j hj => by rw [cell_of s1.h0]; simp [hlt j hj]) (fun j _ => unfrozen_of s1.h0 _)
    have hset : ∀ (us : List Value) (o : Nat) (w0 : World) (c0 : Array Value) (G : Heaplet), Sat w0 (.blk g (.cells c0 T) :: G) → o + us.length ≤ c0.size →
        ∃ c1 : Array Value, Sat (w0.setCells g o us) (.blk g (.cells c1 T) :: G) ∧ c1.toList = c0.toList.take o ++ us ++ c0.toList.drop (o + us.length) := by
      intro us
      induction us with
      | nil => intro o w0 c0 G hs _; exact ⟨c0, hs, by simp⟩
      | cons u us ih =>
        intro o w0 c0 G hs hle
        rw [List.length_cons] at hle
        have hs' := hs.setCell (i := o) u
        obtain ⟨c1, h2, h3⟩ := ih (o + 1) _ _ G hs' (by simp; omega)
        refine ⟨c1, h2, ?_⟩
        rw [h3]
        have ho : o < c0.toList.length := by rw [Array.length_toList]; omega
        rw [Array.toList_setIfInBounds, List.take_set, List.drop_set_of_lt (by omega), List.take_succ_eq_append_getElem ho, List.set_append, if_neg (by rw [List.length_take]; omega)]
        rw [List.length_take, Nat.min_eq_left (by omega), Nat.sub_self]
        simp [Nat.add_assoc, Nat.add_comm 1 us.length]
    obtain ⟨c1, hs2, hc1⟩ := hset (fl q) (off + R.length * i.size) w cur _ s1 (by rw [hfl]; omega)
    refine ⟨_, _, [.blk g (.cells c1 T)], hr, ⟨?_, .inr ⟨g, off, cap, c1, by rw [List.length_append]; rfl, by simpa using hroom, hcm, ?_, ?_, rfl⟩⟩, fin hs2⟩
    · rw [fm_len hfl]
    · have : c1.size = cur.size := by
        have := congrArg List.length hc1
        rw [List.length_append, List.length_append, List.length_take, List.length_drop, hfl] at this
        have h4 : c1.toList.length = c1.size := by simp
        have h5 : cur.toList.length = cur.size := by simp
        omega
      rw [this]; exact hcs
    · rw [hc1, List.flatMap_append, List.length_append]
      have e1 : (cur.toList.take (off + R.length * i.size)).drop off = R.flatMap fl := by
        rw [List.drop_take, ← htk]
        congr 1
        omega
      have e2 : (cur.toList.take (off + R.length * i.size)).length = off + R.length * i.size := by
        have h5 : cur.toList.length = cur.size := by simp
        rw [List.length_take]; omega
      rw [List.append_assoc, List.drop_append, e1, e2, show off - (off + R.length * i.size) = 0 from by omega, List.drop_zero, ← List.append_assoc]
      simp only [List.flatMap_cons, List.flatMap_nil, List.append_nil]
      rw [List.take_append_of_le_length (by rw [List.length_append, fm_len hfl, hfl]; simp [Nat.succ_mul]), List.take_of_length_le (by rw [List.length_append, fm_len hfl, hfl]; simp [Nat.succ_mul])]
  · rcases hv.2 with ⟨rfl, e0, rfl⟩ | ⟨g, off, cap, cur, rfl, hnc, hcm, hcs, htk, rfl⟩
    · have hR : R = [] := List.eq_nil_of_length_eq_zero e0
      subst hR
      obtain ⟨v', w', h', hr, hsl, hsat⟩ := sl_push (P := P) (T := T) (R := ([] : List α)) hfl ht hi hz rfl rfl hzs hsz (SliceIs.nil T i.size) q s h1 h63 hbytes
      exact ⟨v', w', h', hr, q_of_sl hsl, hsat⟩
    · have hno : cap < R.length + 1 := by
        by_cases hr : R.length + 1 ≤ cap
        · exact absurd ⟨g, off, cap, cur, rfl, hr, hcm, hcs, htk, rfl⟩ hcase
        · omega
      have holds : ∀ j u, (R.flatMap fl)[j]? = some u → w.cell? ((⟨g, off, none⟩ : Addr).add j) = some u := by
        intro j u hu
        have hadd : (⟨g, off, none⟩ : Addr).add j = ⟨g, off + j, none⟩ := by unfold Addr.add; split <;> simp_all
        rw [hadd, cell_of s1.h0]
        rw [← htk, List.getElem?_take] at hu
        split at hu
        · rw [List.getElem?_drop, Array.getElem?_toList] at hu
          exact hu
        · cases hu
      have h63' := h63
      unfold maxLen at h63'
      have hr := fun ty => run_append_grow (P := P) w t ty T i z ht hi hz ⟨g, off, none⟩ R.length cap (R.flatMap fl) (fm_len hfl R) holds ⟨x, 0, none⟩ 1 1 (fl q) (by rw [hfl, Nat.one_mul]) hnews hno (by omega) (growslice_fits hno hbytes)
      have hge := grownCap_ge w (R.length + 1) cap T
      have hcm2 := grownCap_le_maxLen w (R.length + 1) cap T h63
      have hlen : (R.flatMap fl ++ fl q).length = (R.length + 1) * i.size := by rw [List.length_append, fm_len hfl, hfl, Nat.succ_mul]
      refine ⟨_, _, _, hr, ⟨fm_len hfl _, .inr ⟨w.heap.size, 0, _, _, by rw [List.length_append]; rfl, by rw [List.length_append]; exact hge, hcm2, ?_, ?_, rfl⟩⟩, fin (((Sat.drew s1).tail).new _)⟩
      · simp only [Array.size_append, List.size_toArray, size_zeroCells, hzs, fm_len hfl, hfl, Nat.zero_add]
        obtain ⟨d, hd⟩ := Nat.exists_eq_add_of_le hge
        rw [hd, Nat.add_sub_cancel_left, Nat.add_mul, Nat.succ_mul]
        exact Nat.le_refl _
      · simp only [Array.toList_append, List.drop_zero, List.append_assoc, List.flatMap_append, List.length_append, List.flatMap_cons, List.flatMap_nil, List.append_nil, List.length_cons, List.length_nil]
        rw [← List.append_assoc, List.take_append_of_le_length (by rw [hlen]; simp), List.take_of_length_le (by rw [hlen]; simp)]
end
end Go.Proofs.Ythgfbnopbfiifaa
