/- The reference's locks: the transaction's end walked. Conditions: none. -/
import Derived.Test.YtcndmiepbodpnaaRef4
namespace Go.Proofs.Ytcndmiepbodpnaa
open Go Go.MapKept Go.RowKit Go.Proofs

/-- What the end tells, and what stays, of locks in a row. -/
def letR (R : Lks) : List (Int × Bool) := R.filterMap fun q => letK q.1 q.2
def stayR (R : Lks) : Lks := R.filterMap fun q => (endK q.2).map fun k => (q.1, k)
theorem letR_eq {R : Lks} (hn : (R.map (·.1)).Nodup) : letS (R.map (·.1)) R = letR R := by
  unfold letS letR
  rw [List.filterMap_map]
  refine fm_congr fun q hq => ?_
  show (getL q.1 R).bind (letK q.1) = _
  rw [getL_of_mem hn (show (q.1, q.2) ∈ R from hq)]; rfl
theorem stayR_eq (R : Lks) : endS (R.map (·.1)) R = stayR R := endS_all R fun p hp => List.mem_map.2 ⟨p, hp, rfl⟩
theorem letR_step {R : Lks} {r : Nat} {q : Int × Lk} (hq : R[r]? = some q) : letR (R.take (r + 1)) = letR (R.take r) ++ (match letK q.1 q.2 with | some y => [y] | none => []) := by
  unfold letR
  rw [List.take_add_one, hq, List.filterMap_append]
  congr 1
  cases h : letK q.1 q.2 <;> simp [h]
theorem stayR_step {R : Lks} {r : Nat} {q : Int × Lk} (hq : R[r]? = some q) : stayR (R.take (r + 1)) = stayR (R.take r) ++ (match endK q.2 with | some k => [(q.1, k)] | none => []) := by
  unfold stayR
  rw [List.take_add_one, hq, List.filterMap_append]
  congr 1
  cases h : endK q.2 <;> simp [h]
theorem letR_len (R : Lks) : (letR R).length ≤ R.length := List.length_filterMap_le _ _
theorem stayR_len (R : Lks) : (stayR R).length ≤ R.length := List.length_filterMap_le _ _
section
variable {c : Nat} {v0 v3 v4 : Value} {h0 F : Heaplet} {l : Lks} {w : World}
theorem OutIs.new (h : OutIs c v0 h0 v4 l F w) (o : Obj) : OutIs c v0 h0 v4 l (.blk w.heap.size o :: F) (w.alloc o) := by
  obtain ⟨h3, hv, hs⟩ := h
  refine ⟨h3, hv, (hs.new o).perm ?_⟩
  have p := (List.perm_middle (a := HItem.blk w.heap.size o) (l₁ := HItem.blk c (.cells #[v0] 43) :: (h0 ++ h3)) (l₂ := F)).symm
  simpa [List.append_assoc] using p
theorem OutIs.unF {x : HItem} (h : OutIs c v0 h0 v4 l (x :: F) w) : OutIs c v0 h0 v4 l F w := by
  obtain ⟨h3, hv, hs⟩ := h
  refine ⟨h3, hv, ?_⟩
  have p := List.perm_middle (a := x) (l₁ := HItem.blk c (.cells #[v0] 43) :: (h0 ++ h3)) (l₂ := F)
  have s2 := hs.perm (by simpa [List.append_assoc] using p)
  exact (s2 : Sat w (x :: _)).tail
theorem OutIs.rest (h : OutIs c v0 h0 v4 l F w) : Sat w F := by
  obtain ⟨h3, hv, hs⟩ := h
  exact hs.tail.right.right
/-- One word more is told, beside. -/
theorem OutIs.tell {h4 : Heaplet} {x : HItem} {T : List (Int × Bool)} (h : OutIs c v0 h0 v4 l (x :: (h4 ++ F)) w) (hv : SliceIs 38 2 v3 T.length (flatLet T) h4) (p : Int) (k : Bool) (hl : T.length + 1 ≤ 1000000) :
    ∃ v' w' h', (∀ ty, (Builtin.append_ #[31, 31] ty #[v3, .slice (some ⟨w.heap.size, 0, none⟩) 1 1]).run Try.prog (w.alloc (.cells #[kI p, .bool k] 38)) = .ok v' w') ∧ SliceIs 38 2 v' (T ++ [(p, k)]).length (flatLet (T ++ [(p, k)])) h' ∧ OutIs c v0 h0 v4 l (x :: (h' ++ F)) w' := by
  obtain ⟨h3, hv4, hs⟩ := h
  obtain ⟨i0, hi, hz, hsize, hby⟩ := info_parts infoLet
  have hs1 := hs.new (.cells #[kI p, .bool k] 38)
  obtain ⟨A, hA⟩ : ∃ A, A = HItem.blk c (.cells #[v0] 43) :: (h0 ++ (h3 ++ [x])) := ⟨_, rfl⟩
  have back : ∀ (h' : Heaplet), A ++ (h' ++ F) = HItem.blk c (.cells #[v0] 43) :: (h0 ++ (h3 ++ (x :: (h' ++ F)))) := by intro h'; rw [hA]; simp
  rw [← back] at hs1
  have s1 : Sat (w.alloc (.cells #[kI p, .bool k] 38)) (h4 ++ (.blk w.heap.size (.cells #[kI p, .bool k] 38) :: (A ++ F))) := by
    refine hs1.perm ?_
    refine List.Perm.trans (List.Perm.cons _ (List.perm_append_comm_assoc A h4 F)) ?_
    exact List.perm_middle.symm
  have hx := hs1.h0
  have hnews : ∀ j u, ([kI p, .bool k] : List Value)[j]? = some u → (w.alloc (.cells #[kI p, .bool k] 38)).cell? ((⟨w.heap.size, 0, none⟩ : Addr).add j) = some u := by
    intro j u hu
    have hadd : (⟨w.heap.size, 0, none⟩ : Addr).add j = ⟨w.heap.size, j, none⟩ := by unfold Addr.add; split <;> simp_all
    rw [hadd, cell_of hx]
    match j, hu with
    | 0, hu => simpa using hu
    | 1, hu => simpa using hu
    | j + 2, hu => simp at hu
  obtain ⟨v', w', h', hr, hsl, hsat⟩ := sat_append (P := Try.prog) (ty := 0) Try.underlying31 hi hz hsize hby rfl (by decide) hv s1 ⟨w.heap.size, 0, none⟩ 1 1 [kI p, .bool k] rfl hnews (by simp [Value.oneCell']) (by decide) (by unfold maxLen; omega) (by omega)
  refine ⟨v', w', h', fun ty => hr, ?_, h3, hv4, ?_⟩
  · have e : flatLet (T ++ [(p, k)]) = flatLet T ++ [kI p, .bool k] := by simp [flatLet]
    rw [e, List.length_append]
    exact hsl
  · rw [← back]
    have s2 := (hsat.perm List.perm_middle).tail
    exact s2.perm (List.perm_append_comm_assoc h' A F)
end
end Go.Proofs.Ytcndmiepbodpnaa
