/- Sorted keys of a map (key), in the block-wise view. Conditions: none. (printed by sortk.gen.py) -/
import Derived.Test.YthgfbnopbfiifaaMapBr
import Derived.Test.YthgfbnopbfiifaaLayK
import Derived.ProofKit
import Derived.Lib.Hide
namespace Go.Proofs.Ythgfbnopbfiifaa
open Go Go.MapKept Go.RowKit Go.Proofs Go.Maps Go.Sort Go.Shelf

theorem keys_key (mb : Option Nat) (w : World) : Calls Try.prog 36 #[.map mb] w fun e w' => e = .returned (.func (.func 41) #[] #[.pointer (some ⟨w.heap.size, 0, none⟩)]) ∧ w' = w.alloc (.cells #[.map mb] (Try.keysA_ren.t 23)) :=
  callsIn_wide.1 (AnyZI.keys_in Try.keysA Fence.wide 5 trivial rfl mb w)
theorem sorts_key (m : Nat) : AnyZI.SortsIn Try.prog Try.sortedA_ren Fence.wide m :=
  ⟨fun blk off cap ss W hH hblk hsz => callsIn_wide.2 (AnyM.slices_Sort_int Try.sortA blk off cap ss W hH hblk hsz),
   fun p cap W => callsIn_wide.2 (AnyM.slices_Sort_int_none Try.sortA p cap W)⟩
theorem sorted_key {V : Type} {ve : V → Value} {es : Array MapEntry} {clk : Nat} {D : List (Int × V)} (hm : MapOk (.int .i64) kI ve es clk D) (Bm b : Nat) (w : World) (hBm : w.cell? ⟨Bm, 0, none⟩ = some (.map (some b))) (hb : w.heap[b]? = some (.map es clk))
    (hr : ∀ p ∈ D, -9223372036854775808 ≤ p.1 ∧ p.1 ≤ 9223372036854775807) (hl : D.length ≤ 1000000) :
    Calls Try.prog 35 #[.func (.func 41) #[] #[.pointer (some ⟨Bm, 0, none⟩)]] w fun e w' => ∃ v h, e = .returned v ∧ SliceIs 3 1 v D.length ((sortK (D.map (·.1))).map kI) h ∧ (∀ F, Sat w F → Sat w' (h ++ F)) ∧ Below w.heap.size w w' := by
  obtain ⟨D0, hown, hp, hsz⟩ := owns_of_mapOk (P := Try.prog) (k := 3) Try.underlying3 hm hb hr (by unfold maxLen; omega)
  have hlt : Bm < w.heap.size := World.block_lt_of_cell? w ⟨Bm, 0, none⟩ hBm
  have hseq : SeqGives Fence.wide 2 Try.prog 41 #[.pointer (some ⟨Bm, 0, none⟩)] encZ (fun ss => ss.Perm (intKeys D0)) (Maps.size D0) w :=
    AnyZI.keys_gives (ρ := Try.keysA_ren) { Try.keysA with } Fence.wide _ trivial rfl (by omega) Bm b D.length D0 w hlt hBm hown
  have cS := AnyZI.sorted_in Try.sortedA Fence.wide 5 trivial trivial trivial trivial rfl (by omega) (sorts_key _) (enters_of Try.func29 (by kernel_rfl) rfl) 41 #[.pointer (some ⟨Bm, 0, none⟩)] trivial (enters_of Try.func41 (by kernel_rfl) rfl) _ _ (by rw [hsz]; unfold maxLen; omega) (by rw [hsz]; omega) _ hseq
  change CallsIn _ _ Try.prog 35 _ _ _ at cS
  refine (callsIn_wide.1 cS).mono ?_
  rintro e w' ⟨v, ss, rfl, hS, hrow, hnil, hbel⟩
  have hs2 : ss.Perm (D.map (·.1)) := hS.trans hp
  have hlen : ss.length = D.length := by rw [hs2.length_eq, List.length_map]
  have he : ss.mergeSort (fun x y => decide (x ≤ y)) = sortK (D.map (·.1)) := sortK_of_perm hs2
  rw [hlen, he] at hrow
  obtain ⟨h1, h2⟩ := hrow
  rcases h2 with ⟨rfl, h2⟩ | ⟨g, cap, cur, rfl, hbase, hg, r1, r2, r3, r4⟩
  · exact ⟨_, [], rfl, ⟨h1, .inl ⟨rfl, h2, rfl⟩⟩, fun F hF => hF.monoB hbel, hbel⟩
  · refine ⟨_, [.blk g (.cells cur 3)], rfl, ⟨h1, .inr ⟨g, cap, cur, rfl, r1, r2, r3, r4, rfl⟩⟩, fun F hF => ?_, hbel⟩
    have h3 := hF.monoB hbel
    refine ⟨fun x hx => ?_, ?_⟩
    · rcases List.mem_append.1 hx with hx | hx
      · obtain rfl : x = .blk g (.cells cur 3) := by simpa using hx
        exact hg
      · exact h3.1 x hx
    · simp only [List.cons_append, List.nil_append, HItem.no, List.filterMap_cons]
      rw [List.nodup_cons]
      refine ⟨fun hm => ?_, h3.2⟩
      obtain ⟨x, hx, e⟩ := List.mem_filterMap.1 hm
      cases x with
      | blk c o =>
        have hc := hF.lt hx
        simp only [HItem.no, Option.some.injEq] at e
        omega
      | env w0 => simp [HItem.no] at e
end Go.Proofs.Ythgfbnopbfiifaa
