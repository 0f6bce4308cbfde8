/- Names compared: compare, Less walked. Conditions: none. -/
import Derived.Test.YtceegnfjdgjomaaPa2
namespace Go.Proofs.Ytceegnfjdgjomaa
open Go Go.MapKept Go.RowKit Go.Proofs Go.Sort

theorem or3_new (a b c : Int) (W : World) (g : Nat) (hg : g = W.heap.size) :
    Calls Try.prog 36 #[.slice (some ⟨g, 0, none⟩) 3 3] (W.alloc (.cells #[kI a, kI b, kI c] 3)) (Ret (.int .i64 (or3 a b c)) (Same (W.alloc (.cells #[kI a, kI b, kI c] 3)))) := by
  subst hg
  have hs := (sat_all W).new (.cells #[kI a, kI b, kI c] 3)
  exact or3_any _ a b c 3 3 rfl _ (by rw [cell_of hs.h0]; rfl) (by rw [cell_of hs.h0]; rfl) (by rw [cell_of hs.h0]; rfl)
theorem or3_newD (a b c : Int) (W : World) (g : Nat) (hg : g = W.heap.size) :
    Calls Try.prog 36 #[.slice (some ⟨g, 0, none⟩) 3 3] (W.alloc (.cells #[kI a, kI b, kI c] 3)).drew (Ret (.int .i64 (or3 a b c)) (Same (W.alloc (.cells #[kI a, kI b, kI c] 3)).drew)) := by
  subst hg
  have hs := ((sat_all W).new (.cells #[kI a, kI b, kI c] 3)).drew
  exact or3_any _ a b c 3 3 rfl _ (by rw [cell_of hs.h0]; rfl) (by rw [cell_of hs.h0]; rfl) (by rw [cell_of hs.h0]; rfl)
set_option maxRecDepth 100000 in
set_option maxHeartbeats 1600000 in
theorem compare_any (a b : Tx) (w : World) : Calls Try.prog 20 #[tV a, tV b] w (Pur (.int .i64 (cmpT a b)) w) := by
  have e0 : cmpT a b = or3 (cmpI a.c b.c) (cmpI a.e b.e) (cmpI a.n b.n) := rfl
  rw [e0]
  clear e0
  unfold Pur
  have hs := ((sat_all w).new (.cells #[kI a.c, kI a.e, kI a.n] 23)).new (.cells #[kI b.c, kI b.e, kI b.n] 23)
  rw [World.size_alloc] at hs
  have HB : Hid (Grown w ((w.alloc (.cells #[kI a.c, kI a.e, kI a.n] 23)).alloc (.cells #[kI b.c, kI b.e, kI b.n] 23))) := Lib.hid ((Grown.alloc w _).trans (Grown.alloc _ _))
  have HS := Lib.hid hs
  go_enter Try.func20, Try.ntmps20
  go_upto_region 1 with (fail)
  have a0 : ((w.alloc (.cells #[kI a.c, kI a.e, kI a.n] 23)).alloc (.cells #[kI b.c, kI b.e, kI b.n] 23)).cell? ⟨w.heap.size, 0, none⟩ = some (kI a.c) := by rw [cell_of hs.h1]; rfl
  have a1 : ((w.alloc (.cells #[kI a.c, kI a.e, kI a.n] 23)).alloc (.cells #[kI b.c, kI b.e, kI b.n] 23)).cell? ⟨w.heap.size, 1, none⟩ = some (kI a.e) := by rw [cell_of hs.h1]; rfl
  have a2 : ((w.alloc (.cells #[kI a.c, kI a.e, kI a.n] 23)).alloc (.cells #[kI b.c, kI b.e, kI b.n] 23)).cell? ⟨w.heap.size, 2, none⟩ = some (kI a.n) := by rw [cell_of hs.h1]; rfl
  have b0 : ((w.alloc (.cells #[kI a.c, kI a.e, kI a.n] 23)).alloc (.cells #[kI b.c, kI b.e, kI b.n] 23)).cell? ⟨w.heap.size + 1, 0, none⟩ = some (kI b.c) := by rw [cell_of hs.h0]; rfl
  have b1 : ((w.alloc (.cells #[kI a.c, kI a.e, kI a.n] 23)).alloc (.cells #[kI b.c, kI b.e, kI b.n] 23)).cell? ⟨w.heap.size + 1, 1, none⟩ = some (kI b.e) := by rw [cell_of hs.h0]; rfl
  have b2 : ((w.alloc (.cells #[kI a.c, kI a.e, kI a.n] 23)).alloc (.cells #[kI b.c, kI b.e, kI b.n] 23)).cell? ⟨w.heap.size + 1, 2, none⟩ = some (kI b.n) := by rw [cell_of hs.h0]; rfl
  clear hs
  generalize (w.alloc (.cells #[kI a.c, kI a.e, kI a.n] 23)).alloc (.cells #[kI b.c, kI b.e, kI b.n] 23) = W2 at *
  generalize w.heap.size = g at *
  go_region_held3 (fun w' => w'.cell? ⟨g, 0, none⟩ = some (kI a.c) ∧ w'.cell? ⟨g, 1, none⟩ = some (kI a.e) ∧ w'.cell? ⟨g, 2, none⟩ = some (kI a.n) ∧ w'.cell? ⟨g + 1, 0, none⟩ = some (kI b.c) ∧ w'.cell? ⟨g + 1, 1, none⟩ = some (kI b.e) ∧ w'.cell? ⟨g + 1, 2, none⟩ = some (kI b.n))
    (first | exact ⟨a0, a1, a2, b0, b1, b2⟩ | (refine ⟨?_, ?_, ?_, ?_, ?_, ?_⟩ <;> (first | assumption | (simp [World.cell?_alloc_some, *]; done))))
    (first | (go_at_call 37; refine (compare_int _ _ _).mono ?_; rintro e w' ⟨rfl, rfl⟩) | (go_at_call 36; refine (or3_newD _ _ _ _ _ rfl).mono ?_; rintro e w' ⟨rfl, rfl⟩))
  go_wp2_with fail
  go_ret
  exact ⟨rfl, (HB.out.trans (Grown.alloc _ _)).trans (Grown.drew _)⟩
theorem less_any (a b : Tx) (w : World) : Calls Try.prog 9 #[tV a, tV b] w (Pur (.bool (decide (cmpT a b < 0))) w) := by
  unfold Pur
  have HC := Lib.hid (fun W => compare_any a b W)
  generalize cmpT a b = r at *
  have HB : Hid (Grown w ((w.alloc (.cells #[kI a.c, kI a.e, kI a.n] 23)).alloc (.cells #[kI b.c, kI b.e, kI b.n] 23))) := Lib.hid ((Grown.alloc w _).trans (Grown.alloc _ _))
  go_enter Try.func9, Try.ntmps9
  go_wp2_with fail
  refine (HC.out _).mono ?_
  rintro e w' ⟨rfl, hg⟩
  have HG := Lib.hid hg
  clear hg HC
  go_wp2_with fail
  go_ret
  exact ⟨rfl, HB.out.trans HG.out⟩
end Go.Proofs.Ytceegnfjdgjomaa
