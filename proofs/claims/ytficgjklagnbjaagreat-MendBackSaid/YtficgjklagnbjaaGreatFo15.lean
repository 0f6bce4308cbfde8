/- Texts put together: LayK, Pa11, SortK17, Pa12. Conditions: none. -/
import Derived.Ground.GgzProg
import Derived.Shelf.SlIterI.Nil
import Derived.Ground.SlgmProg
import Derived.Shelf.SortM.Plain
import Derived.Shelf.SortM.SortNone
import Derived.Ground.SlsfProg
import Derived.Shelf.SlSortCmp.WholeK
import Derived.Test.YtficgjklagnbjaaGreatProg
import Derived.Shelf.SlSortCmp.NoneTotal
import Derived.ProofKit
import Derived.Lib.Hide
import Derived.Test.YtficgjklagnbjaaGreatFo2
import Derived.Test.YtficgjklagnbjaaGreatFo10
import Derived.Test.YtficgjklagnbjaaGreatFo14
namespace Go.Proofs
open Go.Shelf
def Tryz.keysA_ren : Go.Shelf.Ren := ⟨fun | 7 => 59 | 10 => 87 | n => n, fun | 23 => 119 | 26 => 3 | 3 => 3 | 28 => 129 | 0 => 0 | 27 => 128 | 33 => 111 | 4 => 4 | n => n, fun | n => n⟩
theorem Tryz.keysA : Go.Proofs.SlLaysZI.n7 Tryz.prog Tryz.keysA_ren := {
  mixed := by kernel_rfl
  f7 := ⟨Tryz.f59.name, by decide, Tryz.func59.trans (congrArg some (by kernel_rfl))⟩
  f10 := ⟨Tryz.f87.name, by decide, Tryz.func87.trans (congrArg some (by kernel_rfl))⟩
  t0 := Tryz.underlying0
  a0 := Tryz.isAgg0
  z0 := Tryz.sizeOf0
  v0 := Tryz.zeroValue0
  t4 := Tryz.underlying4
  a4 := Tryz.isAgg4
  z4 := Tryz.sizeOf4
  v4 := Tryz.zeroValue4
  t23 := Tryz.underlying119
  a23 := Tryz.isAgg119
  z23 := Tryz.sizeOf119
  v23 := Tryz.zeroValue119
  t26 := Tryz.underlying3
  a26 := Tryz.isAgg3
  z26 := Tryz.sizeOf3
  v26 := Tryz.zeroValue3
  t27 := Tryz.underlying128
  a27 := Tryz.isAgg128
  z27 := Tryz.sizeOf128
  v27 := Tryz.zeroValue128
  t28 := Tryz.underlying129
  a28 := Tryz.isAgg129
  z28 := Tryz.sizeOf129
  v28 := Tryz.zeroValue129
  t33 := Tryz.underlying111
  a33 := Tryz.isAgg111
  z33 := Tryz.sizeOf111
  v33 := Tryz.zeroValue111 }
def Tryz.sortedA_ren : Go.Shelf.Ren := ⟨fun | 6 => 58 | 8 => 85 | 9 => 86 | 11 => 97 | 13 => 96 | 12 => 98 | 23 => 108 | 24 => 109 | 14 => 110 | 15 => 111 | 16 => 112 | 17 => 113 | 18 => 114 | 19 => 115 | 20 => 116 | 21 => 117 | 22 => 118 | 25 => 125 | 26 => 121 | 27 => 122 | 28 => 126 | 29 => 127 | 30 => 76 | 31 => 129 | n => n, fun | 26 => 3 | 28 => 129 | 24 => 60 | 0 => 0 | 3 => 3 | 37 => 28 | 48 => 170 | 50 => 172 | 4 => 4 | 40 => 164 | 39 => 163 | 45 => 121 | 5 => 5 | 9 => 9 | 51 => 179 | 55 => 183 | 57 => 187 | 58 => 188 | 33 => 111 | n => n, fun | n => n⟩
theorem Tryz.sortedA : Go.Proofs.SlLaysZI.n6 Tryz.prog Tryz.sortedA_ren := {
  mixed := by kernel_rfl
  f6 := ⟨Tryz.f58.name, by decide, Tryz.func58.trans (congrArg some (by kernel_rfl))⟩
  f8 := ⟨Tryz.f85.name, by decide, Tryz.func85.trans (congrArg some (by kernel_rfl))⟩
  f11 := ⟨Tryz.f97.name, by decide, Tryz.func97.trans (congrArg some (by kernel_rfl))⟩
  t0 := Tryz.underlying0
  a0 := Tryz.isAgg0
  z0 := Tryz.sizeOf0
  v0 := Tryz.zeroValue0
  t24 := Tryz.underlying60
  a24 := Tryz.isAgg60
  z24 := Tryz.sizeOf60
  v24 := Tryz.zeroValue60
  t26 := Tryz.underlying3
  a26 := Tryz.isAgg3
  z26 := Tryz.sizeOf3
  v26 := Tryz.zeroValue3
  t28 := Tryz.underlying129
  a28 := Tryz.isAgg129
  z28 := Tryz.sizeOf129
  v28 := Tryz.zeroValue129
  i26 := by kernel_rfl }
def Tryz.sortA_ren : Go.Shelf.Ren := ⟨fun | 5 => 86 | 8 => 96 | 7 => 98 | 19 => 108 | 20 => 109 | 10 => 110 | 11 => 111 | 12 => 112 | 13 => 113 | 14 => 114 | 15 => 115 | 16 => 116 | 17 => 117 | 18 => 118 | 30 => 125 | 31 => 121 | 32 => 122 | 33 => 126 | 34 => 127 | 35 => 76 | 40 => 129 | n => n, fun | 23 => 60 | 25 => 3 | 3 => 3 | 32 => 28 | 22 => 60 | 0 => 0 | 44 => 170 | 46 => 172 | 4 => 4 | 36 => 164 | 35 => 163 | 41 => 121 | 5 => 5 | 9 => 9 | 53 => 179 | 57 => 183 | 63 => 187 | 64 => 188 | n => n, fun | n => n⟩
theorem Tryz.sortA : Go.Proofs.SlLaysM.n5 Tryz.prog Tryz.sortA_ren := {
  mixed := by kernel_rfl
  f5 := ⟨Tryz.f86.name, by decide, Tryz.func86.trans (congrArg some (by kernel_rfl))⟩
  f7 := ⟨Tryz.f98.name, by decide, Tryz.func98.trans (congrArg some (by kernel_rfl))⟩
  f8 := Tryz.func96.trans (congrArg some (by kernel_rfl))
  f10 := ⟨Tryz.f110.name, by decide, Tryz.func110.trans (congrArg some (by kernel_rfl))⟩
  f11 := ⟨Tryz.f111.name, by decide, Tryz.func111.trans (congrArg some (by kernel_rfl))⟩
  f12 := ⟨Tryz.f112.name, by decide, Tryz.func112.trans (congrArg some (by kernel_rfl))⟩
  f13 := ⟨Tryz.f113.name, by decide, Tryz.func113.trans (congrArg some (by kernel_rfl))⟩
  f14 := ⟨Tryz.f114.name, by decide, Tryz.func114.trans (congrArg some (by kernel_rfl))⟩
  f15 := ⟨Tryz.f115.name, by decide, Tryz.func115.trans (congrArg some (by kernel_rfl))⟩
  f16 := ⟨Tryz.f116.name, by decide, Tryz.func116.trans (congrArg some (by kernel_rfl))⟩
  f17 := ⟨Tryz.f117.name, by decide, Tryz.func117.trans (congrArg some (by kernel_rfl))⟩
  f18 := ⟨Tryz.f118.name, by decide, Tryz.func118.trans (congrArg some (by kernel_rfl))⟩
  f19 := Tryz.func108.trans (congrArg some (by kernel_rfl))
  f20 := Tryz.func109.trans (congrArg some (by kernel_rfl))
  f30 := ⟨Tryz.f125.name, by decide, Tryz.func125.trans (congrArg some (by kernel_rfl))⟩
  f31 := Tryz.func121.trans (congrArg some (by kernel_rfl))
  f32 := Tryz.func122.trans (congrArg some (by kernel_rfl))
  f33 := ⟨Tryz.f126.name, by decide, Tryz.func126.trans (congrArg some (by kernel_rfl))⟩
  f34 := ⟨Tryz.f127.name, by decide, Tryz.func127.trans (congrArg some (by kernel_rfl))⟩
  f35 := ⟨Tryz.f76.name, by decide, Tryz.func76.trans (congrArg some (by kernel_rfl))⟩
  f40 := ⟨Tryz.f129.name, by decide, Tryz.func129.trans (congrArg some (by kernel_rfl))⟩
  t0 := Tryz.underlying0
  a0 := Tryz.isAgg0
  z0 := Tryz.sizeOf0
  v0 := Tryz.zeroValue0
  t3 := Tryz.underlying3
  a3 := Tryz.isAgg3
  z3 := Tryz.sizeOf3
  v3 := Tryz.zeroValue3
  t4 := Tryz.underlying4
  a4 := Tryz.isAgg4
  z4 := Tryz.sizeOf4
  v4 := Tryz.zeroValue4
  t5 := Tryz.underlying5
  a5 := Tryz.isAgg5
  z5 := Tryz.sizeOf5
  v5 := Tryz.zeroValue5
  t9 := Tryz.underlying9
  a9 := Tryz.isAgg9
  z9 := Tryz.sizeOf9
  v9 := Tryz.zeroValue9
  t22 := Tryz.underlying60
  a22 := Tryz.isAgg60
  z22 := Tryz.sizeOf60
  v22 := Tryz.zeroValue60
  t23 := Tryz.underlying60
  a23 := Tryz.isAgg60
  z23 := Tryz.sizeOf60
  v23 := Tryz.zeroValue60
  t25 := Tryz.underlying3
  a25 := Tryz.isAgg3
  z25 := Tryz.sizeOf3
  v25 := Tryz.zeroValue3
  t32 := Tryz.underlying28
  a32 := Tryz.isAgg28
  z32 := Tryz.sizeOf28
  v32 := Tryz.zeroValue28
  t35 := Tryz.underlying163
  a35 := Tryz.isAgg163
  z35 := Tryz.sizeOf163
  v35 := Tryz.zeroValue163
  t36 := Tryz.underlying164
  a36 := Tryz.isAgg164
  z36 := Tryz.sizeOf164
  v36 := Tryz.zeroValue164
  t41 := Tryz.underlying121
  a41 := Tryz.isAgg121
  z41 := Tryz.sizeOf121
  v41 := Tryz.zeroValue121
  t44 := Tryz.underlying170
  a44 := Tryz.isAgg170
  z44 := Tryz.sizeOf170
  v44 := Tryz.zeroValue170
  t46 := Tryz.underlying172
  a46 := Tryz.isAgg172
  z46 := Tryz.sizeOf172
  v46 := Tryz.zeroValue172
  t53 := Tryz.underlying179
  a53 := Tryz.isAgg179
  z53 := Tryz.sizeOf179
  v53 := Tryz.zeroValue179
  t57 := Tryz.underlying183
  a57 := Tryz.isAgg183
  z57 := Tryz.sizeOf183
  v57 := Tryz.zeroValue183
  t63 := Tryz.underlying187
  a63 := Tryz.isAgg187
  z63 := Tryz.sizeOf187
  v63 := Tryz.zeroValue187
  t64 := Tryz.underlying188
  a64 := Tryz.isAgg188
  z64 := Tryz.sizeOf188
  v64 := Tryz.zeroValue188 }
def Tryz.sortF_ren : Go.Shelf.Ren := ⟨fun | 6 => 82 | 15 => 96 | 14 => 95 | 28 => 108 | 29 => 109 | 20 => 100 | 21 => 101 | 22 => 102 | 23 => 103 | 24 => 104 | 25 => 105 | 26 => 106 | 27 => 107 | 46 => 120 | 47 => 121 | 48 => 122 | 49 => 123 | 50 => 124 | 57 => 128 | n => n, fun | 22 => 90 | 24 => 56 | 25 => 126 | 3 => 3 | 39 => 28 | 0 => 0 | 53 => 170 | 55 => 172 | 4 => 4 | 46 => 164 | 45 => 163 | 50 => 121 | 5 => 5 | 9 => 9 | 66 => 179 | 70 => 183 | 76 => 187 | 77 => 188 | n => n, fun | n => n⟩
theorem Tryz.sortF : Go.Proofs.SlLaysF0.n6 Tryz.prog Tryz.sortF_ren := {
  mixed := by kernel_rfl
  f6 := ⟨Tryz.f82.name, by decide, Tryz.func82.trans (congrArg some (by kernel_rfl))⟩
  f14 := ⟨Tryz.f95.name, by decide, Tryz.func95.trans (congrArg some (by kernel_rfl))⟩
  f15 := Tryz.func96.trans (congrArg some (by kernel_rfl))
  f20 := ⟨Tryz.f100.name, by decide, Tryz.func100.trans (congrArg some (by kernel_rfl))⟩
  f21 := ⟨Tryz.f101.name, by decide, Tryz.func101.trans (congrArg some (by kernel_rfl))⟩
  f22 := ⟨Tryz.f102.name, by decide, Tryz.func102.trans (congrArg some (by kernel_rfl))⟩
  f23 := ⟨Tryz.f103.name, by decide, Tryz.func103.trans (congrArg some (by kernel_rfl))⟩
  f24 := ⟨Tryz.f104.name, by decide, Tryz.func104.trans (congrArg some (by kernel_rfl))⟩
  f25 := ⟨Tryz.f105.name, by decide, Tryz.func105.trans (congrArg some (by kernel_rfl))⟩
  f26 := ⟨Tryz.f106.name, by decide, Tryz.func106.trans (congrArg some (by kernel_rfl))⟩
  f27 := ⟨Tryz.f107.name, by decide, Tryz.func107.trans (congrArg some (by kernel_rfl))⟩
  f28 := Tryz.func108.trans (congrArg some (by kernel_rfl))
  f29 := Tryz.func109.trans (congrArg some (by kernel_rfl))
  f46 := ⟨Tryz.f120.name, by decide, Tryz.func120.trans (congrArg some (by kernel_rfl))⟩
  f47 := Tryz.func121.trans (congrArg some (by kernel_rfl))
  f48 := Tryz.func122.trans (congrArg some (by kernel_rfl))
  f49 := ⟨Tryz.f123.name, by decide, Tryz.func123.trans (congrArg some (by kernel_rfl))⟩
  f50 := ⟨Tryz.f124.name, by decide, Tryz.func124.trans (congrArg some (by kernel_rfl))⟩
  f57 := ⟨Tryz.f128.name, by decide, Tryz.func128.trans (congrArg some (by kernel_rfl))⟩
  t0 := Tryz.underlying0
  a0 := Tryz.isAgg0
  z0 := Tryz.sizeOf0
  v0 := Tryz.zeroValue0
  t3 := Tryz.underlying3
  a3 := Tryz.isAgg3
  z3 := Tryz.sizeOf3
  v3 := Tryz.zeroValue3
  t4 := Tryz.underlying4
  a4 := Tryz.isAgg4
  z4 := Tryz.sizeOf4
  v4 := Tryz.zeroValue4
  t5 := Tryz.underlying5
  a5 := Tryz.isAgg5
  z5 := Tryz.sizeOf5
  v5 := Tryz.zeroValue5
  t9 := Tryz.underlying9
  a9 := Tryz.isAgg9
  z9 := Tryz.sizeOf9
  v9 := Tryz.zeroValue9
  t22 := Tryz.underlying90
  a22 := Tryz.isAgg90
  z22 := Tryz.sizeOf90
  v22 := Tryz.zeroValue90
  t25 := Tryz.underlying126
  a25 := Tryz.isAgg126
  z25 := Tryz.sizeOf126
  v25 := Tryz.zeroValue126
  t39 := Tryz.underlying28
  a39 := Tryz.isAgg28
  z39 := Tryz.sizeOf28
  v39 := Tryz.zeroValue28
  t45 := Tryz.underlying163
  a45 := Tryz.isAgg163
  z45 := Tryz.sizeOf163
  v45 := Tryz.zeroValue163
  t46 := Tryz.underlying164
  a46 := Tryz.isAgg164
  z46 := Tryz.sizeOf164
  v46 := Tryz.zeroValue164
  t50 := Tryz.underlying121
  a50 := Tryz.isAgg121
  z50 := Tryz.sizeOf121
  v50 := Tryz.zeroValue121
  t53 := Tryz.underlying170
  a53 := Tryz.isAgg170
  z53 := Tryz.sizeOf170
  v53 := Tryz.zeroValue170
  t55 := Tryz.underlying172
  a55 := Tryz.isAgg172
  z55 := Tryz.sizeOf172
  v55 := Tryz.zeroValue172
  t66 := Tryz.underlying179
  a66 := Tryz.isAgg179
  z66 := Tryz.sizeOf179
  v66 := Tryz.zeroValue179
  t70 := Tryz.underlying183
  a70 := Tryz.isAgg183
  z70 := Tryz.sizeOf183
  v70 := Tryz.zeroValue183
  t76 := Tryz.underlying187
  a76 := Tryz.isAgg187
  z76 := Tryz.sizeOf187
  v76 := Tryz.zeroValue187
  t77 := Tryz.underlying188
  a77 := Tryz.isAgg188
  z77 := Tryz.sizeOf188
  v77 := Tryz.zeroValue188 }
end Go.Proofs
namespace Go.Proofs.YtficgjklagnbjaaGreat
open Go Go.MapKept Go.RowKit Go.Proofs Go.Sort Go.Shelf

instance : Inhabited Tx := ⟨⟨0, 0, 0⟩⟩
/-- One name ahead of another. -/
def LtT (a b : Tx) : Prop := a.c < b.c ∨ (a.c = b.c ∧ (a.e < b.e ∨ (a.e = b.e ∧ a.n < b.n)))
theorem cmpT_neg (a b : Tx) : cmpT a b < 0 ↔ LtT a b := by
  obtain ⟨a1, a2, a3⟩ := a
  obtain ⟨b1, b2, b3⟩ := b
  unfold cmpT cmpI LtT
  simp only
  by_cases h1 : a1 < b1
  · simp [h1]
  · by_cases h2 : b1 < a1
    · simp [h1, h2]; omega
    · have e1 : a1 = b1 := by omega
      subst e1
      by_cases h3 : a2 < b2
      · simp [h3]
      · by_cases h4 : b2 < a2
        · simp [h3, h4]; omega
        · have e2 : a2 = b2 := by omega
          subst e2
          by_cases h5 : a3 < b3
          · simp [h5]
          · by_cases h6 : b3 < a3
            · simp [h5, h6]
            · simp [h5, h6]
theorem ltT_irr (a : Tx) : ¬ LtT a a := by unfold LtT; omega
theorem ltT_trans {a b c : Tx} (h : LtT a b) (k : LtT b c) : LtT a c := by unfold LtT at *; omega
theorem ltT_asymm {a b : Tx} (h : LtT a b) : ¬ LtT b a := fun k => ltT_irr a (ltT_trans h k)
theorem tx_ext {a b : Tx} (h1 : a.c = b.c) (h2 : a.e = b.e) (h3 : a.n = b.n) : a = b := by
  cases a; cases b; simp_all
theorem ltT_tri {a b : Tx} (h : ¬ LtT a b) (k : ¬ LtT b a) : a = b := by
  unfold LtT at *
  exact tx_ext (by omega) (by omega) (by omega)
theorem ltT_ntrans {a b c : Tx} (h : ¬ LtT a b) (k : ¬ LtT b c) : ¬ LtT a c := by unfold LtT at *; omega
theorem ltOf_dec (a b : Tx) : ltOf cmpT a b = true ↔ LtT a b := by unfold ltOf; rw [decide_eq_true_iff]; exact cmpT_neg a b
theorem ltOf_no (a b : Tx) : ltOf cmpT a b = false ↔ ¬ LtT a b := by
  rw [← ltOf_dec]; simp
theorem swoT : SWO (ltOf cmpT) where
  irrefl x := (ltOf_no x x).2 (ltT_irr x)
  trans x y z h k := (ltOf_dec x z).2 (ltT_trans ((ltOf_dec x y).1 h) ((ltOf_dec y z).1 k))
  ntrans x y z h k := (ltOf_no x z).2 (ltT_ntrans ((ltOf_no x y).1 h) ((ltOf_no y z).1 k))
/-- Names, rising. -/
def sortT (l : List Tx) : List Tx := l.mergeSort fun x y => !(ltOf cmpT) y x
theorem sortT_perm (l : List Tx) : (sortT l).Perm l := List.mergeSort_perm _ _
theorem sortT_sorted (l : List Tx) : (sortT l).Pairwise (fun x y => ¬ LtT y x) := by
  have := List.pairwise_mergeSort (le := fun x y : Tx => !(ltOf cmpT) y x) (fun a b c h1 h2 => by
    simp only [Bool.not_eq_true'] at *
    exact (ltOf_no _ _).2 (ltT_ntrans ((ltOf_no _ _).1 h2) ((ltOf_no _ _).1 h1))) (fun a b => by
    simp only [Bool.or_eq_true, Bool.not_eq_true']
    by_cases h : LtT b a
    · exact .inr ((ltOf_no _ _).2 (ltT_asymm h))
    · exact .inl ((ltOf_no _ _).2 h)) l
  exact this.imp (fun h => by simp only [Bool.not_eq_true'] at h; exact (ltOf_no _ _).1 h)
theorem sortT_of_perm {l l' : List Tx} (h : l.Perm l') : sortT l = sortT l' := by
  have h2 : (sortT l).Perm (sortT l') := ((sortT_perm l).trans h).trans (sortT_perm l').symm
  exact List.Perm.eq_of_pairwise (le := fun x y => ¬ LtT y x) (fun a b _ _ h1 h2 => ltT_tri h2 h1) (sortT_sorted l) (sortT_sorted l') h2
theorem flat_get (R : List Tx) (j : Nat) (hj : j < R.length * 3) : (R.flatMap tC)[j]? = some ((flatK tC 3 R.toArray)[j]!) := by
  rw [get_flatK _ _ _ _ (by simpa using hj)]
  have hi : j / 3 < R.length := by omega
  have hm : j % 3 < (tC R[j / 3]).length := by show j % 3 < 3; omega
  have := fm_get tC_len R (j / 3) (j % 3) _ _ (List.getElem?_eq_getElem hi) (List.getElem?_eq_getElem hm)
  rw [Nat.div_add_mod'] at this
  rw [this]
  have e : R.toArray[j / 3]! = R[j / 3] := by simp [hi]
  rw [e]
  congr 1
  exact (getElem!_pos (tC R[j / 3]) (j % 3) hm).symm
theorem holds_tx {w : World} {g : Nat} {R : List Tx} {cap : Nat} {h F : Heaplet} (hv : TSl (.slice (some ⟨g, 0, none⟩) R.length cap) R h) (s : Sat w (h ++ F)) : HoldsK tC 3 w g 0 R.toArray := by
  intro j hj
  have hj' : j < R.length * 3 := by simpa using hj
  have hc := (SliceIs.cell hv s rfl (flat_get R j hj')).2.2
  refine ⟨by rw [Nat.zero_add]; exact hc, ?_⟩
  rcases hv.2 with ⟨e, _⟩ | ⟨g', cap', cur, e, _, _, _, _, rfl⟩
  · cases e
  · cases e
    exact unfrozen_of s.h0 _
/-- Behind the sort. -/
theorem sat_sorted {w : World} {g : Nat} {R R' : List Tx} {cap n : Nat} {os : Array Obj} {h F : Heaplet} (hv : TSl (.slice (some ⟨g, 0, none⟩) R.length cap) R h) (s : Sat w (h ++ F)) (hl : R'.length = R.length) :
    ∃ h', TSl (.slice (some ⟨g, 0, none⟩) R.length cap) R' h' ∧ Sat (sortWorldK tC 3 w g 0 n R'.toArray os) (h' ++ F) := by
  rcases hv.2 with ⟨e, _⟩ | ⟨g', cap', cur, e, hnc, hcm, hcs, htake, rfl⟩
  · cases e
  · cases e
    refine ⟨[.blk g (.cells (putCells id 0 (flatK tC 3 R'.toArray) cur) 56)], ?_, ?_⟩
    · refine ⟨fm_len tC_len R', .inr ⟨g, cap, _, by rw [hl], by rw [hl]; exact hnc, hcm, by simp [putCells, hcs], ?_, rfl⟩⟩
      apply List.ext_getElem?
      intro j
      by_cases hj : j < R'.length * 3
      · rw [List.getElem?_take_of_lt hj, flat_get R' j hj]
        have hc : j < cur.size := by
          rw [hcs]
          have := Nat.mul_le_mul_right 3 hnc
          rw [hl] at hj
          omega
        rw [Array.getElem?_toList]
        simp only [putCells, Array.getElem?_mapIdx, Array.getElem?_eq_getElem hc, Option.map_some, size_flatK, List.size_toArray]
        rw [if_pos ⟨by omega, by omega⟩]
        rfl
      · rw [List.getElem?_eq_none (by rw [List.length_take]; omega), List.getElem?_eq_none (by rw [fm_len tC_len]; omega)]
    · have hlt : g < w.heap.size := s.lt (.head _)
      have h1 : Sat (putRowK tC 3 (Sort.ahead w n) g 0 R'.toArray) (.blk g (.cells (putCells id 0 (flatK tC 3 R'.toArray) cur) 56) :: F) := by
        refine Sat.set (w := w) s _ ?_ ⟨rfl, rfl, rfl⟩
        apply Array.ext_getElem?
        intro j
        simp only [putRowK, putRow, mapBlock, Array.getElem?_modify, heap_ahead, Array.getElem?_setIfInBounds]
        by_cases e : g = j
        · subst e
          rw [s.h0]
          simp [hlt, onCells]
        · simp [e]
      have h2 : Grown (putRowK tC 3 (Sort.ahead w n) g 0 R'.toArray) (sortWorldK tC 3 w g 0 n R'.toArray os) := ⟨0, os, rfl⟩
      exact h1.grown h2
set_option maxRecDepth 100000 in
theorem collect_keys (Bm b : Nat) (es : Array MapEntry) (clk : Nat) (D : List (Tx × Int)) (w : World) (hBm : w.cell? ⟨Bm, 0, none⟩ = some (.map (some b))) (hb : w.heap[b]? = some (.map es clk)) (hm : MapOkS tV kI es clk D) (hl : D.length ≤ 100000) :
    Calls Tryz.prog 81 #[.func (.func 83) #[] #[.pointer (some ⟨Bm, 0, none⟩)]] w fun e w' =>
      ∃ v R h, e = .returned v ∧ R.Perm (D.map (·.1)) ∧ TSl v R h ∧ Sat w' (h ++ allOf w) := by
  have HA := Lib.hid (append_keys Bm b es clk D w hBm hb hm hl)
  clear hBm hb hm
  go_enter Tryz.func81, Tryz.ntmps81
  go_wp2_with fail
  refine HA.out.mono ?_
  rintro e w3 ⟨v, R, h, rfl, hp, hv, hs⟩
  have FIN := Lib.hid (And.intro hp (And.intro hv hs))
  clear hp hv hs
  go_wp2_with fail
  go_ret
  exact ⟨v, R, h, rfl, FIN.out.1, FIN.out.2.1, FIN.out.2.2⟩
set_option maxRecDepth 100000 in
theorem sorted_keysT (Bm b : Nat) (es : Array MapEntry) (clk : Nat) (D : List (Tx × Int)) (w : World) (hBm : w.cell? ⟨Bm, 0, none⟩ = some (.map (some b))) (hb : w.heap[b]? = some (.map es clk)) (hm : MapOkS tV kI es clk D) (hl : D.length ≤ 100000) :
    Calls Tryz.prog 55 #[.func (.func 83) #[] #[.pointer (some ⟨Bm, 0, none⟩)], .func (.func 57) #[] #[]] w fun e w' =>
      ∃ v h, e = .returned v ∧ TSl v (sortT (D.map (·.1))) h ∧ Sat w' (h ++ allOf w) := by
  have HA := Lib.hid (collect_keys Bm b es clk D w hBm hb hm hl)
  clear hBm hb hm
  go_enter Tryz.func55, Tryz.ntmps55
  go_wp2_with fail
  refine HA.out.mono ?_
  rintro e w3 ⟨v, R, h, rfl, hp, hv, hs⟩
  have hSR : sortT R = sortT (D.map (·.1)) := sortT_of_perm hp
  have hRl : R.length = D.length := by rw [hp.length_eq, List.length_map]
  have HSR := Lib.hid hSR
  by_cases h0 : R = []
  · subst h0
    obtain ⟨a, cap, rfl⟩ := sl_form hv
    have hnil : ∀ W, Calls Tryz.prog 82 #[.slice a 0 cap, .func (.func 57) #[] #[]] W fun e w' => e = .returned (.tuple #[]) ∧ w' = W := fun W => AnyF.slices_SortFunc_none Tryz.sortF a cap _ W
    have FIN : Hid (TSl (.slice a 0 cap) (sortT []) h ∧ Sat w3 (h ++ allOf w)) := Lib.hid ⟨by unfold sortT; rw [List.mergeSort_nil]; exact hv, hs⟩
    clear hp hs hv hSR hRl
    simp only [List.length_nil]
    go_wp2_with fail
    refine (hnil _).mono ?_
    rintro e w4 ⟨rfl, rfl⟩
    go_wp2_with fail
    go_ret
    exact ⟨_, h, rfl, by rw [← HSR.out]; exact FIN.out.1, FIN.out.2⟩
  · obtain ⟨g, cap, rfl⟩ := sl_some hv (List.length_pos_iff.2 h0)
    have hH := holds_tx hv hs
    have hgl : g < w3.heap.size := by
      rcases hv.2 with ⟨e, _⟩ | ⟨g', cap', cur, e, _, _, _, _, rfl⟩
      · cases e
      · cases e
        exact hs.lt (.head _)
    have hcon := AnyQ.slices_SortFunc_total (P := Tryz.prog) Tryz.sortF 3 Tryz.isAgg56 Tryz.sizeOf56 tC tC_len one_t cmpT swoT 57 #[] g 0 cap R.toArray w3 (enters_of Tryz.func57 (by kernel_rfl) rfl) (fun _ _ _ _ x y => compare_any x y _) hH hgl (by simp only [List.size_toArray]; omega) (fun x y h1 h2 => ltT_tri ((ltOf_no _ _).1 h1) ((ltOf_no _ _).1 h2))
    change Calls Tryz.prog 82 #[.slice (some ⟨g, 0, none⟩) R.length cap, _] _ _ at hcon
    have hfin : ∀ n os, ∃ h', TSl (.slice (some ⟨g, 0, none⟩) R.length cap) (sortT R) h' ∧ Sat (sortWorldK tC 3 w3 g 0 n (sortT R).toArray os) (h' ++ allOf w) := fun n os => sat_sorted hv hs (sortT_perm R).length_eq
    have HFIN := Lib.hid hfin
    have HCON := Lib.hid hcon
    clear hfin hcon hp hs hv hSR hRl hH
    go_wp2_with fail
    refine HCON.out.mono ?_
    rintro e w4 ⟨rfl, n, os, rfl⟩
    obtain ⟨h', h1, h2⟩ := HFIN.out n os
    have FIN := Lib.hid (And.intro h1 h2)
    clear h1 h2
    change Hid (_ ∧ Sat (sortWorldK tC 3 w3 g 0 n (R.mergeSort fun x y => !(ltOf cmpT) y x).toArray os) _) at FIN
    generalize sortWorldK tC 3 w3 g 0 n _ os = W4 at *
    go_wp2_with fail
    go_ret
    exact ⟨_, h', rfl, by rw [← HSR.out]; exact FIN.out.1, FIN.out.2⟩
end Go.Proofs.YtficgjklagnbjaaGreat
namespace Go.Proofs.YtficgjklagnbjaaGreat
open Go Go.MapKept Go.RowKit Go.Proofs Go.Maps Go.Sort Go.Shelf

theorem keys_past (mb : Option Nat) (w : World) : Calls Tryz.prog 59 #[.map mb] w fun e w' => e = .returned (.func (.func 87) #[] #[.pointer (some ⟨w.heap.size, 0, none⟩)]) ∧ w' = w.alloc (.cells #[.map mb] (Tryz.keysA_ren.t 23)) :=
  callsIn_wide.1 (AnyZI.keys_in Tryz.keysA Fence.wide 5 trivial rfl mb w)
theorem sorts_past (m : Nat) : AnyZI.SortsIn Tryz.prog Tryz.sortedA_ren Fence.wide m :=
  ⟨fun blk off cap ss W hH hblk hsz => callsIn_wide.2 (AnyM.slices_Sort_int Tryz.sortA blk off cap ss W hH hblk hsz),
   fun p cap W => callsIn_wide.2 (AnyM.slices_Sort_int_none Tryz.sortA p cap W)⟩
theorem sorted_past {V : Type} {ve : V → Value} {es : Array MapEntry} {clk : Nat} {D : List (Int × V)} (hm : MapOk (.int .i64) kI ve es clk D) (Bm b : Nat) (w : World) (hBm : w.cell? ⟨Bm, 0, none⟩ = some (.map (some b))) (hb : w.heap[b]? = some (.map es clk))
    (hr : ∀ p ∈ D, -9223372036854775808 ≤ p.1 ∧ p.1 ≤ 9223372036854775807) (hl : D.length ≤ 1000000) :
    Calls Tryz.prog 58 #[.func (.func 87) #[] #[.pointer (some ⟨Bm, 0, none⟩)]] w fun e w' => ∃ v h, e = .returned v ∧ SliceIs 3 1 v D.length ((sortK (D.map (·.1))).map kI) h ∧ (∀ F, Sat w F → Sat w' (h ++ F)) ∧ Below w.heap.size w w' := by
  obtain ⟨D0, hown, hp, hsz⟩ := owns_of_mapOk (P := Tryz.prog) (k := 3) Tryz.underlying3 hm hb hr (by unfold maxLen; omega)
  have hlt : Bm < w.heap.size := World.block_lt_of_cell? w ⟨Bm, 0, none⟩ hBm
  have hseq : SeqGives Fence.wide 2 Tryz.prog 87 #[.pointer (some ⟨Bm, 0, none⟩)] encZ (fun ss => ss.Perm (intKeys D0)) (Maps.size D0) w :=
    AnyZI.keys_gives (ρ := Tryz.keysA_ren) { Tryz.keysA with } Fence.wide _ trivial rfl (by omega) Bm b D.length D0 w hlt hBm hown
  have cS := AnyZI.sorted_in Tryz.sortedA Fence.wide 5 trivial trivial trivial trivial rfl (by omega) (sorts_past _) (enters_of Tryz.func86 (by kernel_rfl) rfl) 87 #[.pointer (some ⟨Bm, 0, none⟩)] trivial (enters_of Tryz.func87 (by kernel_rfl) rfl) _ _ (by rw [hsz]; unfold maxLen; omega) (by rw [hsz]; omega) _ hseq
  change CallsIn _ _ Tryz.prog 58 _ _ _ at cS
  refine (callsIn_wide.1 cS).mono ?_
  rintro e w' ⟨v, ss, rfl, hS, hrow, hnil, hbel⟩
  have hs2 : ss.Perm (D.map (·.1)) := hS.trans hp
  have hlen : ss.length = D.length := by rw [hs2.length_eq, List.length_map]
  have he : ss.mergeSort (fun x y => decide (x ≤ y)) = sortK (D.map (·.1)) := sortK_of_perm hs2
  rw [hlen, he] at hrow
  obtain ⟨h1, h2⟩ := hrow
  rcases h2 with ⟨rfl, h2⟩ | ⟨g, cap, cur, rfl, hbase, hg, r1, r2, r3, r4⟩
  · exact ⟨_, [], rfl, ⟨h1, .inl ⟨rfl, h2, rfl⟩⟩, fun F hF => hF.monoB hbel, hbel⟩
  · refine ⟨_, [.blk g (.cells cur 3)], rfl, ⟨h1, .inr ⟨g, cap, cur, rfl, r1, r2, r3, r4, rfl⟩⟩, fun F hF => ?_, hbel⟩
    have h3 := hF.monoB hbel
    refine ⟨fun x hx => ?_, ?_⟩
    · rcases List.mem_append.1 hx with hx | hx
      · obtain rfl : x = .blk g (.cells cur 3) := by simpa using hx
        exact hg
      · exact h3.1 x hx
    · simp only [List.cons_append, List.nil_append, HItem.no, List.filterMap_cons]
      rw [List.nodup_cons]
      refine ⟨fun hm => ?_, h3.2⟩
      obtain ⟨x, hx, e⟩ := List.mem_filterMap.1 hm
      cases x with
      | blk c o =>
        have hc := hF.lt hx
        simp only [HItem.no, Option.some.injEq] at e
        omega
      | env w0 => simp [HItem.no] at e
end Go.Proofs.YtficgjklagnbjaaGreat
namespace Go.Proofs.YtficgjklagnbjaaGreat
open Go Go.MapKept Go.RowKit Go.Proofs Go.Sort Go.Shelf

theorem snoc_ind {α : Type} {p : List α → Prop} (h0 : p []) (h1 : ∀ m x, p m → p (m ++ [x])) : ∀ m, p m := fun m => by
  rw [← List.reverse_reverse m]
  induction m.reverse with
  | nil => exact h0
  | cons x r ih => rw [List.reverse_cons]; exact h1 _ _ ih
/-! ### what is told, in plain words -/
def stepL (l : List En) (D : List (Tx × Int)) (x : En) : List (Tx × Int) := if (goodM x && !endM l x.t) = true then putL x.t x.lsn D else D
def stepD (R : List Tx) (x : En) : List Tx := if (goodM x && ((x.kind == 3) && !hasM R x.t)) = true then R ++ [x.t] else R
def stepP (first : Int) (D : List (Int × Int)) (i : Nat) (x : En) : List (Int × Int) := if (goodM x && ((getL x.page D).isNone && !isEndM x)) = true then putL x.page (first + i) D else D
def lastM (l m : List En) : List (Tx × Int) := m.foldl (stepL l) []
def doneM (m : List En) : List Tx := m.foldl stepD []
def firstM (first : Int) : List En → Nat → List (Int × Int) → List (Int × Int)
  | [], _, D => D
  | x :: r, i, D => firstM first r (i + 1) (stepP first D i x)
def pagM (first : Int) (m : List En) : List (Int × Int) := firstM first m 0 []
theorem lastM_snoc (l m : List En) (x : En) : lastM l (m ++ [x]) = stepL l (lastM l m) x := by simp [lastM]
theorem doneM_snoc (m : List En) (x : En) : doneM (m ++ [x]) = stepD (doneM m) x := by simp [doneM]
theorem firstM_snoc (first : Int) (x : En) : ∀ (m : List En) (i : Nat) (D : List (Int × Int)), firstM first (m ++ [x]) i D = stepP first (firstM first m i D) (i + m.length) x
  | [], i, D => by simp [firstM]
  | y :: r, i, D => by
    rw [List.cons_append, firstM, firstM_snoc first x r (i + 1), firstM]
    congr 1
    simp; omega
theorem pagM_snoc (first : Int) (m : List En) (x : En) : pagM first (m ++ [x]) = stepP first (pagM first m) m.length x := by
  unfold pagM
  rw [firstM_snoc, Nat.zero_add]
theorem lastM_len (l : List En) : ∀ m : List En, (lastM l m).length ≤ m.length := by
  refine snoc_ind (by simp [lastM]) fun m x ih => ?_
  rw [lastM_snoc]
  unfold stepL
  split
  · rw [length_putL]; split <;> simp <;> omega
  · simp; omega
theorem doneM_len : ∀ m : List En, (doneM m).length ≤ m.length := by
  refine snoc_ind (by simp [doneM]) fun m x ih => ?_
  rw [doneM_snoc]
  unfold stepD
  split
  · simp; omega
  · simp; omega
theorem pagM_len (first : Int) : ∀ m : List En, (pagM first m).length ≤ m.length := by
  refine snoc_ind (by simp [pagM, firstM]) fun m x ih => ?_
  rw [pagM_snoc]
  unfold stepP
  split
  · rw [length_putL]; split <;> simp <;> omega
  · simp; omega
/-- A view. -/
structure VM where
  losers : List (Tx × Int)
  done : List Tx
  pages : List (Int × Int)
def losersM (l : List En) : List (Tx × Int) := (sortT ((lastM l l).map (·.1))).map fun t => (t, (getL t (lastM l l)).getD 0)
def pagesM (l : List En) (first : Int) : List (Int × Int) := (sortK ((pagM first l).map (·.1))).map fun p => (p, (getL p (pagM first l)).getD 0)
def readM (l : List En) (first : Int) : VM := if withinM first 1 1099511627776 then ⟨losersM l, doneM l, pagesM l first⟩ else ⟨[], [], []⟩

theorem zeroI (w : World) : (zeroValue 3).run Tryz.prog w = .ok (.int .i64 0) w := by kernel_rfl
theorem und_mii : Tryz.prog.underlying 119 = some (.map 3 3) := by kernel_rfl
abbrev vwO (a b c : Value) : Obj := .cells #[a, b, c] 93
/-- BETWEEN TWO ENTRIES. -/
def RdIs (vb pb lb eb : Nat) (l : List En) (DL : List (Tx × Int)) (R : List Tx) (DP : List (Int × Int)) (G : Heaplet) (w : World) : Prop :=
  ∃ v h es0 clk0 D0 es1 clk1 es2 clk2, MapOkS tV vB es0 clk0 D0 ∧ (∀ k, (getL k D0).getD false = endM l k) ∧ MapOkS tV kI es1 clk1 DL ∧ MapOk (.int .i64) kI kI es2 clk2 DP ∧ TSl v R h ∧
    Sat w (.blk vb (vwO (.slice none 0 0) v (.slice none 0 0)) :: .blk pb (.map es2 clk2) :: .blk lb (.map es1 clk1) :: .blk eb (.map es0 clk0) :: (h ++ G))
section
variable {vb pb lb eb : Nat} {l : List En} {DL : List (Tx × Int)} {R : List Tx} {DP : List (Int × Int)} {G : Heaplet} {w : World}
theorem RdIs.frame (h : RdIs vb pb lb eb l DL R DP G w) : Sat w G := by
  obtain ⟨v, h, es0, clk0, D0, es1, clk1, es2, clk2, h0, h1, h2, h3, h4, s⟩ := h
  exact s.tail.tail.tail.tail.right
theorem RdIs.grown {w' : World} (h : RdIs vb pb lb eb l DL R DP G w) (k : Grown w w') : RdIs vb pb lb eb l DL R DP G w' := by
  obtain ⟨v, h, es0, clk0, D0, es1, clk1, es2, clk2, h0, h1, h2, h3, h4, s⟩ := h
  exact ⟨v, h, es0, clk0, D0, es1, clk1, es2, clk2, h0, h1, h2, h3, h4, s.grown k⟩
theorem RdIs.new (h : RdIs vb pb lb eb l DL R DP G w) (o : Obj) : RdIs vb pb lb eb l DL R DP (.blk w.heap.size o :: G) (w.alloc o) := by
  obtain ⟨v, h, es0, clk0, D0, es1, clk1, es2, clk2, h0, h1, h2, h3, h4, s⟩ := h
  refine ⟨v, h, es0, clk0, D0, es1, clk1, es2, clk2, h0, h1, h2, h3, h4, (s.new o).perm ?_⟩
  have e := (List.perm_middle (a := HItem.blk w.heap.size o) (l₁ := [HItem.blk vb (vwO (.slice none 0 0) v (.slice none 0 0)), .blk pb (.map es2 clk2), .blk lb (.map es1 clk1), .blk eb (.map es0 clk0)] ++ h) (l₂ := G)).symm
  simpa using e
theorem RdIs.lookE (h : RdIs vb pb lb eb l DL R DP G w) (t : Tx) : (Instr.lookup 116 (.map (some eb)) (tV t) false).run Tryz.prog w = .ok (.bool (endM l t)) w := by
  obtain ⟨v, h, es0, clk0, D0, es1, clk1, es2, clk2, h0, h1, h2, h3, h4, s⟩ := h
  obtain ⟨d, hd⟩ := und_tx
  rw [lookS und_mtb keys_tx hd (z := .bool false) (by simp [go_sem]) s.h3 h0 t, ← h1 t]
  cases getL t D0 <;> rfl
theorem RdIs.lookP (h : RdIs vb pb lb eb l DL R DP G w) (p : Int) : (Instr.lookup 119 (.map (some pb)) (kI p) true).run Tryz.prog w = .ok (.tuple #[((getL p DP).map kI).getD (kI 0), .bool (getL p DP).isSome]) w := by
  obtain ⟨v, h, es0, clk0, D0, es1, clk1, es2, clk2, h0, h1, h2, h3, h4, s⟩ := h
  exact run_lookup2_ok und_mii Tryz.underlying3 (zeroI _) s.h1 h3 p
theorem RdIs.last (h : RdIs vb pb lb eb l DL R DP G w) (t : Tx) (n : Int) : ∃ w', (Instr.mapUpdate 118 (.map (some lb)) (tV t) (kI n)).run Tryz.prog w = .ok () w' ∧ RdIs vb pb lb eb l (putL t n DL) R DP G w' := by
  obtain ⟨v, h, es0, clk0, D0, es1, clk1, es2, clk2, h0, h1, h2, h3, h4, s⟩ := h
  obtain ⟨d, hd⟩ := und_tx
  obtain ⟨w', es', clk', hr, h2', s'⟩ := sat_updS und_mti keys_tx hd h2 s.rot3 t n
  exact ⟨w', hr, v, h, es0, clk0, D0, es', clk', es2, clk2, h0, h1, h2', h3, h4, s'.unrot3⟩
theorem RdIs.page (h : RdIs vb pb lb eb l DL R DP G w) (p n : Int) : ∃ w', (Instr.mapUpdate 119 (.map (some pb)) (kI p) (kI n)).run Tryz.prog w = .ok () w' ∧ RdIs vb pb lb eb l DL R (putL p n DP) G w' := by
  obtain ⟨v, h, es0, clk0, D0, es1, clk1, es2, clk2, h0, h1, h2, h3, h4, s⟩ := h
  obtain ⟨w', es', clk', hr, h3', s'⟩ := sat_update und_mii Tryz.underlying3 h3 s.swap p n
  exact ⟨w', hr, v, h, es0, clk0, D0, es1, clk1, es', clk', h0, h1, h2, h3', h4, s'.swap⟩
/-- The slice of who is done. -/
theorem RdIs.slice (h : RdIs vb pb lb eb l DL R DP G w) : ∃ a cap, w.cell? ⟨vb, 1, none⟩ = some (.slice a R.length cap) ∧ TxsAt w a R := by
  obtain ⟨v, h, es0, clk0, D0, es1, clk1, es2, clk2, h0, h1, h2, h3, h4, s⟩ := h
  have s2 : Sat w (h ++ ([.blk vb (vwO (.slice none 0 0) v (.slice none 0 0)), .blk pb (.map es2 clk2), .blk lb (.map es1 clk1), .blk eb (.map es0 clk0)] ++ G)) := s.perm (List.perm_append_comm_assoc [HItem.blk vb (vwO (.slice none 0 0) v (.slice none 0 0)), .blk pb (.map es2 clk2), .blk lb (.map es1 clk1), .blk eb (.map es0 clk0)] h G)
  obtain ⟨a, cap, rfl, ht⟩ := txs_at h4 s2
  exact ⟨a, cap, by rw [cell_of s.h0]; rfl, ht⟩
/-- One more is done. -/
theorem RdIs.push (h : RdIs vb pb lb eb l DL R DP G w) (t : Tx) (hl : R.length + 1 ≤ 200000) {v : Value} (hv : w.cell? ⟨vb, 1, none⟩ = some v) :
    ∃ a n c w', (∀ ty, (Builtin.append_ #[90, 90] ty #[v, .slice (some ⟨w.heap.size, 0, none⟩) 1 1]).run Tryz.prog (w.alloc (.cells #[kI t.c, kI t.e, kI t.n] 56)) = .ok (.slice a n c) w') ∧
      w'.cell? ⟨vb, 1, none⟩ = some v ∧ w'.frozen? ⟨vb, 1, none⟩ = false ∧ RdIs vb pb lb eb l DL (R ++ [t]) DP G (w'.setCell ⟨vb, 1, none⟩ (.slice a n c)) := by
  obtain ⟨v1, h, es0, clk0, D0, es1, clk1, es2, clk2, h0, h1, h2, h3, h4, s⟩ := h
  obtain rfl : v = v1 := by
    have : w.cell? ⟨vb, 1, none⟩ = some v1 := by rw [cell_of s.h0]; rfl
    rw [hv] at this
    exact Option.some.inj this
  obtain ⟨v', w', h', hr, hv', hs'⟩ := tx_push (A := [.blk vb (vwO (.slice none 0 0) v (.slice none 0 0)), .blk pb (.map es2 clk2), .blk lb (.map es1 clk1), .blk eb (.map es0 clk0)]) t h4 (s.new (.cells #[kI t.c, kI t.e, kI t.n] 56)) hl
  have hs2 : Sat w' (.blk vb (vwO (.slice none 0 0) v (.slice none 0 0)) :: .blk pb (.map es2 clk2) :: .blk lb (.map es1 clk1) :: .blk eb (.map es0 clk0) :: (h' ++ G)) := hs'
  obtain ⟨a, c, rfl⟩ := sl_form hv'
  exact ⟨a, _, c, w', hr, by rw [cell_of hs2.h0]; rfl, unfrozen_of hs2.h0 1, _, h', es0, clk0, D0, es1, clk1, es2, clk2, h0, h1, h2, h3, hv', hs2.setCell _⟩
end
theorem keysT_box (mb : Option Nat) (w : World) : Calls Tryz.prog 56 #[.map mb] w fun e w' =>
    e = .returned (.func (.func 83) #[] #[.pointer (some ⟨w.heap.size, 0, none⟩)]) ∧ w' = w.alloc (.cells #[.map mb] 118) := by
  go_enter Tryz.func56, Tryz.ntmps56
  go_wp2
  go_ret
  exact ⟨rfl, rfl⟩
end Go.Proofs.YtficgjklagnbjaaGreat
