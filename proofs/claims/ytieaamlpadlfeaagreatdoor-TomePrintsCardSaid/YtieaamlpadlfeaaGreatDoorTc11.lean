/- The document's writing of a step: written walked. Conditions: none. -/
import Derived.Test.YtieaamlpadlfeaaGreatDoorTc9
import Derived.Test.YtieaamlpadlfeaaGreatDoorTbE
import Derived.Deep.RegionWith
namespace Go.Proofs.YtieaamlpadlfeaaGreatDoor
open Go Go.MapKept Go.RowKit Go.Proofs

attribute [local go_sem] Oper.semAt_some

theorem rNumber_at {F : Heaplet} {w : World} (s : Sat w F) (n : Int) (hn : I64 n) : Calls Tryz.prog 34 #[.int .i64 n] w (Ret (kL (Lib.itoa n)) (fun W => Sat W F)) := by
  refine (rNumber_all _ n hn (Nat.lt_succ_self _) w).mono ?_
  rintro e w' ⟨rfl, m, rfl⟩
  exact ⟨rfl, s.grown (Grown.drewN w m)⟩
theorem name_len (k : Nat) : (nameOf stepNames k).length ≤ 10 := by
  by_cases h : k ≤ 10
  · have : ∀ k, k ≤ 10 → (nameOf stepNames k).length ≤ 10 := by decide
    exact this k h
  · unfold nameOf
    rw [List.getD_eq_getElem?_getD, List.getElem?_eq_none (by show 10 ≤ k - 1; omega)]
    decide
theorem cname_len (k : Nat) : (nameOf callNames k).length ≤ 10 := by
  by_cases h : k ≤ 10
  · have : ∀ k, k ≤ 10 → (nameOf callNames k).length ≤ 10 := by decide
    exact this k h
  · unfold nameOf
    rw [List.getD_eq_getElem?_getD, List.getElem?_eq_none (by show 9 ≤ k - 1; omega)]
    decide
theorem fill_at {f : Bs} {i : Nat} {c : UInt8} (x : CallM) (h : f[i]? = some c) : fillW (f.drop i) x = (if c = 112 then 32 :: Lib.itoa x.page else if c = 115 then 32 :: Lib.itoa x.slot else 32 :: wordL x.data) ++ fillW (f.drop (i + 1)) x := by
  obtain ⟨hi, rfl⟩ := List.getElem?_eq_some_iff.1 h
  rw [List.drop_eq_getElem_cons hi]
  rfl
theorem names_k {k : Nat} (h1 : 1 ≤ k) (h2 : k ≤ 10) : (#[kL [], kL [99, 108, 105, 101, 110, 116], kL [109, 111, 118, 101], kL [100, 114, 111, 112], kL [116, 119, 105, 99, 101], kL [116, 105, 99, 107], kL [99, 114, 97, 115, 104], kL [115, 116, 97, 114, 116], kL [110, 111, 116, 105, 99, 101], kL [99, 104, 101, 99, 107], kL [99, 97, 108, 109]] : Array Value)[k]? = some (kL (nameOf stepNames k)) := by
  have h3 : k = 1 ∨ k = 2 ∨ k = 3 ∨ k = 4 ∨ k = 5 ∨ k = 6 ∨ k = 7 ∨ k = 8 ∨ k = 9 ∨ k = 10 := by omega
  rcases h3 with rfl | rfl | rfl | rfl | rfl | rfl | rfl | rfl | rfl | rfl <;> rfl
theorem cnames_k {k : Nat} (h1 : 1 ≤ k) (h2 : k ≤ 9) : ([] :: callNames : List Bs)[k]? = some (nameOf callNames k) := by
  have h3 : k = 1 ∨ k = 2 ∨ k = 3 ∨ k = 4 ∨ k = 5 ∨ k = 6 ∨ k = 7 ∨ k = 8 ∨ k = 9 := by omega
  rcases h3 with rfl | rfl | rfl | rfl | rfl | rfl | rfl | rfl | rfl <;> rfl
/-- What stands ahead of the numbers. -/
def headR (k : Nat) (u : Bool) : Bs := nameOf stepNames k ++ (if 1 < k ∧ k < 5 then (32 : UInt8) :: wayW u else [])
theorem headR_len (k : Nat) (u : Bool) : (headR k u).length ≤ 20 := by
  have h := name_len k
  unfold headR
  cases u <;> (split <;> simp [wayW, upW, downW] <;> omega)
theorem wrR_bare {k : Nat} (h : 8 < k) (c : Int) (u : Bool) (n : Int) (fs : List Int) (x : CallM) : wrR ⟨(k : Int), c, u, n, fs, x⟩ = headR k u := by
  unfold wrR headR
  simp only [Int.toNat_natCast]
  rw [if_pos (by omega), if_neg (by omega), if_neg (by omega)]
theorem wrR_call (c : Int) (u : Bool) (n : Int) (fs : List Int) (x : CallM) : wrR ⟨((1 : Nat) : Int), c, u, n, fs, x⟩ = if x.kind < 1 ∨ 9 < x.kind then [] else headR 1 u ++ (32 :: Lib.itoa c) ++ (32 :: nameOf callNames x.kind.toNat) ++ fillW (formR x.kind.toNat) x := by
  unfold wrR headR
  simp only [Int.toNat_natCast]
  rfl
theorem wrR_other {k : Nat} (h0 : 1 < k) (h : k ≤ 8) (c : Int) (u : Bool) (n : Int) (fs : List Int) (x : CallM) : wrR ⟨(k : Int), c, u, n, fs, x⟩ = headR k u ++ (32 :: Lib.itoa c) ++ (if k ≠ 5 ∧ k ≠ 8 then (32 : UInt8) :: Lib.itoa n else []) ++ (fs.map fun f => (32 : UInt8) :: Lib.itoa f).flatten := by
  unfold wrR headR
  simp only [Int.toNat_natCast]
  rw [if_neg (by omega), if_neg (by omega)]
  congr 2
  · congr 1
    by_cases h1 : 1 < k ∧ k < 5
    · rw [if_pos h1, if_pos (by omega)]
    · rw [if_neg h1, if_neg (by omega)]
  · by_cases h1 : k ≠ 5 ∧ k ≠ 8
    · rw [if_pos h1, if_pos (by omega)]
    · rw [if_neg h1, if_neg (by omega)]
end Go.Proofs.YtieaamlpadlfeaaGreatDoor
