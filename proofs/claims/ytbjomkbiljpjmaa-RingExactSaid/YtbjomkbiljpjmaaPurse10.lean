/- The laws of layer 10 that speak of Ask and Take alone. -/
import Derived.Test.YtbjomkbiljpjmaaPurse
import Derived.Deep.RegionHeld3
import Derived.Deep.QuietTactic
import Derived.BigQuiet
import Derived.Deep.LoopGhost
namespace Go.Proofs.Ytbjomkbiljpjmaa
open Go Go.MapKept Go.RowKit Go.Proofs

set_option maxRecDepth 100000 in
set_option maxHeartbeats 800000 in
theorem awake_any (F : Heaplet) (w : World) (hs : Sat w F) :
    Calls Try.prog 12 #[] w (Ret (.bool true) (fun w' => Sat w' F)) := by
  go_enter Try.func12, Try.ntmps12
  go_wp2_with fail
  refine (new_any F _ hs).mono ?_
  rintro e w1 ⟨b, rfl, hp1⟩
  go_wp2_with fail
  refine (ask_yes b _ _ F 1 5 8 _ hp1 (by omega) (by decide)).mono ?_
  rintro e w2 ⟨rfl, hp2⟩
  have hp2 : PurseIs b [(1, 5)] 5 F w2 := hp2
  go_wp2_with fail
  refine (ask_no b _ _ F 2 4 8 _ hp2 (by omega) (by decide)).mono ?_
  rintro e w3 ⟨rfl, rfl⟩
  go_wp2_with fail
  have t3 : Calls Try.prog 15 #[.pointer (some ⟨b, 0, none⟩), .int .i64 1, .int .i64 3] w2 (Ret (.int .i64 3) (PurseIs b [(1, 2)] 2 F)) := take_any b [(1, 5)] 5 F 1 3 _ hp2
  refine t3.mono ?_
  rintro e w4 ⟨rfl, hp3⟩
  clear t3
  go_wp2_with fail
  refine (ask_yes b _ _ F 2 4 8 _ hp3 (by omega) (by decide)).mono ?_
  rintro e w5 ⟨rfl, hp4⟩
  have hp4 : PurseIs b [(1, 2), (2, 4)] 6 F w5 := hp4
  go_wp2_with fail
  have t4 : Calls Try.prog 15 #[.pointer (some ⟨b, 0, none⟩), .int .i64 1, .int .i64 9] w5 (Ret (.int .i64 2) (PurseIs b [(2, 4)] 4 F)) := take_any b [(1, 2), (2, 4)] 6 F 1 9 _ hp4
  refine t4.mono ?_
  rintro e w6 ⟨rfl, hp5⟩
  clear t4
  go_wp2_with fail
  refine (sum_any b _ _ F _ hp5).mono ?_
  rintro e w7 ⟨rfl, rfl⟩
  go_wp2_with fail
  have t5 : Calls Try.prog 16 #[.pointer (some ⟨b, 0, none⟩), .int .i64 2] w6 (Ret (.int .i64 4) (Same w6)) := of_any b [(2, 4)] 4 F 2 _ hp5
  refine t5.mono ?_
  rintro e w8 ⟨rfl, rfl⟩
  clear t5
  go_wp2_with fail
  have t6 : Calls Try.prog 16 #[.pointer (some ⟨b, 0, none⟩), .int .i64 1] w6 (Ret (.int .i64 0) (Same w6)) := of_any b [(2, 4)] 4 F 1 _ hp5
  refine t6.mono ?_
  rintro e w8 ⟨rfl, rfl⟩
  clear t6
  have Fin := Lib.hid hp5.2
  clear hp1 hp2 hp3 hp4 hp5
  go_wp2_with fail
  go_ret
  obtain ⟨_, _, _, _, hs9⟩ := Fin.out
  exact ⟨rfl, hs9.tail.tail⟩
end Go.Proofs.Ytbjomkbiljpjmaa
