/- Texts put together: Tx20, Tx21. Conditions: none. -/
import Derived.Test.YtgocmnejlbfplaaGreatDoorTy29
import Derived.Test.YtgocmnejlbfplaaGreatDoorTy30
namespace Go.Proofs.YtgocmnejlbfplaaGreatDoor
open Go Go.MapKept Go.RowKit Go.Proofs

attribute [local go_sem] Oper.semAt_some

set_option maxRecDepth 100000 in
theorem rtread_nil (n : Int) (w : World) : Calls Tryz.prog 24 #[.pointer none, .int .i64 n] w (fun e w' => e = .returned (.tuple #[pgV 0 (.slice none 0 0), .int .i64 2]) ∧ Below w.heap.size w w') := by
  have HR := Lib.hid (fun W => rrdy_nil W)
  have s2 := (sat_all w).new (.cells #[kI 0, .slice none 0 0] 48)
  obtain ⟨pb4, hpb⟩ : ∃ pb4, w.heap.size = pb4 := ⟨_, rfl⟩
  rw [hpb] at s2
  have HT : Hid (∀ W, Sat W (allOf w) → Below pb4 w W) := Lib.hid (fun W hW => by rw [← hpb]; exact hW.below)
  rw [hpb]
  have R9 := Lib.hid (two_at s2)
  have FIN := Lib.hid (HT.out _ s2.tail)
  clear s2 HT
  go_enter Tryz.func24, Tryz.ntmps24
  go_wp2_with (go_at_call 47; refine (HR.out _).mono ?_; rintro e w1 ⟨rfl, rfl⟩)
  exact bodyPost_ret (v := .tuple #[pgV 0 (.slice none 0 0), .int .i64 2]) (rread_results _ _ pb4 0 2 _ rfl rfl R9.out.1 R9.out.2.1) rfl ⟨rfl, FIN.out⟩

/-- What reading comes to. -/
def readO (o : Option TS) (M : PM) (n : Int) : Pg × Int := match o with
  | some S => readT S M n
  | none => (emptyP, 2)
theorem readT_good {frm twins : Int} {S : TS} {M : PM} {n : Int} (h : Fine frm twins S) : goodP (readT S M n).1 = true := by
  unfold readT
  split
  · exact goodP_empty
  · split
    · rename_i p hp
      split at hp
      · cases hp
      · exact h.gd p (List.mem_of_getElem? hp)
    · exact goodP_empty
theorem A_read {s : Option Nat} {db : Nat} {o : Option TS} {M : PM} {G : Heaplet} {w : World} {frm twins : Int} (h : AIs s db o M G w) (hf : ∀ S, o = some S → Fine frm twins S) (n : Int) :
    Calls Tryz.prog 23 #[ptrV s, .int .i64 n] w (fun e w' => ∃ sv h, e = .returned (.tuple #[pgV (readO o M n).1.lsn sv, .int .i64 (readO o M n).2]) ∧ AIs s db o M (h ++ G) w' ∧ SlAt h sv (readO o M n).1.slots) := by
  cases o with
  | none => cases s with
    | none =>
      refine (tread_nil n w).mono ?_
      rintro e w' ⟨rfl, hb⟩
      exact ⟨.slice none 0 0, [], rfl, PlateIs.mono h hb, SlAt.nil _ _ _⟩
    | some tb => exact h.elim
  | some S => cases s with
    | none => exact h.elim
    | some tb =>
      have hS := hf S rfl
      exact tread_any h n (fun p hp => (good_bds (hS.gd p hp)).1) (by have := hS.pg; omega)
theorem B_read {E : Heaplet} {v : Option Nat} {ub : Nat} {o : Option TS} {M : PM} {G : Heaplet} {w : World} {frm twins : Int} (h : BIs E v ub o M G w) (hf : ∀ S, o = some S → Fine frm twins S) (n : Int) :
    Calls Tryz.prog 24 #[ptrV v, .int .i64 n] w (fun e w' => ∃ sv Z, e = .returned (.tuple #[pgV (readO o M n).1.lsn sv, .int .i64 (readO o M n).2]) ∧ Sat w' Z ∧ SlAt Z sv (readO o M n).1.slots ∧ ∀ W, Sat W Z → BIs E v ub o M G W) := by
  cases o with
  | none => cases v with
    | none =>
      obtain ⟨A, hA, hs⟩ := RQ.split (show RQ ub M (E ++ G) w from h)
      refine (rtread_nil n w).mono ?_
      rintro e w' ⟨rfl, hb⟩
      exact ⟨.slice none 0 0, A ++ (E ++ G), rfl, hs.monoB hb, SlAt.nil _ _ _, fun W hW => hA W _ hW⟩
    | some tb => exact h.elim
  | some S => cases v with
    | none => exact h.elim
    | some tb =>
      have hS := hf S rfl
      refine (rtread_any (show RSt E tb ub S M G w from h) n (by have := hS.pg; omega)).mono ?_
      rintro e w' ⟨sv, Z, rfl, _, hz, hsl, hmk⟩
      exact ⟨sv, Z, rfl, hz, hsl, hmk⟩
theorem AIs.plate {s : Option Nat} {db : Nat} {o : Option TS} {M : PM} {G : Heaplet} {w : World} (h : AIs s db o M G w) : PlateIs db M G w := by
  cases o with
  | none => cases s with
    | none => exact h
    | some tb => exact h.elim
  | some S => cases s with
    | none => exact h.elim
    | some tb => exact StIs.toPlate h
theorem BIs.plate {E : Heaplet} {v : Option Nat} {ub : Nat} {o : Option TS} {M : PM} {G : Heaplet} {w : World} (h : BIs E v ub o M G w) : RQ ub M (E ++ G) w := by
  cases o with
  | none => cases v with
    | none => exact h
    | some tb => exact h.elim
  | some S => cases v with
    | none => exact h.elim
    | some tb => exact RSt.toPlate h
theorem TwoIs.drop {E : Heaplet} {s v : Option Nat} {db ub : Nat} {o : Option TS} {M : PM} {G : Heaplet} {w : World} (h : TwoIs E s v db ub o M G w) : TwoIs E none none db ub none M G w := by
  obtain ⟨A, B, hA, hB, hs⟩ := h
  exact ⟨A, B, fun W G' hW => (hA W G' hW).plate, fun W G' hW => (hB W G' hW).plate, hs⟩
/-- The program has done something, the document not yet. -/
def MidIs (E : Heaplet) (s v : Option Nat) (db ub : Nat) (o' : Option TS) (M' : PM) (o : Option TS) (M : PM) (G : Heaplet) (w : World) : Prop := ∃ A, (∀ W G', Sat W (A ++ G') → AIs s db o' M' G' W) ∧ BIs E v ub o M (A ++ G) w
theorem MidIs.frame {E : Heaplet} {s v : Option Nat} {db ub : Nat} {o' o : Option TS} {M' M : PM} {G : Heaplet} {w : World} (h : MidIs E s v db ub o' M' o M G w) : Sat w G := by
  obtain ⟨A, _, h2⟩ := h
  have := h2.plate.1.frame
  exact this.right.right
theorem MidIs.env {E : Heaplet} {s v : Option Nat} {db ub : Nat} {o' o : Option TS} {M' M : PM} {G : Heaplet} {w : World} (h : MidIs E s v db ub o' M' o M G w) : Sat w E := by
  obtain ⟨A, _, h2⟩ := h
  exact Sat.lft (F := A ++ G) h2.plate.1.frame
section
variable {E : Heaplet} {s v : Option Nat} {db ub : Nat} {o : Option TS} {M : PM} {G : Heaplet} {w : World}
/-- From the program's contract to both. -/
theorem two_of {f : Nat} {args : Array Value} {s' : Option Nat → Prop} {val : Option Nat → Value} {o' : Option TS} {M' : PM} (h : TwoIs E s v db ub o M G w)
    (hc : ∀ B, AIs s db o M (B ++ (E ++ G)) w → Calls Tryz.prog f args w (fun e w' => ∃ t, s' t ∧ e = .returned (val t) ∧ AIs t db o' M' (B ++ (E ++ G)) w')) :
    Calls Tryz.prog f args w (fun e w' => ∃ t, s' t ∧ e = .returned (val t) ∧ MidIs E t v db ub o' M' o M G w') := by
  obtain ⟨B, hB, hA⟩ := h.left
  refine (hc B hA).mono ?_
  rintro e w' ⟨t, ht, rfl, h'⟩
  obtain ⟨A, h1, h2⟩ := h'.right hB
  exact ⟨t, ht, rfl, A, h1, h2⟩
theorem mid_of {f : Nat} {args : Array Value} {v' : Option Nat → Prop} {val : Option Nat → Value} {o' : Option TS} {M' : PM} (h : MidIs E s v db ub o' M' o M G w)
    (hc : ∀ A, BIs E v ub o M (A ++ G) w → Calls Tryz.prog f args w (fun e w' => ∃ t, v' t ∧ e = .returned (val t) ∧ BIs E t ub o' M' (A ++ G) w')) :
    Calls Tryz.prog f args w (fun e w' => ∃ t, v' t ∧ e = .returned (val t) ∧ TwoIs E s t db ub o' M' G w') := by
  obtain ⟨A, h1, h2⟩ := h
  refine (hc A h2).mono ?_
  rintro e w' ⟨t, ht, rfl, h'⟩
  exact ⟨t, ht, rfl, h'.both h1⟩
theorem two_open (h : TwoIs E s v db ub o M G w) {bd : Nat} (hk : PlOk bd M) (hb : bd + 2000 ≤ 100000) (hc : M.count ≤ 16384) (frm twins pages : Int) :
    Calls Tryz.prog 8 #[.pointer (some ⟨db, 0, none⟩), .int .i64 frm, .int .i64 twins, .int .i64 pages] w (fun e w' => ∃ t, t.isSome = (openP M frm twins pages).1.isSome ∧ e = .returned (.tuple #[ptrV t, .int .i64 (openP M frm twins pages).2.1]) ∧ MidIs E t v db ub (openP M frm twins pages).1 (openP M frm twins pages).2.2 o M G w') :=
  two_of h (fun B hA => by
    refine (open_any hA.plate hk hb hc frm twins pages).mono ?_
    generalize openP M frm twins pages = r
    obtain ⟨ro, rc, rm⟩ := r
    intro e w' h'
    cases ro with
    | none => exact ⟨none, rfl, h'.1, h'.2⟩
    | some S =>
      obtain ⟨tb, h1, h2⟩ := h'
      exact ⟨some tb, rfl, h1, h2⟩)
theorem mid_open {o' : Option TS} {M1 : PM} (h : MidIs E s v db ub o' M1 o M G w) {bd : Nat} (hk : PlOk bd M) (hb : bd + 2000 ≤ 100000) (hc : M.count ≤ 16384) (frm twins pages : Int) (ho : o' = (openP M frm twins pages).1) (hm : M1 = (openP M frm twins pages).2.2) :
    Calls Tryz.prog 9 #[.pointer (some ⟨ub, 0, none⟩), .int .i64 frm, .int .i64 twins, .int .i64 pages] w (fun e w' => ∃ t, t.isSome = (openP M frm twins pages).1.isSome ∧ e = .returned (.tuple #[ptrV t, .int .i64 (openP M frm twins pages).2.1]) ∧ TwoIs E s t db ub o' M1 G w') :=
  mid_of h (fun A hB => by
    subst ho hm
    refine (ropen_any (F := A ++ G) hB.plate hk hb hc frm twins pages).mono ?_
    generalize openP M frm twins pages = r
    obtain ⟨ro, rc, rm⟩ := r
    intro e w' h'
    cases ro with
    | none => exact ⟨none, rfl, h'.1, h'.2⟩
    | some S =>
      obtain ⟨tb, h1, h2⟩ := h'
      exact ⟨some tb, rfl, h1, h2⟩)
/-- A call that changes the plates alone. -/
theorem two_plate {f : Nat} {args : Array Value} {c : Value} {M' : PM} (h : TwoIs E none none db ub none M G w) (hc : ∀ F, PlateIs db M F w → (∀ W, Sat W F → Sat W E) → Calls Tryz.prog f args w (Ret c (PlateIs db M' F))) :
    Calls Tryz.prog f args w (fun e w' => e = .returned c ∧ MidIs E none none db ub none M' none M G w') := by
  obtain ⟨B, hB, hA⟩ := h.left
  refine (hc _ hA (fun W hW => Sat.lft (F := G) hW.right)).mono ?_
  rintro e w' ⟨rfl, h'⟩
  obtain ⟨A, h1, h2⟩ := AIs.right (s := none) (o' := none) h' hB
  exact ⟨rfl, A, h1, h2⟩
theorem mid_plate {f : Nat} {args : Array Value} {c : Value} {M' : PM} (h : MidIs E none none db ub none M' none M G w) (hc : ∀ F, RQ ub M F w → (∀ W, Sat W F → Sat W E) → Calls Tryz.prog f args w (Ret c (RQ ub M' F))) :
    Calls Tryz.prog f args w (fun e w' => e = .returned c ∧ TwoIs E none none db ub none M' G w') := by
  obtain ⟨A, h1, h2⟩ := h
  refine (hc (E ++ (A ++ G)) h2 (fun W hW => Sat.lft (F := A ++ G) hW)).mono ?_
  rintro e w' ⟨rfl, h'⟩
  exact ⟨rfl, BIs.both (v := none) (o := none) h' h1⟩
theorem two_write {S : TS} {sb : Nat} {t : Option Nat} {bd : Nat} {u : Value} {L : List Lf} (h : TwoIs E (some sb) t db ub (some S) M G w) (hv : LvAt E u L) (hk : PlOk bd M) (hb : bd + 1000 ≤ 100000) (hl : L.length ≤ 100) (hf : FitP L) {frm twins : Int} (hS : Fine frm twins S) :
    Calls Tryz.prog 10 #[.pointer (some ⟨sb, 0, none⟩), u] w (fun e w' => e = .returned (.int .i64 (writeT S M L).1) ∧ MidIs E (some sb) t db ub (some (writeT S M L).2.1) (writeT S M L).2.2 (some S) M G w') := by
  obtain ⟨B, hB, hA⟩ := h.left
  obtain ⟨f1, f2, f3, f4, f5, f6, f7, f8⟩ := hS
  refine (twrite_any (show StIs sb db S M (B ++ (E ++ G)) w from hA) (hv.mono (fun W hW => Sat.lft (F := G) hW.right)) hk hb hl hf (by rw [f1]; omega) (by rw [f2]; omega) f7).mono ?_
  rintro e w' ⟨rfl, h'⟩
  obtain ⟨A, h1, h2⟩ := AIs.right (s := some sb) (o' := some (writeT S M L).2.1) h' hB
  exact ⟨rfl, A, h1, h2⟩
theorem mid_write {S : TS} {vb : Nat} {t : Option Nat} {bd : Nat} {u : Value} {L : List Lf} (h : MidIs E t (some vb) db ub (some (writeT S M L).2.1) (writeT S M L).2.2 (some S) M G w) (hv : LvAt E u L) (hk : PlOk bd M) (hb : bd + 1000 ≤ 100000) (hl : L.length ≤ 100) (hf : FitP L) {frm twins : Int} (hS : Fine frm twins S) :
    Calls Tryz.prog 11 #[.pointer (some ⟨vb, 0, none⟩), u] w (fun e w' => e = .returned (.int .i64 (writeT S M L).1) ∧ TwoIs E t (some vb) db ub (some (writeT S M L).2.1) (writeT S M L).2.2 G w') := by
  obtain ⟨A, h1, h2⟩ := h
  obtain ⟨f1, f2, f3, f4, f5, f6, f7, f8⟩ := hS
  refine (rwrite_any (show RSt E vb ub S M (A ++ G) w from h2) hv hk hb hl hf (by rw [f1]; omega) (by rw [f2]; omega) f7).mono ?_
  rintro e w' ⟨rfl, h'⟩
  exact ⟨rfl, BIs.both (v := some vb) (o := some (writeT S M L).2.1) h' h1⟩
theorem two_arm {S : TS} {sb : Nat} {t : Option Nat} (h : TwoIs E (some sb) t db ub (some S) M G w) (n : Int) :
    Calls Tryz.prog 16 #[.pointer (some ⟨db, 0, none⟩), .int .i64 n] w (fun e w' => e = .returned (.tuple #[]) ∧ MidIs E (some sb) t db ub (some S) (armM M n) (some S) M G w') := by
  obtain ⟨B, hB, hA⟩ := h.left
  obtain ⟨pv, R, h', K, h1, h2, hp⟩ := (show StIs sb db S M (B ++ (E ++ G)) w from hA)
  refine (arm_any db M _ n w hp).mono ?_
  rintro e w' ⟨rfl, hp'⟩
  obtain ⟨A, k1, k2⟩ := AIs.right (s := some sb) (o' := some S) (show StIs sb db S (armM M n) (B ++ (E ++ G)) w' from ⟨pv, R, h', K, h1, h2, hp'⟩) hB
  exact ⟨rfl, A, k1, k2⟩
theorem mid_arm {S : TS} {vb : Nat} {t : Option Nat} (n : Int) (h : MidIs E t (some vb) db ub (some S) (armM M n) (some S) M G w) :
    Calls Tryz.prog 17 #[.pointer (some ⟨ub, 0, none⟩), .int .i64 n] w (fun e w' => e = .returned (.tuple #[]) ∧ TwoIs E t (some vb) db ub (some S) (armM M n) G w') := by
  obtain ⟨A, g1, g2⟩ := h
  obtain ⟨pv, R, h', K, h1, h2, hp⟩ := (show RSt E vb ub S M (A ++ G) w from g2)
  refine (RQ.arm hp n).mono ?_
  rintro e w' ⟨rfl, hp'⟩
  exact ⟨rfl, BIs.both (v := some vb) (o := some S) (show RSt E vb ub S (armM M n) (A ++ G) w' from ⟨pv, R, h', K, h1, h2, hp'⟩) g1⟩
theorem two_acts (h : TwoIs E s v db ub o M G w) : Calls Tryz.prog 21 #[.pointer (some ⟨db, 0, none⟩)] w (Ret (.int .i64 M.acts) (Same w)) := by
  obtain ⟨B, hB, hA⟩ := h.left
  exact acts_any db M _ w hA.plate
theorem two_racts (h : TwoIs E s v db ub o M G w) : Calls Tryz.prog 22 #[.pointer (some ⟨ub, 0, none⟩)] w (Ret (.int .i64 M.acts) (Same w)) := by
  obtain ⟨A, B, hA, hB, hs⟩ := h
  exact rp_acts (hB w (A ++ G) (hs.part (fun a => by simp only [cnt_append]; omega))).plate.1
end
end Go.Proofs.YtgocmnejlbfplaaGreatDoor
namespace Go.Proofs.YtgocmnejlbfplaaGreatDoor
open Go Go.MapKept Go.RowKit Go.Proofs

attribute [local go_sem] Oper.semAt_some

/-- Where F holds, the acts lie there. -/
def AxAt (F : Heaplet) (v : Value) (X : List Ax) : Prop := ∃ a cap, v = .slice a X.length cap ∧ ∀ (i : Nat) x, X[i]? = some x → ∃ g off la lc fp fc, a = some ⟨g, off, none⟩ ∧ LvAt F (.slice la x.ls.length lc) x.ls ∧ IsAt F fp x.fl x.fa ∧ (x.fl ≤ 9223372036854775807 ∧ (∀ p ∈ x.ls, -9223372036854775808 ≤ p.2.lsn ∧ p.2.lsn ≤ 9223372036854775807) ∧ x.n ≤ 9223372036854775807) ∧
  ∀ w, Sat w F → w.cell? ⟨g, off + i * 5, none⟩ = some (kI x.kind) ∧ w.cell? ⟨g, off + i * 5 + 1, none⟩ = some (kI x.n) ∧ w.cell? ⟨g, off + i * 5 + 2, none⟩ = some (.int .u8 (x.b.toNat : Int)) ∧ w.cell? ⟨g, off + i * 5 + 3, none⟩ = some (.slice la x.ls.length lc) ∧ w.cell? ⟨g, off + i * 5 + 4, none⟩ = some (.slice fp x.fl fc)
theorem AxAt.mono {F F' : Heaplet} {v : Value} {X : List Ax} (h : AxAt F v X) (hF : ∀ w, Sat w F' → Sat w F) : AxAt F' v X := by
  obtain ⟨a, cap, e, hc⟩ := h
  refine ⟨a, cap, e, fun i x hx => ?_⟩
  obtain ⟨g, off, la, lc, fp, fc, e2, h1, h2, h3, h4⟩ := hc i x hx
  exact ⟨g, off, la, lc, fp, fc, e2, h1.mono hF, h2.mono hF, h3, fun w hw => h4 w (hF w hw)⟩
def agOf (X : List Ax) : List Ag := X.map fun x => (x.ls, x.fl)
theorem AxAt.ag {F : Heaplet} {v : Value} {X : List Ax} (h : AxAt F v X) : AgAt F v (agOf X) := by
  obtain ⟨a, cap, e, hc⟩ := h
  refine ⟨a, cap, by unfold agOf; rw [List.length_map]; exact e, fun i y hy => ?_⟩
  unfold agOf at hy
  rw [List.getElem?_map] at hy
  cases hx : X[i]? with
  | none => rw [hx] at hy; cases hy
  | some x =>
    rw [hx] at hy
    cases hy
    obtain ⟨g, off, la, lc, fp, fc, e2, h1, _, _, h4⟩ := hc i x hx
    exact ⟨g, off, la, lc, fp, fc, e2, h1, fun w hw => ⟨(h4 w hw).2.2.2.1, (h4 w hw).2.2.2.2⟩⟩
theorem not_great {X : List Ax} (h : greatM (agOf X) = false) {i : Nat} {x : Ax} (hi : i < 40) (hx : X[i]? = some x) : x.ls.length ≤ 20 ∧ ∀ p ∈ x.ls, p.2.slots.length ≤ 50 ∧ ∀ s ∈ p.2.slots, s.2.size ≤ 1000 := by
  unfold greatM at h
  rw [List.any_eq_false] at h
  have hm : (x.ls, x.fl) ∈ (agOf X).take 40 := by
    refine List.mem_of_getElem? (i := i) ?_
    rw [List.getElem?_take, if_pos hi]
    unfold agOf
    rw [List.getElem?_map, hx]
    rfl
  have h1 := h _ hm
  unfold bigA at h1
  simp only [Bool.or_eq_true, decide_eq_true_eq, not_or, Int.not_lt] at h1
  refine ⟨by omega, fun p hp => ?_⟩
  have h2 := h1.2
  rw [List.any_eq_true] at h2
  have h3 : ¬ bigP p = true := fun hb => h2 ⟨p, hp, hb⟩
  unfold bigP at h3
  simp only [Bool.or_eq_true, decide_eq_true_eq, not_or, Int.not_lt, List.any_eq_true, not_exists, not_and] at h3
  refine ⟨by omega, fun s hs => ?_⟩
  have h4 := h3.2 s hs
  unfold bigS at h4
  simp only [decide_eq_true_eq, Int.not_lt] at h4
  omega
section
variable {E : Heaplet} {s v : Option Nat} {db ub : Nat} {o : Option TS} {M : PM} {G : Heaplet} {w : World}
theorem BIs.part {G' : Heaplet} (h : BIs E v ub o M G w) (hc : ∀ a, cnt a G' ≤ cnt a G) : BIs E v ub o M G' w := by
  obtain ⟨A, hA, hs⟩ := h.split
  exact hA w G' (hs.part (fun a => by have := hc a; simp only [cnt_append]; omega))
theorem BIs.new (h : BIs E v ub o M G w) (x : Obj) : BIs E v ub o M (.blk w.heap.size x :: G) (w.alloc x) := by
  obtain ⟨A, hA, hs⟩ := h.split
  exact hA _ _ ((hs.new x).part (fun a => by simp only [cnt_append, cnt_cons]; omega))
theorem BIs.frame (h : BIs E v ub o M G w) : Sat w G := h.plate.1.frame.right
theorem two_read {frm twins : Int} (h : TwoIs E s v db ub o M G w) (hf : ∀ S, o = some S → Fine frm twins S) (n : Int) :
    Calls Tryz.prog 23 #[ptrV s, .int .i64 n] w (fun e w' => ∃ sv hb A, e = .returned (.tuple #[pgV (readO o M n).1.lsn sv, .int .i64 (readO o M n).2]) ∧ (∀ W G', Sat W (A ++ G') → AIs s db o M G' W) ∧ BIs E v ub o M (A ++ (hb ++ G)) w' ∧ SlAt hb sv (readO o M n).1.slots) := by
  obtain ⟨B, hB, hA⟩ := h.left
  refine (A_read hA hf n).mono ?_
  rintro e w' ⟨sv, hb, rfl, h1, h2⟩
  obtain ⟨A, k1, k2⟩ := h1.split
  exact ⟨sv, hb, A, rfl, k1, hB _ _ (k2.part (fun a => by simp only [cnt_append]; omega)), h2⟩
theorem readO_good {frm twins : Int} (hf : ∀ S, o = some S → Fine frm twins S) (n : Int) : goodP (readO o M n).1 = true := by
  cases o with
  | none => exact goodP_empty
  | some S => exact readT_good (hf S rfl)
end
end Go.Proofs.YtgocmnejlbfplaaGreatDoor
