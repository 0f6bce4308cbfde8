/- Whether a name is come back to: the search walked. Conditions: none. -/
import Derived.Test.YtjkpghhbpcjjiaaKnot1
namespace Go.Proofs.Ytjkpghhbpcjjiaa
open Go Go.MapKept Go.RowKit Go.Proofs

abbrev fI (x : Int) : List Value := [kI x]
theorem fI_len (x : Int) : (fI x).length = 1 := rfl
abbrev IntSl (v : Value) (T : List Int) (h : Heaplet) : Prop := SliceIs 3 1 v T.length (T.flatMap fI) h
theorem infoInt : (Try.prog.info? 3).map (fun i => (i.zero, i.size, i.bytes)) = some (some (.int .i64 0), 1, 8) := by kernel_rfl
theorem int_push {w : World} {v : Value} {T : List Int} {h A B : Heaplet} {x : Nat} (q : Int) (hv : IntSl v T h) (s : Sat w (.blk x (.cells #[kI q] 3) :: (A ++ (h ++ B)))) (hl : T.length + 1 ≤ 1000000) :
    ∃ v' w' h', (∀ ty, (Builtin.append_ #[31, 31] ty #[v, .slice (some ⟨x, 0, none⟩) 1 1]).run Try.prog w = .ok v' w') ∧ IntSl v' (T ++ [q]) h' ∧ Sat w' (A ++ (h' ++ B)) := by
  obtain ⟨i0, hi, hz, hsize, hby⟩ := info_parts infoInt
  exact sl_push (P := Try.prog) (T := 3) fI_len Try.underlying31 hi hz hsize hby rfl (by decide) hv q s (by simp [Value.oneCell']) (by unfold maxLen; omega) (by omega)
/-- The iterator and the names still to come. -/
def ItOk (G : Heaplet) (it : Obj) (left : List Int) : Prop :=
  (∃ a s c, it = .mapIter none a s c ∧ left = []) ∨
    ∃ (n : Nd) (since : Nat) (seen : Array Nat) (c0 : Nat) (lp : Nbr), ndI n ∈ G ∧ NdOk n ∧ it = .mapIter (some n.g) since seen c0 ∧ IterOk kI kU n.es since seen c0 lp ∧ since ≤ n.clk ∧ left = lp.map (·.1)
theorem it_next {P : Program} {G F : Heaplet} {it : Obj} {left : List Int} {r : Nat} {w : World} (h : ItOk G it left) (s : Sat w (.blk r it :: F)) (hG : ∀ x ∈ G, x ∈ F) (ty : TypeId) :
    (left = [] ∧ (Instr.next (.pointer (some ⟨r, 0, none⟩)) false ty).run P w = .ok (.tuple #[.bool false]) w) ∨
    ∃ y left' it' w', left.Perm (y :: left') ∧ ItOk G it' left' ∧ (Instr.next (.pointer (some ⟨r, 0, none⟩)) false ty).run P w = .ok (.tuple #[.bool true, kI y, .bool true]) w' ∧
      Sat w' (.blk r it' :: F) ∧ (Instr.entry (.pointer (some ⟨r, 0, none⟩))).run P w' = .ok (.tuple #[kI y, .bool true]) w' := by
  rcases h with ⟨a, s', c, rfl, rfl⟩ | ⟨n, since, seen, c0, lp, hn, hok, rfl, hi, hle, rfl⟩
  · exact .inl ⟨rfl, run_next_nil s.h0 ty⟩
  · rcases sat_next (P := P) hok hi s (hG _ hn) hle ty with ⟨rfl, hr⟩ | ⟨p, left', seen', w', hp, hi', hr, hs', he⟩
    · exact .inl ⟨rfl, hr⟩
    · exact .inr ⟨p.1, left'.map (·.1), _, w', hp.map _, .inr ⟨n, since, seen', n.clk, left', hn, hok, rfl, hi', hle, rfl⟩, hr, hs', he⟩
theorem GraphIs.opened {m : Nat} {L : GL} {F : Heaplet} {w : World} (h : GraphIs m L F w) : ∃ G, Sat w G ∧ (∀ w', Sat w' G → GraphIs m L F w') ∧ ∀ a n, getL a L = some n → ndI n ∈ G ∧ NdOk n := by
  obtain ⟨ho, es, clk, hm, hs⟩ := h
  exact ⟨_, hs, fun w' h' => ⟨ho, es, clk, hm, h'⟩, fun a n hk => ⟨.tail _ (List.mem_append_left _ ((entH_get (it := ndI) hk).mem_iff.2 (.head _))), ho (a, n) (getL_mem hk)⟩⟩
def unitL (S : List Int) : Nbr := S.map fun x => (x, ())
theorem getL_unit (y : Int) : ∀ S : List Int, ((getL y (unitL S)).map kU).getD (.bool false) = .bool (decide (y ∈ S))
  | [] => by simp [unitL, getL]
  | x :: r => by
    have ih := getL_unit y r
    unfold unitL at ih ⊢
    by_cases e : x = y
    · simp [getL, e, kU]
    · have e' : ¬ y = x := fun u => e u.symm
      simp only [List.map_cons, getL, e, if_false]
      rw [ih]
      simp [e']
theorem put_unit {y : Int} {S : List Int} (h : y ∉ S) : putL y () (unitL S) = unitL (S ++ [y]) := by
  rw [putL_push y () (unitL S) (getL_none.2 (by unfold unitL; rw [List.map_map]; simpa using h))]
  simp [unitL]
/-- Ahead of a round of the search, in memory. -/
def SrO (L : GL) (k : Int) (N : List Int) (G : Heaplet) (sb n : Nat) (v6 : Value) (wr : World) : Prop :=
  ∃ S T ses sclk th, SrchO (E L) k S T ∧ (∀ x ∈ S, x ∈ N) ∧ MapOk (.int .i64) kI kU ses sclk (unitL S) ∧ IntSl v6 T th ∧ Sat wr (.blk sb (.map ses sclk) :: (th ++ G)) ∧ 2 * (N.length - S.length) + T.length = n ∧ n ≤ 300000
/-- In a round. -/
def SrI (L : GL) (k a : Int) (N : List Int) (G : Heaplet) (sb r n0 n : Nat) (v6 : Value) (wr : World) : Prop :=
  ∃ S T left ses sclk th it, SrchI (E L) k a S T left ∧ (∀ x ∈ S, x ∈ N) ∧ MapOk (.int .i64) kI kU ses sclk (unitL S) ∧ IntSl v6 T th ∧ Sat wr (.blk r it :: .blk sb (.map ses sclk) :: (th ++ G)) ∧ ItOk G it left ∧ left.length = n ∧ 2 * (N.length - S.length) + T.length < n0
theorem E_left {L : GL} {a : Int} {n : Nd} (hk : getL a L = some n) (y : Int) : y ∈ n.D.map (·.1) ↔ E L a y := by
  unfold E
  rw [hk]
  constructor
  · intro h
    obtain ⟨p, hp, rfl⟩ := List.mem_map.1 h
    refine ⟨n, rfl, ?_⟩
    cases hg : getL p.1 n.D with
    | some u => rfl
    | none => exact absurd h (getL_none.1 hg)
  · rintro ⟨n', h1, h2⟩
    cases h1
    exact List.mem_map.2 ⟨_, getL_mem h2, rfl⟩
set_option maxRecDepth 100000 in
set_option maxHeartbeats 4000000 in
theorem leads_any (m : Nat) (L : GL) (F : Heaplet) (k : Int) (N : List Int) (w : World) (h : GraphIs m L F w) (hN : ∀ a b, E L a b → b ∈ N) (hNl : N.length ≤ 100000) :
    Calls Try.prog 53 #[.map (some m), .int .i64 k] w fun e w' => ∃ b : Bool, e = .returned (.bool b) ∧ (b = true ↔ Loops (E L) k) ∧ GraphIs m L F w' := by
  obtain ⟨G, hs, back, hmem⟩ := h.opened
  have hmm := @run_makeMap Try.prog
  have s1 := (hs.new (.map #[] 0)).new (.cells #[kI k] 3)
  have hv0 : IntSl (.slice (some ⟨w.heap.size + 1, 0, none⟩) 1 1) [k] [.blk (w.heap.size + 1) (.cells #[kI k] 3)] := ⟨rfl, .inr ⟨_, 1, _, rfl, Nat.le_refl _, by simp [maxLen], rfl, rfl, rfl⟩⟩
  rw [World.size_alloc] at s1
  have h0 : SrO L k N G w.heap.size (2 * N.length + 1) (.slice (some ⟨w.heap.size + 1, 0, none⟩) 1 1) ((w.alloc (.map #[] 0)).alloc (.cells #[kI k] 3)) :=
    ⟨[], [k], #[], 0, _, srch_start _ _, by simp, mapOk_new kI_key kI_inj, hv0, s1.swap, by simp, by omega⟩
  have H0 := Lib.hid h0
  have BACK := Lib.hid back
  have HMEM := Lib.hid hmem
  have HN := Lib.hid hN
  clear h0 hs s1 hv0 h back hmem hN
  go_enter Try.func53, Try.ntmps53
  go_wp2_with fail
  generalize w.heap.size = sb at *
  go_loopg [6] (2 * N.length + 1) (fun n v6 wr => SrO L k N G sb n v6 wr)
  case atStart => exact H0.out
  case round =>
    clear H0
    obtain ⟨og, rfl⟩ : ∃ og, og = gk := ⟨gk, rfl⟩
    obtain ⟨S, T, ses, sclk, th, hS, hSN, hM, hT, hs, hn, hnb⟩ := hrel
    by_cases hTe : T = []
    · subst hTe
      obtain ⟨ta, tc, rfl⟩ := sl_form hT
      have FIN := Lib.hid (And.intro hS.done (BACK.out _ hs.tail.right))
      clear hS hM hT hs
      go_wp2_with fail
      go_ret
      exact ⟨false, rfl, ⟨fun e => (nomatch e), fun e => absurd e FIN.out.1⟩, FIN.out.2⟩
    · obtain ⟨T', a, rfl⟩ : ∃ T' a, T = T' ++ [a] := ⟨_, _, (List.dropLast_concat_getLast hTe).symm⟩
      have hTl : (T' ++ [a]).length = T'.length + 1 := by simp
      rw [hTl] at hn
      obtain ⟨ta, tc, hcs6, hcell⟩ := sl_cells fI_len hT hs.tail
      obtain ⟨tg, rfl, hfz, hcu⟩ := hcell T'.length a (by simp)
      rw [hTl] at hcs6
      subst hcs6
      have ca := hcu 0 (kI a) rfl
      have hcap : T'.length + 1 ≤ tc := by
        rcases hT.2 with ⟨e2, _⟩ | ⟨g', cap', cur, e2, hnc, _⟩
        · cases e2
        · simp only [Value.slice.injEq] at e2
          rw [hTl] at hnc
          omega
      simp only [Nat.mul_one, Nat.add_zero] at ca
      have hT2 : IntSl (.slice (some ⟨tg, 0, none⟩) T'.length tc) T' th := sl_pop fI_len hT
      have hrg : ∃ it left, (Instr.range 82 (nbV (getL a L))).run Try.prog wr = .ok (.pointer (some ⟨wr.heap.size, 0, none⟩)) (wr.alloc it) ∧ ItOk G it left ∧ ∀ y, y ∈ left ↔ E L a y := by
        cases hk : getL a L with
        | none =>
          refine ⟨_, [], run_range_nilMap wr _ _ _ Try.underlying82, .inl ⟨_, _, _, rfl, rfl⟩, fun y => ⟨fun h => (by cases h), ?_⟩⟩
          rintro ⟨n, h1, _⟩
          rw [hk] at h1; cases h1
        | some n =>
          obtain ⟨hmG, hok⟩ := HMEM.out a n hk
          have := sat_range (P := Try.prog) (w := wr) (b := n.g) (es := n.es) (clk := n.clk) Try.underlying82 hs (.tail _ (List.mem_append_right _ hmG))
          exact ⟨_, n.D.map (·.1), this.1, .inr ⟨n, n.clk, #[], n.clk, n.D, hmG, hok, rfl, iter_start hok, Nat.le_refl _, rfl⟩, fun y => E_left hk y⟩
      obtain ⟨it, left, hrun, hit, hleft⟩ := hrg
      have hlk := (BACK.out _ hs.tail.right).look a
      have hSI : SrI L k a N G sb wr.heap.size (2 * (N.length - S.length) + (T'.length + 1)) left.length (.slice (some ⟨tg, 0, none⟩) T'.length tc) (wr.alloc it) :=
        ⟨S, T', left, ses, sclk, th, it, hS.pop hleft, hSN, hM, hT2, hs.new it, hit, rfl, by omega⟩
      have HSI := Lib.hid hSI
      have l0 : (0 : Int) ≤ (T'.length : Int) := by omega
      have l1 : (T'.length : Int) + 1 ≤ (tc : Int) := by omega
      have l2 : T'.length ≤ 300000 := by omega
      rw [hn] at HSI
      clear hS hM hT hs hT2 hSI hit hleft hfz hcu hcell hTl hSN hTe
      generalize nbV (getL a L) = nbx at *
      generalize hrs : wr.heap.size = rr at *
      go_wp2_with fail
      clear hrun hlk ca
      go_loopg [6] (left.length) (fun n v6 wx => SrI L k a N G sb rr og n v6 wx)
      case atStart => exact HSI.out
      case round =>
        clear HSI hrs hn l0 l1 l2 hcap
        obtain ⟨S, T, left, ses, sclk, th, it, hS, hSN, hM, hT, hs, hit, hln, hlt⟩ := hrel
        obtain ⟨ta, tc2, rfl⟩ := sl_form hT
        rcases it_next (P := Try.prog) hit hs (fun x hx => .tail _ (List.mem_append_right _ hx)) 0 with ⟨rfl, hrn⟩ | ⟨y, left', it', w', hp, hit', hrn, hs', hen⟩
        · have fin : SrO L k N G sb (2 * (N.length - S.length) + T.length) (.slice ta T.length tc2) wr := ⟨S, T, ses, sclk, th, hS.close, hSN, hM, hT, hs.tail, rfl, by omega⟩
          have FIN := Lib.hid fin
          clear fin hS hM hT hs hit hSN
          go_wp2_with fail
          go_roundg (2 * (N.length - S.length) + T.length)
          case measure => omega
          case rel => exact FIN.out
        · have hyN : y ∈ N := HN.out a y (hS.edges y (hp.mem_iff.2 (.head _)))
          have hll : left'.length < gk := by have := hp.length_eq; simp at this; omega
          by_cases hyk : y = k
          · have hyb : (y == k) = true := by simpa using hyk
            have FIN := Lib.hid (And.intro (hS.back (hp.mem_iff.2 (by rw [hyk]; exact .head _))) (BACK.out _ hs'.tail.tail.right))
            clear hS hM hT hs hit hSN hp hit' hs' hyN hyk
            go_wp2_with fail
            go_ret
            exact ⟨true, rfl, ⟨fun _ => FIN.out.1, fun _ => rfl⟩, FIN.out.2⟩
          · have hyb : (y == k) = false := by simpa using hyk
            have hm1 : w'.heap[sb]? = some (.map ses sclk) := hs'.h1
            have hlk := run_lookup_ok (P := Try.prog) (t := 82) (kt := 3) (et := 4) (z := .bool false) Try.underlying82 Try.underlying3 (zeroB w') hm1 hM y
            rw [getL_unit] at hlk
            by_cases hyS : y ∈ S
            · rw [show decide (y ∈ S) = true from by simpa using hyS] at hlk
              have fin : SrI L k a N G sb rr og left'.length (.slice ta T.length tc2) w' := ⟨S, T, left', ses, sclk, th, it', hS.old hp hyk hyS, hSN, hM, hT, hs', hit', rfl, hlt⟩
              have FIN := Lib.hid fin
              clear fin hS hM hT hs hit hSN hp hit' hs' hyN hyk hyS hm1 hln hlt
              go_wp2_with fail
              go_roundg left'.length
              case measure => exact hll
              case rel => exact FIN.out
            · rw [show decide (y ∈ S) = false from by simpa using hyS] at hlk
              obtain ⟨w2, es2, clk2, hu, hM2, hs2⟩ := sat_update (P := Try.prog) (t := 82) (kt := 3) (et := 4) Try.underlying82 Try.underlying3 hM hs'.swap y ()
              rw [put_unit hyS] at hM2
              have hS2 := hS.push hp hyk hyS
              have hSN2 : ∀ x ∈ S ++ [y], x ∈ N := by
                intro x hx
                rcases List.mem_append.1 hx with hx | hx
                · exact hSN x hx
                · rw [List.mem_singleton.1 hx]; exact hyN
              have hlen2 := nodup_le hS2.nd hSN2
              have hlen1 : (S ++ [y]).length = S.length + 1 := by simp
              have hlen3 : (T ++ [y]).length = T.length + 1 := by simp
              obtain ⟨v3, w3, th3, hap, hT3, hs3⟩ := int_push (A := [.blk sb (.map es2 clk2), .blk rr it']) (B := G) y hT (hs2.new (.cells #[kI y] 3)) (by omega)
              obtain ⟨ta3, tc3, rfl⟩ := sl_form hT3
              have fin : SrI L k a N G sb rr og left'.length (.slice ta3 (T ++ [y]).length tc3) w3 := ⟨S ++ [y], T ++ [y], left', es2, clk2, th3, it', hS2, hSN2, hM2, hT3, (hs3 : Sat w3 (_ :: _ :: _)).swap, hit', rfl, by omega⟩
              have hu : (Instr.mapUpdate 82 (.map (some sb)) (kI y) (.bool true)).run Try.prog w' = .ok () w2 := hu
              rw [hlen3] at fin hap
              have FIN := Lib.hid fin
              have HAP := Lib.hid hap
              clear fin hS hM hT hs hit hSN hp hit' hs' hyN hyk hyS hm1 hln hlt hap hT3 hs3 hs2 hM2 hS2 hSN2 hlen1 hlen2 hlen3
              go_wp2_with (at_builtin; refine wpList_append_run rfl _ _ _ _ rfl _ _ _ _ rfl rfl HAP.out ?_)
              go_roundg left'.length
              case measure => exact hll
              case rel => exact FIN.out
end Go.Proofs.Ytjkpghhbpcjjiaa
