/- The reader of a line's words: tome's methods walked. Conditions: none. -/
import Derived.Test.YtieaamlpadlfeaaGreatDoorTb3
import Derived.Shelf.Slices.Turned
namespace Go.Proofs.YtieaamlpadlfeaaGreatDoor
open Go Go.MapKept Go.RowKit Go.Proofs

attribute [local go_sem] Oper.semAt_some

theorem bs_inj {a b : Bs} (h : (⟨a.toArray⟩ : ByteArray) = ⟨b.toArray⟩) : a = b := by
  have := congrArg (fun d : ByteArray => d.data.toList) h
  simpa using this
theorem idx_from (x : Bs) : ∀ (names : List Bs) (i : Nat), Lib.idxFromS (names.map fun l => (⟨l.toArray⟩ : ByteArray)) ⟨x.toArray⟩ i = if x ∈ names then ((i + names.idxOf x : Nat) : Int) else -1 := by
  intro names
  induction names with
  | nil => intro i; rfl
  | cons n t ih =>
    intro i
    rw [List.map_cons, Lib.idxFromS]
    by_cases e : n = x
    · subst e
      rw [if_pos rfl, if_pos (.head _), List.idxOf_cons_self]
      rfl
    · rw [if_neg (fun h => e (bs_inj h)), ih]
      by_cases h : x ∈ t
      · have hb : (n == x) = false := by simpa using e
        have e2 : (n :: t).idxOf x = t.idxOf x + 1 := by rw [List.idxOf_cons, hb]; rfl
        rw [if_pos h, if_pos (.tail _ h), e2]
        congr 1
        omega
      · rw [if_neg h, if_neg]
        intro h2
        rcases List.mem_cons.1 h2 with h3 | h3
        · exact e h3.symm
        · exact h h3
theorem idx_kind (names : List Bs) (x : Bs) : Lib.idxOfS (names.map fun l => (⟨l.toArray⟩ : ByteArray)) ⟨x.toArray⟩ + 1 = (kindOf names x : Int) := by
  unfold Lib.idxOfS
  rw [idx_from]
  unfold kindOf
  by_cases h : x ∈ names
  · rw [if_pos h, if_pos h]
    omega
  · rw [if_neg h, if_neg h]
    rfl
set_option maxRecDepth 100000 in
theorem kind_any {F : Heaplet} {w : World} (hL : LibF F) (s : Sat w F) (d : ByteArray) (names : List Bs) (hd : Lib.fields d.data.toList = names) (hsz : d.size ≤ 1000) (hn : names.length ≤ 100) (hascii : ∀ (j : Nat) b, d.data.toList[j]? = some b → b.toNat < 128) (x : Bs) :
    Calls Tryz.prog 24 #[.string d, kL x] w (Ret (.int .i64 (kindOf names x : Int)) (fun W => Sat W F)) := by
  have hF := Any.strings_Fields_laid Tryz.laysFields d w (by omega) hascii (hL w s).spc
  rw [hd] at hF
  have s1 := s.new (.cells (names.map fun l => Value.string ⟨l.toArray⟩).toArray 9)
  have hI := Any.slices_Index_string Tryz.laysIndex w.heap.size 0 names.length names.length (names.map fun l => (⟨l.toArray⟩ : ByteArray)) ⟨x.toArray⟩ (w.alloc (.cells (names.map fun l => Value.string ⟨l.toArray⟩).toArray 9)) (by simp) (by omega) (fun j hj => by
    rw [Nat.zero_add, cell_of s1.h0]
    simp only [List.length_map] at hj
    simp [hj])
  rw [List.take_of_length_le (by simp)] at hI
  have hk := idx_kind names x
  obtain ⟨z, hz⟩ : ∃ z, Lib.idxOfS (names.map fun l => (⟨l.toArray⟩ : ByteArray)) ⟨x.toArray⟩ = z := ⟨_, rfl⟩
  rw [hz] at hI hk
  have hle := kindOf_le names x
  have z0 : -1 ≤ z := by omega
  have z1 : z ≤ 100 := by omega
  have HF : Hid (Calls Tryz.prog 45 #[.string d] w _) := Lib.hid hF
  have HI : Hid (Calls Tryz.prog 44 #[.slice (some ⟨w.heap.size, 0, none⟩) names.length names.length, kL x] _ _) := Lib.hid hI
  have HS := Lib.hid s1.tail
  have HK := Lib.hid hk
  clear hF hI s1 hk hle hz hd hascii hsz
  go_enter Tryz.func24, Tryz.ntmps24
  go_wp2_with (first | (go_at_call 45; refine (HF.out).mono ?_; rintro e w1 ⟨rfl, rfl⟩) | (go_at_call 44; refine (HI.out).mono ?_; rintro e w2 ⟨rfl, rfl⟩))
  go_ret
  exact ⟨by rw [← HK.out]; rfl, HS.out⟩
/-- A reader lies in block b. -/
def RdIs (b : Nat) (r : Rd) (K F : Heaplet) (w : World) : Prop := ∃ v, WsAt K v r.ws ∧ ((∀ W, Sat W F → Sat W K) ∧ ∀ x ∈ r.ws, x.length ≤ 1000000) ∧ r.ws.length ≤ 1000000 ∧ Sat w (.blk b (.cells #[v, .bool r.bad] 61) :: F)
theorem RdIs.frame {b : Nat} {r : Rd} {K F : Heaplet} {w : World} (h : RdIs b r K F w) : Sat w F := by
  obtain ⟨v, _, _, _, s⟩ := h
  exact s.tail
theorem RdIs.down {b : Nat} {r : Rd} {K F : Heaplet} {w : World} (h : RdIs b r K F w) : ∀ W, Sat W F → Sat W K := by
  obtain ⟨v, _, h1, _⟩ := h
  exact h1.1
theorem RdIs.cells {b : Nat} {r : Rd} {K F : Heaplet} {w : World} (h : RdIs b r K F w) : ∃ a cap, WsAt K (.slice a r.ws.length cap) r.ws ∧ w.cell? ⟨b, 0, none⟩ = some (.slice a r.ws.length cap) ∧ w.cell? ⟨b, 1, none⟩ = some (.bool r.bad) ∧ w.frozen? ⟨b, 0, none⟩ = false ∧ w.frozen? ⟨b, 1, none⟩ = false := by
  obtain ⟨v, hv, _, _, s⟩ := h
  obtain ⟨a, cap, rfl, hc⟩ := id hv
  exact ⟨a, cap, hv, by rw [cell_of s.h0]; rfl, by rw [cell_of s.h0]; rfl, unfrozen_of s.h0 0, unfrozen_of s.h0 1⟩
theorem RdIs.bad {b : Nat} {r : Rd} {K F : Heaplet} {w : World} (h : RdIs b r K F w) (x : Bool) : RdIs b ⟨r.ws, x⟩ K F (w.setCell ⟨b, 1, none⟩ (.bool x)) := by
  obtain ⟨v, hv, h1, h2, s⟩ := h
  exact ⟨v, hv, h1, h2, s.setCell (i := 1) _⟩
theorem RdIs.len {b : Nat} {r : Rd} {K F : Heaplet} {w : World} (h : RdIs b r K F w) : r.ws.length ≤ 1000000 := by
  obtain ⟨v, _, _, h2, _⟩ := h
  exact h2
theorem RdIs.drewN {b : Nat} {r : Rd} {K F : Heaplet} {w : World} (h : RdIs b r K F w) (n : Nat) : RdIs b r K F (w.drewN n) := by
  obtain ⟨v, hv, h1, h2, s⟩ := h
  exact ⟨v, hv, h1, h2, s.grown (Grown.drewN w n)⟩
/-- What is done beside a reader. -/
theorem RdIs.move {b : Nat} {r : Rd} {K F F' : Heaplet} {w w' : World} (h : RdIs b r K F w) (hF : ∀ W, Sat W F' → Sat W K) (hs : ∀ x, Sat w (x :: F) → Sat w' (x :: F')) : RdIs b r K F' w' := by
  obtain ⟨v, hv, h1, h2, s⟩ := h
  exact ⟨v, hv, ⟨hF, h1.2⟩, h2, hs _ s⟩
theorem RdIs.new {b : Nat} {r : Rd} {K F : Heaplet} {w : World} (h : RdIs b r K F w) (o : Obj) : RdIs b r K (.blk w.heap.size o :: F) (w.alloc o) :=
  h.move (fun W hW => h.down W hW.tail) (fun _ s => (s.new o).swap)
theorem RdIs.of_sat {b : Nat} {r : Rd} {K F : Heaplet} {w : World} (h : RdIs b r K F w) : ∃ v, Sat w (.blk b (.cells #[v, .bool r.bad] 61) :: F) ∧ ∀ w', Sat w' (.blk b (.cells #[v, .bool r.bad] 61) :: F) → RdIs b r K F w' := by
  obtain ⟨v, hv, h1, h2, s⟩ := h
  exact ⟨v, s, fun w' s' => ⟨v, hv, h1, h2, s'⟩⟩
set_option maxRecDepth 100000 in
theorem rword_any {b : Nat} {r : Rd} {K F : Heaplet} {w : World} (h : RdIs b r K F w) :
    Calls Tryz.prog 25 #[.pointer (some ⟨b, 0, none⟩)] w (Ret (kL r.word.1) (RdIs b r.word.2 K F)) := by
  obtain ⟨ws, bad⟩ := r
  obtain ⟨a, cap, hv, c0, c1, f0, f1⟩ := h.cells
  have H := Lib.hid h
  cases ws with
  | nil =>
    simp only at hv c0 c1
    have FIN := Lib.hid (H.out.bad true)
    clear h H hv
    go_enter Tryz.func25, Tryz.ntmps25
    go_wp2_with fail
    go_ret
    exact ⟨rfl, FIN.out⟩
  | cons x t =>
    obtain ⟨a', cap', e, hcap, hu⟩ := hv
    simp only [Value.slice.injEq] at e
    obtain ⟨rfl, _, rfl⟩ := e
    obtain ⟨g, off, rfl, hx⟩ := hu 0 x rfl
    have x0 := hx w (h.down w h.frame)
    rw [Nat.add_zero] at x0
    have hl := h.len
    simp only [List.length_cons] at c0 hcap hl
    have n0 : (0 : Int) < ((t.length + 1 : Nat) : Int) := by omega
    have n1 : (1 : Int) ≤ ((t.length + 1 : Nat) : Int) := by omega
    have n2 : ((t.length + 1 : Nat) : Int) ≤ (cap : Int) := by omega
    have n3 : (((t.length + 1 : Nat) : Int) == 0) = false := by rw [beq_eq_false_iff_ne]; omega
    have HT : Hid (∀ c2, (cap = 1 → c2 = (0 : Nat)) → (cap ≠ 1 → c2 = cap - 1) → ∀ o2, (cap ≠ 1 → o2 = off + 1) → RdIs b ⟨t, bad⟩ K F (w.setCell ⟨b, 0, none⟩ (.slice (some ⟨g, o2, none⟩) t.length c2))) := Lib.hid (fun c2 h1 h2 o2 h3 => by
      obtain ⟨v, _, k1, k2, s⟩ := H.out
      refine ⟨_, ⟨some ⟨g, o2, none⟩, c2, rfl, ?_, fun i y hy => ?_⟩, ⟨k1.1, fun y hy => k1.2 y (.tail _ hy)⟩, by have k3 : t.length + 1 ≤ 1000000 := k2; show t.length ≤ 1000000; omega, s.setCell (i := 0) _⟩
      · show t.length ≤ c2
        by_cases e : cap = 1
        · have := h1 e; omega
        · have := h2 e; omega
      · have hi := (List.getElem?_eq_some_iff.1 hy).1
        obtain ⟨g2, off2, e2, hw⟩ := hu (i + 1) y (by rw [List.getElem?_cons_succ]; exact hy)
        cases e2
        have e3 := h3 (by have hi2 : i < t.length := hi; omega)
        refine ⟨g, o2, rfl, fun W hW => ?_⟩
        have := hw W hW
        rw [show off + (i + 1) = off + 1 + i by omega] at this
        rw [e3]
        exact this)
    clear hu hx H
    by_cases e1 : cap = 1
    · have FIN := Lib.hid (HT.out 0 (fun _ => rfl) (fun h => absurd e1 h) off (fun h => absurd e1 h))
      clear HT
      go_enter Tryz.func25, Tryz.ntmps25
      go_wp2_with fail
      go_ret
      exact ⟨rfl, FIN.out⟩
    · have FIN := Lib.hid (HT.out (cap - 1) (fun h => absurd h e1) (fun _ => rfl) (off + 1) (fun _ => rfl))
      clear HT
      go_enter Tryz.func25, Tryz.ntmps25
      go_wp2_with fail
      go_ret
      exact ⟨rfl, FIN.out⟩
theorem cmp_bs (a b : Bs) : ((⟨a.toArray⟩ : ByteArray).toList == (⟨b.toArray⟩ : ByteArray).toList) = decide (a = b) := by
  rw [ByteArray.toList_eq, ByteArray.toList_eq, data_bs, data_bs]
  by_cases h : a = b <;> simp [h]
theorem RdIs.word_len {b : Nat} {r : Rd} {K F : Heaplet} {w : World} (h : RdIs b r K F w) : r.word.1.length ≤ 1000000 := by
  obtain ⟨v, _, h1, _, _⟩ := h
  obtain ⟨ws, bad⟩ := r
  cases ws with
  | nil => simp [Rd.word]
  | cons x t => exact h1.2 x (.head _)
/-- A call beside a reader. -/
theorem RdIs.beside {b : Nat} {r : Rd} {K F : Heaplet} {w : World} {f : Nat} {args : Array Value} {v : Value} (h : RdIs b r K F w) (hc : ∀ G : Heaplet, (∀ W, Sat W G → Sat W F) → Sat w G → Calls Tryz.prog f args w (Ret v (fun W => Sat W G))) : Calls Tryz.prog f args w (Ret v (RdIs b r K F)) := by
  obtain ⟨u, s, hk⟩ := h.of_sat
  refine (hc _ (fun W hW => hW.tail) s).mono ?_
  rintro e w' ⟨rfl, s'⟩
  exact ⟨rfl, hk w' s'⟩
set_option maxRecDepth 100000 in
theorem rnum_core {b : Nat} {ws : List Bs} {bad : Bool} {x : Bs} {K F : Heaplet} {w : World} (hL : LibF F) (HWD : Hid (Calls Tryz.prog 25 #[.pointer (some ⟨b, 0, none⟩)] w (Ret (kL x) (RdIs b ⟨ws, bad⟩ K F)))) (hlen : x.length ≤ 1000000) :
    Calls Tryz.prog 26 #[.pointer (some ⟨b, 0, none⟩)] w (Ret (.int .i64 (numV x)) (RdIs b ⟨ws, bad || (numS x).isNone⟩ K F)) := by
  have HL := Lib.hid hL
  have HX := Lib.hid hlen
  clear hL hlen
  by_cases hok : ∃ n, Lib.atoiAll x = .ok n
  · obtain ⟨n, hn⟩ := hok
    have hb := Lib.atoiAll_bounds hn
    have ev : numV x = n := by unfold numV; rw [hn]
    obtain ⟨q, hq⟩ : ∃ q, decide (Lib.itoa n = x) = q := ⟨_, rfl⟩
    have es : (numS x).isNone = !q := by
      rw [← hq]
      unfold numS
      rw [hn]
      simp only
      by_cases e : Lib.itoa n = x
      · rw [if_pos e]; simp [e]
      · rw [if_neg e]; simp [e]
    rw [ev, es]
    have hcmp : (Lib.itoa n == x) = q := by
      rw [← hq]
      by_cases e : Lib.itoa n = x <;> simp [e]
    have HAT : Hid (∀ W, RdIs b ⟨ws, bad⟩ K F W → Calls Tryz.prog 46 #[kL x] W (Ret (.tuple #[.int .i64 n, .nilIface]) (RdIs b ⟨ws, bad⟩ K F))) := Lib.hid (fun W hW => hW.beside (fun G hG s => atoi_ok s x HX.out hn))
    have HIT : Hid (∀ W, RdIs b ⟨ws, bad⟩ K F W → Calls Tryz.prog 32 #[.int .i64 n] W (Ret (kL (Lib.itoa n)) (RdIs b ⟨ws, bad⟩ K F))) := Lib.hid (fun W hW => hW.beside (fun G hG s => itoa_at (HL.out.mono hG) s n hb))
    clear hn hb ev es hq HX HL
    cases bad with
    | true =>
      go_enter Tryz.func26, Tryz.ntmps26
      go_wp2_with (first
        | (go_at_call 25; refine (HWD.out).mono ?_; rintro e w1 ⟨rfl, h1⟩; have H1 := Lib.hid h1; clear h1)
        | (go_at_call 46; refine (HAT.out _ H1.out).mono ?_; rintro e w2 ⟨rfl, h2⟩; have H2 := Lib.hid (h2.bad true); obtain ⟨_, _, _, _, c1, _, f1⟩ := h2.cells; clear h2))
      go_ret
      exact ⟨rfl, H2.out⟩
    | false =>
      cases q with
      | true =>
        go_enter Tryz.func26, Tryz.ntmps26
        go_wp2_with (first
          | (go_at_call 25; refine (HWD.out).mono ?_; rintro e w1 ⟨rfl, h1⟩; have H1 := Lib.hid h1; clear h1)
          | (go_at_call 46; refine (HAT.out _ H1.out).mono ?_; rintro e w2 ⟨rfl, h2⟩; have H2 := Lib.hid h2; obtain ⟨_, _, _, _, c1, _, f1⟩ := h2.cells; clear h2)
          | (go_at_call 32; refine (HIT.out _ H2.out).mono ?_; rintro e w3 ⟨rfl, h3⟩; have H3 := Lib.hid (h3.bad false); obtain ⟨_, _, _, _, d1, _, g1⟩ := h3.cells; clear h3))
        go_ret
        exact ⟨rfl, H3.out⟩
      | false =>
        go_enter Tryz.func26, Tryz.ntmps26
        go_wp2_with (first
          | (go_at_call 25; refine (HWD.out).mono ?_; rintro e w1 ⟨rfl, h1⟩; have H1 := Lib.hid h1; clear h1)
          | (go_at_call 46; refine (HAT.out _ H1.out).mono ?_; rintro e w2 ⟨rfl, h2⟩; have H2 := Lib.hid h2; obtain ⟨_, _, _, _, c1, _, f1⟩ := h2.cells; clear h2)
          | (go_at_call 32; refine (HIT.out _ H2.out).mono ?_; rintro e w3 ⟨rfl, h3⟩; have H3 := Lib.hid (h3.bad true); obtain ⟨_, _, _, _, d1, _, g1⟩ := h3.cells; clear h3))
        go_ret
        exact ⟨rfl, H3.out⟩
  · have es : (numS x).isNone = true := by
      unfold numS
      cases ha : Lib.atoiAll x with
      | ok n => exact absurd ⟨n, ha⟩ hok
      | range => rfl
      | _ => rfl
    rw [es, Bool.or_true]
    have HAT : Hid (∀ W, RdIs b ⟨ws, bad⟩ K F W → Calls Tryz.prog 46 #[kL x] W (fun e w' => ∃ N, e = .returned (.tuple #[.int .i64 (numV x), .iface 110 (.pointer (some ⟨N, 0, none⟩))]) ∧ RdIs b ⟨ws, bad⟩ K F w')) := Lib.hid (fun W hW => by
      obtain ⟨v, s, hk⟩ := hW.of_sat
      refine (atoi_bad (HL.out.mono (fun W hW => hW.tail)) s x HX.out (fun n hn => hok ⟨n, hn⟩)).mono ?_
      rintro e w' ⟨N, rfl, s'⟩
      exact ⟨N, rfl, hk w' s'⟩)
    generalize numV x = nv at *
    clear es hok HX HL
    cases bad with
    | true =>
      go_enter Tryz.func26, Tryz.ntmps26
      go_wp2_with (first
        | (go_at_call 25; refine (HWD.out).mono ?_; rintro e w1 ⟨rfl, h1⟩; have H1 := Lib.hid h1; clear h1)
        | (go_at_call 46; refine (HAT.out _ H1.out).mono ?_; rintro e w2 ⟨N, rfl, h2⟩; have H2 := Lib.hid (h2.bad true); obtain ⟨_, _, _, _, c1, _, f1⟩ := h2.cells; clear h2))
      go_ret
      exact ⟨rfl, H2.out⟩
    | false =>
      go_enter Tryz.func26, Tryz.ntmps26
      go_wp2_with (first
        | (go_at_call 25; refine (HWD.out).mono ?_; rintro e w1 ⟨rfl, h1⟩; have H1 := Lib.hid h1; clear h1)
        | (go_at_call 46; refine (HAT.out _ H1.out).mono ?_; rintro e w2 ⟨N, rfl, h2⟩; have H2 := Lib.hid (h2.bad true); obtain ⟨_, _, _, _, c1, _, f1⟩ := h2.cells; clear h2))
      go_ret
      exact ⟨rfl, H2.out⟩
theorem rnum_any {b : Nat} {r : Rd} {K F : Heaplet} {w : World} (hL : LibF F) (h : RdIs b r K F w) :
    Calls Tryz.prog 26 #[.pointer (some ⟨b, 0, none⟩)] w (Ret (.int .i64 r.num.1) (RdIs b r.num.2 K F)) :=
  rnum_core hL (Lib.hid (rword_any h)) h.word_len
end Go.Proofs.YtieaamlpadlfeaaGreatDoor
