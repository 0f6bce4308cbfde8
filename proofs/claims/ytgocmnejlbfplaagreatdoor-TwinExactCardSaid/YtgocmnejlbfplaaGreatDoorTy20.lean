/- Texts put together: Tx7. Conditions: none. -/
import Derived.Test.YtgocmnejlbfplaaGreatDoorTy11
import Derived.Test.YtgocmnejlbfplaaGreatDoorTy17
import Derived.Test.YtgocmnejlbfplaaGreatDoorTy18
import Derived.Test.YtgocmnejlbfplaaGreatDoorTy19
namespace Go.Proofs.YtgocmnejlbfplaaGreatDoor
open Go Go.MapKept Go.RowKit Go.Proofs

attribute [local go_sem] Oper.semAt_some

/-- Every sector that came took an act. -/
def BndM (M : PM) : Prop := (M.secs.length : Int) + (M.queue.length : Int) ≤ M.acts
theorem actM_acts (M : PM) : (actM M).2.acts = M.acts + 1 := by
  unfold actM
  split
  · split
    · unfold offM
      split <;> rfl
    · rfl
  · rfl
theorem BndM.act {M : PM} (h : (M.secs.length : Int) + (M.queue.length : Int) ≤ M.acts + 1) : BndM (actM M).2 := by
  obtain ⟨a, b, _⟩ := act_queue M
  unfold BndM
  rw [a, b, actM_acts]
  exact h
theorem BndM.write {M : PM} (h : BndM M) (n : Int) (s : ByteArray) : BndM (writeM M n s).2 := by
  unfold BndM at h
  unfold writeM
  split
  · exact h
  · split
    · exact h
    · refine BndM.act ?_
      have : (pushM M n s).queue.length = M.queue.length + 1 := by simp [pushM]
      have e1 : (pushM M n s).secs = M.secs := rfl
      have e2 : (pushM M n s).acts = M.acts := rfl
      rw [this, e1, e2]
      omega
theorem BndM.sync {M : PM} (h : BndM M) : BndM (syncM M).2 := by
  unfold BndM at h
  unfold syncM
  split
  · exact h
  · split
    · exact BndM.act (by omega)
    · have h1 := putAll_len M.secs M.queue
      show ((putAll M.secs M.queue).length : Int) + (([] : List (Int × ByteArray)).length : Int) ≤ (actM M).2.acts
      rw [actM_acts, List.length_nil]
      omega
theorem BndM.on {M : PM} (h : BndM M) (f : Nat → Int) : BndM (onM M f) := by
  unfold BndM at h
  unfold onM
  split
  · have h1 := fateTo_len f M.queue M.secs M.queue.length
    show ((fateTo f M.queue M.secs M.queue.length).length : Int) + (([] : List (Int × ByteArray)).length : Int) ≤ M.acts
    rw [List.length_nil]
    omega
  · exact h
theorem BndM.off {M : PM} (h : BndM M) : BndM (offM M) := by
  unfold offM
  split
  · exact h
  · exact h
/-- The document's plate at block b, within bounds. -/
def RQ (b : Nat) (M : PM) (F : Heaplet) (w : World) : Prop := RPl b M F w ∧ BndM M
theorem RPl.below {b : Nat} {M : PM} {F : Heaplet} {w w' : World} (h : RPl b M F w) (g : Below w.heap.size w w') : RPl b M F w' := by
  obtain ⟨H, h1, h2⟩ := h
  exact ⟨H, h1, h2.monoB g⟩
theorem RPl.setF {b g i : Nat} {M : PM} {F : Heaplet} {w : World} {c : Array Value} {t : TypeId} {z : Nat × Nat} (h : RPl b M (.blk g (.cells c t z) :: F) w) (v : Value) : RPl b M (.blk g (.cells (c.setIfInBounds i v) t z) :: F) (w.setCell ⟨g, i, none⟩ v) := by
  obtain ⟨H, h1, h2⟩ := h
  have s1 := (h2.perm (List.perm_middle (l₁ := H))).setCell (i := i) v
  exact ⟨H, h1, s1.perm (List.perm_middle (l₁ := H)).symm⟩
theorem RQ.write {b : Nat} {M : PM} {F : Heaplet} {w : World} (h : RQ b M F w) {bd : Nat} (hk : PlOk bd M) (n : Int) (s : ByteArray) (hs : s.size ≤ 1000000) :
    Calls Tryz.prog 20 #[.pointer (some ⟨b, 0, none⟩), .int .i64 n, .string s] w (Ret (.int .i64 (writeM M n s).1) (RQ b (writeM M n s).2 F)) := by
  obtain ⟨_, _, k1⟩ := hk
  refine (rp_write h.1 n s (by omega) (by omega) (by omega) (by omega) hs).mono ?_
  rintro e w' ⟨rfl, h'⟩
  exact ⟨rfl, h', h.2.write n s⟩
theorem RQ.sync {b : Nat} {M : PM} {F : Heaplet} {w : World} (h : RQ b M F w) {bd : Nat} (hk : PlOk bd M) :
    Calls Tryz.prog 39 #[.pointer (some ⟨b, 0, none⟩)] w (Ret (.int .i64 (syncM M).1) (RQ b (syncM M).2 F)) := by
  obtain ⟨_, _, k1⟩ := hk
  have hb := h.2
  unfold BndM at hb
  refine (rp_sync h.1 (by omega) (by omega) (by omega) (by omega)).mono ?_
  rintro e w' ⟨rfl, h'⟩
  exact ⟨rfl, h', h.2.sync⟩
theorem RQ.on {b : Nat} {M : PM} {F : Heaplet} {w : World} (h : RQ b M F w) {bd : Nat} (hk : PlOk bd M) {p : Option Addr} {len cap : Nat} {A : Nat → Int} (hI : IsAt F p len A) (hlen : (len : Int) ≤ 9223372036854775807) :
    Calls Tryz.prog 15 #[.pointer (some ⟨b, 0, none⟩), .slice p len cap] w (Ret (.tuple #[]) (RQ b (onM M (fateM len A)) F)) := by
  obtain ⟨_, _, k1⟩ := hk
  have hb := h.2
  unfold BndM at hb
  refine (rp_on h.1 (by omega) hI hlen).mono ?_
  rintro e w' ⟨rfl, h'⟩
  exact ⟨rfl, h', h.2.on _⟩
theorem RQ.off {b : Nat} {M : PM} {F : Heaplet} {w : World} (h : RQ b M F w) {bd : Nat} (hk : PlOk bd M) :
    Calls Tryz.prog 13 #[.pointer (some ⟨b, 0, none⟩)] w (Ret (.tuple #[]) (RQ b (offM M) F)) := by
  obtain ⟨_, _, k1⟩ := hk
  refine (rp_off h.1 (by omega)).mono ?_
  rintro e w' ⟨rfl, h'⟩
  exact ⟨rfl, h', h.2.off⟩
theorem RQ.arm {b : Nat} {M : PM} {F : Heaplet} {w : World} (h : RQ b M F w) (n : Int) :
    Calls Tryz.prog 17 #[.pointer (some ⟨b, 0, none⟩), .int .i64 n] w (Ret (.tuple #[]) (RQ b (armM M n) F)) := by
  refine (rp_arm h.1 n).mono ?_
  rintro e w' ⟨rfl, h'⟩
  exact ⟨rfl, h', h.2⟩
theorem RQ.new (F : Heaplet) (n : Int) (w : World) (hs : Sat w F) :
    Calls Tryz.prog 7 #[.int .i64 n] w fun e w' => ∃ b, e = .returned (.pointer (some ⟨b, 0, none⟩)) ∧ RQ b (newM n) F w' := by
  refine (rp_new F n w hs).mono ?_
  rintro e w' ⟨b, rfl, h'⟩
  exact ⟨b, rfl, h', by show (0 : Int) + 0 ≤ 0; omega⟩
theorem RQ.read {b : Nat} {M : PM} {F : Heaplet} {w : World} (h : RQ b M F w) {bd : Nat} (hk : PlOk bd M) (n : Int) :
    Calls Tryz.prog 35 #[.pointer (some ⟨b, 0, none⟩), .int .i64 n] w (Ret (.tuple #[.string (readM M n).1, .int .i64 (readM M n).2]) (RQ b M F)) := by
  obtain ⟨_, _, k1⟩ := hk
  have hb := h.2
  unfold BndM at hb
  refine (rp_read h.1 (by omega) n).mono ?_
  rintro e w' ⟨rfl, h'⟩
  exact ⟨rfl, h', h.2⟩
abbrev rsO (S : TS) (pb : Nat) (pv : Value) : Obj := .cells #[.pointer (some ⟨pb, 0, none⟩), kI S.frm, kI S.twins, pv, kI S.life, .bool S.dead] 75
/-- The document's store lies at tb, its plate at pb; slots lie in its own blocks or in E. -/
def RSt (E : Heaplet) (tb pb : Nat) (S : TS) (M : PM) (G : Heaplet) (w : World) : Prop := ∃ pv R h K, PrSl pv R h ∧ PrIs (K ++ E) R S.pages ∧ RQ pb M (.blk tb (rsO S pb pv) :: (h ++ (K ++ (E ++ G)))) w
variable {E : Heaplet}
theorem RSt.plate {tb pb : Nat} {S : TS} {M : PM} {G : Heaplet} {w : World} (h : RSt E tb pb S M G w) : ∃ H, RQ pb M H w := by
  obtain ⟨pv, R, h, K, _, _, hp⟩ := h
  exact ⟨_, hp⟩
theorem RSt.cells {tb pb : Nat} {S : TS} {M : PM} {G : Heaplet} {w : World} (h : RSt E tb pb S M G w) : ∃ pv a cap, pv = .slice a S.pages.length cap ∧ w.cell? ⟨tb, 0, none⟩ = some (.pointer (some ⟨pb, 0, none⟩)) ∧ w.cell? ⟨tb, 1, none⟩ = some (kI S.frm) ∧ w.cell? ⟨tb, 2, none⟩ = some (kI S.twins) ∧ w.cell? ⟨tb, 3, none⟩ = some pv ∧
    w.cell? ⟨tb, 4, none⟩ = some (kI S.life) ∧ w.cell? ⟨tb, 5, none⟩ = some (.bool S.dead) ∧ ∀ i, w.frozen? ⟨tb, i, none⟩ = false := by
  obtain ⟨pv, R, h, K, h1, h2, hp⟩ := h
  have hb := hp.1.frame.h0
  obtain ⟨a, cap, e⟩ := sl_form h1
  refine ⟨pv, a, cap, by rw [e, h2.1], ?_, ?_, ?_, ?_, ?_, ?_, fun i => unfrozen_of hb i⟩ <;> (rw [cell_of hb]; rfl)
theorem RSt.below {tb pb : Nat} {S : TS} {M : PM} {G : Heaplet} {w w' : World} (h : RSt E tb pb S M G w) (hb : Below w.heap.size w w') : RSt E tb pb S M G w' := by
  obtain ⟨pv, R, h, K, h1, h2, hp⟩ := h
  exact ⟨pv, R, h, K, h1, h2, hp.1.below hb, hp.2⟩
theorem RSt.frame {tb pb : Nat} {S : TS} {M : PM} {G : Heaplet} {w : World} (h : RSt E tb pb S M G w) : Sat w G := by
  obtain ⟨pv, R, h, K, h1, h2, hp⟩ := h
  exact hp.1.frame.tail.right.right.right
/-- The store as blocks Z, and the way back. -/
theorem RSt.view {tb pb : Nat} {S : TS} {M : PM} {G : Heaplet} {w : World} (h : RSt E tb pb S M G w) : ∃ (Z : Heaplet) (a : Option Addr) (cap : Nat), Sat w Z ∧ (∀ W (X : Heaplet), Sat W (X ++ Z) → RSt E tb pb S M (X ++ G) W) ∧
    (∀ W, Sat W Z → W.cell? ⟨tb, 0, none⟩ = some (.pointer (some ⟨pb, 0, none⟩)) ∧ W.cell? ⟨tb, 1, none⟩ = some (kI S.frm) ∧ W.cell? ⟨tb, 2, none⟩ = some (kI S.twins) ∧ W.cell? ⟨tb, 3, none⟩ = some (.slice a S.pages.length cap) ∧ W.cell? ⟨tb, 4, none⟩ = some (kI S.life) ∧ W.cell? ⟨tb, 5, none⟩ = some (.bool S.dead)) ∧
    (∀ (i : Nat) p, S.pages[i]? = some p → ∃ g sa sc, a = some ⟨g, 0, none⟩ ∧ SlAt Z (.slice sa p.slots.length sc) p.slots ∧ ∀ W, Sat W Z → W.cell? ⟨g, i * 2, none⟩ = some (kI p.lsn) ∧ W.cell? ⟨g, i * 2 + 1, none⟩ = some (.slice sa p.slots.length sc)) := by
  obtain ⟨pv, R, h, K, h1, h2, ⟨H, hH, hs⟩, hbn⟩ := h
  obtain ⟨a, cap, rfl⟩ := sl_form h1
  rw [h2.1] at hs
  have hrow : ∀ W, Sat W (H ++ (.blk tb (rsO S pb (.slice a S.pages.length cap)) :: (h ++ (K ++ (E ++ G))))) → Sat W (.blk tb (rsO S pb (.slice a S.pages.length cap)) :: (h ++ (K ++ (E ++ G)))) := fun W hW => hW.right
  refine ⟨_, a, cap, hs, fun W X hW => ?_, fun W hW => ?_, fun i p hp => ?_⟩
  · refine ⟨.slice a S.pages.length cap, R, h, K, by rw [← h2.1]; exact h1, h2, ⟨H, hH, ?_⟩, hbn⟩
    refine Sat.part hW ?_
    intro c
    simp only [cnt_cons, cnt_append]
    omega
  · have hb := (hrow W hW).h0
    refine ⟨?_, ?_, ?_, ?_, ?_, ?_⟩ <;> (rw [cell_of hb]; rfl)
  · have hil : i < R.length := by rw [h2.1]; exact (List.getElem?_eq_some_iff.1 hp).1
    obtain ⟨r, hr⟩ : ∃ r, R[i]? = some r := ⟨_, List.getElem?_eq_getElem hil⟩
    obtain ⟨e1, e2⟩ := h2.2 i r p hr hp
    obtain ⟨sa, sc, e3, _⟩ := id e2
    have hcell : ∀ W, Sat W (H ++ (.blk tb (rsO S pb (.slice a S.pages.length cap)) :: (h ++ (K ++ (E ++ G))))) → ∃ g, a = some ⟨g, 0, none⟩ ∧ W.cell? ⟨g, i * 2, none⟩ = some (kI p.lsn) ∧ W.cell? ⟨g, i * 2 + 1, none⟩ = some (.slice sa p.slots.length sc) := fun W hW => by
      obtain ⟨a', cap', e, hc⟩ := sl_cells prC_len h1 (hrow W hW).tail
      cases e
      obtain ⟨g, ea, _, hu⟩ := hc i r hr
      refine ⟨g, ea, ?_, ?_⟩
      · rw [← e1]; exact hu 0 _ rfl
      · rw [← e3]; exact hu 1 _ rfl
    obtain ⟨g, rfl, _⟩ := hcell w hs
    refine ⟨g, sa, sc, rfl, by rw [← e3]; exact e2.mono (fun W hW => (hrow W hW).tail.right.part (fun a => by simp only [cnt_append]; omega)), fun W hW => ?_⟩
    obtain ⟨g', e, hh⟩ := hcell W hW
    cases e
    exact hh
theorem RSt.part {tb pb : Nat} {S : TS} {M : PM} {G G' : Heaplet} {w : World} (h : RSt E tb pb S M G w) (hc : ∀ a, cnt a G' ≤ cnt a G) : RSt E tb pb S M G' w := by
  obtain ⟨pv, R, h', K, h1, h2, hp, hb⟩ := h
  refine ⟨pv, R, h', K, h1, h2, hp.mono (fun a => ?_), hb⟩
  have := hc a
  simp only [cnt_cons, cnt_append]
  omega
theorem RSt.new {tb pb : Nat} {S : TS} {M : PM} {G : Heaplet} {w : World} (h : RSt E tb pb S M G w) (o : Obj) : RSt E tb pb S M (.blk w.heap.size o :: G) (w.alloc o) := by
  obtain ⟨Z, _, _, hz, hmk, _⟩ := h.view
  exact hmk _ [.blk w.heap.size o] (hz.new o)
theorem RSt.setF {tb pb g i : Nat} {S : TS} {M : PM} {G : Heaplet} {w : World} {c : Array Value} {t : TypeId} {z : Nat × Nat} (h : RSt E tb pb S M (.blk g (.cells c t z) :: G) w) (v : Value) : RSt E tb pb S M (.blk g (.cells (c.setIfInBounds i v) t z) :: G) (w.setCell ⟨g, i, none⟩ v) := by
  obtain ⟨pv, R, h', K, h1, h2, hp, hb⟩ := h
  refine ⟨pv, R, h', K, h1, h2, ?_, hb⟩
  have p1 : RPl pb M (.blk g (.cells c t z) :: (.blk tb (rsO S pb pv) :: (h' ++ (K ++ (E ++ G))))) w := hp.mono (fun a => by simp only [cnt_cons, cnt_append]; omega)
  exact (p1.setF v).mono (fun a => by simp only [cnt_cons, cnt_append]; omega)
theorem RSt.toPlate {tb pb : Nat} {S : TS} {M : PM} {G : Heaplet} {w : World} (h : RSt E tb pb S M G w) : RQ pb M (E ++ G) w := by
  obtain ⟨pv, R, h', K, h1, h2, hp, hb⟩ := h
  exact ⟨hp.mono (fun a => by simp only [cnt_cons, cnt_append]; omega), hb⟩
theorem RSt.setDead {tb pb : Nat} {S : TS} {M : PM} {G : Heaplet} {w : World} (h : RSt E tb pb S M G w) (d : Bool) : RSt E tb pb (S.die d) M G (w.setCell ⟨tb, 5, none⟩ (.bool d)) := by
  obtain ⟨pv, R, h', K, h1, h2, hp, hb⟩ := h
  exact ⟨pv, R, h', K, h1, h2, hp.setF (i := 5) (.bool d), hb⟩
/-- A page more. -/
theorem RSt.push {tb pb : Nat} {S : TS} {M : PM} {G hb : Heaplet} {w : World} {x : Nat} {p : Pg} {a : Option Addr} {cap : Nat} (h : RSt E tb pb S M (.blk x (.cells #[kI p.lsn, .slice a p.slots.length cap] 48) :: (hb ++ G)) w) (hsl : SlAt hb (.slice a p.slots.length cap) p.slots) (hl : S.pages.length + 1 ≤ 200000) :
    ∃ pv v' w', w.cell? ⟨tb, 3, none⟩ = some pv ∧ (∀ ty, (Builtin.append_ #[68, 68] ty #[pv, .slice (some ⟨x, 0, none⟩) 1 1]).run Tryz.prog w = .ok v' w') ∧ (w'.cell? ⟨tb, 3, none⟩ = some pv ∧ Sat w' G) ∧ (∀ i, w'.frozen? ⟨tb, i, none⟩ = false) ∧ RSt E tb pb (S.push p) M G (w'.setCell ⟨tb, 3, none⟩ v') ∧ ∃ a' c', v' = .slice a' (S.pages.length + 1) c' := by
  obtain ⟨pv, R, h', K, h1, h2, ⟨H, hH, hs⟩, hbn⟩ := h
  obtain ⟨i0, hin, hz, hsize, hby⟩ := info_parts infoPg
  have s2 : Sat w (.blk x (.cells (prC (p.lsn, .slice a p.slots.length cap)).toArray 48) :: ([] ++ (h' ++ (.blk tb (rsO S pb pv) :: (H ++ ((hb ++ K) ++ (E ++ G))))))) := by
    have s' : Sat w (H ++ (.blk tb (rsO S pb pv) :: (h' ++ (K ++ (E ++ (.blk x (.cells (prC (p.lsn, .slice a p.slots.length cap)).toArray 48) :: (hb ++ G))))))) := hs
    refine Sat.part s' ?_
    intro a
    simp only [cnt_cons, cnt_append, cnt_nil]
    omega
  obtain ⟨v', w', hn, hap, hv', hs'⟩ := sl_push (P := Tryz.prog) prC_len Tryz.underlying68 hin hz hsize hby rfl (by decide) h1 (p.lsn, .slice a p.slots.length cap) s2 (by intro u hu; simp only [prC, List.mem_cons, List.not_mem_nil, or_false] at hu; rcases hu with rfl | rfl <;> rfl) (by unfold maxLen; rw [h2.1]; omega) (by rw [h2.1]; omega)
  have hs3 : Sat w' (.blk tb (rsO S pb pv) :: (H ++ (hn ++ ((hb ++ K) ++ (E ++ G))))) := by
    refine Sat.part hs' ?_
    intro a
    simp only [cnt_cons, cnt_append, cnt_nil]
    omega
  have hs4 := hs3.setCell (i := 3) v'
  refine ⟨pv, v', w', ?_, hap, ⟨by rw [cell_of hs3.h0]; rfl, hs3.tail.right.right.right.right⟩, unfrozen_of hs3.h0, ?_, ?_⟩
  · have : Sat w (.blk tb (rsO S pb pv) :: (h' ++ (K ++ (E ++ (.blk x (.cells #[kI p.lsn, .slice a p.slots.length cap] 48) :: (hb ++ G)))))) := hs.right
    rw [cell_of this.h0]; rfl
  · refine ⟨v', R ++ [(p.lsn, .slice a p.slots.length cap)], hn, hb ++ K, hv', ⟨by simp [TS.push, h2.1], fun i r q hr hq => ?_⟩, ⟨H, hH, ?_⟩, hbn⟩
    · by_cases hil : i < R.length
      · rw [List.getElem?_append_left hil] at hr
        have hq' : S.pages[i]? = some q := by
          have : (S.pages ++ [p])[i]? = some q := hq
          rwa [List.getElem?_append_left (by rw [← h2.1]; exact hil)] at this
        obtain ⟨e1, e2⟩ := h2.2 i r q hr hq'
        exact ⟨e1, e2.mono (fun W hW => hW.part (fun a => by simp only [cnt_append]; omega))⟩
      · rw [List.getElem?_append_right (by omega)] at hr
        have hq' : (S.pages ++ [p])[i]? = some q := hq
        rw [List.getElem?_append_right (by rw [← h2.1]; omega)] at hq'
        have h0 : i - R.length = 0 := by
          have := (List.getElem?_eq_some_iff.1 hr).1
          simp only [List.length_cons, List.length_nil] at this
          omega
        rw [h0] at hr
        rw [← h2.1, h0] at hq'
        cases hr; cases hq'
        exact ⟨rfl, hsl.mono (fun W hW => hW.part (fun a => by simp only [cnt_append]; omega))⟩
    · have e5 : (#[.pointer (some ⟨pb, 0, none⟩), kI S.frm, kI S.twins, pv, kI S.life, .bool S.dead] : Array Value).setIfInBounds 3 v' = #[.pointer (some ⟨pb, 0, none⟩), kI S.frm, kI S.twins, v', kI S.life, .bool S.dead] := rfl
      rw [e5] at hs4
      have hs5 : Sat (w'.setCell ⟨tb, 3, none⟩ v') (.blk tb (rsO (S.push p) pb v') :: (H ++ (hn ++ ((hb ++ K) ++ (E ++ G))))) := hs4
      refine Sat.part hs5 ?_
      intro a
      simp only [cnt_cons, cnt_append]
      omega
  · obtain ⟨a', c', e⟩ := sl_form hv'
    exact ⟨a', c', by rw [e, List.length_append, h2.1]; rfl⟩
theorem RSt.read {tb pb : Nat} {S : TS} {M : PM} {G : Heaplet} {w : World} (h : RSt E tb pb S M G w) {bd : Nat} (hk : PlOk bd M) (n : Int) : Calls Tryz.prog 35 #[.pointer (some ⟨pb, 0, none⟩), .int .i64 n] w (Ret (.tuple #[.string (readM M n).1, .int .i64 (readM M n).2]) (RSt E tb pb S M G)) := by
  obtain ⟨pv, R, h', K, h1, h2, hp⟩ := h
  refine (RQ.read hp hk n).mono ?_
  rintro e w' ⟨rfl, hp'⟩
  exact ⟨rfl, pv, R, h', K, h1, h2, hp'⟩
theorem RSt.write {tb pb : Nat} {S : TS} {M : PM} {G : Heaplet} {w : World} (h : RSt E tb pb S M G w) {bd : Nat} (hk : PlOk bd M) (n : Int) (s : ByteArray) (hs : s.size ≤ 1000000) : Calls Tryz.prog 20 #[.pointer (some ⟨pb, 0, none⟩), .int .i64 n, .string s] w (Ret (.int .i64 (writeM M n s).1) (RSt E tb pb S (writeM M n s).2 G)) := by
  obtain ⟨pv, R, h', K, h1, h2, hp⟩ := h
  refine (RQ.write hp hk n s hs).mono ?_
  rintro e w' ⟨rfl, hp'⟩
  exact ⟨rfl, pv, R, h', K, h1, h2, hp'⟩
theorem RSt.sync {tb pb : Nat} {S : TS} {M : PM} {G : Heaplet} {w : World} (h : RSt E tb pb S M G w) {bd : Nat} (hk : PlOk bd M) : Calls Tryz.prog 39 #[.pointer (some ⟨pb, 0, none⟩)] w (Ret (.int .i64 (syncM M).1) (RSt E tb pb S (syncM M).2 G)) := by
  obtain ⟨pv, R, h', K, h1, h2, hp⟩ := h
  refine (RQ.sync hp hk).mono ?_
  rintro e w' ⟨rfl, hp'⟩
  exact ⟨rfl, pv, R, h', K, h1, h2, hp'⟩
end Go.Proofs.YtgocmnejlbfplaaGreatDoor
