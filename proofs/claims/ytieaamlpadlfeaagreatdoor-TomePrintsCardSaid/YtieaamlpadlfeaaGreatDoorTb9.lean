/- A line is read: tome.Parse walked. Conditions: none. -/
import Derived.Test.YtieaamlpadlfeaaGreatDoorTb8
import Derived.Test.YtieaamlpadlfeaaGreatDoorLater
import Derived.Test.YtieaamlpadlfeaaGreatDoorSub
namespace Go.Proofs.YtieaamlpadlfeaaGreatDoor
open Go Go.MapKept Go.RowKit Go.Proofs

attribute [local go_sem] Oper.semAt_some

/-- A step's cells, its fates elsewhere. -/
abbrev stepC (k c : Int) (u : Bool) (n : Int) (v : Value) (ck cp cs : Int) (d : Bs) : Array Value := #[kI k, kI c, .bool u, kI n, v, kI ck, kI cp, kI cs, kL d]
abbrev stepO (k c : Int) (u : Bool) (n : Int) (v : Value) (ck cp cs : Int) (d : Bs) : Obj := .cells (stepC k c u n v ck cp cs d) 26
abbrev stepV (s : StepM) (v : Value) : Value := .agg (stepC s.kind s.client s.up s.n v s.call.kind s.call.page s.call.slot s.call.data)
abbrev zeroO : Obj := stepO 0 0 false 0 (.slice none 0 0) 0 0 0 []
theorem nine_at {w : World} {g : Nat} {a0 a1 a2 a3 a4 a5 a6 a7 a8 : Value} {T : TypeId} {F : Heaplet} (s : Sat w (.blk g (.cells #[a0, a1, a2, a3, a4, a5, a6, a7, a8] T) :: F)) :
    w.cell? ⟨g, 0, none⟩ = some a0 ∧ w.cell? ⟨g, 1, none⟩ = some a1 ∧ w.cell? ⟨g, 2, none⟩ = some a2 ∧ w.cell? ⟨g, 3, none⟩ = some a3 ∧ w.cell? ⟨g, 4, none⟩ = some a4 ∧ w.cell? ⟨g, 5, none⟩ = some a5 ∧ w.cell? ⟨g, 6, none⟩ = some a6 ∧ w.cell? ⟨g, 7, none⟩ = some a7 ∧ w.cell? ⟨g, 8, none⟩ = some a8 ∧ ∀ i, w.frozen? ⟨g, i, none⟩ = false := by
  refine ⟨?_, ?_, ?_, ?_, ?_, ?_, ?_, ?_, ?_, fun i => unfrozen_of s.h0 i⟩ <;> (rw [cell_of s.h0]; rfl)
/-- Where F holds, these numbers lie there. -/
def FtAt (F : Heaplet) (v : Value) (fs : List Int) : Prop := ∃ a cap, v = .slice a fs.length cap ∧ ∀ (i : Nat) f, fs[i]? = some f → ∃ g off, a = some ⟨g, off, none⟩ ∧ ∀ w, Sat w F → w.cell? ⟨g, off + i, none⟩ = some (kI f)
theorem FtAt.nil (F : Heaplet) (a : Option Addr) (cap : Nat) : FtAt F (.slice a 0 cap) [] := ⟨a, cap, rfl, fun i f h => by simp at h⟩
theorem FtAt.mono {F F' : Heaplet} {v : Value} {fs : List Int} (h : FtAt F v fs) (hF : ∀ w, Sat w F' → Sat w F) : FtAt F' v fs := by
  obtain ⟨a, cap, e, hu⟩ := h
  refine ⟨a, cap, e, fun i f hf => ?_⟩
  obtain ⟨g, off, e2, hw⟩ := hu i f hf
  exact ⟨g, off, e2, fun w hw2 => hw w (hF w hw2)⟩
theorem cut_len (b : UInt8) : ∀ (s x : Bs), x ∈ cutL b s → x.length ≤ s.length := by
  intro s
  induction s with
  | nil => intro x h; simp only [cutL, List.mem_cons, List.not_mem_nil, or_false] at h; rw [h]; simp
  | cons c s ih =>
    intro x h
    simp only [cutL] at h
    by_cases hc : c = b
    · rw [if_pos hc] at h
      rcases List.mem_cons.1 h with rfl | h
      · simp
      · have := ih x h
        simp only [List.length_cons]
        omega
    · rw [if_neg hc] at h
      cases e : cutL b s with
      | nil => exact absurd e (cutL_ne b s)
      | cons v t =>
        rw [e] at h
        simp only at h
        rcases List.mem_cons.1 h with rfl | h
        · have := ih v (by rw [e]; exact .head _)
          simp only [List.length_cons]
          omega
        · have := ih x (by rw [e]; exact .tail _ h)
          simp only [List.length_cons]
          omega
theorem cut_count (b : UInt8) : ∀ s : Bs, (cutL b s).length ≤ s.length + 1 := by
  intro s
  induction s with
  | nil => simp [cutL]
  | cons c s ih =>
    simp only [cutL]
    by_cases hc : c = b
    · rw [if_pos hc]
      simp only [List.length_cons]
      omega
    · rw [if_neg hc]
      cases e : cutL b s with
      | nil => exact absurd e (cutL_ne b s)
      | cons v t =>
        rw [e] at ih
        simp only [List.length_cons] at ih ⊢
        omega
theorem steps_fields : Lib.fields (⟨#[99, 108, 105, 101, 110, 116, 32, 109, 111, 118, 101, 32, 100, 114, 111, 112, 32, 116, 119, 105, 99, 101, 32, 116, 105, 99, 107, 32, 99, 114, 97, 115, 104, 32, 115, 116, 97, 114, 116, 32, 110, 111, 116, 105, 99, 101, 32, 99, 104, 101, 99, 107, 32, 99, 97, 108, 109]⟩ : ByteArray).data.toList = stepNames := by decide +kernel
theorem steps_ascii : ∀ (j : Nat) (b : UInt8), (⟨#[99, 108, 105, 101, 110, 116, 32, 109, 111, 118, 101, 32, 100, 114, 111, 112, 32, 116, 119, 105, 99, 101, 32, 116, 105, 99, 107, 32, 99, 114, 97, 115, 104, 32, 115, 116, 97, 114, 116, 32, 110, 111, 116, 105, 99, 101, 32, 99, 104, 101, 99, 107, 32, 99, 97, 108, 109]⟩ : ByteArray).data.toList[j]? = some b → b.toNat < 128 := by
  intro j b h
  have := List.mem_of_getElem? h
  revert this
  generalize b = c
  revert c
  decide +kernel
/-- Behind the switch. -/
def PEnd (ws : List Bs) (b C A : Nat) (hw F : Heaplet) (w : World) : Prop := ∃ k c u n v ck cp cs d fs rd hf, parseP ws = (⟨k, c, u, n, fs, ⟨ck, cp, cs, d⟩⟩, rd) ∧ FtAt hf v fs ∧ RdIs b rd hw (.blk C (stepO k c u n v ck cp cs d) :: (hf ++ (hw ++ (.blk A zeroO :: F)))) w
abbrev fI (x : Int) : List Value := [kI x]
theorem infoI : (Tryz.prog.info? 3).map (fun i => (i.zero, i.size, i.bytes)) = some (some (.int .i64 0), 1, 8) := by kernel_rfl
theorem FtAt.of {v : Value} {fs : List Int} {h : Heaplet} (hv : SliceIs 3 1 v fs.length (fs.flatMap fI) h) : FtAt h v fs := by
  obtain ⟨a, cap, e⟩ := sl_form hv
  subst e
  refine ⟨a, cap, rfl, fun i f hf => ?_⟩
  have hi := (List.getElem?_eq_some_iff.1 hf).1
  obtain ⟨g, cap2, e⟩ := sl_some hv (by omega)
  cases e
  refine ⟨g, 0, rfl, fun w hw => ?_⟩
  have hu : (fs.flatMap fI)[i]? = some (kI f) := by
    have := fm_get (fl := fI) (sz := 1) (fun _ => rfl) fs i 0 f (kI f) hf rfl
    simpa using this
  have := (hv.cell (F := []) (by rw [List.append_nil]; exact hw) rfl hu).2.2
  rw [Nat.zero_add]
  exact this
theorem fates_push {b C : Nat} {rd : Rd} {hw hf FA : Heaplet} {w : World} {oc : Obj} {v : Value} {fs : List Int} (n : Int) (hF : ∀ W, Sat W FA → Sat W hw) (hv : SliceIs 3 1 v fs.length (fs.flatMap fI) hf) (h : RdIs b rd hw (.blk C oc :: (hf ++ FA)) w) (hl : fs.length ≤ 1000000) :
    ∃ a' cap' w' hf', (∀ ty, (Builtin.append_ #[22, 22] ty #[v, .slice (some ⟨w.heap.size, 0, none⟩) 1 1]).run Tryz.prog (w.alloc (.cells #[kI n] 3)) = .ok (.slice a' (fs.length + 1) cap') w') ∧ SliceIs 3 1 (.slice a' (fs.length + 1) cap') (fs ++ [n]).length ((fs ++ [n]).flatMap fI) hf' ∧ RdIs b rd hw (.blk C oc :: (hf' ++ FA)) w' := by
  obtain ⟨vr, hv1, h1, h2, s⟩ := h
  obtain ⟨i, hi, hz, hsize, hby⟩ := info_parts infoI
  obtain ⟨v', w', k', hap, hv', s'⟩ := sl_push (P := Tryz.prog) (fl := fI) (fun _ => rfl) Tryz.underlying22 hi hz hsize hby rfl (by decide) hv (A := [.blk b (.cells #[vr, .bool rd.bad] 61), .blk C oc]) (B := FA) n (s.new (.cells #[kI n] 3)) (fun u hu => by rw [List.mem_singleton.1 hu]; rfl) (by unfold maxLen; omega) (by omega)
  obtain ⟨a', cap', e⟩ := sl_form hv'
  rw [show (fs ++ [n]).length = fs.length + 1 by simp] at e
  subst e
  exact ⟨a', cap', w', k', hap, hv', vr, hv1, ⟨fun W hW => hF W hW.tail.right, h1.2⟩, h2, s'⟩
/-- How long the reader's words are. -/
def lenAt (w : World) (b : Nat) : Nat := match w.cell? ⟨b, 0, none⟩ with
  | some (.slice _ n _) => n
  | _ => 0
theorem lenAt_rd {b : Nat} {r : Rd} {K F : Heaplet} {w : World} (h : RdIs b r K F w) : lenAt w b = r.ws.length := by
  obtain ⟨a, cap, _, c0, _⟩ := h.cells
  unfold lenAt
  rw [c0]
theorem pend_of2 {ws : List Bs} {b C A : Nat} {hw F hf FA : Heaplet} {w : World} {kk c : Int} {n : Int} {v : Value} {fs : List Int} {rd : Rd} (h1 : parseP ws = (⟨kk, c, false, n, fs, CallM.zero⟩, rd)) (h3 : FtAt hf v fs) (e : hw ++ (.blk A zeroO :: F) = FA) (h2 : RdIs b rd hw (.blk C (stepO kk c false n v 0 0 0 []) :: (hf ++ FA)) w) : PEnd ws b C A hw F w := by
  subst e
  exact ⟨kk, c, false, n, v, 0, 0, 0, [], fs, rd, hf, h1, h3, h2⟩
theorem put9 {w : World} {g : Nat} {a0 a1 a2 a3 a4 a5 a6 a7 a8 : Value} {T : TypeId} {F : Heaplet} (s : Sat w (.blk g (.cells #[a0, a1, a2, a3, a4, a5, a6, a7, a8] T) :: F)) (b0 b1 b2 b3 b4 b5 b6 b7 b8 : Value) :
    Sat (((((((((w.setCell ⟨g, 0, none⟩ b0).setCell ⟨g, 1, none⟩ b1).setCell ⟨g, 2, none⟩ b2).setCell ⟨g, 3, none⟩ b3).setCell ⟨g, 4, none⟩ b4).setCell ⟨g, 5, none⟩ b5).setCell ⟨g, 6, none⟩ b6).setCell ⟨g, 7, none⟩ b7).setCell ⟨g, 8, none⟩ b8) (.blk g (.cells #[b0, b1, b2, b3, b4, b5, b6, b7, b8] T) :: F) := by
  have s0 : Sat _ (.blk g (.cells #[b0, a1, a2, a3, a4, a5, a6, a7, a8] T) :: F) := s.setCell (i := 0) b0
  have s1 : Sat _ (.blk g (.cells #[b0, b1, a2, a3, a4, a5, a6, a7, a8] T) :: F) := s0.setCell (i := 1) b1
  have s2 : Sat _ (.blk g (.cells #[b0, b1, b2, a3, a4, a5, a6, a7, a8] T) :: F) := s1.setCell (i := 2) b2
  have s3 : Sat _ (.blk g (.cells #[b0, b1, b2, b3, a4, a5, a6, a7, a8] T) :: F) := s2.setCell (i := 3) b3
  have s4 : Sat _ (.blk g (.cells #[b0, b1, b2, b3, b4, a5, a6, a7, a8] T) :: F) := s3.setCell (i := 4) b4
  have s5 : Sat _ (.blk g (.cells #[b0, b1, b2, b3, b4, b5, a6, a7, a8] T) :: F) := s4.setCell (i := 5) b5
  have s6 : Sat _ (.blk g (.cells #[b0, b1, b2, b3, b4, b5, b6, a7, a8] T) :: F) := s5.setCell (i := 6) b6
  have s7 : Sat _ (.blk g (.cells #[b0, b1, b2, b3, b4, b5, b6, b7, a8] T) :: F) := s6.setCell (i := 7) b7
  have s8 : Sat _ (.blk g (.cells #[b0, b1, b2, b3, b4, b5, b6, b7, b8] T) :: F) := s7.setCell (i := 8) b8
  exact s8
theorem pend_of {ws : List Bs} {b C A : Nat} {hw F : Heaplet} {w : World} {kk c : Int} {u : Bool} {n : Int} {v : Value} {ck cp cs : Int} {d : Bs} {rd : Rd} (h1 : parseP ws = (⟨kk, c, u, n, [], ⟨ck, cp, cs, d⟩⟩, rd)) (h3 : v = Value.slice none 0 0) (h2 : RdIs b rd hw (.blk C (stepO kk c u n v ck cp cs d) :: (hw ++ (.blk A zeroO :: F))) w) : PEnd ws b C A hw F w := by
  subst h3
  exact ⟨kk, c, u, n, _, ck, cp, cs, d, [], rd, [], h1, FtAt.nil _ _ _, h2⟩
theorem Sat.lft {w : World} {h F : Heaplet} (s : Sat w (h ++ F)) : Sat w h := Sat.right (h' := F) (s.perm List.perm_append_comm)
/-- What Parse answers. -/
def ParseRet (F : Heaplet) (o : Option StepM) (e : Ending) (w' : World) : Prop := match o with
  | some st => ∃ v h, e = .returned (.tuple #[stepV st v, .int .i64 0]) ∧ FtAt h v st.fates ∧ Sat w' (h ++ F)
  | none => e = .returned (.tuple #[stepV StepM.zero (.slice none 0 0), .int .i64 50]) ∧ Sat w' F
theorem nine_of {w : World} {g : Nat} {a0 a1 a2 a3 a4 a5 a6 a7 a8 : Value} {T : TypeId} {F : Heaplet} (s : Sat w (.blk g (.cells #[a0, a1, a2, a3, a4, a5, a6, a7, a8] T) :: F)) :
    w.cell? ⟨g, 0, none⟩ = some a0 ∧ w.cell? ⟨g, 1, none⟩ = some a1 ∧ w.cell? ⟨g, 2, none⟩ = some a2 ∧ w.cell? ⟨g, 3, none⟩ = some a3 ∧ w.cell? ⟨g, 4, none⟩ = some a4 ∧ w.cell? ⟨g, 5, none⟩ = some a5 ∧ w.cell? ⟨g, 6, none⟩ = some a6 ∧ w.cell? ⟨g, 7, none⟩ = some a7 ∧ w.cell? ⟨g, 8, none⟩ = some a8 := by
  obtain ⟨h0, h1, h2, h3, h4, h5, h6, h7, h8, _⟩ := nine_at s
  exact ⟨h0, h1, h2, h3, h4, h5, h6, h7, h8⟩
set_option maxRecDepth 100000 in
theorem parse_results (tm : Array Value) (W9 : World) (g : Nat) (c : Int) (a0 a1 a2 a3 a4 a5 a6 a7 a8 : Value) (h1 : (tm[2]?).getD undef = .pointer (some ⟨g, 0, none⟩)) (h2 : (tm[3]?).getD undef = .int .i64 c)
    (h : W9.cell? ⟨g, 0, none⟩ = some a0 ∧ W9.cell? ⟨g, 1, none⟩ = some a1 ∧ W9.cell? ⟨g, 2, none⟩ = some a2 ∧ W9.cell? ⟨g, 3, none⟩ = some a3 ∧ W9.cell? ⟨g, 4, none⟩ = some a4 ∧ W9.cell? ⟨g, 5, none⟩ = some a5 ∧ W9.cell? ⟨g, 6, none⟩ = some a6 ∧ W9.cell? ⟨g, 7, none⟩ = some a7 ∧ W9.cell? ⟨g, 8, none⟩ = some a8) :
    (results Tryz.f10 tm).run Tryz.prog W9 = .ok (.tuple #[.agg #[a0, a1, a2, a3, a4, a5, a6, a7, a8], .int .i64 c]) W9 := by
  obtain ⟨r0, r1, r2, r3, r4, r5, r6, r7, r8⟩ := h
  simp [results, Tryz.results10, go_sem, h1, h2, r0, r1, r2, r3, r4, r5, r6, r7, r8]
set_option maxRecDepth 100000 in
set_option maxHeartbeats 4000000 in
theorem parse_any {F : Heaplet} {w : World} (hL : LibF F) (s : Sat w F) (l : Bs) (hl : l.length ≤ 900000) :
    Calls Tryz.prog 10 #[kL l] w (ParseRet F (parseR (wordsL l))) := by
  have HL := Lib.hid hL
  have s1 := s.new zeroO
  obtain ⟨A, hA⟩ : ∃ A, w.heap.size = A := ⟨_, rfl⟩
  rw [hA] at s1
  have HSP := Lib.hid (split_at (hL.mono (fun W hW => hW.tail)) s1 l (by omega))
  obtain ⟨ws, hws⟩ : ∃ ws, wordsL l = ws := ⟨_, rfl⟩
  have hshort : ∀ x ∈ ws, x.length ≤ 900000 := fun x hx => by
    rw [← hws] at hx
    exact Nat.le_trans (cut_len 32 l x hx) hl
  have hwl : ws.length ≤ 1000000 := by
    rw [← hws]
    have := cut_count 32 l
    show (cutL 32 l).length ≤ _
    omega
  rw [hws] at HSP ⊢
  obtain ⟨PB, hPB⟩ : ∃ PB : Ending → World → Prop, ParseRet F (parseR ws) = PB := ⟨_, rfl⟩
  rw [hPB]
  have HPB := Lib.hid hPB
  clear hPB
  have HSH := Lib.hid (And.intro hshort hwl)
  clear hL s s1 hshort hwl hws
  go_enter Tryz.func10, Tryz.ntmps10
  go_upto_region 2 with (go_at_call 23; refine (HSP.out).mono ?_; rintro e w1 ⟨v, hw, rfl, hv, h1⟩; obtain ⟨a0, cap0, rfl, -⟩ := id hv; have HV := Lib.hid hv; have H1 := Lib.hid h1; clear hv h1)
  clear HSP
  try rw [hA]
  have h2 : RdIs w1.heap.size ⟨ws, false⟩ hw (hw ++ (.blk A zeroO :: F)) (w1.alloc (.cells #[.slice a0 ws.length cap0, .bool false] 61)) := ⟨_, HV.out, ⟨fun W hW => hW.lft, fun x hx => Nat.le_trans (HSH.out.1 x hx) (by decide)⟩, HSH.out.2, H1.out.new _⟩
  obtain ⟨b, hb⟩ : ∃ b, w1.heap.size = b := ⟨_, rfl⟩
  rw [hb] at h2
  try rw [hb]
  obtain ⟨r0, hr0⟩ : ∃ r0 : Rd, Rd.mk ws false = r0 := ⟨_, rfl⟩
  rw [hr0] at h2
  have hsh0 : Short r0 := by rw [← hr0]; exact HSH.out.1
  obtain ⟨k, hk⟩ : ∃ k, kindOf stepNames r0.word.1 = k := ⟨_, rfl⟩
  have hk9 : k ≤ 10 := by rw [← hk]; exact kindOf_le stepNames _
  obtain ⟨r1, hr1⟩ : ∃ q, r0.word.2 = q := ⟨_, rfl⟩
  have HR : Hid (Short r1) := Lib.hid (by rw [← hr1]; exact hsh0.word.2)
  have HWD := Lib.hid (rword_any h2)
  rw [hr1] at HWD
  obtain ⟨PP, hPP⟩ : ∃ PP, parseP ws = PP := ⟨_, rfl⟩
  have hpe := hPP
  unfold parseP at hpe
  simp only [hr0, hk, hr1] at hpe
  have HKD : Hid (∀ W, RdIs b r1 hw (hw ++ (.blk A zeroO :: F)) W → Calls Tryz.prog 24 #[.string ⟨#[99, 108, 105, 101, 110, 116, 32, 109, 111, 118, 101, 32, 100, 114, 111, 112, 32, 116, 119, 105, 99, 101, 32, 116, 105, 99, 107, 32, 99, 114, 97, 115, 104, 32, 115, 116, 97, 114, 116, 32, 110, 111, 116, 105, 99, 101, 32, 99, 104, 101, 99, 107, 32, 99, 97, 108, 109]⟩, kL r0.word.1] W (Ret (.int .i64 (k : Int)) (RdIs b r1 hw (hw ++ (.blk A zeroO :: F))))) := Lib.hid (fun W hW => hW.beside (fun G hG s => by
    have := kind_any (HL.out.mono (fun W hW => (hG W hW).right.tail)) s _ stepNames steps_fields (by decide) (by decide) steps_ascii r0.word.1
    rw [hk] at this
    exact this))
  have HPP := Lib.hid hPP
  clear hPP
  generalize r0.word.1 = x at *
  obtain ⟨kz, hkz⟩ : ∃ kz : Int, (k : Int) = kz := ⟨_, rfl⟩
  rw [hkz] at HKD
  have kz0 : 0 ≤ kz := by omega
  have kz9 : kz ≤ 10 := by omega
  clear h2 hk hr1 hsh0 hr0 HSH HV H1
  go_upto_region 3 with (first
    | (go_at_call 25; refine (HWD.out).mono ?_; rintro e w2 ⟨rfl, h1⟩; have H1 := Lib.hid h1; clear h1)
    | (go_at_call 24; refine (HKD.out _ H1.out).mono ?_; rintro e w3 ⟨rfl, h2⟩; have H2 := Lib.hid (h2.new (stepO kz 0 false 0 (.slice none 0 0) 0 0 0 [])); clear h2))
  clear HWD HKD H1
  generalize w3.alloc (stepO kz 0 false 0 (.slice none 0 0) 0 0 0 []) = W3 at *
  obtain ⟨C, hC⟩ : ∃ C, w3.heap.size = C := ⟨_, rfl⟩
  rw [hC] at H2
  try rw [hC]
  clear hC hA hb
  obtain ⟨FA, hFA⟩ : ∃ FA, hw ++ (HItem.blk A zeroO :: F) = FA := ⟨_, rfl⟩
  rw [hFA] at H2
  have HFA := Lib.hid hFA
  have HFT : Hid (∀ W, Sat W FA → Sat W hw) := Lib.hid (fun W hW => by rw [← hFA] at hW; exact hW.lft)
  have HLF : Hid (∀ o, LibF (.blk C o :: FA)) := Lib.hid (fun o => HL.out.mono (fun W hW => by rw [← hFA] at hW; exact hW.tail.right.tail))
  clear hFA
  obtain ⟨d0, d1, d2, d3, d4, d5, d6, d7, d8, fz⟩ := nine_at H2.out.frame
  obtain ⟨_, _, _, _, c1, _, f1⟩ := H2.out.cells
  have HEND : Hid (∀ kk c u n v ck cp cs d rd W, PP = (⟨kk, c, u, n, [], ⟨ck, cp, cs, d⟩⟩, rd) → v = Value.slice none 0 0 → RdIs b rd hw (.blk C (stepO kk c u n v ck cp cs d) :: FA) W → PEnd ws b C A hw F W) := Lib.hid (fun kk c u n v ck cp cs d rd W h1 h3 h2 =>
    pend_of (HPP.out.trans h1) h3 (by rw [HFA.out]; exact h2))
  go_upto_block 0 with (fail)
  go_cut [] (fun wx => PEnd ws b C A hw F wx)
  case first =>
    by_cases k1 : k = 1
    · subst k1
      have HPE : Hid (PP = _) := Lib.hid (hpe.symm.trans (if_pos rfl))
      obtain rfl : kz = 1 := by omega
      clear hpe hkz hk9 kz0 kz9
      go_wp2_with (first | (go_at_call 27; refine (rcall_any (HLF.out _) H3.out (Short.num HR.out)).mono ?_; rintro e w6 ⟨rfl, h4⟩; obtain ⟨x0, x1, x2, x3, x4, x5, x6, x7, x8, fx4⟩ := nine_at h4.frame; have H4 := Lib.hid (RdIs.setF (i := 8) HFT.out (RdIs.setF (i := 7) HFT.out (RdIs.setF (i := 6) HFT.out (RdIs.setF (i := 5) HFT.out h4 (kI r1.num.2.call.1.kind)) (kI r1.num.2.call.1.page)) (kI r1.num.2.call.1.slot)) (kL r1.num.2.call.1.data)); clear h4) | (go_at_call 26; refine (rnum_any (HLF.out _) H2.out).mono ?_; rintro e w5 ⟨rfl, h3⟩; obtain ⟨x0, x1, x2, x3, x4, x5, x6, x7, x8, fx3⟩ := nine_at h3.frame; have H3 := Lib.hid (RdIs.setF (i := 1) HFT.out h3 (kI r1.num.1)); obtain ⟨y0, y1, y2, y3, y4, y5, y6, y7, y8, fy3⟩ := nine_at H3.out.frame; clear h3))
      go_meet
      exact HEND.out _ _ _ _ _ _ _ _ _ _ _ HPE.out rfl H4.out
    rw [if_neg k1] at hpe
    by_cases k2 : k = 2
    · subst k2
      have HPE : Hid (PP = _) := Lib.hid (hpe.symm.trans (if_pos (by omega)))
      obtain rfl : kz = 2 := by omega
      clear hpe hkz hk9 kz0 kz9 k1
      go_wp2_with (first | (go_at_call 26; refine (rnum_any (HLF.out _) H4.out).mono ?_; rintro e w7 ⟨rfl, h5⟩; obtain ⟨x0, x1, x2, x3, x4, x5, x6, x7, x8, fx5⟩ := nine_at h5.frame; have H5 := Lib.hid (RdIs.setF (i := 3) HFT.out h5 (kI r1.way.2.num.2.num.1)); obtain ⟨y0, y1, y2, y3, y4, y5, y6, y7, y8, fy5⟩ := nine_at H5.out.frame; clear h5) | (go_at_call 26; refine (rnum_any (HLF.out _) H3.out).mono ?_; rintro e w6 ⟨rfl, h4⟩; obtain ⟨x0, x1, x2, x3, x4, x5, x6, x7, x8, fx4⟩ := nine_at h4.frame; have H4 := Lib.hid (RdIs.setF (i := 1) HFT.out h4 (kI r1.way.2.num.1)); obtain ⟨y0, y1, y2, y3, y4, y5, y6, y7, y8, fy4⟩ := nine_at H4.out.frame; clear h4) | (go_at_call 28; refine (rway_any H2.out).mono ?_; rintro e w5 ⟨rfl, h3⟩; obtain ⟨x0, x1, x2, x3, x4, x5, x6, x7, x8, fx3⟩ := nine_at h3.frame; have H3 := Lib.hid (RdIs.setF (i := 2) HFT.out h3 (.bool r1.way.1)); obtain ⟨y0, y1, y2, y3, y4, y5, y6, y7, y8, fy3⟩ := nine_at H3.out.frame; clear h3))
      go_meet
      exact HEND.out _ _ _ _ _ _ _ _ _ _ _ HPE.out rfl H5.out
    by_cases k3 : k = 3
    · subst k3
      have HPE : Hid (PP = _) := Lib.hid (hpe.symm.trans (if_pos (by omega)))
      obtain rfl : kz = 3 := by omega
      clear hpe hkz hk9 kz0 kz9 k1 k2
      go_wp2_with (first | (go_at_call 26; refine (rnum_any (HLF.out _) H4.out).mono ?_; rintro e w7 ⟨rfl, h5⟩; obtain ⟨x0, x1, x2, x3, x4, x5, x6, x7, x8, fx5⟩ := nine_at h5.frame; have H5 := Lib.hid (RdIs.setF (i := 3) HFT.out h5 (kI r1.way.2.num.2.num.1)); obtain ⟨y0, y1, y2, y3, y4, y5, y6, y7, y8, fy5⟩ := nine_at H5.out.frame; clear h5) | (go_at_call 26; refine (rnum_any (HLF.out _) H3.out).mono ?_; rintro e w6 ⟨rfl, h4⟩; obtain ⟨x0, x1, x2, x3, x4, x5, x6, x7, x8, fx4⟩ := nine_at h4.frame; have H4 := Lib.hid (RdIs.setF (i := 1) HFT.out h4 (kI r1.way.2.num.1)); obtain ⟨y0, y1, y2, y3, y4, y5, y6, y7, y8, fy4⟩ := nine_at H4.out.frame; clear h4) | (go_at_call 28; refine (rway_any H2.out).mono ?_; rintro e w5 ⟨rfl, h3⟩; obtain ⟨x0, x1, x2, x3, x4, x5, x6, x7, x8, fx3⟩ := nine_at h3.frame; have H3 := Lib.hid (RdIs.setF (i := 2) HFT.out h3 (.bool r1.way.1)); obtain ⟨y0, y1, y2, y3, y4, y5, y6, y7, y8, fy3⟩ := nine_at H3.out.frame; clear h3))
      go_meet
      exact HEND.out _ _ _ _ _ _ _ _ _ _ _ HPE.out rfl H5.out
    by_cases k4 : k = 4
    · subst k4
      have HPE : Hid (PP = _) := Lib.hid (hpe.symm.trans (if_pos (by omega)))
      obtain rfl : kz = 4 := by omega
      clear hpe hkz hk9 kz0 kz9 k1 k2 k3
      go_wp2_with (first | (go_at_call 26; refine (rnum_any (HLF.out _) H4.out).mono ?_; rintro e w7 ⟨rfl, h5⟩; obtain ⟨x0, x1, x2, x3, x4, x5, x6, x7, x8, fx5⟩ := nine_at h5.frame; have H5 := Lib.hid (RdIs.setF (i := 3) HFT.out h5 (kI r1.way.2.num.2.num.1)); obtain ⟨y0, y1, y2, y3, y4, y5, y6, y7, y8, fy5⟩ := nine_at H5.out.frame; clear h5) | (go_at_call 26; refine (rnum_any (HLF.out _) H3.out).mono ?_; rintro e w6 ⟨rfl, h4⟩; obtain ⟨x0, x1, x2, x3, x4, x5, x6, x7, x8, fx4⟩ := nine_at h4.frame; have H4 := Lib.hid (RdIs.setF (i := 1) HFT.out h4 (kI r1.way.2.num.1)); obtain ⟨y0, y1, y2, y3, y4, y5, y6, y7, y8, fy4⟩ := nine_at H4.out.frame; clear h4) | (go_at_call 28; refine (rway_any H2.out).mono ?_; rintro e w5 ⟨rfl, h3⟩; obtain ⟨x0, x1, x2, x3, x4, x5, x6, x7, x8, fx3⟩ := nine_at h3.frame; have H3 := Lib.hid (RdIs.setF (i := 2) HFT.out h3 (.bool r1.way.1)); obtain ⟨y0, y1, y2, y3, y4, y5, y6, y7, y8, fy3⟩ := nine_at H3.out.frame; clear h3))
      go_meet
      exact HEND.out _ _ _ _ _ _ _ _ _ _ _ HPE.out rfl H5.out
    rw [if_neg (by omega)] at hpe
    by_cases k5 : k = 5
    · subst k5
      have HPE : Hid (PP = _) := Lib.hid (hpe.symm.trans (if_pos (by omega)))
      obtain rfl : kz = 5 := by omega
      clear hpe hkz hk9 kz0 kz9 k1 k2 k3 k4
      go_wp2_with (first | (go_at_call 26; refine (rnum_any (HLF.out _) H2.out).mono ?_; rintro e w5 ⟨rfl, h3⟩; obtain ⟨x0, x1, x2, x3, x4, x5, x6, x7, x8, fx3⟩ := nine_at h3.frame; have H3 := Lib.hid (RdIs.setF (i := 1) HFT.out h3 (kI r1.num.1)); obtain ⟨y0, y1, y2, y3, y4, y5, y6, y7, y8, fy3⟩ := nine_at H3.out.frame; clear h3))
      go_meet
      exact HEND.out _ _ _ _ _ _ _ _ _ _ _ HPE.out rfl H3.out
    by_cases k8 : k = 8
    · subst k8
      have HPE : Hid (PP = _) := Lib.hid (hpe.symm.trans (if_pos (by omega)))
      obtain rfl : kz = 8 := by omega
      clear hpe hkz hk9 kz0 kz9 k1 k2 k3 k4 k5
      go_wp2_with (first | (go_at_call 26; refine (rnum_any (HLF.out _) H2.out).mono ?_; rintro e w5 ⟨rfl, h3⟩; obtain ⟨x0, x1, x2, x3, x4, x5, x6, x7, x8, fx3⟩ := nine_at h3.frame; have H3 := Lib.hid (RdIs.setF (i := 1) HFT.out h3 (kI r1.num.1)); obtain ⟨y0, y1, y2, y3, y4, y5, y6, y7, y8, fy3⟩ := nine_at H3.out.frame; clear h3))
      go_meet
      exact HEND.out _ _ _ _ _ _ _ _ _ _ _ HPE.out rfl H3.out
    rw [if_neg (by omega)] at hpe
    by_cases k6 : k = 6
    · subst k6
      have HPE : Hid (PP = _) := Lib.hid (hpe.symm.trans (if_pos rfl))
      obtain rfl : kz = 6 := by omega
      clear hpe hkz hk9 kz0 kz9 k1 k2 k3 k4 k5 k8
      go_upto_block 1 with (first | (go_at_call 26; refine (rnum_any (HLF.out _) H3.out).mono ?_; rintro e w6 ⟨rfl, h4⟩; obtain ⟨x0, x1, x2, x3, x4, x5, x6, x7, x8, fx4⟩ := nine_at h4.frame; have H4 := Lib.hid (RdIs.setF (i := 3) HFT.out h4 (kI r1.num.2.num.1)); obtain ⟨y0, y1, y2, y3, y4, y5, y6, y7, y8, fy4⟩ := nine_at H4.out.frame; clear h4) | (go_at_call 26; refine (rnum_any (HLF.out _) H2.out).mono ?_; rintro e w5 ⟨rfl, h3⟩; obtain ⟨x0, x1, x2, x3, x4, x5, x6, x7, x8, fx3⟩ := nine_at h3.frame; have H3 := Lib.hid (RdIs.setF (i := 1) HFT.out h3 (kI r1.num.1)); obtain ⟨y0, y1, y2, y3, y4, y5, y6, y7, y8, fy3⟩ := nine_at H3.out.frame; clear h3))
      clear H2 H3 d0 d1 d2 d3 d4 d5 d6 d7 d8 fz c1 f1 x0 x1 x2 x3 x4 x5 x6 x7 x8 y0 y1 y2 y3 y4 y5 y6 y7 y8 fx3 fx4 fy3 fy4
      go_wp2_with fail
      go_loopw [] (fun wx => RdIs b r1.num.2.num.2 hw (.blk C (stepO 6 r1.num.1 false r1.num.2.num.1 (.slice none 0 0) 0 0 0 []) :: FA) wx) (fun _ => 0)
      case atStart => exact H4.out
      case round =>
        clear H4
        have HRL := Lib.hid hrel
        obtain ⟨x0, x1, x2, x3, x4, x5, x6, x7, x8, fx⟩ := nine_at hrel.frame
        clear hrel
        go_wp2_with fail
        go_meet
        exact HEND.out _ _ _ _ _ _ _ _ _ _ _ HPE.out rfl HRL.out
    rw [if_neg k6] at hpe
    by_cases k7 : k = 7
    · subst k7
      have HPE : Hid (PP = _) := Lib.hid (hpe.symm.trans (if_pos rfl))
      obtain rfl : kz = 7 := by omega
      clear hpe hkz hk9 kz0 kz9 k1 k2 k3 k4 k5 k8 k6
      go_upto_block 1 with (first | (go_at_call 26; refine (rnum_any (HLF.out _) H3.out).mono ?_; rintro e w6 ⟨rfl, h4⟩; obtain ⟨x0, x1, x2, x3, x4, x5, x6, x7, x8, fx4⟩ := nine_at h4.frame; have H4 := Lib.hid (RdIs.setF (i := 3) HFT.out h4 (kI r1.num.2.num.1)); obtain ⟨y0, y1, y2, y3, y4, y5, y6, y7, y8, fy4⟩ := nine_at H4.out.frame; clear h4) | (go_at_call 26; refine (rnum_any (HLF.out _) H2.out).mono ?_; rintro e w5 ⟨rfl, h3⟩; obtain ⟨x0, x1, x2, x3, x4, x5, x6, x7, x8, fx3⟩ := nine_at h3.frame; have H3 := Lib.hid (RdIs.setF (i := 1) HFT.out h3 (kI r1.num.1)); obtain ⟨y0, y1, y2, y3, y4, y5, y6, y7, y8, fy3⟩ := nine_at H3.out.frame; clear h3))
      have h4l := H4.out.len
      clear H2 H3 d0 d1 d2 d3 d4 d5 d6 d7 d8 fz c1 f1 x0 x1 x2 x3 x4 x5 x6 x7 x8 y0 y1 y2 y3 y4 y5 y6 y7 y8 fx3 fx4 fy3 fy4
      have H4L := Lib.hid h4l
      clear h4l
      obtain ⟨R2, hR2⟩ : ∃ R2, r1.num.2.num.2 = R2 := ⟨_, rfl⟩
      rw [hR2] at H4 H4L HPE
      clear hR2
      generalize r1.num.2.num.1 = nn at *
      generalize r1.num.1 = cc at *
      go_wp2_with fail
      go_loopw [] (fun wx => ∃ fs rd v hf, SliceIs 3 1 v fs.length (fs.flatMap fI) hf ∧ RdIs b rd hw (.blk C (stepO 7 cc false nn v 0 0 0 []) :: (hf ++ FA)) wx ∧ numsR R2.ws R2.bad = (fs ++ (numsR rd.ws rd.bad).1, (numsR rd.ws rd.bad).2) ∧ fs.length + rd.ws.length = R2.ws.length) (fun wx => lenAt wx b)
      case atStart => exact ⟨[], R2, _, [], SliceIs.nil 3 1, H4.out, rfl, by simp⟩
      case round =>
        clear H4
        obtain ⟨fs, rd, v, hf, hv, hrd, hnum, hlen⟩ := hrel
        obtain ⟨va, vc, rfl⟩ := sl_form hv
        have HRD := Lib.hid hrd
        obtain ⟨x0, x1, x2, x3, x4, x5, x6, x7, x8, fx⟩ := nine_at hrd.frame
        obtain ⟨ra, rc, _, q0, q1, _, _⟩ := hrd.cells
        have hla := lenAt_rd hrd
        obtain ⟨rws, rbad⟩ := rd
        have h9 := H4L.out
        cases rws with
        | nil =>
          have HN := Lib.hid hnum
          have HV := Lib.hid hv
          clear hv hrd hnum hlen hla h9
          simp only [List.length_nil] at q0
          go_wp2_with fail
          go_meet
          refine pend_of2 (HPP.out.trans (HPE.out.trans ?_)) (FtAt.of HV.out) HFA.out HRD.out
          rw [HN.out]
          simp [numsR]
        | cons y t =>
          have n0 : (0 : Int) < ((t.length + 1 : Nat) : Int) := by omega
          have HNC : Hid (Calls Tryz.prog 26 #[.pointer (some ⟨b, 0, none⟩)] (wr.drewN 1) (Ret (.int .i64 (numV y)) (RdIs b ⟨t, rbad || (numS y).isNone⟩ hw (.blk C (stepO 7 cc false nn (.slice va fs.length vc) 0 0 0 []) :: (hf ++ FA))))) := Lib.hid (rnum_any (HL.out.mono (fun W hW => by rw [← HFA.out] at hW; exact hW.tail.right.right.tail)) (hrd.drewN 1))
          have HV := Lib.hid hv
          have HLN : Hid (fs.length ≤ 1000000 ∧ (fs ++ [numV y]).length + t.length = R2.ws.length) := Lib.hid ⟨by simp only [List.length_cons] at hlen; omega, by simp only [List.length_cons, List.length_append, List.length_nil] at hlen ⊢; omega⟩
          have HNM : Hid (numsR R2.ws R2.bad = ((fs ++ [numV y]) ++ (numsR t (rbad || (numS y).isNone)).1, (numsR t (rbad || (numS y).isNone)).2)) := Lib.hid (by
            rw [hnum]
            simp [numsR])
          have HLA := Lib.hid hla
          simp only [List.length_cons] at q0
          clear hv hrd hnum hlen hla h9 HRD
          go_upto_region 22 with (fail)
          go_region_law (first
            | (refine step_append_run (by rfl) _ _ _ _ (by rfl) _ _ _ w6 (by rfl) (by rfl) HAP.out ?_)
            | (go_simp; go_at_call 26; refine (HNC.out).mono ?_; rintro e w5 ⟨rfl, h5⟩; obtain ⟨a2, c2, w6, hf2, hap, hv2, h6⟩ := fates_push (numV y) HFT.out HV.out h5 HLN.out.1; have HAP := Lib.hid hap; have HV2 := Lib.hid hv2; have H6 := Lib.hid (RdIs.setF (i := 4) (F' := hf2 ++ FA) (fun W hW => HFT.out W hW.right) h6 (.slice a2 (fs.length + 1) c2)); have z4 := (nine_at h5.frame).2.2.2.2.1; have u4 := (nine_at (h5.new (.cells #[kI (numV y)] 3)).frame.tail).2.2.2.2.1; obtain ⟨v0, v1, v2, v3, v4, v5, v6, v7, v8, fv5⟩ := nine_at h6.frame; clear hap hv2 h5 h6; (try dsimp only)))
          all_goals
            go_wp2_with fail
            refine ⟨⟨fs ++ [numV y], ⟨t, rbad || (numS y).isNone⟩, _, hf2, HV2.out, H6.out, HNM.out, HLN.out.2⟩, ?_⟩
            rw [lenAt_rd H6.out, HLA.out]
            simp
    rw [if_neg k7] at hpe
    by_cases k0 : k = 0
    · subst k0
      have e9 : (⟨r1.ws, r1.bad || decide (0 = 0)⟩ : Rd) = ⟨r1.ws, true⟩ := by simp
      rw [e9] at hpe
      have HPE : Hid (PP = _) := Lib.hid hpe.symm
      obtain rfl : kz = 0 := by omega
      have H3 := Lib.hid (H2.out.bad true)
      clear hpe hkz hk9 kz0 kz9 k1 k2 k3 k4 k5 k8 k6 k7 e9
      go_wp2_with fail
      go_meet
      exact HEND.out _ _ _ _ _ _ _ _ _ _ _ HPE.out rfl H3.out
    have e9 : (⟨r1.ws, r1.bad || decide (k = 0)⟩ : Rd) = r1 := by simp [k0]
    rw [e9] at hpe
    have HPE : Hid (PP = _) := Lib.hid hpe.symm
    rw [hkz] at HPE
    by_cases kk9 : k = 9
    · obtain rfl : kz = 9 := by omega
      clear hpe hkz hk9 kz0 kz9 k1 k2 k3 k4 k5 k8 k6 k7 e9 k0 kk9
      go_wp2_with fail
      go_meet
      exact HEND.out _ _ _ _ _ _ _ _ _ _ _ HPE.out rfl H2.out
    · obtain rfl : kz = 10 := by omega
      clear hpe hkz hk9 kz0 kz9 k1 k2 k3 k4 k5 k8 k6 k7 e9 k0 kk9
      go_wp2_with fail
      go_meet
      exact HEND.out _ _ _ _ _ _ _ _ _ _ _ HPE.out rfl H2.out
  case rest =>
    have HRES := Lib.hid (parseP_res ws)
    obtain ⟨kk, cc, uu, nn, v, ck, cp, cs, dd, fs, rd, hf, hpp, hft, hrd⟩ := hcut
    obtain ⟨va, vc, rfl, -⟩ := id hft
    have hRES := HRES.out
    rw [hpp] at hRES
    simp only at hRES
    have sA := hrd.frame.part (k := .blk A zeroO :: (hf ++ F)) (fun a => by simp only [cnt_cons, cnt_append]; omega)
    obtain ⟨x0, x1, x2, x3, x4, x5, x6, x7, x8, fx⟩ := nine_at hrd.frame
    obtain ⟨y0, y1, y2, y3, y4, y5, y6, y7, y8, fy⟩ := nine_at sA
    obtain ⟨ra, rc, _, q0, q1, _, _⟩ := hrd.cells
    clear HRES HL HR HFT HLF HFA HEND HPP hpe H2 d0 d1 d2 d3 d4 d5 d6 d7 d8 fz c1 f1 hkz hk9 kz0 kz9
    obtain ⟨rws, rbad⟩ := rd
    cases rbad with
    | true =>
      have HRS : Hid (none = parseR ws) := Lib.hid (by rw [← hRES]; simp)
      have HZ := Lib.hid (put9 sA (kI 0) (kI 0) (.bool false) (kI 0) (.slice none 0 0) (kI 0) (kI 0) (kI 0) (kL []))
      clear hRES hpp hft hrd sA
      go_wp2_with fail
      refine bodyPost_ret (parse_results _ _ A 50 _ _ _ _ _ _ _ _ _ rfl rfl (nine_of HZ.out)) rfl ?_
      rw [← HPB.out, ← HRS.out]
      exact ⟨rfl, HZ.out.tail.right⟩
    | false =>
      cases rws with
      | nil =>
        simp only [List.length_nil] at q0
        have HRS : Hid (some (⟨kk, cc, uu, nn, fs, ⟨ck, cp, cs, dd⟩⟩ : StepM) = parseR ws) := Lib.hid (by rw [← hRES]; simp)
        have HZ := Lib.hid (put9 sA (kI kk) (kI cc) (.bool uu) (kI nn) (.slice va fs.length vc) (kI ck) (kI cp) (kI cs) (kL dd))
        have HFT2 := Lib.hid hft
        clear hRES hpp hft hrd sA
        go_wp2_with fail
        refine bodyPost_ret (parse_results _ _ A 0 _ _ _ _ _ _ _ _ _ rfl rfl (nine_of HZ.out)) rfl ?_
        rw [← HPB.out, ← HRS.out]
        exact ⟨_, hf, rfl, HFT2.out, HZ.out.tail⟩
      | cons y t =>
        simp only [List.length_cons] at q0
        have n0 : (0 : Int) < ((t.length + 1 : Nat) : Int) := by omega
        have HRS : Hid (none = parseR ws) := Lib.hid (by rw [← hRES]; simp)
        have HZ := Lib.hid (put9 sA (kI 0) (kI 0) (.bool false) (kI 0) (.slice none 0 0) (kI 0) (kI 0) (kI 0) (kL []))
        clear hRES hpp hft hrd sA
        go_wp2_with fail
        refine bodyPost_ret (parse_results _ _ A 50 _ _ _ _ _ _ _ _ _ rfl rfl (nine_of HZ.out)) rfl ?_
        rw [← HPB.out, ← HRS.out]
        exact ⟨rfl, HZ.out.tail.right⟩
end Go.Proofs.YtieaamlpadlfeaaGreatDoor
