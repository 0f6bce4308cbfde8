/- What a row's claim gives of the library's variables, and the wrap that keeps it all. Conditions: none. -/
import Derived.Test.YtieaamlpadlfeaaGreatDoorCards
import Derived.Test.YtieaamlpadlfeaaGreatDoorTb3
import Derived.LaidMore
import Derived.Lay
import Derived.WalkSmall
import Derived.Stop.LaidErr
import Derived.Handed
namespace Go.Proofs.YtieaamlpadlfeaaGreatDoor
open Go Go.MapKept Go.RowKit Go.Proofs

theorem gSpc : Tryz.prog.globalNamed "strings.asciiSpace" = some 0 := by kernel_rfl
theorem gSpcT : (Tryz.prog.globals[0]?).map (·.type) = some 89 := by kernel_rfl
theorem gPow : Tryz.prog.globalNamed "internal/strconv.uint64pow10" = some 7 := by kernel_rfl
theorem gPowT : (Tryz.prog.globals[7]?).map (·.type) = some 139 := by kernel_rfl
theorem gSyn : Tryz.prog.globalNamed "strconv.ErrSyntax" = some 3 := by kernel_rfl
theorem gSynT : (Tryz.prog.globals[3]?).map (·.type) = some 51 := by kernel_rfl
theorem gRng : Tryz.prog.globalNamed "strconv.ErrRange" = some 4 := by kernel_rfl
theorem gRngT : (Tryz.prog.globals[4]?).map (·.type) = some 51 := by kernel_rfl
theorem star : "*" ++ "errors.errorString" = "*errors.errorString" := by decide
theorem rowE (u : TypeId) (h : Tryz.prog.typeName? 3 u = some "*errors.errorString") : u = 147 :=
  typeName_ptr_named (nm := "errors.errorString") (by rw [star]; kernel_rfl) (by kernel_rfl) (by decide) u (by rw [star]; exact h)
/-- What the rows list. -/
abbrev laidL : List (String × DataW Unit) := [("math/bits.deBruijn32tab", Rows.laid_math_bits_deBruijn32tab), ("math/bits.deBruijn64tab", Rows.laid_math_bits_deBruijn64tab), ("internal/strconv.uint64pow10", Rows.laid_internal_strconv_uint64pow10), ("unicode/utf8.acceptRanges", Rows.laid_unicode_utf8_acceptRanges), ("strconv.ErrRange", Rows.laid_strconv_ErrRange), ("strconv.ErrSyntax", Rows.laid_strconv_ErrSyntax), ("unicode.White_Space", Rows.laid_unicode_White_Space), ("strings.asciiSpace", Rows.laid_strings_asciiSpace), ("unicode/utf8.first", Rows.laid_unicode_utf8_first)]
theorem pow_data : (Rows.laid_internal_strconv_uint64pow10 : DataW Unit) = Lib.tabData .u64 Lib.pow10Tab := by kernel_rfl
theorem spc_data : (Rows.laid_strings_asciiSpace : DataW Unit) = Lib.tabData .u8 Lib.asciiSpaceTab := by kernel_rfl
theorem vars_laid {W : World} (hL : laidMet Tryz.prog laidL W) (hsh : W.ShapedOpen Tryz.prog) : VarsAt W := by
  have h2 := hL.tail.tail
  rw [pow_data] at h2
  have h4 := h2.tail.tail
  have h5 := h4.tail
  have h7 := h5.tail.tail
  rw [spc_data] at h7
  refine ⟨?_, ?_, ?_, ?_, ?_⟩
  · obtain ⟨a, s, hv, _⟩ := laid_sentinel h5 gSyn gSynT Tryz.underlying51 rowE Tryz.underlying147 Tryz.underlying149 rfl rfl Tryz.underlying9 (by kernel_rfl) (by kernel_rfl)
    exact ⟨_, _, by simpa using World.var?_cell gSyn hv 0⟩
  · obtain ⟨a, s, hv, _⟩ := laid_sentinel h4 gRng gRngT Tryz.underlying51 rowE Tryz.underlying147 Tryz.underlying149 rfl rfl Tryz.underlying9 (by kernel_rfl) (by kernel_rfl)
    exact ⟨_, _, by simpa using World.var?_cell gRng hv 0⟩
  · exact Tryz.laysSplit.s1_3 W hsh
  · exact Lib.tabIs_of_head gSpc gSpcT Tryz.underlying89 Tryz.underlying5 (by kernel_rfl) (by kernel_rfl) h7
  · exact Lib.tabIs_of_head gPow gPowT Tryz.underlying139 Tryz.underlying84 (by kernel_rfl) (by kernel_rfl) h2
theorem var_lt {W : World} {n : String} {g : Nat} {cs : Array Value} (hg : Tryz.prog.globalNamed n = some g) (hv : W.var? Tryz.prog n = some cs) : g < W.heap.size := by
  unfold World.var? at hv
  simp only [hg, Option.bind_some] at hv
  refine Decidable.byContradiction fun hc => ?_
  rw [Array.getElem?_eq_none (by omega)] at hv
  cases hv
theorem VarsAt.below {W W' : World} (h : VarsAt W) (hb : Below W.heap.size W W') : VarsAt W' := by
  have old : ∀ {a : Addr} {v : Value}, W.cell? a = some v → W'.cell? a = some v := fun {a v} hc => (hb.cell (p := a) (World.block_lt_of_cell? W a hc)).trans hc
  obtain ⟨⟨t1, p1, h1⟩, ⟨t2, p2, h2⟩, ⟨m, h3⟩, h4, h5⟩ := h
  exact ⟨⟨t1, p1, old h1⟩, ⟨t2, p2, old h2⟩, ⟨m, old h3⟩, var?_below hb gSpc (var_lt gSpc h4) h4, var?_below hb gPow (var_lt gPow h5) h5⟩
theorem libF_all {W : World} (h : VarsAt W) : LibF (allOf W) := fun _ hW => h.below hW.below
theorem own : ownKnob Tryz.prog.godebug = none := by kernel_rfl
theorem laidOut : laidOutB Tryz.prog = true := by kernel_rfl
/-- A row's claim out of a contract that may lean on what is listed and on the world's shape. -/
theorem lift_both {H : Type} {enc : TypeId × Value → H} {a : Assume} {C : Checked} {os : Os} {f : FuncId} {fn : Func} {s : ChangeSpec} {conds : List PathCond} {apart fresh handsOn again : Bool} {X : World → Array Value → Prop}
    (hX : ∀ (w w' : World) (args : Array Value), w.heap = w'.heap → X w args → X w' args) (hown : ownKnob C.prog.godebug = none) (started : os.Started) (noInit : C.prog.inits.idxOf? f = none) (hfn : C.prog.funcs[f]? = some fn)
    (witness : ∃ (w : World) (tape : Tape) (i : Input), w.os = os ∧ (w.forCall tape i).Shaped C.prog ∧ i.vars = [] ∧ Input.okWide C.prog (w.forCall tape i) .any w.heap.size f i ∧
      ((s.pre enc C.prog fn conds apart (w.forCall tape i).memory i.args ∧ X (w.forCall tape i).memory i.args) ∧ sizedMet enc C.prog fn (OpenSpec.ofChange s) apart (w.forCall tape i).memory i.args) ∧ a.holds C.prog (lone (Frame.enter C.prog f i.args .normal) [] (w.forCall tape i)))
    (contract : ∀ (W : World) (base : Nat) (args : Array Value) (ds gs : List (DataW H)) (before : List MemPlace),
      (∀ (j : Nat) t v, fn.params[j]? = some t → args[j]? = some v → Value.okWide C.prog W .any base t v) → DataW.Whole enc C.prog fn.params.toList s.vars apart W args.toList ds gs before → X W args → W.ShapedOpen C.prog →
      Calls C.prog f args W fun e W' => ∃ v, e = .returned v ∧ s.post enc C.prog fn apart fresh handsOn again W args v W') :
    ReturnsInHanded a C os f .any (fun w args => (s.pre enc C.prog fn conds apart w args ∧ X w args) ∧ sizedMet enc C.prog fn (OpenSpec.ofChange s) apart w args) (s.post enc C.prog fn apart fresh handsOn again) := by
  refine returnsInHanded_of_calls hown started noInit witness (fun w tape i _ hshape _ hok hpre _ => ?_)
  obtain ⟨⟨⟨ds, gs, before, hw, _⟩, hx⟩, _⟩ := hpre
  obtain ⟨_, _, _, fn2, hf2, _, _, _, _, hval⟩ := hok
  obtain rfl : fn2 = fn := by rw [hfn] at hf2; exact (Option.some.inj hf2).symm
  have hcall := contract (w.forCall tape i) w.heap.size i.args ds gs before hval (DataW.Whole.of_heap (w' := w.forCall tape i) (by rfl) hw) (hX (w.forCall tape i).memory (w.forCall tape i) i.args (by rfl) hx) hshape
  refine hcall.mono ?_
  rintro e W' ⟨v, rfl, hpost⟩
  exact ChangeSpec.post_blind hpost
end Go.Proofs.YtieaamlpadlfeaaGreatDoor
