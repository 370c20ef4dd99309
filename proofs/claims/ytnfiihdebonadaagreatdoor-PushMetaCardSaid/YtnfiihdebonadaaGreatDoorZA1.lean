import Derived.Test.YtnfiihdebonadaaGreatDoorTie
import Derived.Test.YtnfiihdebonadaaGreatDoorCards
import Derived.ChangeSame
import Derived.ChangeVars
import Derived.JoinedOf
import Derived.RowKit
import Derived.RowKitTokens
import Derived.LaidLaws
import Derived.LaidHandle
import Derived.Lib.LaidTab
import Derived.Stop.Joined
import Derived.Stop.LaidErr
import Derived.HandedShaped
import Derived.Test.YtnfiihdebonadaaGreatDoorZE4
set_option linter.unusedSimpArgs false
set_option linter.unusedVariables false
set_option linter.unusedSectionVars false
namespace Go.Proofs.YtnfiihdebonadaaGreatDoor.Abs
open Go.ChangeShapes Go.WideShapes Go.RowKit Go.Proofs.YtnfiihdebonadaaGreatDoor

theorem own0 : ownKnob Tryz.prog.godebug = none := by kernel_rfl
theorem gET : Tryz.prog.globalNamed "errors.errorType" = some 0 := by kernel_rfl
theorem rt : (Tryz.prog.cutTypes.find? (·.1 == "internal/reflectlite.rtype")).map (·.2) = some 127 := by kernel_rfl
theorem oneRow : ((List.range 222).filter fun t => Tryz.prog.rowNamed t [101, 114, 114, 111, 114]) = [36] := by kernel_rfl
theorem tsize : Tryz.prog.types.size = 222 := by kernel_rfl
theorem gES : Tryz.prog.globalNamed "strconv.ErrSyntax" = some 3 := by kernel_rfl
theorem gEST : (Tryz.prog.globals[3]?).map (·.type) = some 36 := by kernel_rfl
theorem gER : Tryz.prog.globalNamed "strconv.ErrRange" = some 4 := by kernel_rfl
theorem gERT : (Tryz.prog.globals[4]?).map (·.type) = some 36 := by kernel_rfl
theorem gP : Tryz.prog.globalNamed "internal/strconv.uint64pow10" = some 2 := by kernel_rfl
theorem gPT : (Tryz.prog.globals[2]?).map (·.type) = some 169 := by kernel_rfl
theorem u169 : Tryz.prog.underlying 169 = some (.array 20 153) := by kernel_rfl
theorem u153 : Tryz.prog.underlying 153 = some (.int .u64) := by kernel_rfl
theorem c153 : Tryz.prog.cellsOf 153 = 1 := by kernel_rfl
theorem c169 : Tryz.prog.cellsOf 169 = 20 := by kernel_rfl
theorem c195 : Tryz.prog.cellsOf 195 = 1 := by kernel_rfl
theorem c9 : Tryz.prog.cellsOf 9 = 1 := by kernel_rfl
theorem star : "*" ++ "errors.errorString" = "*errors.errorString" := by decide
theorem row193 (u : TypeId) (h : Tryz.prog.typeName? 3 u = some "*errors.errorString") : u = 193 :=
  typeName_ptr_named (nm := "errors.errorString") (by rw [star]; kernel_rfl) (by kernel_rfl) (by decide) u (by rw [star]; exact h)

/-- The row's list of laid variables. -/
abbrev laidL : List (String × DataW Unit) := Rows.pushMetaRow.laid
theorem glob_of_laid {W : World} (hsh : W.ShapedOpen Tryz.prog) (h : laidMetH Tryz.prog laidL W) : IsErrType W ∧ (∃ m, W.cell? ⟨Gl.internal_bytealg_MaxLen, 0, none⟩ = some (.int .i64 m)) ∧
    Lib.TabIs Tryz.prog W "internal/strconv.uint64pow10" .u64 Lib.pow10Tab ∧ (∃ tp p, W.var? Tryz.prog "strconv.ErrSyntax" = some #[.iface tp p]) ∧ (∃ tp p, W.var? Tryz.prog "strconv.ErrRange" = some #[.iface tp p]) := by
  have h' : laidMet Tryz.prog [("math/bits.deBruijn32tab", Rows.laid_math_bits_deBruijn32tab), ("math/bits.deBruijn64tab", Rows.laid_math_bits_deBruijn64tab), ("internal/strconv.uint64pow10", Rows.laid_internal_strconv_uint64pow10), ("strconv.ErrRange", Rows.laid_strconv_ErrRange), ("strconv.ErrSyntax", Rows.laid_strconv_ErrSyntax)] W ∧ handlesMet Tryz.prog [("errors.errorType", Rows.laid_errors_errorType)] W := h
  refine ⟨?_, ?_, ?_, ?_, ?_⟩
  · obtain ⟨name, u, ty, e1, e2, e3, e4, e5⟩ := h'.2 _ (List.mem_singleton.2 rfl)
    have en : name = [101, 114, 114, 111, 114] := (Option.some.inj e1).symm
    subst en
    obtain rfl := Option.some.inj (rt.symm.trans e2)
    have hm : ty ∈ (List.range 222).filter fun t => Tryz.prog.rowNamed t [101, 114, 114, 111, 114] := List.mem_filter.2 ⟨List.mem_range.2 (by rw [← tsize]; exact e3), e4⟩
    rw [oneRow] at hm
    obtain rfl := List.mem_singleton.1 hm
    have hh : typeHandle Tryz.prog 36 = .pointer (some ⟨7, 36, none⟩) := by kernel_rfl
    rw [hh] at e5
    simpa [IsErrType] using World.var?_cell gET e5 0
  · exact Go.Proofs.cell_of_shapedOpen_int (zero := #[.int .i64 0]) (t := 3) hsh (of_decide_eq_true (by kernel_rfl)) (by kernel_rfl) rfl (by kernel_rfl) (by kernel_rfl) Tryz.underlying3
  · exact Lib.tabIs_of_head gP gPT u169 u153 c153 c169 h'.1.tail.tail
  · obtain ⟨a, s, hv, -, -, -⟩ := laid_sentinel h'.1.tail.tail.tail.tail gES gEST Tryz.underlying36 row193 Tryz.underlying193 Tryz.underlying195 rfl rfl Tryz.underlying9 c195 c9
    exact ⟨_, _, hv⟩
  · obtain ⟨a, s, hv, -, -, -⟩ := laid_sentinel h'.1.tail.tail.tail gER gERT Tryz.underlying36 row193 Tryz.underlying193 Tryz.underlying195 rfl rfl Tryz.underlying9 c195 c9
    exact ⟨_, _, hv⟩

/-- As the kit's wrap, the world's shape kept for the contract. -/
theorem handed_shaped {H : Type} {enc : TypeId × Value → H} {a : Assume} {C : Checked} {os : Os} {f : FuncId} {fn : Func} {s : ChangeSpec} {conds : List PathCond} {apart fresh handsOn again : Bool} {X : World → Array Value → Prop}
    (hX : ∀ (w w' : World) (args : Array Value), w.heap = w'.heap → X w args → X w' args)
    (own : ownKnob C.prog.godebug = none) (started : os.Started) (noInit : C.prog.inits.idxOf? f = none) (hfn : C.prog.funcs[f]? = some fn)
    (witness : ∃ (w : World) (tape : Tape) (i : Input), w.os = os ∧ (w.forCall tape i).Shaped C.prog ∧ i.vars = [] ∧ Input.okWide C.prog (w.forCall tape i) .any w.heap.size f i ∧
      ((s.pre enc C.prog fn conds apart (w.forCall tape i).memory i.args ∧ X (w.forCall tape i).memory i.args) ∧ sizedMet enc C.prog fn (OpenSpec.ofChange s) apart (w.forCall tape i).memory i.args) ∧ a.holds C.prog (lone (Frame.enter C.prog f i.args .normal) [] (w.forCall tape i)))
    (contract : ∀ (W : World) (base : Nat) (args : Array Value) (ds gs : List (DataW H)) (before : List MemPlace),
      (∀ (j : Nat) t v, fn.params[j]? = some t → args[j]? = some v → Value.okWide C.prog W .any base t v) →
      DataW.Whole enc C.prog fn.params.toList s.vars apart W args.toList ds gs before →
      (DataW.weightsEach C.prog (fn.params.toList ++ s.plain.varTypes C.prog) (ds ++ gs)).all (· ≤ reachBytes) = true → X W args → W.ShapedOpen C.prog →
      Calls C.prog f args W fun e W' => ∃ v, e = .returned v ∧ s.post enc C.prog fn apart fresh handsOn again W args v W') :
    ReturnsInHanded a C os f .any (fun w args => (s.pre enc C.prog fn conds apart w args ∧ X w args) ∧ sizedMet enc C.prog fn (OpenSpec.ofChange s) apart w args) (s.post enc C.prog fn apart fresh handsOn again) := by
  refine returnsInHanded_of_calls own started noInit witness ?_
  intro w tape i _ hsh _ hok hpre hholds
  obtain ⟨_, _, _, fn', hfn', _, _, _, _, hval⟩ := hok
  obtain rfl : fn' = fn := Option.some.inj (hfn'.symm.trans hfn)
  obtain ⟨⟨⟨ds, gs, before, hw, hc⟩, hx⟩, hz⟩ := hpre
  have hw' := DataW.Whole.of_heap (w' := w.forCall tape i) (by rfl) hw
  refine (contract (w.forCall tape i) w.heap.size i.args ds gs before hval hw' (hz.weights hw) (hX _ _ _ (by rfl) hx) hsh).mono fun e W' ⟨v, he, hp⟩ => ?_
  subst he
  exact ChangeSpec.post_blind hp

/-! A world that meets the condition. -/
abbrev synS : ByteArray := { data := #[105, 110, 118, 97, 108, 105, 100, 32, 115, 121, 110, 116, 97, 120] }
abbrev rngS : ByteArray := { data := #[118, 97, 108, 117, 101, 32, 111, 117, 116, 32, 111, 102, 32, 114, 97, 110, 103, 101] }
noncomputable def low : Nat := (World.holding Tryz.prog default ⟨#[], #[], []⟩).heap.size
def litV : DataW Unit → Value
  | .lit (.int k n) => .int k n
  | _ => .nilIface
def datV : DataW Unit → Array Value
  | .agg l => (l.map litV).toArray
  | _ => #[]
def fillG (vs : Array Value) : Obj → Obj
  | .cells _ t fr => .cells vs t fr
  | o => o
noncomputable def laidWorld (os : Os) : World :=
  let w0 := World.holding Tryz.prog os ⟨#[.cells #[.string synS] 195, .cells #[.string rngS] 195], #[], []⟩
  { w0 with heap := (((((w0.heap.modify 0 (fillG #[.iface 127 (.agg #[.pointer (some ⟨7, 36, none⟩)])])).modify 2 (fillG (datV Rows.laid_internal_strconv_uint64pow10))).modify 3 (fillG #[.iface 193 (.pointer (some ⟨low, 0, none⟩))])).modify 4 (fillG #[.iface 193 (.pointer (some ⟨low + 1, 0, none⟩))])).modify 5 (fillG (datV Rows.laid_math_bits_deBruijn32tab))).modify 6 (fillG (datV Rows.laid_math_bits_deBruijn64tab)) }
theorem laid_met (os : Os) (args : Array Value) : laidMetH Tryz.prog laidL ((laidWorld os).forCall (fun _ _ => 0) ⟨#[], args, []⟩).memory := by
  refine laidMetH_of_parts ?_ (by kernel_rfl)
  exact laidMet_of_run' 8 (by kernel_rfl) (by kernel_rfl)
end Go.Proofs.YtnfiihdebonadaaGreatDoor.Abs
