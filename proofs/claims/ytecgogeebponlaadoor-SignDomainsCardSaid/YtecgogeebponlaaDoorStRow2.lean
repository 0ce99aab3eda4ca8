/- A start at which a call with a state as its argument is made, where package variables are laid. -/
import Derived.Test.YtecgogeebponlaaDoorStRow
import Derived.Deep.DeepHandedRow
namespace Go.Proofs.YtecgogeebponlaaDoor
set_option maxRecDepth 40000
open Go.ChangeShapes Go.WideShapes Go.ChangeAt Go.RowKit
theorem witness_row_st {H : Type} {enc : TypeId × Value → H} {C : Checked} {os : Os} {f : FuncId} {fn : Func} {s : OpenSpec} {conds : List PathCond} {apart : Bool} {laid : List (String × DataW Unit)} (modest : Bool) (w0 : World) (args : Array Value) (hos : w0.os = os)
    (hv : (w0.forCall (fun _ _ => 0) ⟨#[], args, []⟩).variablesB C.prog = true)
    (hr : ((w0.forCall (fun _ _ => 0) ⟨#[], args, []⟩).heap.toList.drop C.prog.globals.size).take ((begin C.prog (fun _ _ => 0) default).world.heap.size - C.prog.globals.size) =
      (begin C.prog (fun _ _ => 0) default).world.heap.toList.drop C.prog.globals.size)
    (hok : ∀ w base, Input.okWide C.prog w .any base f ⟨#[], args, []⟩)
    (hrow : s.preRow enc C.prog fn conds apart laid (w0.forCall (fun _ _ => 0) ⟨#[], args, []⟩).memory args) :
    ∃ (w : World) (tape : Tape) (i : Input), w.os = os ∧ (w.forCall tape i).Shaped C.prog ∧ i.vars = [] ∧ Input.okWide C.prog (w.forCall tape i) .any w.heap.size f i ∧
      s.preRow enc C.prog fn conds apart laid (w.forCall tape i).memory i.args ∧ ({ modest := modest } : Assume).holds C.prog (lone (Frame.enter C.prog f i.args .normal) [] (w.forCall tape i)) :=
  ⟨w0, fun _ _ => 0, ⟨#[], args, []⟩, hos, World.shaped_of_B hv hr, rfl, hok _ _, hrow, by
    simp only [Assume.holds]
    exact ⟨by simp, by simp, fun _ => Modest.zero, by simp, by simp⟩⟩
theorem row_st {H : Type} {enc : TypeId × Value → H} {P : Program} {f : Func} {s : ChangeSpec} {conds : List PathCond} {apart : Bool} {laid : List (String × DataW Unit)} {w : World} {args : Array Value} (fuel : Nat)
    (hpre : s.preB enc P f conds apart w args fuel = true) (hsz : s.sizedB enc P f apart w args fuel = true) (hl : laidMetH P laid w) : (OpenSpec.ofChange s).preRow enc P f conds apart laid w args :=
  ⟨⟨ChangeSpec.pre_of_preB hpre, hl⟩, sizedMet_of_sizedB hsz⟩
end Go.Proofs.YtecgogeebponlaaDoor
