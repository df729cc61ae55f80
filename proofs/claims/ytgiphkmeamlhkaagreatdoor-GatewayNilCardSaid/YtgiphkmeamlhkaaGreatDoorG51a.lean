/- A part of the proof: G51a. -/
import Derived.Test.YtgiphkmeamlhkaaGreatDoorK51b
import Derived.KernelRfl
set_option linter.unusedVariables false
set_option maxRecDepth 100000
namespace Go.Proofs.YtgiphkmeamlhkaaGreatDoor
open Go Go.Am
/-! ### The law, run on an input of which nothing is known -/
def TN : List (FuncId × List Nat × PureRow) := [(15, [], { args := [], B := [], v := .bool true })]
theorem TN_ok : ∀ x ∈ TN, PureOk Tryz.prog x.1 x.2.2 := by
  unfold TN
  exact List.forall_mem_cons.2 ⟨known_pure, fun _ h => nomatch h⟩
theorem nil_run : isT (acallX Tryz.prog X51 (tableR TN) 3000 11 [.agg (List.replicate 41 .any)] []) = true := by decide +kernel
theorem nil_law (w0 : World) : SCall Tryz.prog w0 11 [.agg (List.replicate 41 .any)] [] fun v _ => v = .bool true := by
  obtain ⟨A', hc⟩ := isT_true nil_run
  exact (acallX_ok X51_ok (tableR_ok TN_ok) mixed hc).mono fun v A ⟨h, _⟩ => h
end Go.Proofs.YtgiphkmeamlhkaaGreatDoor
