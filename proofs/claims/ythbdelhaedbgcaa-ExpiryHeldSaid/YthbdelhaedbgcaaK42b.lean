/- A part of the proof: K42b. -/
import Derived.Test.YthbdelhaedbgcaaK42a
set_option linter.unusedVariables false
set_option maxRecDepth 100000
namespace Go.Proofs.Ythbdelhaedbgcaa
open Go Go.Am
theorem noR (w0 : World) : ResOk Try.prog w0 (fun _ => none) := fun g h hg => by cases hg
theorem q1_pure : PureOk Try.prog 24 q1 := .of_exec X42_ok noR mixed q1_ok
theorem q2_pure : PureOk Try.prog 24 q2 := .of_exec X42_ok noR mixed q2_ok
theorem q3_pure : PureOk Try.prog 28 q3 := .of_exec X42_ok noR mixed q3_ok
theorem rows_ok : ∀ x ∈ T1, PureOk Try.prog x.1 x.2.2 := by
  unfold T1
  exact List.forall_mem_cons.2 ⟨q1_pure, List.forall_mem_cons.2 ⟨q2_pure, List.forall_mem_cons.2 ⟨q3_pure, fun _ h => nomatch h⟩⟩⟩
theorem isT_true : ∀ {r : Option (AV × List AO)}, isT r = true → ∃ A, r = some (.bool true, A)
  | some (.bool true, A), _ => ⟨A, rfl⟩
theorem known_pure : PureOk Try.prog 8 { args := [], B := [], v := .bool true } := by
  obtain ⟨A', hc⟩ := isT_true main_ok
  exact ⟨rfl, fun w0 => ⟨A', acallX_ok X42_ok (tableR_ok rows_ok) mixed hc⟩⟩
end Go.Proofs.Ythbdelhaedbgcaa
