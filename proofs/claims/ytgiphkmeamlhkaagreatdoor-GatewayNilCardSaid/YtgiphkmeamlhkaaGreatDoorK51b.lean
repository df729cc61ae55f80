/- A part of the proof: K51b. -/
import Derived.Test.YtgiphkmeamlhkaaGreatDoorK51a
set_option linter.unusedVariables false
set_option maxRecDepth 100000
namespace Go.Proofs.YtgiphkmeamlhkaaGreatDoor
open Go Go.Am
theorem noR (w0 : World) : ResOk Tryz.prog w0 (fun _ => none) := fun g h hg => by cases hg
theorem q1_pure : PureOk Tryz.prog 13 q1 := .of_exec X51_ok noR mixed q1_ok
theorem q2_pure : PureOk Tryz.prog 21 q2 := .of_exec X51_ok noR mixed q2_ok
theorem rows_ok : ∀ x ∈ T1, PureOk Tryz.prog x.1 x.2.2 := by
  unfold T1
  exact List.forall_mem_cons.2 ⟨q1_pure, List.forall_mem_cons.2 ⟨q2_pure, fun _ h => nomatch h⟩⟩
theorem isT_true : ∀ {r : Option (AV × List AO)}, isT r = true → ∃ A, r = some (.bool true, A)
  | some (.bool true, A), _ => ⟨A, rfl⟩
theorem known_pure : PureOk Tryz.prog 15 { args := [], B := [], v := .bool true } := by
  obtain ⟨A', hc⟩ := isT_true main_ok
  exact ⟨rfl, fun w0 => ⟨A', acallX_ok X51_ok (tableR_ok rows_ok) mixed hc⟩⟩
end Go.Proofs.YtgiphkmeamlhkaaGreatDoor
