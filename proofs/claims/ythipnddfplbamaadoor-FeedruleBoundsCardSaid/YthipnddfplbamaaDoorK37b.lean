/- A part of the proof: K37b. -/
import Derived.Test.YthipnddfplbamaaDoorK37a
set_option linter.unusedVariables false
set_option maxRecDepth 100000
namespace Go.Proofs.YthipnddfplbamaaDoor
open Go Go.Am

theorem noR37 (w0 : World) : ResOk Tryd.prog w0 (fun _ => none) := fun g h hg => by cases hg
theorem p1 : PureOk Tryd.prog 14 q1 := .of_exec X37_ok noR37 mixed37 q1_ok
theorem p2 : PureOk Tryd.prog 15 q2 := .of_exec X37_ok noR37 mixed37 q2_ok
theorem p3 : PureOk Tryd.prog 15 q3 := .of_exec X37_ok noR37 mixed37 q3_ok
theorem p4 : PureOk Tryd.prog 15 q4 := .of_exec X37_ok noR37 mixed37 q4_ok
theorem p5 : PureOk Tryd.prog 15 q5 := .of_exec X37_ok noR37 mixed37 q5_ok
theorem p6 : PureOk Tryd.prog 15 q6 := .of_exec X37_ok noR37 mixed37 q6_ok
theorem p7 : PureOk Tryd.prog 15 q7 := .of_exec X37_ok noR37 mixed37 q7_ok
theorem rows_ok : ∀ x ∈ T1, PureOk Tryd.prog x.1 x.2.2 := by
  unfold T1
  exact List.forall_mem_cons.2 ⟨p1, List.forall_mem_cons.2 ⟨p2, List.forall_mem_cons.2 ⟨p3, List.forall_mem_cons.2 ⟨p4, List.forall_mem_cons.2 ⟨p5, List.forall_mem_cons.2 ⟨p6, List.forall_mem_cons.2 ⟨p7, fun _ h => nomatch h⟩⟩⟩⟩⟩⟩⟩
theorem isT_true : ∀ {r : Option (AV × List AO)}, isT r = true → ∃ A, r = some (.bool true, A)
  | some (.bool true, A), _ => ⟨A, rfl⟩
/-- known() answers true wherever it is called, and changes nothing. -/
theorem known_call (w0 : World) : SCall Tryd.prog w0 10 [] [] fun v A => v = .bool true := by
  obtain ⟨A', hc⟩ := isT_true main_ok
  exact (acallX_ok X37_ok (tableR_ok rows_ok) mixed37 hc).mono fun v' A2 ⟨e, _⟩ => e
theorem known_pure : PureOk Tryd.prog 10 { args := [], B := [], v := .bool true } := by
  obtain ⟨A', hc⟩ := isT_true main_ok
  exact ⟨rfl, fun w0 => ⟨A', acallX_ok X37_ok (tableR_ok rows_ok) mixed37 hc⟩⟩
end Go.Proofs.YthipnddfplbamaaDoor
