/- A part of the proof: Am29. -/
import Derived.Test.YthipnddfplbamaaDoorAm28
set_option linter.unusedVariables false
set_option linter.unusedSimpArgs false
namespace Go.Am
open Go.RowKit

/-! ### Slots forgotten from a place on -/
theorem lessOf.tail {pre rest : List AV} {n : Nat} (hl : rest.length = n) : lessOf (pre ++ rest) (pre ++ List.replicate n .any) := by
  refine ⟨by simp [hl], fun i x y hx hy => ?_⟩
  by_cases hi : i < pre.length
  · rw [List.getElem?_append_left hi] at hx hy
    rw [hx] at hy; exact .inl (Option.some.inj hy).symm
  · rw [List.getElem?_append_right (by omega)] at hx hy
    rw [List.getElem?_replicate] at hy
    split at hy
    · simp only [Option.some.injEq] at hy
      exact .inr hy.symm
    · cases hy
/-- The slots from n on, of an outcome. -/
def restOf (n : Nat) : Option (Exit × List AV × List AO × List OT × OCs) → List AV
  | some (_, t, _) => t.drop n
  | none => []
end Go.Am
