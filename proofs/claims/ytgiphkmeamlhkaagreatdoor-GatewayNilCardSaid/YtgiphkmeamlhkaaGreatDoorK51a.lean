/- A part of the proof: K51a. -/
import Derived.Test.YtgiphkmeamlhkaaGreatDoorAm28
import Derived.KernelRfl
import Derived.Test.YtgiphkmeamlhkaaGreatDoorProg
set_option linter.unusedVariables false
set_option maxRecDepth 100000
namespace Go.Proofs.YtgiphkmeamlhkaaGreatDoor
open Go Go.Am

/-! ### The known examples, run -/
def X51 : AExt := tableX [(114, xNone), (123, xSame), (177, xIndexByte), (182, xCompareB), (189, xCount)]
theorem X51_ok : ExtOk Tryz.prog X51 := tableX_ok fun x hx => by
  simp only [List.mem_cons, List.mem_nil_iff, or_false] at hx
  rcases hx with rfl | rfl | rfl | rfl | rfl
  · exact ⟨_, _, Tryz.func114, by kernel_rfl, rfl, by kernel_rfl, by kernel_rfl, xNone_ok (e := Extern.MapsClone.clone)⟩
  · exact ⟨_, _, Tryz.func123, by kernel_rfl, rfl, by kernel_rfl, by kernel_rfl, xSame_ok⟩
  · exact ⟨_, _, Tryz.func177, by kernel_rfl, rfl, by kernel_rfl, by kernel_rfl, xIndexByte_ok⟩
  · exact ⟨_, _, Tryz.func182, by kernel_rfl, rfl, by kernel_rfl, by kernel_rfl, xCompareB_ok⟩
  · exact ⟨_, _, Tryz.func189, by kernel_rfl, rfl, by kernel_rfl, by kernel_rfl, xCount_ok⟩
theorem mixed : Tryz.prog.follows .mixedOrders = true := by kernel_rfl
def q1 : PureRow := { args := [.agg [.int .i64 (5), .str [97, 110, 110], .str [104, 105]]], B := [], v := .tuple [.str [91, 53, 93, 32, 60, 97, 110, 110, 62, 32, 104, 105], .int .i64 (0)] }
theorem q1_ok : rowOkB Tryz.prog X51 (fun _ => none) 3000 13 q1 = true := by decide +kernel
def q2 : PureRow := { args := [.str [74, 46, 32, 82, 46, 32, 68, 111, 101], .slc (some (0, 0)) 1 1 true], B := [.row [.str [106, 114, 100, 111, 101]] 9 false], v := .tuple [.str [74, 82, 68, 111, 101, 50], .int .i64 (0)] }
theorem q2_ok : rowOkB Tryz.prog X51 (fun _ => none) 3000 21 q2 = true := by decide +kernel
def T1 : List (FuncId × List Nat × PureRow) := [(13, [], q1), (21, [56], q2)]
def isT : Option (AV × List AO) → Bool
  | some (.bool true, _) => true
  | _ => false
theorem main_ok : isT (acallX Tryz.prog X51 (tableR T1) 3000 15 [] []) = true := by decide +kernel
end Go.Proofs.YtgiphkmeamlhkaaGreatDoor
