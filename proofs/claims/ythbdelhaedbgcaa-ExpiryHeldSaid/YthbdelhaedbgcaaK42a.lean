/- A part of the proof: K42a. -/
import Derived.Test.YthbdelhaedbgcaaAm28
import Derived.KernelRfl
import Derived.Test.YthbdelhaedbgcaaProg
set_option linter.unusedVariables false
set_option maxRecDepth 100000
namespace Go.Proofs.Ythbdelhaedbgcaa
open Go Go.Am

/-! ### The known examples, run -/
def X42 : AExt := tableX [(92, xIndexByte)]
theorem X42_ok : ExtOk Try.prog X42 := tableX_ok fun x hx => by
  simp only [List.mem_cons, List.mem_nil_iff, or_false] at hx
  subst hx
  · exact ⟨_, _, Try.func92, by kernel_rfl, rfl, by kernel_rfl, by kernel_rfl, xIndexByte_ok⟩
theorem mixed : Try.prog.follows .mixedOrders = true := by kernel_rfl
def q1 : PureRow := { args := [.agg [.str [42], .int .i64 (0), .int .i64 (10)]], B := [], v := .int .i64 (0) }
theorem q1_ok : rowOkB Try.prog X42 (fun _ => none) 3000 24 q1 = true := by decide +kernel
def q2 : PureRow := { args := [.agg [.str [114, 101, 99, 46, 42], .int .i64 (5), .int .i64 (30)]], B := [], v := .int .i64 (0) }
theorem q2_ok : rowOkB Try.prog X42 (fun _ => none) 3000 24 q2 = true := by decide +kernel
def q3 : PureRow := { args := [.slc (some (0, 0)) 2 2 true, .agg [.int .u8 (1), .int .u8 (0), .int .u8 (0), .int .u8 (0), .int .u8 (0), .int .u8 (0), .int .u8 (0), .int .u8 (0), .int .u8 (0), .int .u8 (0), .int .u8 (0), .int .u8 (0), .int .u8 (0), .int .u8 (0), .int .u8 (0), .int .u8 (0), .int .u8 (0), .int .u8 (0), .int .u8 (0), .int .u8 (0), .int .u8 (0), .int .u8 (0), .int .u8 (0), .int .u8 (0), .int .u8 (0), .int .u8 (0), .int .u8 (0), .int .u8 (0), .int .u8 (0), .int .u8 (0), .int .u8 (0), .int .u8 (0), .int .i64 (0), .int .i64 (0), .slc (some (1, 0)) 2 2 true, .int .i64 (7), .int .i64 (0), .slc none 0 0 true, .bool false]], B := [.row [.str [42], .int .i64 (0), .int .i64 (10), .str [114, 101, 99, 46, 42], .int .i64 (5), .int .i64 (30)] 66 false, .row [.str [97, 108, 116, 46, 116, 101, 115, 116], .str [114, 101, 99, 46, 98, 111, 97, 116, 115]] 9 false], v := .tuple [.int .i64 (5), .int .i64 (30)] }
theorem q3_ok : rowOkB Try.prog X42 (fun _ => none) 3000 28 q3 = true := by decide +kernel
def T1 : List (FuncId × List Nat × PureRow) := [(24, [], q1), (24, [], q2), (28, [0, 1], q3)]
def isT : Option (AV × List AO) → Bool
  | some (.bool true, _) => true
  | _ => false
theorem main_ok : isT (acallX Try.prog X42 (tableR T1) 3000 8 [] []) = true := by decide +kernel
end Go.Proofs.Ythbdelhaedbgcaa
