/- A part of the proof: K39a. -/
import Derived.Test.YtaponnbchaekbaaGreatDoorAm42
import Derived.Test.YtaponnbchaekbaaGreatDoorAm28
import Derived.KernelRfl
import Derived.Test.YtaponnbchaekbaaGreatDoorProg
set_option linter.unusedVariables false
set_option maxRecDepth 100000
namespace Go.Proofs.YtaponnbchaekbaaGreatDoor
open Go Go.Am

/-! ### The known examples, run, in every order of a map's entries -/
def X39 : AExt := tableX [(93, xCompareB), (97, xNone), (146, xCount), (169, xIndexByte)]
theorem X39_ok : ExtOk Tryz.prog X39 := tableX_ok fun x hx => by
  simp only [List.mem_cons, List.mem_nil_iff, or_false] at hx
  rcases hx with rfl | rfl | rfl | rfl
  · exact ⟨_, _, Tryz.func93, by kernel_rfl, rfl, by kernel_rfl, by kernel_rfl, xCompareB_ok⟩
  · exact ⟨_, _, Tryz.func97, by kernel_rfl, rfl, by kernel_rfl, by kernel_rfl, xNone_ok (e := Extern.MapsClone.clone)⟩
  · exact ⟨_, _, Tryz.func146, by kernel_rfl, rfl, by kernel_rfl, by kernel_rfl, xCount_ok⟩
  · exact ⟨_, _, Tryz.func169, by kernel_rfl, rfl, by kernel_rfl, by kernel_rfl, xIndexByte_ok⟩
theorem mixed : Tryz.prog.follows .mixedOrders = true := by kernel_rfl
def G39 (g : FuncId) : Bool := Nat.beq g 35
theorem known_run : bpureB Tryz.prog X39 (fun _ => none) G39 3000 8 { args := [], B := [], v := .bool true } = true := by decide +kernel
theorem noR (w0 : World) : ResOk Tryz.prog w0 (fun _ => none) := fun g h hg => by cases hg
theorem known_pure : PureOk Tryz.prog 8 { args := [], B := [], v := .bool true } := .of_bcall X39_ok noR mixed known_run
end Go.Proofs.YtaponnbchaekbaaGreatDoor
