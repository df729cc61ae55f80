/- A part of the proof: N39c. -/
import Derived.Test.YtaponnbchaekbaaGreatDoorK39a
set_option linter.unusedVariables false
namespace Go.Proofs.YtaponnbchaekbaaGreatDoor
open Go Go.Am
/-- The names of groups that an operation may choose. -/
def nm (g : Int) : List UInt8 :=
  match g.tmod 7 with
  | 2 => [97, 46, 98]
  | 4 => [104]
  | 5 => []
  | 6 => [71]
  | _ => [103]
def opA (k i g a now : Int) (s : List UInt8) : List AV := [.int .u8 k, .int .u8 i, .int .u8 g, .int .u8 a, .int .i64 now, .str s]
end Go.Proofs.YtaponnbchaekbaaGreatDoor
