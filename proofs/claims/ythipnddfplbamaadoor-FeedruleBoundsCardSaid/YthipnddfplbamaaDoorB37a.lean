/- A part of the proof: B37a. -/
import Derived.Test.YthipnddfplbamaaDoorAm33
import Derived.KernelRfl
import Derived.Test.YthipnddfplbamaaDoorProg
set_option linter.unusedVariables false
namespace Go.Proofs.YthipnddfplbamaaDoor
open Go Go.Am
def X0 : AExt := fun _ => none
noncomputable def loop5 : Code := (Tryd.f5.body.bind loopOf).getD .skip
/-- What holds at the loop's head: the place, the quota's day and bytes, the sums by day. -/
structure BS where
  i : Int
  day : Int
  used : Int
  l : List (Int × Int)
def psB (lim : Int) (len cap : Nat) (i : Int) : List (Nat × AV) := [(0, .int .i64 lim), (1, .slc (some (0, 0)) len cap true), (4, .bool false), (5, .ptr (some (1, 0))), (7, .map (some 2)), (8, .int .i64 i)]
def AB (lim : Int) (e0 : Nat) (cs : List AV) (s : BS) : List AO := [.row cs e0 false, .row [.int .i64 lim, .int .i64 s.day, .int .i64 s.used] 89 true, .map (intEs .i64 .i64 s.l)]
end Go.Proofs.YthipnddfplbamaaDoor
