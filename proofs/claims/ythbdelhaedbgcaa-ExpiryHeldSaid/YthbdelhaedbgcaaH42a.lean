/- A part of the proof: H42a. -/
import Derived.Test.YthbdelhaedbgcaaAm36
import Derived.KernelRfl
import Derived.Test.YthbdelhaedbgcaaProg
set_option linter.unusedVariables false
namespace Go.Proofs.Ythbdelhaedbgcaa
open Go Go.Am
def XH : AExt := fun _ => none
/-- An article of the reference: its bytes and numbers, two slices. -/
def recA (f : Nat → Int) (date arr byt ctl : Int) (gl gc hl hc : Nat) (wd : Bool) : List AV :=
  (List.range 32).map (fun i => .int .u8 (f i)) ++ [.int .i64 date, .int .i64 arr, .slc (some (0, 0)) gl gc true, .int .i64 byt, .int .i64 ctl, .slc (some (1, 0)) hl hc true, .bool wd]
noncomputable def loops9 : List Code := (Try.f9.body.map loopsOf).getD []
noncomputable def loop9 : Code := match loops9 with | [_, _, c] => c | _ => .skip
def A9 (cs0 cs1 : List AV) (e0 e1 : Nat) (r : List AV) : List AO := [.row cs0 e0 false, .row cs1 e1 false, .row r 27 true, .row r 27 true]
def ps9 (i : Int) : List (Nat × AV) := [(0, .slc none 0 0 true), (1, .slc (some (3, 0)) 1 1 true), (4, .bool false), (6, .int .i64 0), (7, .int .i64 i)]
/-- The first cells of the identities that are withdrawn or approved. -/
def holdRow (h : Nat → Int) (n : Nat) : List AV := (List.range (n * 32)).map fun j => .int .u8 (h j)
/-! ### ids -/
noncomputable def loop29 : Code := (Try.f29.body.bind loopOf).getD .skip
def psI (len cap : Nat) (out : AV) (i : Nat) : List (Nat × AV) := [(0, .slc (some (0, 0)) len cap true), (3, out), (4, .int .i64 i)]
def outI (i : Nat) : AV := if i = 0 then .slc none 0 0 true else .slc (some (1, 0)) i i false
def AI (h : Nat → Int) (n e : Nat) (i : Nat) : List AO := if i = 0 then [.row (holdRow h n) e false] else [.row (holdRow h n) e false, .row (holdRow h i) 39 true]
def cellsI (h : Nat → Int) (i : Nat) : List AV := (List.range 32).map fun j => .int .u8 (h (i * 32 + j))
/-! ### article, Held -/
/-- An article of the program. -/
def artA (f : Nat → Int) (date arr byt ctl : Int) (gl gc : Nat) (hv : AV) (wd : Bool) : List AV :=
  (List.range 32).map (fun i => .int .u8 (f i)) ++ [.int .i64 date, .int .i64 arr, .slc (some (0, 0)) gl gc true, .int .i64 byt, .int .i64 ctl, hv, .bool wd]
noncomputable def loop61 : Code := (Try.f61.body.bind loopOf).getD .skip
def psX (len cap : Nat) (ex : Bool) (i : Int) : List (Nat × AV) := [(0, .slc (some (0, 0)) len cap ex), (1, .func (.func 20) [] []), (4, .int .i64 0), (7, .int .i64 len), (8, .int .i64 i)]
def psX2 (r : Int) : List (Nat × AV) := [(4, .int .i64 r)]
/-- The first identity of which odd holds, from i on among n; -1 if there is none. -/
def idxOdd (h : Nat → Int) (i : Nat) : Nat → Int
  | 0 => -1
  | n + 1 => if (h (i * 32 + 0)).tmod 2 = 1 then i else idxOdd h (i + 1) n
noncomputable def loop5 : Code := (Try.f5.body.bind loopOf).getD .skip
def zeroA : List AV := (List.range 32).map (fun _ => .int .u8 0) ++ [.int .i64 0, .int .i64 0, .slc none 0 0 true, .int .i64 0, .int .i64 0, .slc none 0 0 true, .bool false]
def psW (f : Nat → Int) (w : Bool) (i : Int) : List (Nat × AV) := [(1, .ptr (some (2, 0))), (2, .bool false), (3, .bool w), (4, .int .i64 i)]
def anyOdd (h : Nat → Int) (n : Nat) : Bool := (List.range n).any fun k => (h (k * 32 + 0)).tmod 2 == 1
end Go.Proofs.Ythbdelhaedbgcaa
