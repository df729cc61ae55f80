/- A part of the proof: W37a, W37n, W37b, W37c, W37d. -/
import Derived.Test.YthipnddfplbamaaDoorAm45
import Derived.Test.YthipnddfplbamaaDoorAm28
import Derived.Test.YthipnddfplbamaaDoorPw
import Derived.KernelRfl
import Derived.Test.YthipnddfplbamaaDoorProg
set_option linter.unusedVariables false
namespace Go.Proofs.YthipnddfplbamaaDoor
open Go Go.Am
def XC : AExt := tableX [(108, xIndexByte), (98, xCount)]
/-- byte i of a string -/
def ch (s : List UInt8) (i : Nat) : Nat := (s.getD i 0).toNat
/-! ### Loops -/
noncomputable def L35_6 : Code := (Tryd.f35.body.bind (loopBy 6)).getD .skip
noncomputable def L35_12 : Code := (Tryd.f35.body.bind (loopBy 12)).getD .skip
noncomputable def L64_11 : Code := (Tryd.f64.body.bind (loopBy 11)).getD .skip
noncomputable def L67_6 : Code := (Tryd.f67.body.bind (loopBy 6)).getD .skip
noncomputable def L46_7 : Code := (Tryd.f46.body.bind (loopBy 7)).getD .skip
noncomputable def L24_6 : Code := (Tryd.f24.body.bind (loopBy 6)).getD .skip
/-- How the loop of a class ends. -/
def pcEnd (s : List UInt8) (f : Nat) (x : Nat × List UInt8) : Prop := (x.1 < s.length ∧ x.1 ≠ f → clsAt s f f [] = some (x.2, x.1)) ∧ (¬ (x.1 < s.length ∧ x.1 ≠ f) → clsAt s f f [] = none)
/-! ### Elements, as cells -/
def elAV : El → AV
  | .one c => .iface 136 (.int .u8 c.toNat)
  | .cls set inv => .iface 138 (.agg [.str set, .bool inv])
  | .star => .iface 140 (.agg [])
end Go.Proofs.YthipnddfplbamaaDoor
set_option linter.unusedVariables false
set_option maxRecDepth 100000
namespace Go.Proofs.YthipnddfplbamaaDoor
open Go Go.Am
/-! What code computes. -/
noncomputable def scr_sort (c : Nat) : Scr := (.br (.br (.nil) (.br (.br (.nil) (.nil)) (.nil))) (.br (.br (.nil) (.nil)) (.nil)))
theorem nf_sort (w0 : World) (c : Nat) (Q : AV → List AO → Prop) :
    vcall Tryd.prog w0 XC (fun _ => none) 200 86 [.int .u8 c] ([]) (scr_sort c) Q =
    (((decide ((↑c : Int) ≥ (97 : Int))) = true → ((decide ((↑c : Int) ≤ (122 : Int))) = true → Q (AV.int IntKind.i64 (1 : Int)) ([])) ∧ ((decide ((↑c : Int) ≤ (122 : Int))) = false → ((decide ((↑c : Int) ≥ (48 : Int))) = true → ((decide ((↑c : Int) ≤ (57 : Int))) = true → Q (AV.int IntKind.i64 (2 : Int)) ([])) ∧ ((decide ((↑c : Int) ≤ (57 : Int))) = false → Q (AV.int IntKind.i64 (0 : Int)) ([]))) ∧ ((decide ((↑c : Int) ≥ (48 : Int))) = false → Q (AV.int IntKind.i64 (0 : Int)) ([])))) ∧ ((decide ((↑c : Int) ≥ (97 : Int))) = false → ((decide ((↑c : Int) ≥ (48 : Int))) = true → ((decide ((↑c : Int) ≤ (57 : Int))) = true → Q (AV.int IntKind.i64 (2 : Int)) ([])) ∧ ((decide ((↑c : Int) ≤ (57 : Int))) = false → Q (AV.int IntKind.i64 (0 : Int)) ([]))) ∧ ((decide ((↑c : Int) ≥ (48 : Int))) = false → Q (AV.int IntKind.i64 (0 : Int)) ([])))) := by kernel_rfl
noncomputable def scr_named (c : UInt8) (x : Int) : Scr := (.w (1) (1) (AV.int IntKind.i64 x) (.br (.nil) (.nil)))
theorem nf_named (w0 : World) (c : UInt8) (x : Int) (Q : AV → List AO → Prop) :
    vcall Tryd.prog w0 XC (fun _ => none) 200 66 [.int .u8 c.toNat] ([]) (scr_named c x) Q =
    ((SCall Tryd.prog w0 85 [AV.str chars8, AV.int IntKind.u8 (↑c.toNat : Int)] [] (fun v' A'' => v' = AV.int IntKind.i64 x ∧ A'' = [])) ∧ ((decide (x ≥ (0 : Int))) = true → Q (AV.bool true) ([])) ∧ ((decide (x ≥ (0 : Int))) = false → Q (AV.bool false) ([]))) := by kernel_rfl
noncomputable def scr_between (a b : UInt8) (x y : Nat) : Scr := (.w (1) (1) (AV.int IntKind.i64 (↑x : Int)) (.w (1) (3) (AV.int IntKind.i64 (↑y : Int)) (.w (1) (4) (AV.int IntKind.i64 (↑(y + 1) : Int)) (.s 1 5 (.nil)))))
theorem nf_between (w0 : World) (a b : UInt8) (x y : Nat) (Q : AV → List AO → Prop) :
    vcall Tryd.prog w0 XC (fun _ => none) 200 87 [.int .u8 a.toNat, .int .u8 b.toNat] ([]) (scr_between a b x y) Q =
    ((SCall Tryd.prog w0 85 [AV.str chars8, AV.int IntKind.u8 (↑a.toNat : Int)] [] (fun v' A'' => v' = AV.int IntKind.i64 (↑x : Int) ∧ A'' = [])) ∧ (SCall Tryd.prog w0 85 [AV.str chars8, AV.int IntKind.u8 (↑b.toNat : Int)] [] (fun v' A'' => v' = AV.int IntKind.i64 (↑y : Int) ∧ A'' = [])) ∧ ((some (AV.int IntKind.i64 (IntKind.i64.wrap ((↑y : Int) + (1 : Int))), []) : Option (AV × List AO)) = some (AV.int IntKind.i64 (↑(y + 1) : Int), [])) ∧ (((0 : Int) ≤ (↑(y + 1) : Int) ∧ (↑(y + 1) : Int) ≤ (40 : Int)) ∧ (0 : Int) ≤ (↑x : Int) ∧ (↑x : Int) ≤ (↑(y + 1) : Int)) ∧ Q (AV.str (List.take (y + 1 - x) (List.drop x chars8))) ([])) := by kernel_rfl
noncomputable def scr_ixb (s : List UInt8) (c : UInt8) : Scr := (.nil)
theorem nf_ixb (w0 : World) (s : List UInt8) (c : UInt8) (Q : AV → List AO → Prop) :
    vcall Tryd.prog w0 XC (fun _ => none) 200 85 [.str s, .int .u8 c.toNat] ([]) (scr_ixb s c) Q =
    (Q (AV.int IntKind.i64 (Lib.indexByte s c.toNat.toUInt8)) ([])) := by kernel_rfl
noncomputable def scr_gsp (s last : List UInt8) (c : UInt8) (N n : Nat) (cs : List AV) : Scr := (.d false (.d false (.d true (.d false (.d true (.w (7) (4) (AV.int IntKind.i64 (↑N : Int)) (.s 8 1 (.w (9) (1) (AV.int IntKind.i64 (↑n : Int)) (.lp [0, 1, 2, 3, 9, 10] (Unit) (fun x => True) (Exit.exit 0) (fun x => lay 66 [(0, AV.str last), (1, AV.str [c]), (3, AV.int IntKind.i64 (↑n : Int)), (9, AV.slc (some (0, 0)) N N true), (10, AV.int IntKind.i64 (↑n : Int))]) (fun x => [AO.row cs (9 : TypeId) true]) (fun x => .s 17 3 (.s 17 4 (.w (18) (2) (AV.int IntKind.i64 (↑N : Int)) (.s 18 3 (.nil))))) (.nil))))))))))
theorem nf_gsp (w0 : World) (s last : List UInt8) (c : UInt8) (N n : Nat) (cs : List AV) (Q : AV → List AO → Prop) :
    vcall Tryd.prog w0 XC (fun _ => none) 200 64 [.str s, .str [c], .int .i64 0, .int .i64 (-1)] ([]) (scr_gsp s last c N n cs) Q =
    (((some (AV.int IntKind.i64 (if false = true then if IntKind.i64.wrap ((↑(Lib.countByte s c.toNat.toUInt8) : Int) + (1 : Int)) < IntKind.i64.wrap ((↑s.length : Int) + (1 : Int)) then IntKind.i64.wrap ((↑s.length : Int) + (1 : Int)) else IntKind.i64.wrap ((↑(Lib.countByte s c.toNat.toUInt8) : Int) + (1 : Int)) else if IntKind.i64.wrap ((↑s.length : Int) + (1 : Int)) < IntKind.i64.wrap ((↑(Lib.countByte s c.toNat.toUInt8) : Int) + (1 : Int)) then IntKind.i64.wrap ((↑s.length : Int) + (1 : Int)) else IntKind.i64.wrap ((↑(Lib.countByte s c.toNat.toUInt8) : Int) + (1 : Int))), []) : Option (AV × List AO)) = some (AV.int IntKind.i64 (↑N : Int), [])) ∧ ((0 : Int) ≤ (↑N : Int) ∧ (↑N : Int) ≤ (↑N : Int) ∧ (↑N : Int) ≤ (9223372036854775807 : Int) ∧ (16 : Int) * (↑N : Int) ≤ (281474976710656 : Int)) ∧ ((some (AV.int IntKind.i64 (IntKind.i64.wrap ((↑N : Int) - (1 : Int))), [AO.row (areps N (acells (AV.str ([] : List UInt8)))) 9 true]) : Option (AV × List AO)) = some (AV.int IntKind.i64 (↑n : Int), [AO.row (areps N (acells (AV.str ([] : List UInt8)))) 9 true])) ∧ ((∃ k, SRoundsB Tryd.prog w0 1 false L64_11 (fun e' t' A' => (∃ x : Unit, (fun x => True) x ∧ e' = Exit.exit 0 ∧ t' = (fun x => lay 66 [(0, AV.str last), (1, AV.str [c]), (3, AV.int IntKind.i64 (↑n : Int)), (9, AV.slc (some (0, 0)) N N true), (10, AV.int IntKind.i64 (↑n : Int))]) x ∧ A' = (fun x => [AO.row cs (9 : TypeId) true]) x) ∨ False) k (lay 66 [(0, AV.str s), (1, AV.str [c]), (2, AV.int IntKind.i64 (0 : Int)), (3, AV.int IntKind.i64 (↑n : Int)), (9, AV.slc (some (0, 0)) N N true), (10, AV.int IntKind.i64 (0 : Int))]) ([AO.row (areps N (acells (AV.str ([] : List UInt8)))) 9 true]))) ∧ ((∀ x : Unit, True → ((0 : Int) ≤ (↑n : Int) ∧ (↑n : Int) < (↑N : Int)) ∧ (0 + n * 1 + 1 ≤ cs.length) ∧ ((some (AV.int IntKind.i64 (IntKind.i64.wrap ((↑n : Int) + (1 : Int))), [AO.row (asplice cs (0 + n * 1) (acells (AV.str last))) 9 true]) : Option (AV × List AO)) = some (AV.int IntKind.i64 (↑N : Int), [AO.row (asplice cs (0 + n * 1) (acells (AV.str last))) 9 true])) ∧ ((N ≤ N ∧ ((some (AV.int IntKind.i64 (↑N : Int))).isNone = true → (↑N : Int).toNat ≤ N)) ∧ ((0 : Int) ≤ (↑N : Int) ∧ (↑N : Int) ≤ (↑N : Int)) ∧ True) ∧ Q (AV.slc (some (0, 0)) (N - 0) (N - 0) true) ([AO.row (asplice cs (0 + n * 1) (acells (AV.str last))) 9 true])) ∧ True)) := by kernel_rfl
noncomputable def scr_gspR (rest : List UInt8) (c : UInt8) (k N n m : Nat) (cs : List AV) : Scr := (.br (.d false (.br (.d false (.w (14) (5) (AV.int IntKind.i64 (↑m : Int)) (.s 14 6 (.s 14 7 (.s 14 8 (.w (15) (4) (AV.int IntKind.i64 (↑(m + 1) : Int)) (.s 15 5 (.w (16) (1) (AV.int IntKind.i64 (↑(k + 1) : Int)) (.nil))))))))) (.d true (.br (.nil) (.w (14) (5) (AV.int IntKind.i64 (↑m : Int)) (.s 14 6 (.s 14 7 (.s 14 8 (.w (15) (4) (AV.int IntKind.i64 (↑(m + 1) : Int)) (.s 15 5 (.w (16) (1) (AV.int IntKind.i64 (↑(k + 1) : Int)) (.nil)))))))))))) (.nil))
theorem nf_gspR (w0 : World) (rest : List UInt8) (c : UInt8) (k N n m : Nat) (cs : List AV) (K : Exit → List (Nat × AV) → List AO → Prop) :
    vexec Tryd.prog w0 XC (fun _ => none) 200 0 false true L64_11 (lay 66 [(0,.str rest),(1,.str [c]),(2,.int .i64 0),(3,.int .i64 n),(9,.slc (some (0,0)) N N true),(10,.int .i64 k)]) ([.row cs 9 true]) (scr_gspR rest c k N n m cs) (leaf 66 [0,1,2,3,9,10] K) =
    (((decide ((↑k : Int) < (↑n : Int))) = true → (([c] == rest) = true → ((some (AV.int IntKind.i64 (0 : Int), [AO.row cs 9 true]) : Option (AV × List AO)) = some (AV.int IntKind.i64 (↑m : Int), [AO.row cs 9 true])) ∧ (((0 : Int) ≤ (↑m : Int) ∧ (↑m : Int) ≤ (↑rest.length : Int)) ∧ True) ∧ ((0 : Int) ≤ (↑k : Int) ∧ (↑k : Int) < (↑N : Int)) ∧ (0 + k * 1 + 1 ≤ cs.length) ∧ ((some (AV.int IntKind.i64 (IntKind.i64.wrap ((0 : Int) + (↑[c].length : Int))), [AO.row (asplice cs (0 + k * 1) (acells (AV.str (List.take m rest)))) 9 true]) : Option (AV × List AO)) = some (AV.int IntKind.i64 (↑(m + 1) : Int), [AO.row (asplice cs (0 + k * 1) (acells (AV.str (List.take m rest)))) 9 true])) ∧ (True ∧ (0 : Int) ≤ (↑(m + 1) : Int) ∧ (↑(m + 1) : Int) ≤ (↑rest.length : Int)) ∧ ((some (AV.int IntKind.i64 (IntKind.i64.wrap ((↑k : Int) + (1 : Int))), [AO.row (asplice cs (0 + k * 1) (acells (AV.str (List.take m rest)))) 9 true]) : Option (AV × List AO)) = some (AV.int IntKind.i64 (↑(k + 1) : Int), [AO.row (asplice cs (0 + k * 1) (acells (AV.str (List.take m rest)))) 9 true])) ∧ K (Exit.normal) ([(0, AV.str (List.drop (m + 1) rest)), (1, AV.str [c]), (2, AV.int IntKind.i64 (0 : Int)), (3, AV.int IntKind.i64 (↑n : Int)), (9, AV.slc (some (0, 0)) N N true), (10, AV.int IntKind.i64 (↑(k + 1) : Int))]) ([AO.row (asplice cs (0 + k * 1) (acells (AV.str (List.take m rest)))) 9 true])) ∧ (([c] == rest) = false → ((decide (Lib.indexByte rest c.toNat.toUInt8 < (0 : Int))) = true → K (Exit.exit 0) ([(0, AV.str rest), (1, AV.str [c]), (2, AV.int IntKind.i64 (0 : Int)), (3, AV.int IntKind.i64 (↑n : Int)), (9, AV.slc (some (0, 0)) N N true), (10, AV.int IntKind.i64 (↑k : Int))]) ([AO.row cs 9 true])) ∧ ((decide (Lib.indexByte rest c.toNat.toUInt8 < (0 : Int))) = false → ((some (AV.int IntKind.i64 (IntKind.i64.wrap (Lib.indexByte rest c.toNat.toUInt8 + (0 : Int))), [AO.row cs 9 true]) : Option (AV × List AO)) = some (AV.int IntKind.i64 (↑m : Int), [AO.row cs 9 true])) ∧ (((0 : Int) ≤ (↑m : Int) ∧ (↑m : Int) ≤ (↑rest.length : Int)) ∧ True) ∧ ((0 : Int) ≤ (↑k : Int) ∧ (↑k : Int) < (↑N : Int)) ∧ (0 + k * 1 + 1 ≤ cs.length) ∧ ((some (AV.int IntKind.i64 (IntKind.i64.wrap (Lib.indexByte rest c.toNat.toUInt8 + (↑[c].length : Int))), [AO.row (asplice cs (0 + k * 1) (acells (AV.str (List.take m rest)))) 9 true]) : Option (AV × List AO)) = some (AV.int IntKind.i64 (↑(m + 1) : Int), [AO.row (asplice cs (0 + k * 1) (acells (AV.str (List.take m rest)))) 9 true])) ∧ (True ∧ (0 : Int) ≤ (↑(m + 1) : Int) ∧ (↑(m + 1) : Int) ≤ (↑rest.length : Int)) ∧ ((some (AV.int IntKind.i64 (IntKind.i64.wrap ((↑k : Int) + (1 : Int))), [AO.row (asplice cs (0 + k * 1) (acells (AV.str (List.take m rest)))) 9 true]) : Option (AV × List AO)) = some (AV.int IntKind.i64 (↑(k + 1) : Int), [AO.row (asplice cs (0 + k * 1) (acells (AV.str (List.take m rest)))) 9 true])) ∧ K (Exit.normal) ([(0, AV.str (List.drop (m + 1) rest)), (1, AV.str [c]), (2, AV.int IntKind.i64 (0 : Int)), (3, AV.int IntKind.i64 (↑n : Int)), (9, AV.slc (some (0, 0)) N N true), (10, AV.int IntKind.i64 (↑(k + 1) : Int))]) ([AO.row (asplice cs (0 + k * 1) (acells (AV.str (List.take m rest)))) 9 true])))) ∧ ((decide ((↑k : Int) < (↑n : Int))) = false → K (Exit.exit 0) ([(0, AV.str rest), (1, AV.str [c]), (2, AV.int IntKind.i64 (0 : Int)), (3, AV.int IntKind.i64 (↑n : Int)), (9, AV.slc (some (0, 0)) N N true), (10, AV.int IntKind.i64 (↑k : Int))]) ([AO.row cs 9 true]))) := by kernel_rfl
noncomputable def scr_split (s : List UInt8) (c : UInt8) (N : Nat) (cs : List AV) : Scr := (.v (1) (2) (AV.slc (some (0, 0)) N N true) ([AO.row cs (9 : TypeId) true]) (.nil))
theorem nf_split (w0 : World) (s : List UInt8) (c : UInt8) (N : Nat) (cs : List AV) (Q : AV → List AO → Prop) :
    vcall Tryd.prog w0 XC (fun _ => none) 200 44 [.str s, .str [c]] ([]) (scr_split s c N cs) Q =
    ((SCall Tryd.prog w0 64 [AV.str s, AV.str [c], AV.int IntKind.i64 (0 : Int), AV.int IntKind.i64 (-1 : Int)] [] (fun v' A'' => v' = AV.slc (some (0, 0)) N N true ∧ A'' = [AO.row cs (9 : TypeId) true])) ∧ Q (AV.slc (some (0, 0)) N N true) ([AO.row cs (9 : TypeId) true])) := by kernel_rfl
noncomputable def scr_pc (s : List UInt8) (inv : Bool) (f : Nat) : Scr := (.br (.s 6600001 9 (.br (.lp [0, 2, 4, 5, 6] (Nat × List UInt8) (fun x => pcEnd s f x) (Exit.exit 0) (fun x => lay 119 [(0, AV.str s), (2, AV.ptr (some (0, 0))), (4, AV.ptr (some (1, 0))), (5, AV.int IntKind.i64 (↑x.fst : Int)), (6, AV.int IntKind.i64 (↑f : Int))]) (fun x => [AO.row [AV.str [], AV.bool false] (138 : TypeId) true, AO.row [AV.str x.snd, AV.bool inv] (138 : TypeId) true]) (fun x => .br (.nil) (.br (.nil) (.nil))) (.lp [0, 2, 4, 5, 6] (List UInt8) (fun x => clsAt s f f [] = none) (Exit.ret) (fun x => lay 119 [(2, AV.ptr (some (0, 0))), (3, AV.int IntKind.i64 (0 : Int))]) (fun x => [AO.row [AV.str x, AV.bool inv] (138 : TypeId) true, AO.row [AV.str x, AV.bool inv] (138 : TypeId) true]) (fun x => .nil) (.nil))) (.lp [0, 2, 4, 5, 6] (Nat × List UInt8) (fun x => pcEnd s f x) (Exit.exit 0) (fun x => lay 119 [(0, AV.str s), (2, AV.ptr (some (0, 0))), (4, AV.ptr (some (1, 0))), (5, AV.int IntKind.i64 (↑x.fst : Int)), (6, AV.int IntKind.i64 (↑f : Int))]) (fun x => [AO.row [AV.str [], AV.bool false] (138 : TypeId) true, AO.row [AV.str x.snd, AV.bool inv] (138 : TypeId) true]) (fun x => .br (.nil) (.br (.nil) (.nil))) (.lp [0, 2, 4, 5, 6] (List UInt8) (fun x => clsAt s f f [] = none) (Exit.ret) (fun x => lay 119 [(2, AV.ptr (some (0, 0))), (3, AV.int IntKind.i64 (0 : Int))]) (fun x => [AO.row [AV.str x, AV.bool inv] (138 : TypeId) true, AO.row [AV.str x, AV.bool inv] (138 : TypeId) true]) (fun x => .nil) (.nil))))) (.lp [0, 2, 4, 5, 6] (Nat × List UInt8) (fun x => pcEnd s f x) (Exit.exit 0) (fun x => lay 119 [(0, AV.str s), (2, AV.ptr (some (0, 0))), (4, AV.ptr (some (1, 0))), (5, AV.int IntKind.i64 (↑x.fst : Int)), (6, AV.int IntKind.i64 (↑f : Int))]) (fun x => [AO.row [AV.str [], AV.bool false] (138 : TypeId) true, AO.row [AV.str x.snd, AV.bool inv] (138 : TypeId) true]) (fun x => .br (.nil) (.br (.nil) (.nil))) (.lp [0, 2, 4, 5, 6] (List UInt8) (fun x => clsAt s f f [] = none) (Exit.ret) (fun x => lay 119 [(2, AV.ptr (some (0, 0))), (3, AV.int IntKind.i64 (0 : Int))]) (fun x => [AO.row [AV.str x, AV.bool inv] (138 : TypeId) true, AO.row [AV.str x, AV.bool inv] (138 : TypeId) true]) (fun x => .nil) (.nil))))
theorem nf_pc (w0 : World) (s : List UInt8) (inv : Bool) (f : Nat) (Q : AV → List AO → Prop) :
    vcall Tryd.prog w0 XC (fun _ => none) 200 67 [.str s] ([]) (scr_pc s inv f) Q =
    (((decide ((↑s.length : Int) ≥ (2 : Int))) = true → (((0 : Int) ≤ (2 : Int) ∧ (2 : Int) ≤ (↑s.length : Int)) ∧ True) ∧ ((List.take 2 s == [(91 : UInt8), (94 : UInt8)]) = true → ((∃ k, SRoundsB Tryd.prog w0 2 false L67_6 (fun e' t' A' => (∃ x : Nat × List UInt8, (fun x => pcEnd s f x) x ∧ e' = Exit.exit 0 ∧ t' = (fun x => lay 119 [(0, AV.str s), (2, AV.ptr (some (0, 0))), (4, AV.ptr (some (1, 0))), (5, AV.int IntKind.i64 (↑x.fst : Int)), (6, AV.int IntKind.i64 (↑f : Int))]) x ∧ A' = (fun x => [AO.row [AV.str [], AV.bool false] (138 : TypeId) true, AO.row [AV.str x.snd, AV.bool inv] (138 : TypeId) true]) x) ∨ (∃ x : List UInt8, (fun x => clsAt s f f [] = none) x ∧ e' = Exit.ret ∧ t' = (fun x => lay 119 [(2, AV.ptr (some (0, 0))), (3, AV.int IntKind.i64 (0 : Int))]) x ∧ A' = (fun x => [AO.row [AV.str x, AV.bool inv] (138 : TypeId) true, AO.row [AV.str x, AV.bool inv] (138 : TypeId) true]) x) ∨ False) k (lay 119 [(0, AV.str s), (2, AV.ptr (some (0, 0))), (4, AV.ptr (some (1, 0))), (5, AV.int IntKind.i64 (2 : Int)), (6, AV.int IntKind.i64 (2 : Int))]) ([AO.row [AV.str [], AV.bool false] 138 true, AO.row [AV.str [], AV.bool true] 138 true]))) ∧ ((∀ x : Nat × List UInt8, pcEnd s f x → ((decide ((↑x.fst : Int) ≥ (↑s.length : Int))) = true → Q (AV.tuple [AV.agg [AV.str x.snd, AV.bool inv], AV.int IntKind.i64 (0 : Int)]) ([AO.row [AV.str x.snd, AV.bool inv] 138 true, AO.row [AV.str x.snd, AV.bool inv] 138 true])) ∧ ((decide ((↑x.fst : Int) ≥ (↑s.length : Int))) = false → (((↑x.fst : Int) == (↑f : Int)) = true → Q (AV.tuple [AV.agg [AV.str x.snd, AV.bool inv], AV.int IntKind.i64 (0 : Int)]) ([AO.row [AV.str x.snd, AV.bool inv] 138 true, AO.row [AV.str x.snd, AV.bool inv] 138 true])) ∧ (((↑x.fst : Int) == (↑f : Int)) = false → Q (AV.tuple [AV.agg [AV.str x.snd, AV.bool inv], AV.int IntKind.i64 (IntKind.i64.wrap ((↑x.fst : Int) + (1 : Int)))]) ([AO.row [AV.str x.snd, AV.bool inv] 138 true, AO.row [AV.str x.snd, AV.bool inv] 138 true])))) ∧ (∀ x : List UInt8, clsAt s f f [] = none → Q (AV.tuple [AV.agg [AV.str x, AV.bool inv], AV.int IntKind.i64 (0 : Int)]) ([AO.row [AV.str x, AV.bool inv] (138 : TypeId) true, AO.row [AV.str x, AV.bool inv] (138 : TypeId) true])) ∧ True)) ∧ ((List.take 2 s == [(91 : UInt8), (94 : UInt8)]) = false → ((∃ k, SRoundsB Tryd.prog w0 2 false L67_6 (fun e' t' A' => (∃ x : Nat × List UInt8, (fun x => pcEnd s f x) x ∧ e' = Exit.exit 0 ∧ t' = (fun x => lay 119 [(0, AV.str s), (2, AV.ptr (some (0, 0))), (4, AV.ptr (some (1, 0))), (5, AV.int IntKind.i64 (↑x.fst : Int)), (6, AV.int IntKind.i64 (↑f : Int))]) x ∧ A' = (fun x => [AO.row [AV.str [], AV.bool false] (138 : TypeId) true, AO.row [AV.str x.snd, AV.bool inv] (138 : TypeId) true]) x) ∨ (∃ x : List UInt8, (fun x => clsAt s f f [] = none) x ∧ e' = Exit.ret ∧ t' = (fun x => lay 119 [(2, AV.ptr (some (0, 0))), (3, AV.int IntKind.i64 (0 : Int))]) x ∧ A' = (fun x => [AO.row [AV.str x, AV.bool inv] (138 : TypeId) true, AO.row [AV.str x, AV.bool inv] (138 : TypeId) true]) x) ∨ False) k (lay 119 [(0, AV.str s), (2, AV.ptr (some (0, 0))), (4, AV.ptr (some (1, 0))), (5, AV.int IntKind.i64 (1 : Int)), (6, AV.int IntKind.i64 (1 : Int))]) ([AO.row [AV.str [], AV.bool false] 138 true, AO.row [AV.str [], AV.bool false] 138 true]))) ∧ ((∀ x : Nat × List UInt8, pcEnd s f x → ((decide ((↑x.fst : Int) ≥ (↑s.length : Int))) = true → Q (AV.tuple [AV.agg [AV.str x.snd, AV.bool inv], AV.int IntKind.i64 (0 : Int)]) ([AO.row [AV.str x.snd, AV.bool inv] 138 true, AO.row [AV.str x.snd, AV.bool inv] 138 true])) ∧ ((decide ((↑x.fst : Int) ≥ (↑s.length : Int))) = false → (((↑x.fst : Int) == (↑f : Int)) = true → Q (AV.tuple [AV.agg [AV.str x.snd, AV.bool inv], AV.int IntKind.i64 (0 : Int)]) ([AO.row [AV.str x.snd, AV.bool inv] 138 true, AO.row [AV.str x.snd, AV.bool inv] 138 true])) ∧ (((↑x.fst : Int) == (↑f : Int)) = false → Q (AV.tuple [AV.agg [AV.str x.snd, AV.bool inv], AV.int IntKind.i64 (IntKind.i64.wrap ((↑x.fst : Int) + (1 : Int)))]) ([AO.row [AV.str x.snd, AV.bool inv] 138 true, AO.row [AV.str x.snd, AV.bool inv] 138 true])))) ∧ (∀ x : List UInt8, clsAt s f f [] = none → Q (AV.tuple [AV.agg [AV.str x, AV.bool inv], AV.int IntKind.i64 (0 : Int)]) ([AO.row [AV.str x, AV.bool inv] (138 : TypeId) true, AO.row [AV.str x, AV.bool inv] (138 : TypeId) true])) ∧ True))) ∧ ((decide ((↑s.length : Int) ≥ (2 : Int))) = false → ((∃ k, SRoundsB Tryd.prog w0 2 false L67_6 (fun e' t' A' => (∃ x : Nat × List UInt8, (fun x => pcEnd s f x) x ∧ e' = Exit.exit 0 ∧ t' = (fun x => lay 119 [(0, AV.str s), (2, AV.ptr (some (0, 0))), (4, AV.ptr (some (1, 0))), (5, AV.int IntKind.i64 (↑x.fst : Int)), (6, AV.int IntKind.i64 (↑f : Int))]) x ∧ A' = (fun x => [AO.row [AV.str [], AV.bool false] (138 : TypeId) true, AO.row [AV.str x.snd, AV.bool inv] (138 : TypeId) true]) x) ∨ (∃ x : List UInt8, (fun x => clsAt s f f [] = none) x ∧ e' = Exit.ret ∧ t' = (fun x => lay 119 [(2, AV.ptr (some (0, 0))), (3, AV.int IntKind.i64 (0 : Int))]) x ∧ A' = (fun x => [AO.row [AV.str x, AV.bool inv] (138 : TypeId) true, AO.row [AV.str x, AV.bool inv] (138 : TypeId) true]) x) ∨ False) k (lay 119 [(0, AV.str s), (2, AV.ptr (some (0, 0))), (4, AV.ptr (some (1, 0))), (5, AV.int IntKind.i64 (1 : Int)), (6, AV.int IntKind.i64 (1 : Int))]) ([AO.row [AV.str [], AV.bool false] 138 true, AO.row [AV.str [], AV.bool false] 138 true]))) ∧ ((∀ x : Nat × List UInt8, pcEnd s f x → ((decide ((↑x.fst : Int) ≥ (↑s.length : Int))) = true → Q (AV.tuple [AV.agg [AV.str x.snd, AV.bool inv], AV.int IntKind.i64 (0 : Int)]) ([AO.row [AV.str x.snd, AV.bool inv] 138 true, AO.row [AV.str x.snd, AV.bool inv] 138 true])) ∧ ((decide ((↑x.fst : Int) ≥ (↑s.length : Int))) = false → (((↑x.fst : Int) == (↑f : Int)) = true → Q (AV.tuple [AV.agg [AV.str x.snd, AV.bool inv], AV.int IntKind.i64 (0 : Int)]) ([AO.row [AV.str x.snd, AV.bool inv] 138 true, AO.row [AV.str x.snd, AV.bool inv] 138 true])) ∧ (((↑x.fst : Int) == (↑f : Int)) = false → Q (AV.tuple [AV.agg [AV.str x.snd, AV.bool inv], AV.int IntKind.i64 (IntKind.i64.wrap ((↑x.fst : Int) + (1 : Int)))]) ([AO.row [AV.str x.snd, AV.bool inv] 138 true, AO.row [AV.str x.snd, AV.bool inv] 138 true])))) ∧ (∀ x : List UInt8, clsAt s f f [] = none → Q (AV.tuple [AV.agg [AV.str x, AV.bool inv], AV.int IntKind.i64 (0 : Int)]) ([AO.row [AV.str x, AV.bool inv] (138 : TypeId) true, AO.row [AV.str x, AV.bool inv] (138 : TypeId) true])) ∧ True))) := by kernel_rfl
noncomputable def scr_pcR (s acc : List UInt8) (inv : Bool) (f p : Nat) : Scr := (.br (.s 6 7 (.br (.s 8 2 (.cl 10 1 (Unit) (fun x => named8 (ch s p) = true) (fun x => AV.bool true) (fun x => [AO.row [AV.str [], AV.bool false] (138 : TypeId) true, AO.row [AV.str acc, AV.bool inv] (138 : TypeId) true]) (fun x => .br (.br (.nil) (.br (.w (13) (3) (AV.str [s.getD p (0 : UInt8)]) (.s 13 4 (.nil))) (.w (12) (4) (AV.int IntKind.i64 (↑(p + 1) : Int)) (.br (.w (13) (3) (AV.str [s.getD p (0 : UInt8)]) (.s 13 4 (.nil))) (.w (12) (12) (AV.int IntKind.i64 (↑(p + 1) : Int)) (.s 12 13 (.br (.w (13) (3) (AV.str [s.getD p (0 : UInt8)]) (.s 13 4 (.nil))) (.w (14) (1) (AV.int IntKind.i64 (↑(p + 2) : Int)) (.br (.w (14) (7) (AV.int IntKind.i64 (↑(sort8 (ch s p)) : Int)) (.br (.w (14) (12) (AV.int IntKind.i64 (↑(sort8 (ch s p)) : Int)) (.w (14) (15) (AV.int IntKind.i64 (↑(p + 2) : Int)) (.s 14 16 (.w (14) (17) (AV.int IntKind.i64 (↑(sort8 (ch s (p + 2))) : Int)) (.br (.w (14) (24) (AV.int IntKind.i64 (↑(p + 2) : Int)) (.s 14 25 (.br (.w (15) (5) (AV.int IntKind.i64 (↑(p + 2) : Int)) (.s 15 6 (.w (15) (7) (AV.str (between8 (s.getD p (0 : UInt8)) (s.getD (p + 2) (0 : UInt8)))) (.s 15 8 (.w (16) (1) (AV.int IntKind.i64 (↑(p + 2) : Int)) (.nil)))))) (.nil)))) (.nil)))))) (.nil))) (.nil)))))))))) (.br (.w (13) (3) (AV.str [s.getD p (0 : UInt8)]) (.s 13 4 (.nil))) (.w (12) (4) (AV.int IntKind.i64 (↑(p + 1) : Int)) (.br (.w (13) (3) (AV.str [s.getD p (0 : UInt8)]) (.s 13 4 (.nil))) (.w (12) (12) (AV.int IntKind.i64 (↑(p + 1) : Int)) (.s 12 13 (.br (.w (13) (3) (AV.str [s.getD p (0 : UInt8)]) (.s 13 4 (.nil))) (.w (14) (1) (AV.int IntKind.i64 (↑(p + 2) : Int)) (.br (.w (14) (7) (AV.int IntKind.i64 (↑(sort8 (ch s p)) : Int)) (.br (.w (14) (12) (AV.int IntKind.i64 (↑(sort8 (ch s p)) : Int)) (.w (14) (15) (AV.int IntKind.i64 (↑(p + 2) : Int)) (.s 14 16 (.w (14) (17) (AV.int IntKind.i64 (↑(sort8 (ch s (p + 2))) : Int)) (.br (.w (14) (24) (AV.int IntKind.i64 (↑(p + 2) : Int)) (.s 14 25 (.br (.w (15) (5) (AV.int IntKind.i64 (↑(p + 2) : Int)) (.s 15 6 (.w (15) (7) (AV.str (between8 (s.getD p (0 : UInt8)) (s.getD (p + 2) (0 : UInt8)))) (.s 15 8 (.w (16) (1) (AV.int IntKind.i64 (↑(p + 2) : Int)) (.nil)))))) (.nil)))) (.nil)))))) (.nil))) (.nil)))))))))) (.cl 10 1 (Unit) (fun x => named8 (ch s p) = false) (fun x => AV.bool false) (fun x => [AO.row [AV.str [], AV.bool false] (138 : TypeId) true, AO.row [AV.str acc, AV.bool inv] (138 : TypeId) true]) (fun x => .nil) (.nil)))) (.nil))) (.nil))
theorem nf_pcR (w0 : World) (s acc : List UInt8) (inv : Bool) (f p : Nat) (K : Exit → List (Nat × AV) → List AO → Prop) :
    vexec Tryd.prog w0 XC (fun _ => none) 200 0 false true L67_6 (lay 119 [(0,.str s),(2,.ptr (some (0,0))),(4,.ptr (some (1,0))),(5,.int .i64 p),(6,.int .i64 f)]) ([.row [.str [], .bool false] 138 true, .row [.str acc, .bool inv] 138 true]) (scr_pcR s acc inv f p) (leaf 119 [0,2,3,4,5,6] K) =
    (((decide ((↑p : Int) < (↑s.length : Int))) = true → ((0 : Int) ≤ (↑p : Int) ∧ p < s.length) ∧ (((↑(s.getD p (0 : UInt8)).toNat : Int) != (93 : Int)) = true → ((0 : Int) ≤ (↑p : Int) ∧ p < s.length) ∧ (SCall Tryd.prog w0 66 [AV.int IntKind.u8 (↑(s.getD p (0 : UInt8)).toNat : Int)] [AO.row [AV.str [], AV.bool false] 138 true, AO.row [AV.str acc, AV.bool inv] 138 true] (fun v' A' => (∃ x : Unit, (fun x => named8 (ch s p) = true) x ∧ v' = (fun x => AV.bool true) x ∧ A' = (fun x => [AO.row [AV.str [], AV.bool false] (138 : TypeId) true, AO.row [AV.str acc, AV.bool inv] (138 : TypeId) true]) x) ∨ (∃ x : Unit, (fun x => named8 (ch s p) = false) x ∧ v' = (fun x => AV.bool false) x ∧ A' = (fun x => [AO.row [AV.str [], AV.bool false] (138 : TypeId) true, AO.row [AV.str acc, AV.bool inv] (138 : TypeId) true]) x) ∨ False)) ∧ ((∀ x : Unit, named8 (ch s p) = true → (((↑(s.getD p (0 : UInt8)).toNat : Int) == (45 : Int)) = true → ((decide ((↑p : Int) > (↑f : Int))) = true → K (Exit.ret) ([(0, AV.str s), (2, AV.ptr (some (0, 0))), (3, AV.int IntKind.i64 (0 : Int)), (4, AV.ptr (some (1, 0))), (5, AV.int IntKind.i64 (↑p : Int)), (6, AV.int IntKind.i64 (↑f : Int))]) ([AO.row [AV.str acc, AV.bool inv] 138 true, AO.row [AV.str acc, AV.bool inv] 138 true])) ∧ ((decide ((↑p : Int) > (↑f : Int))) = false → (((↑(s.getD p (0 : UInt8)).toNat : Int) == (45 : Int)) = true → ((some (AV.str (Utf8.encode (↑(s.getD p (0 : UInt8)).toNat : Int)).data.toList, [AO.row [AV.str [], AV.bool false] 138 true, AO.row [AV.str acc, AV.bool inv] 138 true]) : Option (AV × List AO)) = some (AV.str [s.getD p (0 : UInt8)], [AO.row [AV.str [], AV.bool false] 138 true, AO.row [AV.str acc, AV.bool inv] 138 true])) ∧ (acc.length + [s.getD p (0 : UInt8)].length ≤ 9223372036854775807) ∧ K (Exit.normal) ([(0, AV.str s), (2, AV.ptr (some (0, 0))), (3, AV.any), (4, AV.ptr (some (1, 0))), (5, AV.int IntKind.i64 (IntKind.i64.wrap ((↑p : Int) + (1 : Int)))), (6, AV.int IntKind.i64 (↑f : Int))]) ([AO.row [AV.str [], AV.bool false] 138 true, AO.row [AV.str (acc ++ [s.getD p (0 : UInt8)]), AV.bool inv] 138 true])) ∧ (((↑(s.getD p (0 : UInt8)).toNat : Int) == (45 : Int)) = false → ((some (AV.int IntKind.i64 (IntKind.i64.wrap ((↑p : Int) + (1 : Int))), [AO.row [AV.str [], AV.bool false] 138 true, AO.row [AV.str acc, AV.bool inv] 138 true]) : Option (AV × List AO)) = some (AV.int IntKind.i64 (↑(p + 1) : Int), [AO.row [AV.str [], AV.bool false] 138 true, AO.row [AV.str acc, AV.bool inv] 138 true])) ∧ ((decide ((↑(p + 1) : Int) ≥ (↑s.length : Int))) = true → ((some (AV.str (Utf8.encode (↑(s.getD p (0 : UInt8)).toNat : Int)).data.toList, [AO.row [AV.str [], AV.bool false] 138 true, AO.row [AV.str acc, AV.bool inv] 138 true]) : Option (AV × List AO)) = some (AV.str [s.getD p (0 : UInt8)], [AO.row [AV.str [], AV.bool false] 138 true, AO.row [AV.str acc, AV.bool inv] 138 true])) ∧ (acc.length + [s.getD p (0 : UInt8)].length ≤ 9223372036854775807) ∧ K (Exit.normal) ([(0, AV.str s), (2, AV.ptr (some (0, 0))), (3, AV.any), (4, AV.ptr (some (1, 0))), (5, AV.int IntKind.i64 (IntKind.i64.wrap ((↑p : Int) + (1 : Int)))), (6, AV.int IntKind.i64 (↑f : Int))]) ([AO.row [AV.str [], AV.bool false] 138 true, AO.row [AV.str (acc ++ [s.getD p (0 : UInt8)]), AV.bool inv] 138 true])) ∧ ((decide ((↑(p + 1) : Int) ≥ (↑s.length : Int))) = false → ((some (AV.int IntKind.i64 (IntKind.i64.wrap ((↑p : Int) + (1 : Int))), [AO.row [AV.str [], AV.bool false] 138 true, AO.row [AV.str acc, AV.bool inv] 138 true]) : Option (AV × List AO)) = some (AV.int IntKind.i64 (↑(p + 1) : Int), [AO.row [AV.str [], AV.bool false] 138 true, AO.row [AV.str acc, AV.bool inv] 138 true])) ∧ ((0 : Int) ≤ (↑(p + 1) : Int) ∧ p + 1 < s.length) ∧ (((↑(s.getD (p + 1) (0 : UInt8)).toNat : Int) != (45 : Int)) = true → ((some (AV.str (Utf8.encode (↑(s.getD p (0 : UInt8)).toNat : Int)).data.toList, [AO.row [AV.str [], AV.bool false] 138 true, AO.row [AV.str acc, AV.bool inv] 138 true]) : Option (AV × List AO)) = some (AV.str [s.getD p (0 : UInt8)], [AO.row [AV.str [], AV.bool false] 138 true, AO.row [AV.str acc, AV.bool inv] 138 true])) ∧ (acc.length + [s.getD p (0 : UInt8)].length ≤ 9223372036854775807) ∧ K (Exit.normal) ([(0, AV.str s), (2, AV.ptr (some (0, 0))), (3, AV.any), (4, AV.ptr (some (1, 0))), (5, AV.int IntKind.i64 (IntKind.i64.wrap ((↑p : Int) + (1 : Int)))), (6, AV.int IntKind.i64 (↑f : Int))]) ([AO.row [AV.str [], AV.bool false] 138 true, AO.row [AV.str (acc ++ [s.getD p (0 : UInt8)]), AV.bool inv] 138 true])) ∧ (((↑(s.getD (p + 1) (0 : UInt8)).toNat : Int) != (45 : Int)) = false → ((some (AV.int IntKind.i64 (IntKind.i64.wrap ((↑p : Int) + (2 : Int))), [AO.row [AV.str [], AV.bool false] 138 true, AO.row [AV.str acc, AV.bool inv] 138 true]) : Option (AV × List AO)) = some (AV.int IntKind.i64 (↑(p + 2) : Int), [AO.row [AV.str [], AV.bool false] 138 true, AO.row [AV.str acc, AV.bool inv] 138 true])) ∧ ((decide ((↑(p + 2) : Int) < (↑s.length : Int))) = true → (SCall Tryd.prog w0 86 [AV.int IntKind.u8 (↑(s.getD p (0 : UInt8)).toNat : Int)] [AO.row [AV.str [], AV.bool false] 138 true, AO.row [AV.str acc, AV.bool inv] 138 true] (fun v' A'' => v' = AV.int IntKind.i64 (↑(sort8 (ch s p)) : Int) ∧ A'' = [AO.row [AV.str [], AV.bool false] 138 true, AO.row [AV.str acc, AV.bool inv] 138 true])) ∧ ((decide ((↑(sort8 (ch s p)) : Int) > (0 : Int))) = true → (SCall Tryd.prog w0 86 [AV.int IntKind.u8 (↑(s.getD p (0 : UInt8)).toNat : Int)] [AO.row [AV.str [], AV.bool false] 138 true, AO.row [AV.str acc, AV.bool inv] 138 true] (fun v' A'' => v' = AV.int IntKind.i64 (↑(sort8 (ch s p)) : Int) ∧ A'' = [AO.row [AV.str [], AV.bool false] 138 true, AO.row [AV.str acc, AV.bool inv] 138 true])) ∧ ((some (AV.int IntKind.i64 (IntKind.i64.wrap ((↑p : Int) + (2 : Int))), [AO.row [AV.str [], AV.bool false] 138 true, AO.row [AV.str acc, AV.bool inv] 138 true]) : Option (AV × List AO)) = some (AV.int IntKind.i64 (↑(p + 2) : Int), [AO.row [AV.str [], AV.bool false] 138 true, AO.row [AV.str acc, AV.bool inv] 138 true])) ∧ ((0 : Int) ≤ (↑(p + 2) : Int) ∧ p + 2 < s.length) ∧ (SCall Tryd.prog w0 86 [AV.int IntKind.u8 (↑(s.getD (p + 2) (0 : UInt8)).toNat : Int)] [AO.row [AV.str [], AV.bool false] 138 true, AO.row [AV.str acc, AV.bool inv] 138 true] (fun v' A'' => v' = AV.int IntKind.i64 (↑(sort8 (ch s (p + 2))) : Int) ∧ A'' = [AO.row [AV.str [], AV.bool false] 138 true, AO.row [AV.str acc, AV.bool inv] 138 true])) ∧ (((↑(sort8 (ch s p)) : Int) == (↑(sort8 (ch s (p + 2))) : Int)) = true → ((some (AV.int IntKind.i64 (IntKind.i64.wrap ((↑p : Int) + (2 : Int))), [AO.row [AV.str [], AV.bool false] 138 true, AO.row [AV.str acc, AV.bool inv] 138 true]) : Option (AV × List AO)) = some (AV.int IntKind.i64 (↑(p + 2) : Int), [AO.row [AV.str [], AV.bool false] 138 true, AO.row [AV.str acc, AV.bool inv] 138 true])) ∧ ((0 : Int) ≤ (↑(p + 2) : Int) ∧ p + 2 < s.length) ∧ ((decide ((↑(s.getD p (0 : UInt8)).toNat : Int) ≤ (↑(s.getD (p + 2) (0 : UInt8)).toNat : Int))) = true → ((some (AV.int IntKind.i64 (IntKind.i64.wrap ((↑p : Int) + (2 : Int))), [AO.row [AV.str [], AV.bool false] 138 true, AO.row [AV.str acc, AV.bool inv] 138 true]) : Option (AV × List AO)) = some (AV.int IntKind.i64 (↑(p + 2) : Int), [AO.row [AV.str [], AV.bool false] 138 true, AO.row [AV.str acc, AV.bool inv] 138 true])) ∧ ((0 : Int) ≤ (↑(p + 2) : Int) ∧ p + 2 < s.length) ∧ (SCall Tryd.prog w0 87 [AV.int IntKind.u8 (↑(s.getD p (0 : UInt8)).toNat : Int), AV.int IntKind.u8 (↑(s.getD (p + 2) (0 : UInt8)).toNat : Int)] [AO.row [AV.str [], AV.bool false] 138 true, AO.row [AV.str acc, AV.bool inv] 138 true] (fun v' A'' => v' = AV.str (between8 (s.getD p (0 : UInt8)) (s.getD (p + 2) (0 : UInt8))) ∧ A'' = [AO.row [AV.str [], AV.bool false] 138 true, AO.row [AV.str acc, AV.bool inv] 138 true])) ∧ (acc.length + (between8 (s.getD p (0 : UInt8)) (s.getD (p + 2) (0 : UInt8))).length ≤ 9223372036854775807) ∧ (AV.str acc = AV.str acc) ∧ ((some (AV.int IntKind.i64 (IntKind.i64.wrap ((↑p : Int) + (2 : Int))), [AO.row [AV.str [], AV.bool false] 138 true, AO.row [AV.str (acc ++ between8 (s.getD p (0 : UInt8)) (s.getD (p + 2) (0 : UInt8))), AV.bool inv] 138 true]) : Option (AV × List AO)) = some (AV.int IntKind.i64 (↑(p + 2) : Int), [AO.row [AV.str [], AV.bool false] 138 true, AO.row [AV.str (acc ++ between8 (s.getD p (0 : UInt8)) (s.getD (p + 2) (0 : UInt8))), AV.bool inv] 138 true])) ∧ K (Exit.normal) ([(0, AV.str s), (2, AV.ptr (some (0, 0))), (3, AV.any), (4, AV.ptr (some (1, 0))), (5, AV.int IntKind.i64 (IntKind.i64.wrap ((↑(p + 2) : Int) + (1 : Int)))), (6, AV.int IntKind.i64 (↑f : Int))]) ([AO.row [AV.str [], AV.bool false] 138 true, AO.row [AV.str (acc ++ between8 (s.getD p (0 : UInt8)) (s.getD (p + 2) (0 : UInt8))), AV.bool inv] 138 true])) ∧ ((decide ((↑(s.getD p (0 : UInt8)).toNat : Int) ≤ (↑(s.getD (p + 2) (0 : UInt8)).toNat : Int))) = false → K (Exit.ret) ([(0, AV.str s), (2, AV.ptr (some (0, 0))), (3, AV.int IntKind.i64 (0 : Int)), (4, AV.ptr (some (1, 0))), (5, AV.int IntKind.i64 (↑p : Int)), (6, AV.int IntKind.i64 (↑f : Int))]) ([AO.row [AV.str acc, AV.bool inv] 138 true, AO.row [AV.str acc, AV.bool inv] 138 true]))) ∧ (((↑(sort8 (ch s p)) : Int) == (↑(sort8 (ch s (p + 2))) : Int)) = false → K (Exit.ret) ([(0, AV.str s), (2, AV.ptr (some (0, 0))), (3, AV.int IntKind.i64 (0 : Int)), (4, AV.ptr (some (1, 0))), (5, AV.int IntKind.i64 (↑p : Int)), (6, AV.int IntKind.i64 (↑f : Int))]) ([AO.row [AV.str acc, AV.bool inv] 138 true, AO.row [AV.str acc, AV.bool inv] 138 true]))) ∧ ((decide ((↑(sort8 (ch s p)) : Int) > (0 : Int))) = false → K (Exit.ret) ([(0, AV.str s), (2, AV.ptr (some (0, 0))), (3, AV.int IntKind.i64 (0 : Int)), (4, AV.ptr (some (1, 0))), (5, AV.int IntKind.i64 (↑p : Int)), (6, AV.int IntKind.i64 (↑f : Int))]) ([AO.row [AV.str acc, AV.bool inv] 138 true, AO.row [AV.str acc, AV.bool inv] 138 true]))) ∧ ((decide ((↑(p + 2) : Int) < (↑s.length : Int))) = false → K (Exit.ret) ([(0, AV.str s), (2, AV.ptr (some (0, 0))), (3, AV.int IntKind.i64 (0 : Int)), (4, AV.ptr (some (1, 0))), (5, AV.int IntKind.i64 (↑p : Int)), (6, AV.int IntKind.i64 (↑f : Int))]) ([AO.row [AV.str acc, AV.bool inv] 138 true, AO.row [AV.str acc, AV.bool inv] 138 true]))))))) ∧ (((↑(s.getD p (0 : UInt8)).toNat : Int) == (45 : Int)) = false → (((↑(s.getD p (0 : UInt8)).toNat : Int) == (45 : Int)) = true → ((some (AV.str (Utf8.encode (↑(s.getD p (0 : UInt8)).toNat : Int)).data.toList, [AO.row [AV.str [], AV.bool false] 138 true, AO.row [AV.str acc, AV.bool inv] 138 true]) : Option (AV × List AO)) = some (AV.str [s.getD p (0 : UInt8)], [AO.row [AV.str [], AV.bool false] 138 true, AO.row [AV.str acc, AV.bool inv] 138 true])) ∧ (acc.length + [s.getD p (0 : UInt8)].length ≤ 9223372036854775807) ∧ K (Exit.normal) ([(0, AV.str s), (2, AV.ptr (some (0, 0))), (3, AV.any), (4, AV.ptr (some (1, 0))), (5, AV.int IntKind.i64 (IntKind.i64.wrap ((↑p : Int) + (1 : Int)))), (6, AV.int IntKind.i64 (↑f : Int))]) ([AO.row [AV.str [], AV.bool false] 138 true, AO.row [AV.str (acc ++ [s.getD p (0 : UInt8)]), AV.bool inv] 138 true])) ∧ (((↑(s.getD p (0 : UInt8)).toNat : Int) == (45 : Int)) = false → ((some (AV.int IntKind.i64 (IntKind.i64.wrap ((↑p : Int) + (1 : Int))), [AO.row [AV.str [], AV.bool false] 138 true, AO.row [AV.str acc, AV.bool inv] 138 true]) : Option (AV × List AO)) = some (AV.int IntKind.i64 (↑(p + 1) : Int), [AO.row [AV.str [], AV.bool false] 138 true, AO.row [AV.str acc, AV.bool inv] 138 true])) ∧ ((decide ((↑(p + 1) : Int) ≥ (↑s.length : Int))) = true → ((some (AV.str (Utf8.encode (↑(s.getD p (0 : UInt8)).toNat : Int)).data.toList, [AO.row [AV.str [], AV.bool false] 138 true, AO.row [AV.str acc, AV.bool inv] 138 true]) : Option (AV × List AO)) = some (AV.str [s.getD p (0 : UInt8)], [AO.row [AV.str [], AV.bool false] 138 true, AO.row [AV.str acc, AV.bool inv] 138 true])) ∧ (acc.length + [s.getD p (0 : UInt8)].length ≤ 9223372036854775807) ∧ K (Exit.normal) ([(0, AV.str s), (2, AV.ptr (some (0, 0))), (3, AV.any), (4, AV.ptr (some (1, 0))), (5, AV.int IntKind.i64 (IntKind.i64.wrap ((↑p : Int) + (1 : Int)))), (6, AV.int IntKind.i64 (↑f : Int))]) ([AO.row [AV.str [], AV.bool false] 138 true, AO.row [AV.str (acc ++ [s.getD p (0 : UInt8)]), AV.bool inv] 138 true])) ∧ ((decide ((↑(p + 1) : Int) ≥ (↑s.length : Int))) = false → ((some (AV.int IntKind.i64 (IntKind.i64.wrap ((↑p : Int) + (1 : Int))), [AO.row [AV.str [], AV.bool false] 138 true, AO.row [AV.str acc, AV.bool inv] 138 true]) : Option (AV × List AO)) = some (AV.int IntKind.i64 (↑(p + 1) : Int), [AO.row [AV.str [], AV.bool false] 138 true, AO.row [AV.str acc, AV.bool inv] 138 true])) ∧ ((0 : Int) ≤ (↑(p + 1) : Int) ∧ p + 1 < s.length) ∧ (((↑(s.getD (p + 1) (0 : UInt8)).toNat : Int) != (45 : Int)) = true → ((some (AV.str (Utf8.encode (↑(s.getD p (0 : UInt8)).toNat : Int)).data.toList, [AO.row [AV.str [], AV.bool false] 138 true, AO.row [AV.str acc, AV.bool inv] 138 true]) : Option (AV × List AO)) = some (AV.str [s.getD p (0 : UInt8)], [AO.row [AV.str [], AV.bool false] 138 true, AO.row [AV.str acc, AV.bool inv] 138 true])) ∧ (acc.length + [s.getD p (0 : UInt8)].length ≤ 9223372036854775807) ∧ K (Exit.normal) ([(0, AV.str s), (2, AV.ptr (some (0, 0))), (3, AV.any), (4, AV.ptr (some (1, 0))), (5, AV.int IntKind.i64 (IntKind.i64.wrap ((↑p : Int) + (1 : Int)))), (6, AV.int IntKind.i64 (↑f : Int))]) ([AO.row [AV.str [], AV.bool false] 138 true, AO.row [AV.str (acc ++ [s.getD p (0 : UInt8)]), AV.bool inv] 138 true])) ∧ (((↑(s.getD (p + 1) (0 : UInt8)).toNat : Int) != (45 : Int)) = false → ((some (AV.int IntKind.i64 (IntKind.i64.wrap ((↑p : Int) + (2 : Int))), [AO.row [AV.str [], AV.bool false] 138 true, AO.row [AV.str acc, AV.bool inv] 138 true]) : Option (AV × List AO)) = some (AV.int IntKind.i64 (↑(p + 2) : Int), [AO.row [AV.str [], AV.bool false] 138 true, AO.row [AV.str acc, AV.bool inv] 138 true])) ∧ ((decide ((↑(p + 2) : Int) < (↑s.length : Int))) = true → (SCall Tryd.prog w0 86 [AV.int IntKind.u8 (↑(s.getD p (0 : UInt8)).toNat : Int)] [AO.row [AV.str [], AV.bool false] 138 true, AO.row [AV.str acc, AV.bool inv] 138 true] (fun v' A'' => v' = AV.int IntKind.i64 (↑(sort8 (ch s p)) : Int) ∧ A'' = [AO.row [AV.str [], AV.bool false] 138 true, AO.row [AV.str acc, AV.bool inv] 138 true])) ∧ ((decide ((↑(sort8 (ch s p)) : Int) > (0 : Int))) = true → (SCall Tryd.prog w0 86 [AV.int IntKind.u8 (↑(s.getD p (0 : UInt8)).toNat : Int)] [AO.row [AV.str [], AV.bool false] 138 true, AO.row [AV.str acc, AV.bool inv] 138 true] (fun v' A'' => v' = AV.int IntKind.i64 (↑(sort8 (ch s p)) : Int) ∧ A'' = [AO.row [AV.str [], AV.bool false] 138 true, AO.row [AV.str acc, AV.bool inv] 138 true])) ∧ ((some (AV.int IntKind.i64 (IntKind.i64.wrap ((↑p : Int) + (2 : Int))), [AO.row [AV.str [], AV.bool false] 138 true, AO.row [AV.str acc, AV.bool inv] 138 true]) : Option (AV × List AO)) = some (AV.int IntKind.i64 (↑(p + 2) : Int), [AO.row [AV.str [], AV.bool false] 138 true, AO.row [AV.str acc, AV.bool inv] 138 true])) ∧ ((0 : Int) ≤ (↑(p + 2) : Int) ∧ p + 2 < s.length) ∧ (SCall Tryd.prog w0 86 [AV.int IntKind.u8 (↑(s.getD (p + 2) (0 : UInt8)).toNat : Int)] [AO.row [AV.str [], AV.bool false] 138 true, AO.row [AV.str acc, AV.bool inv] 138 true] (fun v' A'' => v' = AV.int IntKind.i64 (↑(sort8 (ch s (p + 2))) : Int) ∧ A'' = [AO.row [AV.str [], AV.bool false] 138 true, AO.row [AV.str acc, AV.bool inv] 138 true])) ∧ (((↑(sort8 (ch s p)) : Int) == (↑(sort8 (ch s (p + 2))) : Int)) = true → ((some (AV.int IntKind.i64 (IntKind.i64.wrap ((↑p : Int) + (2 : Int))), [AO.row [AV.str [], AV.bool false] 138 true, AO.row [AV.str acc, AV.bool inv] 138 true]) : Option (AV × List AO)) = some (AV.int IntKind.i64 (↑(p + 2) : Int), [AO.row [AV.str [], AV.bool false] 138 true, AO.row [AV.str acc, AV.bool inv] 138 true])) ∧ ((0 : Int) ≤ (↑(p + 2) : Int) ∧ p + 2 < s.length) ∧ ((decide ((↑(s.getD p (0 : UInt8)).toNat : Int) ≤ (↑(s.getD (p + 2) (0 : UInt8)).toNat : Int))) = true → ((some (AV.int IntKind.i64 (IntKind.i64.wrap ((↑p : Int) + (2 : Int))), [AO.row [AV.str [], AV.bool false] 138 true, AO.row [AV.str acc, AV.bool inv] 138 true]) : Option (AV × List AO)) = some (AV.int IntKind.i64 (↑(p + 2) : Int), [AO.row [AV.str [], AV.bool false] 138 true, AO.row [AV.str acc, AV.bool inv] 138 true])) ∧ ((0 : Int) ≤ (↑(p + 2) : Int) ∧ p + 2 < s.length) ∧ (SCall Tryd.prog w0 87 [AV.int IntKind.u8 (↑(s.getD p (0 : UInt8)).toNat : Int), AV.int IntKind.u8 (↑(s.getD (p + 2) (0 : UInt8)).toNat : Int)] [AO.row [AV.str [], AV.bool false] 138 true, AO.row [AV.str acc, AV.bool inv] 138 true] (fun v' A'' => v' = AV.str (between8 (s.getD p (0 : UInt8)) (s.getD (p + 2) (0 : UInt8))) ∧ A'' = [AO.row [AV.str [], AV.bool false] 138 true, AO.row [AV.str acc, AV.bool inv] 138 true])) ∧ (acc.length + (between8 (s.getD p (0 : UInt8)) (s.getD (p + 2) (0 : UInt8))).length ≤ 9223372036854775807) ∧ (AV.str acc = AV.str acc) ∧ ((some (AV.int IntKind.i64 (IntKind.i64.wrap ((↑p : Int) + (2 : Int))), [AO.row [AV.str [], AV.bool false] 138 true, AO.row [AV.str (acc ++ between8 (s.getD p (0 : UInt8)) (s.getD (p + 2) (0 : UInt8))), AV.bool inv] 138 true]) : Option (AV × List AO)) = some (AV.int IntKind.i64 (↑(p + 2) : Int), [AO.row [AV.str [], AV.bool false] 138 true, AO.row [AV.str (acc ++ between8 (s.getD p (0 : UInt8)) (s.getD (p + 2) (0 : UInt8))), AV.bool inv] 138 true])) ∧ K (Exit.normal) ([(0, AV.str s), (2, AV.ptr (some (0, 0))), (3, AV.any), (4, AV.ptr (some (1, 0))), (5, AV.int IntKind.i64 (IntKind.i64.wrap ((↑(p + 2) : Int) + (1 : Int)))), (6, AV.int IntKind.i64 (↑f : Int))]) ([AO.row [AV.str [], AV.bool false] 138 true, AO.row [AV.str (acc ++ between8 (s.getD p (0 : UInt8)) (s.getD (p + 2) (0 : UInt8))), AV.bool inv] 138 true])) ∧ ((decide ((↑(s.getD p (0 : UInt8)).toNat : Int) ≤ (↑(s.getD (p + 2) (0 : UInt8)).toNat : Int))) = false → K (Exit.ret) ([(0, AV.str s), (2, AV.ptr (some (0, 0))), (3, AV.int IntKind.i64 (0 : Int)), (4, AV.ptr (some (1, 0))), (5, AV.int IntKind.i64 (↑p : Int)), (6, AV.int IntKind.i64 (↑f : Int))]) ([AO.row [AV.str acc, AV.bool inv] 138 true, AO.row [AV.str acc, AV.bool inv] 138 true]))) ∧ (((↑(sort8 (ch s p)) : Int) == (↑(sort8 (ch s (p + 2))) : Int)) = false → K (Exit.ret) ([(0, AV.str s), (2, AV.ptr (some (0, 0))), (3, AV.int IntKind.i64 (0 : Int)), (4, AV.ptr (some (1, 0))), (5, AV.int IntKind.i64 (↑p : Int)), (6, AV.int IntKind.i64 (↑f : Int))]) ([AO.row [AV.str acc, AV.bool inv] 138 true, AO.row [AV.str acc, AV.bool inv] 138 true]))) ∧ ((decide ((↑(sort8 (ch s p)) : Int) > (0 : Int))) = false → K (Exit.ret) ([(0, AV.str s), (2, AV.ptr (some (0, 0))), (3, AV.int IntKind.i64 (0 : Int)), (4, AV.ptr (some (1, 0))), (5, AV.int IntKind.i64 (↑p : Int)), (6, AV.int IntKind.i64 (↑f : Int))]) ([AO.row [AV.str acc, AV.bool inv] 138 true, AO.row [AV.str acc, AV.bool inv] 138 true]))) ∧ ((decide ((↑(p + 2) : Int) < (↑s.length : Int))) = false → K (Exit.ret) ([(0, AV.str s), (2, AV.ptr (some (0, 0))), (3, AV.int IntKind.i64 (0 : Int)), (4, AV.ptr (some (1, 0))), (5, AV.int IntKind.i64 (↑p : Int)), (6, AV.int IntKind.i64 (↑f : Int))]) ([AO.row [AV.str acc, AV.bool inv] 138 true, AO.row [AV.str acc, AV.bool inv] 138 true]))))))) ∧ (∀ x : Unit, named8 (ch s p) = false → K (Exit.ret) ([(0, AV.str s), (2, AV.ptr (some (0, 0))), (3, AV.int IntKind.i64 (0 : Int)), (4, AV.ptr (some (1, 0))), (5, AV.int IntKind.i64 (↑p : Int)), (6, AV.int IntKind.i64 (↑f : Int))]) ([AO.row [AV.str acc, AV.bool inv] 138 true, AO.row [AV.str acc, AV.bool inv] 138 true])) ∧ True)) ∧ (((↑(s.getD p (0 : UInt8)).toNat : Int) != (93 : Int)) = false → K (Exit.exit 0) ([(0, AV.str s), (2, AV.ptr (some (0, 0))), (3, AV.any), (4, AV.ptr (some (1, 0))), (5, AV.int IntKind.i64 (↑p : Int)), (6, AV.int IntKind.i64 (↑f : Int))]) ([AO.row [AV.str [], AV.bool false] 138 true, AO.row [AV.str acc, AV.bool inv] 138 true]))) ∧ ((decide ((↑p : Int) < (↑s.length : Int))) = false → K (Exit.exit 0) ([(0, AV.str s), (2, AV.ptr (some (0, 0))), (3, AV.any), (4, AV.ptr (some (1, 0))), (5, AV.int IntKind.i64 (↑p : Int)), (6, AV.int IntKind.i64 (↑f : Int))]) ([AO.row [AV.str [], AV.bool false] 138 true, AO.row [AV.str acc, AV.bool inv] 138 true]))) := by kernel_rfl
noncomputable def scr_cp (s : List UInt8) : Scr := (.br (.nil) (.br (.nil) (.lp [0, 2, 3, 4, 5, 6] (List El) (fun els => cplAt s 0 [] = Sum.inl els ∧ els ≠ []) (Exit.exit 1) (fun x => lay 100 [(5, AV.ptr (some (0, 0)))]) (fun els => [AO.row [AV.str s, AV.slc (some (1, 0)) els.length els.length false] (135 : TypeId) true, AO.row (List.map elAV els) (181 : TypeId) true]) (fun x => .nil) (.lp [0, 2, 3, 4, 5, 6] (Nat × Nat) (fun x => cplAt s 0 [] = Sum.inr x) (Exit.ret) (fun x => lay 100 [(2, AV.ptr none), (3, AV.int IntKind.i64 (↑x.fst : Int)), (4, AV.int IntKind.i64 (↑x.snd : Int))]) (fun x => [AO.row [AV.str s, AV.any] (135 : TypeId) true]) (fun x => .nil) (.nil)))))
theorem nf_cp (w0 : World) (s : List UInt8) (Q : AV → List AO → Prop) :
    vcall Tryd.prog w0 XC (fun _ => none) 200 46 [.str s] ([]) (scr_cp s) Q =
    (((s == ([] : List UInt8)) = true → Q (AV.tuple [AV.ptr none, AV.int IntKind.i64 (0 : Int), AV.int IntKind.i64 (4 : Int)]) ([])) ∧ ((s == ([] : List UInt8)) = false → ((decide ((↑s.length : Int) > (80 : Int))) = true → Q (AV.tuple [AV.ptr none, AV.int IntKind.i64 (80 : Int), AV.int IntKind.i64 (5 : Int)]) ([])) ∧ ((decide ((↑s.length : Int) > (80 : Int))) = false → ((∃ k, SRoundsB Tryd.prog w0 1 false L46_7 (fun e' t' A' => (∃ x : List El, (fun els => cplAt s 0 [] = Sum.inl els ∧ els ≠ []) x ∧ e' = Exit.exit 1 ∧ t' = (fun x => lay 100 [(5, AV.ptr (some (0, 0)))]) x ∧ A' = (fun els => [AO.row [AV.str s, AV.slc (some (1, 0)) els.length els.length false] (135 : TypeId) true, AO.row (List.map elAV els) (181 : TypeId) true]) x) ∨ (∃ x : Nat × Nat, (fun x => cplAt s 0 [] = Sum.inr x) x ∧ e' = Exit.ret ∧ t' = (fun x => lay 100 [(2, AV.ptr none), (3, AV.int IntKind.i64 (↑x.fst : Int)), (4, AV.int IntKind.i64 (↑x.snd : Int))]) x ∧ A' = (fun x => [AO.row [AV.str s, AV.any] (135 : TypeId) true]) x) ∨ False) k (lay 100 [(0, AV.str s), (2, AV.ptr none), (3, AV.int IntKind.i64 (0 : Int)), (4, AV.int IntKind.i64 (0 : Int)), (5, AV.ptr (some (0, 0))), (6, AV.int IntKind.i64 (0 : Int))]) ([AO.row [AV.str s, AV.slc none 0 0 true] 135 true]))) ∧ ((∀ x : List El, cplAt s 0 [] = Sum.inl x ∧ x ≠ [] → Q (AV.tuple [AV.ptr (some (0, 0)), AV.int IntKind.i64 (0 : Int), AV.int IntKind.i64 (0 : Int)]) ([AO.row [AV.str s, AV.slc (some (1, 0)) x.length x.length false] (135 : TypeId) true, AO.row (List.map elAV x) (181 : TypeId) true])) ∧ (∀ x : Nat × Nat, cplAt s 0 [] = Sum.inr x → Q (AV.tuple [AV.ptr none, AV.int IntKind.i64 (↑x.fst : Int), AV.int IntKind.i64 (↑x.snd : Int)]) ([AO.row [AV.str s, AV.any] (135 : TypeId) true])) ∧ True)))) := by kernel_rfl
noncomputable def scr_cp0 (s : List UInt8) (p : Nat) : Scr := (.br (.s 9 2 (.cl 11 1 (Unit) (fun x => named8 (ch s p) = true) (fun x => AV.bool true) (fun x => [AO.row [AV.str s, AV.slc none 0 0 true] (135 : TypeId) true]) (fun x => .nil) (.cl 11 1 (Unit) (fun x => named8 (ch s p) = false) (fun x => AV.bool false) (fun x => [AO.row [AV.str s, AV.slc none 0 0 true] (135 : TypeId) true]) (fun x => .br (.nil) (.br (.nil) (.br (.s 18 2 (.cl 18 3 (List UInt8 × Bool × Nat) (fun x => clsOf (List.drop p s) = some (El.cls x.fst x.snd.fst, x.snd.snd) ∧ 0 < x.snd.snd ∧ x.snd.snd ≤ (List.drop p s).length) (fun x => AV.tuple [AV.agg [AV.str x.fst, AV.bool x.snd.fst], AV.int IntKind.i64 (↑x.snd.snd : Int)]) (fun x => [AO.row [AV.str s, AV.slc none 0 0 true] (135 : TypeId) true]) (fun x => .br (.nil) (.nil)) (.cl 18 3 (List UInt8 × Bool) (fun x => clsOf (List.drop p s) = none) (fun x => AV.tuple [AV.agg [AV.str x.fst, AV.bool x.snd], AV.int IntKind.i64 (0 : Int)]) (fun x => [AO.row [AV.str s, AV.slc none 0 0 true] (135 : TypeId) true]) (fun x => .d true (.nil)) (.nil)))) (.nil)))) (.nil)))) (.nil))
theorem nf_cp0 (w0 : World) (s : List UInt8) (p : Nat) (K : Exit → List (Nat × AV) → List AO → Prop) :
    vexec Tryd.prog w0 XC (fun _ => none) 200 0 false true L46_7 (lay 100 [(0,.str s),(2,.ptr none),(3,.int .i64 0),(4,.int .i64 0),(5,.ptr (some (0,0))),(6,.int .i64 p)]) ([.row [.str s, .slc none 0 0 true] 135 true]) (scr_cp0 s p) (leaf 100 [0,2,3,4,5,6] K) =
    (((decide ((↑p : Int) < (↑s.length : Int))) = true → ((0 : Int) ≤ (↑p : Int) ∧ p < s.length) ∧ (SCall Tryd.prog w0 66 [AV.int IntKind.u8 (↑(s.getD p (0 : UInt8)).toNat : Int)] [AO.row [AV.str s, AV.slc none 0 0 true] 135 true] (fun v' A' => (∃ x : Unit, (fun x => named8 (ch s p) = true) x ∧ v' = (fun x => AV.bool true) x ∧ A' = (fun x => [AO.row [AV.str s, AV.slc none 0 0 true] (135 : TypeId) true]) x) ∨ (∃ x : Unit, (fun x => named8 (ch s p) = false) x ∧ v' = (fun x => AV.bool false) x ∧ A' = (fun x => [AO.row [AV.str s, AV.slc none 0 0 true] (135 : TypeId) true]) x) ∨ False)) ∧ ((∀ x : Unit, named8 (ch s p) = true → K (Exit.normal) ([(0, AV.str s), (2, AV.ptr none), (3, AV.int IntKind.i64 (0 : Int)), (4, AV.int IntKind.i64 (0 : Int)), (5, AV.ptr (some (0, 0))), (6, AV.int IntKind.i64 (IntKind.i64.wrap ((↑p : Int) + (1 : Int))))]) ([AO.row [AV.str s, AV.slc (some (2, 0)) 1 1 false] 135 true, AO.row [AV.iface 136 (AV.int IntKind.u8 (↑(s.getD p (0 : UInt8)).toNat : Int))] 181 true, AO.row [AV.iface 136 (AV.int IntKind.u8 (↑(s.getD p (0 : UInt8)).toNat : Int))] 181 true])) ∧ (∀ x : Unit, named8 (ch s p) = false → (((↑(s.getD p (0 : UInt8)).toNat : Int) == (63 : Int)) = true → K (Exit.normal) ([(0, AV.str s), (2, AV.ptr none), (3, AV.int IntKind.i64 (0 : Int)), (4, AV.int IntKind.i64 (0 : Int)), (5, AV.ptr (some (0, 0))), (6, AV.int IntKind.i64 (IntKind.i64.wrap ((↑p : Int) + (1 : Int))))]) ([AO.row [AV.str s, AV.slc (some (2, 0)) 1 1 false] 135 true, AO.row [AV.iface 138 (AV.agg [AV.str [], AV.bool true])] 181 true, AO.row [AV.iface 138 (AV.agg [AV.str [], AV.bool true])] 181 true])) ∧ (((↑(s.getD p (0 : UInt8)).toNat : Int) == (63 : Int)) = false → (((↑(s.getD p (0 : UInt8)).toNat : Int) == (42 : Int)) = true → K (Exit.normal) ([(0, AV.str s), (2, AV.ptr none), (3, AV.int IntKind.i64 (0 : Int)), (4, AV.int IntKind.i64 (0 : Int)), (5, AV.ptr (some (0, 0))), (6, AV.int IntKind.i64 (IntKind.i64.wrap ((↑p : Int) + (1 : Int))))]) ([AO.row [AV.str s, AV.slc (some (2, 0)) 1 1 false] 135 true, AO.row [AV.iface 140 (AV.agg [])] 181 true, AO.row [AV.iface 140 (AV.agg [])] 181 true])) ∧ (((↑(s.getD p (0 : UInt8)).toNat : Int) == (42 : Int)) = false → (((↑(s.getD p (0 : UInt8)).toNat : Int) == (91 : Int)) = true → (True ∧ (0 : Int) ≤ (↑p : Int) ∧ (↑p : Int) ≤ (↑s.length : Int)) ∧ (SCall Tryd.prog w0 67 [AV.str (List.drop p s)] [AO.row [AV.str s, AV.slc none 0 0 true] 135 true] (fun v' A' => (∃ x : List UInt8 × Bool × Nat, (fun x => clsOf (List.drop p s) = some (El.cls x.fst x.snd.fst, x.snd.snd) ∧ 0 < x.snd.snd ∧ x.snd.snd ≤ (List.drop p s).length) x ∧ v' = (fun x => AV.tuple [AV.agg [AV.str x.fst, AV.bool x.snd.fst], AV.int IntKind.i64 (↑x.snd.snd : Int)]) x ∧ A' = (fun x => [AO.row [AV.str s, AV.slc none 0 0 true] (135 : TypeId) true]) x) ∨ (∃ x : List UInt8 × Bool, (fun x => clsOf (List.drop p s) = none) x ∧ v' = (fun x => AV.tuple [AV.agg [AV.str x.fst, AV.bool x.snd], AV.int IntKind.i64 (0 : Int)]) x ∧ A' = (fun x => [AO.row [AV.str s, AV.slc none 0 0 true] (135 : TypeId) true]) x) ∨ False)) ∧ ((∀ x : List UInt8 × Bool × Nat, clsOf (List.drop p s) = some (El.cls x.fst x.snd.fst, x.snd.snd) ∧ 0 < x.snd.snd ∧ x.snd.snd ≤ (List.drop p s).length → (((↑x.snd.snd : Int) == (0 : Int)) = true → K (Exit.ret) ([(0, AV.str s), (2, AV.ptr none), (3, AV.int IntKind.i64 (↑p : Int)), (4, AV.int IntKind.i64 (3 : Int)), (5, AV.ptr (some (0, 0))), (6, AV.int IntKind.i64 (↑p : Int))]) ([AO.row [AV.str s, AV.slc none 0 0 true] 135 true, AO.row [AV.str x.fst, AV.bool x.snd.fst] 138 true])) ∧ (((↑x.snd.snd : Int) == (0 : Int)) = false → (AV.slc none 0 0 true = AV.slc none 0 0 true) ∧ K (Exit.normal) ([(0, AV.str s), (2, AV.ptr none), (3, AV.int IntKind.i64 (0 : Int)), (4, AV.int IntKind.i64 (0 : Int)), (5, AV.ptr (some (0, 0))), (6, AV.int IntKind.i64 (IntKind.i64.wrap ((↑p : Int) + (↑x.snd.snd : Int))))]) ([AO.row [AV.str s, AV.slc (some (3, 0)) 1 1 false] 135 true, AO.row [AV.str x.fst, AV.bool x.snd.fst] 138 true, AO.row [AV.iface 138 (AV.agg [AV.str x.fst, AV.bool x.snd.fst])] 181 true, AO.row [AV.iface 138 (AV.agg [AV.str x.fst, AV.bool x.snd.fst])] 181 true]))) ∧ (∀ x : List UInt8 × Bool, clsOf (List.drop p s) = none → K (Exit.ret) ([(0, AV.str s), (2, AV.ptr none), (3, AV.int IntKind.i64 (↑p : Int)), (4, AV.int IntKind.i64 (3 : Int)), (5, AV.ptr (some (0, 0))), (6, AV.int IntKind.i64 (↑p : Int))]) ([AO.row [AV.str s, AV.slc none 0 0 true] 135 true, AO.row [AV.str x.fst, AV.bool x.snd] 138 true])) ∧ True)) ∧ (((↑(s.getD p (0 : UInt8)).toNat : Int) == (91 : Int)) = false → K (Exit.ret) ([(0, AV.str s), (2, AV.ptr none), (3, AV.int IntKind.i64 (↑p : Int)), (4, AV.int IntKind.i64 (6 : Int)), (5, AV.ptr (some (0, 0))), (6, AV.int IntKind.i64 (↑p : Int))]) ([AO.row [AV.str s, AV.slc none 0 0 true] 135 true]))))) ∧ True)) ∧ ((decide ((↑p : Int) < (↑s.length : Int))) = false → K (Exit.exit 1) ([(0, AV.str s), (2, AV.ptr none), (3, AV.int IntKind.i64 (0 : Int)), (4, AV.int IntKind.i64 (0 : Int)), (5, AV.ptr (some (0, 0))), (6, AV.int IntKind.i64 (↑p : Int))]) ([AO.row [AV.str s, AV.slc none 0 0 true] 135 true]))) := by kernel_rfl
noncomputable def scr_cp1 (s : List UInt8) (p : Nat) (n : Nat) (cs : List AV) : Scr := (.br (.s 9 2 (.cl 11 1 (Unit) (fun x => named8 (ch s p) = true) (fun x => AV.bool true) (fun x => [AO.row [AV.str s, AV.slc (some (1, 0)) n n false] (135 : TypeId) true, AO.row cs (181 : TypeId) true]) (fun x => .s 12 8 (.nil)) (.cl 11 1 (Unit) (fun x => named8 (ch s p) = false) (fun x => AV.bool false) (fun x => [AO.row [AV.str s, AV.slc (some (1, 0)) n n false] (135 : TypeId) true, AO.row cs (181 : TypeId) true]) (fun x => .br (.s 14 8 (.nil)) (.br (.s 16 8 (.nil)) (.br (.s 18 2 (.cl 18 3 (List UInt8 × Bool × Nat) (fun x => clsOf (List.drop p s) = some (El.cls x.fst x.snd.fst, x.snd.snd) ∧ 0 < x.snd.snd ∧ x.snd.snd ≤ (List.drop p s).length) (fun x => AV.tuple [AV.agg [AV.str x.fst, AV.bool x.snd.fst], AV.int IntKind.i64 (↑x.snd.snd : Int)]) (fun x => [AO.row [AV.str s, AV.slc (some (1, 0)) n n false] (135 : TypeId) true, AO.row cs (181 : TypeId) true]) (fun x => .br (.nil) (.s 21 8 (.nil))) (.cl 18 3 (List UInt8 × Bool) (fun x => clsOf (List.drop p s) = none) (fun x => AV.tuple [AV.agg [AV.str x.fst, AV.bool x.snd], AV.int IntKind.i64 (0 : Int)]) (fun x => [AO.row [AV.str s, AV.slc (some (1, 0)) n n false] (135 : TypeId) true, AO.row cs (181 : TypeId) true]) (fun x => .d true (.nil)) (.nil)))) (.nil)))) (.nil)))) (.nil))
theorem nf_cp1 (w0 : World) (s : List UInt8) (p : Nat) (n : Nat) (cs : List AV) (K : Exit → List (Nat × AV) → List AO → Prop) :
    vexec Tryd.prog w0 XC (fun _ => none) 200 0 false true L46_7 (lay 100 [(0,.str s),(2,.ptr none),(3,.int .i64 0),(4,.int .i64 0),(5,.ptr (some (0,0))),(6,.int .i64 p)]) ([.row [.str s, .slc (some (1,0)) n n false] 135 true, .row cs 181 true]) (scr_cp1 s p n cs) (leaf 100 [0,2,3,4,5,6] K) =
    (((decide ((↑p : Int) < (↑s.length : Int))) = true → ((0 : Int) ≤ (↑p : Int) ∧ p < s.length) ∧ (SCall Tryd.prog w0 66 [AV.int IntKind.u8 (↑(s.getD p (0 : UInt8)).toNat : Int)] [AO.row [AV.str s, AV.slc (some (1, 0)) n n false] 135 true, AO.row cs 181 true] (fun v' A' => (∃ x : Unit, (fun x => named8 (ch s p) = true) x ∧ v' = (fun x => AV.bool true) x ∧ A' = (fun x => [AO.row [AV.str s, AV.slc (some (1, 0)) n n false] (135 : TypeId) true, AO.row cs (181 : TypeId) true]) x) ∨ (∃ x : Unit, (fun x => named8 (ch s p) = false) x ∧ v' = (fun x => AV.bool false) x ∧ A' = (fun x => [AO.row [AV.str s, AV.slc (some (1, 0)) n n false] (135 : TypeId) true, AO.row cs (181 : TypeId) true]) x) ∨ False)) ∧ ((∀ x : Unit, named8 (ch s p) = true → (n = n ∧ (List.take (1) (List.drop 0 [AV.iface 136 (AV.int IntKind.u8 (↑(s.getD p (0 : UInt8)).toNat : Int))])).all aone = true ∧ 1 ≠ 0 ∧ n * 1 = cs.length ∧ (n + 1) * 16 ≤ 140737488355328 ∧ n + 1 ≤ 9223372036854775807) ∧ K (Exit.normal) ([(0, AV.str s), (2, AV.ptr none), (3, AV.int IntKind.i64 (0 : Int)), (4, AV.int IntKind.i64 (0 : Int)), (5, AV.ptr (some (0, 0))), (6, AV.int IntKind.i64 (IntKind.i64.wrap ((↑p : Int) + (1 : Int))))]) ([AO.row [AV.str s, AV.slc (some (3, 0)) (n + 1) (n + 1) false] 135 true, AO.dead, AO.row [AV.iface 136 (AV.int IntKind.u8 (↑(s.getD p (0 : UInt8)).toNat : Int))] 181 true, AO.row (cs ++ List.take 1 (List.drop 0 [AV.iface 136 (AV.int IntKind.u8 (↑(s.getD p (0 : UInt8)).toNat : Int))])) 181 true])) ∧ (∀ x : Unit, named8 (ch s p) = false → (((↑(s.getD p (0 : UInt8)).toNat : Int) == (63 : Int)) = true → (n = n ∧ (List.take (1) (List.drop 0 [AV.iface 138 (AV.agg [AV.str [], AV.bool true])])).all aone = true ∧ 1 ≠ 0 ∧ n * 1 = cs.length ∧ (n + 1) * 16 ≤ 140737488355328 ∧ n + 1 ≤ 9223372036854775807) ∧ K (Exit.normal) ([(0, AV.str s), (2, AV.ptr none), (3, AV.int IntKind.i64 (0 : Int)), (4, AV.int IntKind.i64 (0 : Int)), (5, AV.ptr (some (0, 0))), (6, AV.int IntKind.i64 (IntKind.i64.wrap ((↑p : Int) + (1 : Int))))]) ([AO.row [AV.str s, AV.slc (some (3, 0)) (n + 1) (n + 1) false] 135 true, AO.dead, AO.row [AV.iface 138 (AV.agg [AV.str [], AV.bool true])] 181 true, AO.row (cs ++ List.take (1) (List.drop 0 [AV.iface 138 (AV.agg [AV.str [], AV.bool true])])) 181 true])) ∧ (((↑(s.getD p (0 : UInt8)).toNat : Int) == (63 : Int)) = false → (((↑(s.getD p (0 : UInt8)).toNat : Int) == (42 : Int)) = true → (n = n ∧ (List.take (1) (List.drop 0 [AV.iface 140 (AV.agg [])])).all aone = true ∧ 1 ≠ 0 ∧ n * 1 = cs.length ∧ (n + 1) * 16 ≤ 140737488355328 ∧ n + 1 ≤ 9223372036854775807) ∧ K (Exit.normal) ([(0, AV.str s), (2, AV.ptr none), (3, AV.int IntKind.i64 (0 : Int)), (4, AV.int IntKind.i64 (0 : Int)), (5, AV.ptr (some (0, 0))), (6, AV.int IntKind.i64 (IntKind.i64.wrap ((↑p : Int) + (1 : Int))))]) ([AO.row [AV.str s, AV.slc (some (3, 0)) (n + 1) (n + 1) false] 135 true, AO.dead, AO.row [AV.iface 140 (AV.agg [])] 181 true, AO.row (cs ++ List.take (1) (List.drop 0 [AV.iface 140 (AV.agg [])])) 181 true])) ∧ (((↑(s.getD p (0 : UInt8)).toNat : Int) == (42 : Int)) = false → (((↑(s.getD p (0 : UInt8)).toNat : Int) == (91 : Int)) = true → (True ∧ (0 : Int) ≤ (↑p : Int) ∧ (↑p : Int) ≤ (↑s.length : Int)) ∧ (SCall Tryd.prog w0 67 [AV.str (List.drop p s)] [AO.row [AV.str s, AV.slc (some (1, 0)) n n false] 135 true, AO.row cs 181 true] (fun v' A' => (∃ x : List UInt8 × Bool × Nat, (fun x => clsOf (List.drop p s) = some (El.cls x.fst x.snd.fst, x.snd.snd) ∧ 0 < x.snd.snd ∧ x.snd.snd ≤ (List.drop p s).length) x ∧ v' = (fun x => AV.tuple [AV.agg [AV.str x.fst, AV.bool x.snd.fst], AV.int IntKind.i64 (↑x.snd.snd : Int)]) x ∧ A' = (fun x => [AO.row [AV.str s, AV.slc (some (1, 0)) n n false] (135 : TypeId) true, AO.row cs (181 : TypeId) true]) x) ∨ (∃ x : List UInt8 × Bool, (fun x => clsOf (List.drop p s) = none) x ∧ v' = (fun x => AV.tuple [AV.agg [AV.str x.fst, AV.bool x.snd], AV.int IntKind.i64 (0 : Int)]) x ∧ A' = (fun x => [AO.row [AV.str s, AV.slc (some (1, 0)) n n false] (135 : TypeId) true, AO.row cs (181 : TypeId) true]) x) ∨ False)) ∧ ((∀ x : List UInt8 × Bool × Nat, clsOf (List.drop p s) = some (El.cls x.fst x.snd.fst, x.snd.snd) ∧ 0 < x.snd.snd ∧ x.snd.snd ≤ (List.drop p s).length → (((↑x.snd.snd : Int) == (0 : Int)) = true → K (Exit.ret) ([(0, AV.str s), (2, AV.ptr none), (3, AV.int IntKind.i64 (↑p : Int)), (4, AV.int IntKind.i64 (3 : Int)), (5, AV.ptr (some (0, 0))), (6, AV.int IntKind.i64 (↑p : Int))]) ([AO.row [AV.str s, AV.slc (some (1, 0)) n n false] 135 true, AO.row cs 181 true, AO.row [AV.str x.fst, AV.bool x.snd.fst] 138 true])) ∧ (((↑x.snd.snd : Int) == (0 : Int)) = false → (n = n ∧ (List.take (1) (List.drop 0 [AV.iface 138 (AV.agg [AV.str x.fst, AV.bool x.snd.fst])])).all aone = true ∧ 1 ≠ 0 ∧ n * 1 = cs.length ∧ (n + 1) * 16 ≤ 140737488355328 ∧ n + 1 ≤ 9223372036854775807) ∧ (AV.slc (some (1, 0)) n n false = AV.slc (some (1, 0)) n n false) ∧ K (Exit.normal) ([(0, AV.str s), (2, AV.ptr none), (3, AV.int IntKind.i64 (0 : Int)), (4, AV.int IntKind.i64 (0 : Int)), (5, AV.ptr (some (0, 0))), (6, AV.int IntKind.i64 (IntKind.i64.wrap ((↑p : Int) + (↑x.snd.snd : Int))))]) ([AO.row [AV.str s, AV.slc (some (4, 0)) (n + 1) (n + 1) false] 135 true, AO.dead, AO.row [AV.str x.fst, AV.bool x.snd.fst] 138 true, AO.row [AV.iface 138 (AV.agg [AV.str x.fst, AV.bool x.snd.fst])] 181 true, AO.row (cs ++ List.take 1 (List.drop 0 [AV.iface 138 (AV.agg [AV.str x.fst, AV.bool x.snd.fst])])) 181 true]))) ∧ (∀ x : List UInt8 × Bool, clsOf (List.drop p s) = none → K (Exit.ret) ([(0, AV.str s), (2, AV.ptr none), (3, AV.int IntKind.i64 (↑p : Int)), (4, AV.int IntKind.i64 (3 : Int)), (5, AV.ptr (some (0, 0))), (6, AV.int IntKind.i64 (↑p : Int))]) ([AO.row [AV.str s, AV.slc (some (1, 0)) n n false] 135 true, AO.row cs 181 true, AO.row [AV.str x.fst, AV.bool x.snd] 138 true])) ∧ True)) ∧ (((↑(s.getD p (0 : UInt8)).toNat : Int) == (91 : Int)) = false → K (Exit.ret) ([(0, AV.str s), (2, AV.ptr none), (3, AV.int IntKind.i64 (↑p : Int)), (4, AV.int IntKind.i64 (6 : Int)), (5, AV.ptr (some (0, 0))), (6, AV.int IntKind.i64 (↑p : Int))]) ([AO.row [AV.str s, AV.slc (some (1, 0)) n n false] 135 true, AO.row cs 181 true]))))) ∧ True)) ∧ ((decide ((↑p : Int) < (↑s.length : Int))) = false → K (Exit.exit 1) ([(0, AV.str s), (2, AV.ptr none), (3, AV.int IntKind.i64 (0 : Int)), (4, AV.int IntKind.i64 (0 : Int)), (5, AV.ptr (some (0, 0))), (6, AV.int IntKind.i64 (↑p : Int))]) ([AO.row [AV.str s, AV.slc (some (1, 0)) n n false] 135 true, AO.row cs 181 true]))) := by kernel_rfl
end Go.Proofs.YthipnddfplbamaaDoor
set_option linter.unusedVariables false
set_option linter.unusedSimpArgs false
set_option maxRecDepth 100000
namespace Go.Proofs.YthipnddfplbamaaDoor
open Go Go.Am
theorem XC_ok : ExtOk Tryd.prog XC := tableX_ok fun x hx => by
  simp only [List.mem_cons, List.mem_nil_iff, or_false] at hx
  rcases hx with rfl | rfl
  · exact ⟨_, _, Tryd.func108, by kernel_rfl, rfl, by kernel_rfl, by kernel_rfl, xIndexByte_ok⟩
  · exact ⟨_, _, Tryd.func98, by kernel_rfl, rfl, by kernel_rfl, by kernel_rfl, xCount_ok⟩
theorem noRC (w0 : World) : ResOk Tryd.prog w0 (fun _ => none) := fun g h hg => by cases hg
theorem mixedC : Tryd.prog.follows .mixedOrders = true := by kernel_rfl
/-! ### Bytes -/
theorem idx_call (s : List UInt8) (c : UInt8) {w0 : World} (A : List AO) : SCall Tryd.prog w0 85 [.str s, .int .u8 c.toNat] A fun v A' => v = .int .i64 (Lib.indexByte s c) ∧ A' = A := by
  refine SCall.pureheap (fun w0 => vcall_ok XC_ok (noRC w0) mixedC (Eq.mpr (nf_ixb w0 s c _) ?_)) (fun f => rfl) (fun f => rfl) A
  refine ⟨by simp, rfl⟩
theorem named_call (c : UInt8) {w0 : World} (A : List AO) : SCall Tryd.prog w0 66 [.int .u8 c.toNat] A fun v A' => v = .bool (named8 c.toNat) ∧ A' = A := by
  refine SCall.pureheap (fun w0 => vcall_ok XC_ok (noRC w0) mixedC (Eq.mpr (nf_named w0 c (Lib.indexByte chars8 c) _) ?_)) (fun f => rfl) (fun f => rfl) A
  refine ⟨idx_call _ _ _, fun h => ⟨?_, rfl⟩, fun h => ⟨?_, rfl⟩⟩ <;> rw [← named_index, h]
theorem sort_call (c : Nat) {w0 : World} (A : List AO) : SCall Tryd.prog w0 86 [.int .u8 c] A fun v A' => v = .int .i64 (sort8 c) ∧ A' = A := by
  refine SCall.pureheap (fun w0 => vcall_ok XC_ok (noRC w0) mixedC (Eq.mpr (nf_sort w0 c _) ?_)) (fun f => rfl) (fun f => rfl) A
  simp only [decide_eq_true_eq, decide_eq_false_iff_not, sort8, low8, dig8, Bool.and_eq_true]
  refine ⟨fun h1 => ⟨fun h2 => ⟨?_, trivial⟩, fun h2 => ⟨fun h3 => ⟨fun h4 => ⟨?_, trivial⟩, fun h4 => ⟨?_, trivial⟩⟩, fun h3 => ⟨?_, trivial⟩⟩⟩, fun h1 => ⟨fun h3 => ⟨fun h4 => ⟨?_, trivial⟩, fun h4 => ⟨?_, trivial⟩⟩, fun h3 => ⟨?_, trivial⟩⟩⟩ <;>
    first
    | (rw [if_pos (by omega)]; rfl)
    | (rw [if_neg (by omega), if_pos (by omega)]; rfl)
    | (rw [if_neg (by omega), if_neg (by omega)]; rfl)
theorem place_lt {c : Nat} (h : sort8 c ≠ 0) : place8 c < 40 := by
  unfold sort8 at h
  unfold place8
  simp only [low8, dig8, Bool.and_eq_true, decide_eq_true_eq] at *
  split at h
  · rw [if_pos (by omega)]; omega
  · split at h
    · rw [if_neg (by omega)]; omega
    · exact absurd rfl h
theorem place_mono {a b : Nat} (h : sort8 a ≠ 0) (he : sort8 a = sort8 b) (hle : a ≤ b) : place8 a ≤ place8 b := by
  unfold sort8 at h he
  unfold place8
  simp only [low8, dig8, Bool.and_eq_true, decide_eq_true_eq] at *
  split at he <;> split at he <;> try (split at he) <;> try omega
  all_goals first | (rw [if_pos (by omega), if_pos (by omega)]; omega) | (rw [if_neg (by omega), if_neg (by omega)]; omega) | skip
  all_goals (split at h <;> omega)
theorem between_call {a b : UInt8} (h : sort8 a.toNat ≠ 0) (he : sort8 a.toNat = sort8 b.toNat) (hle : a.toNat ≤ b.toNat) {w0 : World} (A : List AO) : SCall Tryd.prog w0 87 [.int .u8 a.toNat, .int .u8 b.toNat] A fun v A' => v = .str (between8 a b) ∧ A' = A := by
  refine SCall.pureheap (fun w0 => vcall_ok XC_ok (noRC w0) mixedC (Eq.mpr (nf_between w0 a b (place8 a.toNat) (place8 b.toNat) _) ?_)) (fun f => rfl) (fun f => rfl) A
  have h1 := place_lt h
  have h2 := place_lt (he ▸ h : sort8 b.toNat ≠ 0)
  have h3 := place_mono h he hle
  refine ⟨(idx_call _ _ _).mono fun v A' ⟨e1, e2⟩ => ⟨by rw [e1, place_index a h], e2⟩, (idx_call _ _ _).mono fun v A' ⟨e1, e2⟩ => ⟨by rw [e1, place_index b (he ▸ h)], e2⟩, some_wr (by omega), ⟨by omega, by omega, by omega⟩, rfl, rfl⟩
/-! ### strings.Split by one byte -/
def rowG (ps : List (List UInt8)) (k N : Nat) : List AV := rowF (fun j => if j < k then .str (ps.getD j []) else .str []) N
theorem splitB_pos (c : UInt8) (s : List UInt8) : 0 < (splitB c s).length := by rw [splitB_length]; omega
theorem splitB_one {c : UInt8} {s : List UInt8} (h : (splitB c s).length = 1) : splitB c s = [s] := by
  rcases Int.lt_or_le (Lib.indexByte s c) 0 with h0 | h0
  · have := Lib.indexByte_ge s c
    exact splitB_none (by omega)
  · have h1 := splitB_some (s := s) (c := c) (m := (Lib.indexByte s c).toNat) (by omega)
    have := splitB_pos c (s.drop ((Lib.indexByte s c).toNat + 1))
    rw [h1] at h
    simp at h
    rw [h] at this
    simp at this
theorem index_lt {s : List UInt8} {c : UInt8} : Lib.indexByte s c < s.length := by
  induction s with
  | nil => simp [Lib.indexByte]
  | cons x r ih =>
    unfold Lib.indexByte
    simp only [List.length_cons]
    split
    · omega
    · split <;> omega
theorem rowG_next {ps : List (List UInt8)} {k N : Nat} {x : List UInt8} (hk : k < N) (hx : ps.getD k [] = x) : asplice (rowG ps k N) (0 + k * 1) (acells (.str x)) = rowG ps (k + 1) N := by
  rw [show 0 + k * 1 = k by omega]
  show asplice _ _ [AV.str x] = _
  unfold rowG
  rw [rowF_set hk]
  refine rowF_congr fun j hj => ?_
  by_cases h : j = k
  · subst h; rw [if_pos rfl, if_pos (by omega), hx]
  · rw [if_neg h]
    by_cases h2 : j < k
    · rw [if_pos h2, if_pos (by omega)]
    · rw [if_neg h2, if_neg (by omega)]
theorem gsp_loop {w0 : World} (s : List UInt8) (c : UInt8) (hs : s.length ≤ 1000000) (n : Nat) (hn : n + 1 = (splitB c s).length) :
    ∃ k, SRoundsB Tryd.prog w0 1 false L64_11 (fun e' t' A' => (∃ x : Unit, (fun x => True) x ∧ e' = Exit.exit 0 ∧ t' = (fun x => lay 66 [(0, AV.str ((splitB c s).getD n [])), (1, AV.str [c]), (3, AV.int IntKind.i64 n), (9, AV.slc (some (0, 0)) (n + 1) (n + 1) true), (10, AV.int IntKind.i64 n)]) x ∧ A' = (fun x => [AO.row (rowG (splitB c s) n (n + 1)) 9 true]) x) ∨ False) k
      (lay 66 [(0, AV.str s), (1, AV.str [c]), (2, AV.int IntKind.i64 (0 : Int)), (3, AV.int IntKind.i64 n), (9, AV.slc (some (0, 0)) (n + 1) (n + 1) true), (10, AV.int IntKind.i64 (0 : Int))]) [AO.row (areps (n + 1) (acells (AV.str ([] : List UInt8)))) 9 true] := by
  have e0 : areps (n + 1) (acells (AV.str ([] : List UInt8))) = rowG (splitB c s) 0 (n + 1) := by
    show areps (n + 1) [AV.str []] = _
    rw [areps_rowF]; exact rowF_congr fun j hj => by simp
  rw [e0]
  have hN : n ≤ 1000000 := by
    have := splitB_length c s
    have h2 : Lib.countByte s c ≤ s.length := List.count_le_length
    omega
  refine vloop XC_ok (noRC w0) mixedC (S := Nat × List UInt8) (fun x => (splitB c s).drop x.1 = splitB c x.2 ∧ x.1 ≤ n ∧ x.2.length ≤ s.length) (fun x => n - x.1)
    (fun x => [(0, .str x.2), (1, .str [c]), (2, .int .i64 0), (3, .int .i64 n), (9, .slc (some (0, 0)) (n + 1) (n + 1) true), (10, .int .i64 x.1)]) (fun x => [.row (rowG (splitB c s) x.1 (n + 1)) 9 true]) ?_ (0, s) ⟨rfl, Nat.zero_le _, Nat.le_refl _⟩
  rintro ⟨k, rest⟩ ⟨h1, h2, h3⟩ K next out
  have hlen := congrArg List.length h1
  rw [List.length_drop] at hlen
  simp only at hlen h2 h3 next
  have hi := index_lt (s := rest) (c := c)
  have hg := Lib.indexByte_ge rest c
  have hout : splitB c rest = [rest] → K (Exit.exit 0)
      [(0, AV.str rest), (1, AV.str [c]), (2, AV.int IntKind.i64 (0 : Int)), (3, AV.int IntKind.i64 n), (9, AV.slc (some (0, 0)) (n + 1) (n + 1) true), (10, AV.int IntKind.i64 k)] [AO.row (rowG (splitB c s) k (n + 1)) 9 true] := by
    intro h
    rw [h] at h1 hlen
    simp at hlen
    obtain rfl : k = n := by omega
    have e1 : (splitB c s).getD k [] = rest := by
      have := congrArg (fun l => l[0]?) h1
      simp only [List.getElem?_drop, List.getElem?_cons_zero, Nat.add_zero] at this
      rw [List.getD_eq_getElem?_getD, this]; rfl
    exact out [(0, AV.str ((splitB c s).getD k [])), (1, AV.str [c]), (3, AV.int IntKind.i64 k), (9, AV.slc (some (0, 0)) (k + 1) (k + 1) true), (10, AV.int IntKind.i64 k)] _ (by simp) (Fits.slots ⟨by rw [e1]; rfl, rfl, rfl, rfl, rfl, trivial⟩ rfl) (.inl ⟨(), trivial, rfl, rfl, rfl⟩)
  have hnext : ∀ m : Nat, Lib.indexByte rest c = m → k < n → K .normal
      [(0, AV.str (rest.drop (m + 1))), (1, AV.str [c]), (2, AV.int IntKind.i64 (0 : Int)), (3, AV.int IntKind.i64 n), (9, AV.slc (some (0, 0)) (n + 1) (n + 1) true), (10, AV.int IntKind.i64 ((k + 1 : Nat) : Int))] [AO.row (asplice (rowG (splitB c s) k (n + 1)) (0 + k * 1) (acells (AV.str (rest.take m)))) 9 true] := by
    intro m hm hk
    have e1 := splitB_some hm
    rw [e1] at h1
    have e2 : (splitB c s).getD k [] = rest.take m := by
      have := congrArg (fun l => l[0]?) h1
      simp only [List.getElem?_drop, List.getElem?_cons_zero, Nat.add_zero] at this
      rw [List.getD_eq_getElem?_getD, this]; rfl
    refine next (k + 1, rest.drop (m + 1)) ⟨?_, by simp only; omega, by simp only [List.length_drop]; omega⟩ (by simp only; omega) (Fits.slots ⟨rfl, rfl, rfl, rfl, rfl, rfl, trivial⟩ ?_)
    · have := congrArg List.tail h1
      simpa using this
    · rw [rowG_next (by omega) e2]
  refine ⟨_, _, _, _, _, Eq.mpr (nf_gspR w0 rest c k (n + 1) n (Lib.indexByte rest c).toNat _ _) ?_⟩
  simp only [decide_eq_true_eq, decide_eq_false_iff_not, beq_iff_eq, List.length_singleton]
  have hrow : (rowG (splitB c s) k (n + 1)).length = n + 1 := rowF_length _ _
  have hcc : c.toNat.toUInt8 = c := by simp
  rw [hcc]
  refine ⟨fun hk => ⟨fun he => ?_, fun he => ⟨fun h0 => ?_, fun h0 => ?_⟩⟩, fun hk => ?_⟩
  · have e : Lib.indexByte rest c = (0 : Nat) := by rw [← he]; simp [Lib.indexByte]
    rw [e]
    have hr : rest.length = 1 := by rw [← he]; rfl
    exact ⟨rfl, ⟨⟨by omega, by omega⟩, trivial⟩, ⟨by omega, by omega⟩, by omega, some_wr (by simp), ⟨trivial, by omega, by simp; omega⟩, some_wr (by omega), hnext 0 e (by omega)⟩
  · exact hout (splitB_none (by omega))
  · have e : Lib.indexByte rest c = ((Lib.indexByte rest c).toNat : Int) := by omega
    exact ⟨some_wr (by omega), ⟨⟨by omega, by omega⟩, trivial⟩, ⟨by omega, by omega⟩, by omega, some_wr (by omega), ⟨trivial, by omega, by omega⟩, some_wr (by omega), hnext _ e (by omega)⟩
  · exact hout (splitB_one (by omega))
theorem split_call (s : List UInt8) (c : UInt8) (hs : s.length ≤ 1000000) {w0 : World} (A : List AO) : SCall Tryd.prog w0 44 [.str s, .str [c]] A fun v A' => v = .slc (some (A.length, 0)) (splitB c s).length (splitB c s).length true ∧ A' = A ++ [.row ((splitB c s).map .str) 9 true] := by
  obtain ⟨n, hn⟩ : ∃ n, n + 1 = (splitB c s).length := ⟨(splitB c s).length - 1, by have := splitB_pos c s; omega⟩
  have hb : ∀ w0, SCall Tryd.prog w0 44 [.str s, .str [c]] [] fun v A' => v = .slc (some (0, 0)) (n + 1) (n + 1) true ∧ A' = [] ++ [.row ((splitB c s).map .str) 9 true] := by
    intro w0
    refine vcall_ok XC_ok (noRC w0) mixedC (Eq.mpr (nf_split w0 s c (n + 1) ((splitB c s).map .str) _) ⟨?_, rfl, rfl⟩)
    refine vcall_ok XC_ok (noRC w0) mixedC (Eq.mpr (nf_gsp w0 s ((splitB c s).getD n []) c (n + 1) n (rowG (splitB c s) n (n + 1)) _) ?_)
    have h2 : Lib.countByte s c ≤ s.length := List.count_le_length
    have h3 := splitB_length c s
    have hrow : (rowG (splitB c s) n (n + 1)).length = n + 1 := rowF_length _ _
    have hcc : c.toNat.toUInt8 = c := by simp
    rw [hcc]
    refine ⟨?_, by omega, some_wr (by omega), gsp_loop s c hs n hn, fun _ _ => ⟨⟨by omega, by omega⟩, by omega, some_wr (by omega), ⟨⟨by omega, fun h => by cases h⟩, ⟨by omega, by omega⟩, trivial⟩, rfl, ?_⟩, trivial⟩
    · refine some_int ?_
      rw [if_neg (by simp)]
      rw [wr (x := (Lib.countByte s c : Int) + 1) (y := (Lib.countByte s c : Int) + 1) (by omega), wr (x := (s.length : Int) + 1) (y := (s.length : Int) + 1) (by omega)]
      split <;> omega
    · rw [rowG_next (by omega) rfl, map_rowF _ [], ← hn]
      rw [show rowG (splitB c s) (n + 1) (n + 1) = rowF (fun j => .str ((splitB c s).getD j [])) (n + 1) from rowF_congr fun j hj => by rw [if_pos hj]]
  refine (SCall.anyheap hb (fun f => rfl) (by simp) A).mono fun v A' ⟨h1, h2⟩ => ⟨?_, ?_⟩
  · rw [h1, ← hn]; rfl
  · rw [h2]; simp only [List.map_cons, List.map_nil, renO]
    rw [renL_map _ (fun x => rfl)]
end Go.Proofs.YthipnddfplbamaaDoor
set_option linter.unusedVariables false
set_option linter.unusedSimpArgs false
set_option maxRecDepth 100000
namespace Go.Proofs.YthipnddfplbamaaDoor
open Go Go.Am
/-! ### A class -/
theorem clsAt_eq (s : List UInt8) (f p : Nat) (acc : List UInt8) : clsAt s f p acc = if p < s.length then (if ch s p = 93 then (if p = f then none else some (acc, p)) else if named8 (ch s p) = false ∨ (ch s p = 45 ∧ f < p) then none
    else if ch s p = 45 ∨ s.length ≤ p + 1 ∨ ch s (p + 1) ≠ 45 then clsAt s f (p + 1) (acc ++ [s.getD p 0])
    else if p + 2 < s.length ∧ sort8 (ch s p) ≠ 0 ∧ sort8 (ch s p) = sort8 (ch s (p + 2)) ∧ ch s p ≤ ch s (p + 2) then clsAt s f (p + 3) (acc ++ between8 (s.getD p 0) (s.getD (p + 2) 0)) else none) else none := by
  rw [clsAt]; rfl
theorem between_length (a b : UInt8) : (between8 a b).length ≤ 40 := by
  simp only [between8, List.length_take, List.length_drop]
  have : chars8.length = 40 := rfl
  omega
theorem pc_loop {w0 : World} (s : List UInt8) (inv : Bool) (f : Nat) (hs : s.length ≤ 1000000) (hf : f ≤ 2) :
    ∃ k, SRoundsB Tryd.prog w0 2 false L67_6 (fun e' t' A' => (∃ x : Nat × List UInt8, (fun x => pcEnd s f x) x ∧ e' = Exit.exit 0 ∧ t' = (fun x => lay 119 [(0, AV.str s), (2, AV.ptr (some (0, 0))), (4, AV.ptr (some (1, 0))), (5, AV.int IntKind.i64 x.1), (6, AV.int IntKind.i64 f)]) x ∧ A' = (fun x => [AO.row [AV.str [], AV.bool false] (138 : TypeId) true, AO.row [AV.str x.2, AV.bool inv] (138 : TypeId) true]) x) ∨
      (∃ x : List UInt8, (fun _ => clsAt s f f [] = none) x ∧ e' = Exit.ret ∧ t' = (fun _ => lay 119 [(2, AV.ptr (some (0, 0))), (3, AV.int IntKind.i64 (0 : Int))]) x ∧ A' = (fun x => [AO.row [AV.str x, AV.bool inv] (138 : TypeId) true, AO.row [AV.str x, AV.bool inv] (138 : TypeId) true]) x) ∨ False) k
      (lay 119 [(0, AV.str s), (2, AV.ptr (some (0, 0))), (4, AV.ptr (some (1, 0))), (5, AV.int IntKind.i64 f), (6, AV.int IntKind.i64 f)]) [AO.row [AV.str [], AV.bool false] (138 : TypeId) true, AO.row [AV.str [], AV.bool inv] (138 : TypeId) true] := by
  refine vloop XC_ok (noRC w0) mixedC (S := Nat × List UInt8) (fun x => clsAt s f f [] = clsAt s f x.1 x.2 ∧ x.2.length ≤ 40 * x.1 ∧ x.1 ≤ s.length + 2) (fun x => s.length + 2 - x.1)
    (fun x => [(0, .str s), (2, .ptr (some (0, 0))), (4, .ptr (some (1, 0))), (5, .int .i64 x.1), (6, .int .i64 f)]) (fun x => [.row [.str [], .bool false] (138 : TypeId) true, .row [.str x.2, .bool inv] (138 : TypeId) true]) ?_ (f, []) ⟨rfl, by simp, by simp only; omega⟩
  rintro ⟨p, acc⟩ ⟨h1, h2, h3⟩ K next out
  simp only at h2 h3 next
  have hret : clsAt s f p acc = none → K Exit.ret [(0, AV.str s), (2, AV.ptr (some (0, 0))), (3, AV.int IntKind.i64 (0 : Int)), (4, AV.ptr (some (1, 0))), (5, AV.int IntKind.i64 p), (6, AV.int IntKind.i64 f)] [AO.row [AV.str acc, AV.bool inv] (138 : TypeId) true, AO.row [AV.str acc, AV.bool inv] (138 : TypeId) true] := fun h =>
    out [(2, AV.ptr (some (0, 0))), (3, AV.int IntKind.i64 (0 : Int))] _ (by simp) (Fits.slots ⟨rfl, rfl, trivial⟩ rfl) (.inr (.inl ⟨acc, by rw [h1, h], rfl, rfl, rfl⟩))
  have hexit : pcEnd s f (p, acc) → K (Exit.exit 0) [(0, AV.str s), (2, AV.ptr (some (0, 0))), (3, AV.any), (4, AV.ptr (some (1, 0))), (5, AV.int IntKind.i64 p), (6, AV.int IntKind.i64 f)] [AO.row [AV.str [], AV.bool false] (138 : TypeId) true, AO.row [AV.str acc, AV.bool inv] (138 : TypeId) true] := fun h =>
    out [(0, AV.str s), (2, AV.ptr (some (0, 0))), (4, AV.ptr (some (1, 0))), (5, AV.int IntKind.i64 p), (6, AV.int IntKind.i64 f)] _ (by simp) (Fits.slots ⟨rfl, rfl, rfl, rfl, rfl, trivial⟩ rfl) (.inl ⟨(p, acc), h, rfl, rfl, rfl⟩)
  have hnext : ∀ (q : Int) (d : Nat) (x : List UInt8), clsAt s f p acc = clsAt s f (p + d) (acc ++ x) → x.length ≤ 40 → 0 < d → p + d ≤ s.length + 2 → p < s.length → IntKind.i64.wrap q = ((p + d : Nat) : Int) → K Exit.normal [(0, AV.str s), (2, AV.ptr (some (0, 0))), (3, AV.any), (4, AV.ptr (some (1, 0))), (5, AV.int IntKind.i64 (IntKind.i64.wrap q)), (6, AV.int IntKind.i64 f)] [AO.row [AV.str [], AV.bool false] (138 : TypeId) true, AO.row [AV.str (acc ++ x), AV.bool inv] (138 : TypeId) true] := fun q d x h hx hd hd2 hp hq =>
    next (p + d, acc ++ x) ⟨by rw [h1, h], by simp only [List.length_append]; omega, hd2⟩ (by simp only; omega) (Fits.slots ⟨rfl, rfl, rfl, by rw [← hq]; rfl, rfl, trivial⟩ rfl)
  have hb : (between8 (s.getD p 0) (s.getD (p + 2) 0)).length ≤ 40 := between_length _ _
  have heq := clsAt_eq s f p acc
  have hge := h1
  refine ⟨_, _, _, _, _, Eq.mpr (nf_pcR w0 s acc inv f p _) ?_⟩
  have hch : ∀ i, (s.getD i 0).toNat = ch s i := fun _ => rfl
  simp only [decide_eq_true_eq, decide_eq_false_iff_not, beq_iff_eq, bne_iff_ne, ne_eq, beq_eq_false_iff_ne, bne_eq_false_iff_eq, List.length_singleton, hch]
  have enc : named8 (ch s p) = true → (Utf8.encode (ch s p : Int)).data.toList = [s.getD p 0] := fun h => by
    have h2 : (s.getD p 0).toNat < 128 := named_small h
    have h3 := encode_small (s.getD p 0) h2
    rw [hch] at h3
    exact h3
  have end0 : ¬ p < s.length → pcEnd s f (p, acc) := fun h => ⟨fun h2 => absurd h2.1 h, fun _ => by rw [h1, heq, if_neg h]⟩
  have end1 : p < s.length → ch s p = 93 → pcEnd s f (p, acc) := fun h h93 => ⟨fun h2 => by rw [h1, heq, if_pos h, if_pos h93, if_neg h2.2], fun h2 => by
    rw [h1, heq, if_pos h, if_pos h93, if_pos]
    by_cases hpf : p = f
    · exact hpf
    · exact absurd ⟨h, hpf⟩ h2⟩
  refine ⟨fun hp => ⟨⟨by omega, by omega⟩, fun h93 => ⟨⟨by omega, by omega⟩, SCall.boolCl (named_call _ _), ⟨fun _ hn => ?_, fun _ hn => hret ?_, trivial⟩⟩, fun h93 => hexit (end1 (by omega) (by omega))⟩, fun hp => hexit (end0 (by omega))⟩
  · have hp' : p < s.length := by omega
    rw [if_pos hp', if_neg (by omega), hn] at heq
    simp only [Bool.true_eq_false, false_or] at heq
    have one : ¬ (ch s p = 45 ∧ f < p) → (ch s p = 45 ∨ s.length ≤ p + 1 ∨ ch s (p + 1) ≠ 45) → clsAt s f p acc = clsAt s f (p + 1) (acc ++ [s.getD p 0]) := fun a b => by rw [heq, if_neg a, if_pos b]
    have bad : ¬ (ch s p = 45 ∧ f < p) → ¬ (ch s p = 45 ∨ s.length ≤ p + 1 ∨ ch s (p + 1) ≠ 45) → ¬ (p + 2 < s.length ∧ sort8 (ch s p) ≠ 0 ∧ sort8 (ch s p) = sort8 (ch s (p + 2)) ∧ ch s p ≤ ch s (p + 2)) → clsAt s f p acc = none := fun a b c => by rw [heq, if_neg a, if_neg b, if_neg c]
    have rng : ¬ (ch s p = 45 ∧ f < p) → ¬ (ch s p = 45 ∨ s.length ≤ p + 1 ∨ ch s (p + 1) ≠ 45) → (p + 2 < s.length ∧ sort8 (ch s p) ≠ 0 ∧ sort8 (ch s p) = sort8 (ch s (p + 2)) ∧ ch s p ≤ ch s (p + 2)) → clsAt s f p acc = clsAt s f (p + 3) (acc ++ between8 (s.getD p 0) (s.getD (p + 2) 0)) := fun a b c => by rw [heq, if_neg a, if_neg b, if_pos c]
    have hbt : sort8 (ch s p) ≠ 0 → sort8 (ch s p) = sort8 (ch s (p + 2)) → ch s p ≤ ch s (p + 2) → ∀ A, SCall Tryd.prog w0 87 [.int .u8 (ch s p), .int .u8 (ch s (p + 2))] A (fun v A' => v = .str (between8 (s.getD p 0) (s.getD (p + 2) 0)) ∧ A' = A) := fun h1 h2 h3 A => between_call h1 h2 h3 A
    repeat' first
      | exact True.intro
      | exact sort_call _ _
      | exact some_str (enc hn)
      | exact some_wr (by omega)
      | exact hnext _ 1 _ (one (by omega) (by omega)) (by simp) (by omega) (by omega) (by omega) (wr (by omega))
      | exact hnext _ 3 _ (rng (by omega) (by omega) (by omega)) hb (by omega) (by omega) (by omega) (wr (by omega))
      | exact hret (bad (by omega) (by omega) (by omega))
      | exact hret (by rw [heq, if_pos (by omega)])
      | exact hbt (by omega) (by omega) (by omega) _
      | omega
      | rfl
      | (refine And.intro ?_ ?_)
      | intro _
  · rw [heq, if_pos (by omega), if_neg (by omega), if_pos (.inl hn)]
/-- What parseClass answers. -/
def pcV (s : List UInt8) (v : AV) : Prop := (∃ set inv n, clsOf s = some (.cls set inv, n) ∧ 0 < n ∧ n ≤ s.length ∧ v = .tuple [.agg [.str set, .bool inv], .int .i64 (n : Nat)]) ∨ (clsOf s = none ∧ ∃ x b, v = .tuple [.agg [.str x, .bool b], .int .i64 0])
theorem clsAt_lt {s : List UInt8} {f : Nat} : ∀ (n p : Nat) (acc set : List UInt8) (q : Nat), s.length - p ≤ n → clsAt s f p acc = some (set, q) → q < s.length ∧ q ≠ f := by
  intro n
  induction n with
  | zero =>
    intro p acc set q hn h
    rw [clsAt_eq, if_neg (by omega)] at h
    cases h
  | succ n ih =>
    intro p acc set q hn h
    rw [clsAt_eq] at h
    split at h
    · split at h
      · split at h
        · cases h
        · simp only [Option.some.injEq, Prod.mk.injEq] at h
          obtain ⟨_, rfl⟩ := h
          exact ⟨by assumption, by assumption⟩
      · split at h
        · cases h
        · split at h
          · exact ih _ _ _ _ (by omega) h
          · split at h
            · exact ih _ _ _ _ (by omega) h
            · cases h
    · cases h
theorem take2_iff (s : List UInt8) (h0 : ch s 0 = 91) (h : 2 ≤ s.length) : s.take 2 = [(91 : UInt8), 94] ↔ ((s.getD 1 0).toNat == 94) = true := by
  match s, h0, h with
  | a :: b :: r, h0, _ =>
    have ha : a = 91 := by
      have : a.toNat = 91 := h0
      exact UInt8.toNat_inj.1 this
    simp only [List.take_succ_cons, List.take_zero, List.cons.injEq, and_true, ha, true_and, List.getD_cons_succ, List.getD_cons_zero, beq_iff_eq]
    exact ⟨fun h => by rw [h]; rfl, fun h => UInt8.toNat_inj.1 h⟩
theorem short_inv (s : List UInt8) (h : ¬ 2 ≤ s.length) : ((s.getD 1 0).toNat == 94) = false := by
  match s, h with
  | [], _ => rfl
  | [a], _ => rfl
  | a :: b :: r, h => simp at h
theorem pc_call (s : List UInt8) (hs : s.length ≤ 1000000) (h0 : ch s 0 = 91) {w0 : World} (A : List AO) : SCall Tryd.prog w0 67 [.str s] A fun v A' => pcV s v ∧ A' = A := by
  have key : ∀ w0, SCall Tryd.prog w0 67 [.str s] [] fun v A' => pcV s v ∧ A' = [] := by
    intro w0
    obtain ⟨inv, hi⟩ : ∃ inv : Bool, inv = ((s.getD 1 0).toNat == 94) := ⟨_, rfl⟩
    obtain ⟨f, hf⟩ : ∃ f : Nat, f = if inv then 2 else 1 := ⟨_, rfl⟩
    have hc : clsOf s = (clsAt s f f []).map fun x => (.cls x.1 inv, x.2 + 1) := by rw [clsOf, hf, hi]
    refine vcall_fits XC_ok (noRC w0) mixedC (Eq.mpr (nf_pc w0 s inv f _) ?_)
    have hnone : clsAt s f f [] = none → ∀ x b, pcV s (.tuple [.agg [.str x, .bool b], .int .i64 0]) := fun h x b => .inr ⟨by rw [hc, h]; rfl, x, b, rfl⟩
    have hsome : ∀ set q, clsAt s f f [] = some (set, q) → q < s.length → pcV s (.tuple [.agg [.str set, .bool inv], .int .i64 ((q + 1 : Nat) : Int)]) := fun set q h hq => .inl ⟨set, inv, q + 1, by rw [hc, h]; rfl, by omega, by omega, rfl⟩
    have fin : ∀ (x : List UInt8) (b : Bool) (n : Int) (A : List AO), pcV s (.tuple [.agg [.str x, .bool b], .int .i64 n]) → ∃ v3 A3, Fits 0 [.tuple [.agg [.str x, .bool b], .int .i64 n]] A [v3] A3 ∧ (pcV s v3 ∧ A3 = []) := fun x b n A h =>
      ⟨_, _, Fits.clear rfl, h, rfl⟩
    simp only [decide_eq_true_eq, decide_eq_false_iff_not, beq_iff_eq, beq_eq_false_iff_ne, ne_eq]
    have ends : ∀ x : Nat × List UInt8, pcEnd s f x → (((x.1 : Int) ≥ s.length → ∃ v3 A3, Fits 0 [AV.tuple [AV.agg [AV.str x.2, AV.bool inv], AV.int IntKind.i64 (0 : Int)]] [AO.row [AV.str x.2, AV.bool inv] 138 true, AO.row [AV.str x.2, AV.bool inv] 138 true] [v3] A3 ∧ (pcV s v3 ∧ A3 = [])) ∧
        (¬ (x.1 : Int) ≥ s.length → ((x.1 : Int) = f → ∃ v3 A3, Fits 0 [AV.tuple [AV.agg [AV.str x.2, AV.bool inv], AV.int IntKind.i64 (0 : Int)]] [AO.row [AV.str x.2, AV.bool inv] 138 true, AO.row [AV.str x.2, AV.bool inv] 138 true] [v3] A3 ∧ (pcV s v3 ∧ A3 = [])) ∧
          (¬ (x.1 : Int) = f → ∃ v3 A3, Fits 0 [AV.tuple [AV.agg [AV.str x.2, AV.bool inv], AV.int IntKind.i64 (IntKind.i64.wrap ((x.1 : Int) + (1 : Int)))]] [AO.row [AV.str x.2, AV.bool inv] 138 true, AO.row [AV.str x.2, AV.bool inv] 138 true] [v3] A3 ∧ (pcV s v3 ∧ A3 = [])))) := by
      rintro ⟨q, set⟩ ⟨e1, e2⟩
      simp only at e1 e2
      refine ⟨fun h => fin _ _ _ _ (hnone (e2 (by omega)) _ _), fun h => ⟨fun h2 => fin _ _ _ _ (hnone (e2 (by omega)) _ _), fun h2 => fin _ _ _ _ ?_⟩⟩
      rw [wr (y := ((q + 1 : Nat) : Int)) (by simp only; omega)]
      exact hsome _ _ (e1 (by omega)) (by omega)
    have rets : ∀ x : List UInt8, clsAt s f f [] = none → ∃ v3 A3, Fits 0 [AV.tuple [AV.agg [AV.str x, AV.bool inv], AV.int IntKind.i64 (0 : Int)]] [AO.row [AV.str x, AV.bool inv] 138 true, AO.row [AV.str x, AV.bool inv] 138 true] [v3] A3 ∧ (pcV s v3 ∧ A3 = []) := fun x h => fin _ _ _ _ (hnone h _ _)
    have take2 : 2 ≤ s.length → (s.take 2 = [(91 : UInt8), 94] ↔ inv = true) := fun h => by rw [hi]; exact take2_iff s h0 h
    have short : ¬ 2 ≤ s.length → inv = false := fun h => by rw [hi]; exact short_inv s h
    refine ⟨fun h1 => ⟨⟨⟨by omega, by omega⟩, trivial⟩, fun h2 => ?_, fun h2 => ?_⟩, fun h1 => ?_⟩
    · have := (take2 (by omega)).1 h2
      subst this
      have : f = 2 := hf
      subst this
      exact ⟨pc_loop s true 2 hs (by omega), ends, rets, trivial⟩
    · have : inv = false := by
        cases h : inv with
        | false => rfl
        | true => exact absurd ((take2 (by omega)).2 h) h2
      subst this
      have : f = 1 := hf
      subst this
      exact ⟨pc_loop s false 1 hs (by omega), ends, rets, trivial⟩
    · have := short (by omega)
      subst this
      have : f = 1 := hf
      subst this
      exact ⟨pc_loop s false 1 hs (by omega), ends, rets, trivial⟩
  refine SCall.pureheapR key (fun f => rfl) (fun v f h => ?_) A
  rcases h with ⟨set, inv, n, _, _, _, rfl⟩ | ⟨_, x, b, rfl⟩ <;> rfl
end Go.Proofs.YthipnddfplbamaaDoor
set_option linter.unusedVariables false
set_option linter.unusedSimpArgs false
set_option maxRecDepth 100000
namespace Go.Proofs.YthipnddfplbamaaDoor
open Go Go.Am
/-! ### A pattern -/
theorem ren_el (f : Nat → Nat) (e : El) : ren f (elAV e) = elAV e := by cases e <;> rfl
theorem low_el (k : Nat) (e : El) : low k (elAV e) = true := by cases e <;> rfl
theorem one_el (e : El) : aone (elAV e) = true := by cases e <;> rfl
def cpA (s : List UInt8) (x : Nat × List El) : List AO := if x.2 = [] then [.row [.str s, .slc none 0 0 true] 135 true] else [.row [.str s, .slc (some (1, 0)) x.2.length x.2.length false] 135 true, .row (x.2.map elAV) 181 true]
def cpS (s : List UInt8) (x : Nat × List El) : List (Nat × AV) := [(0, .str s), (2, .ptr none), (3, .int .i64 0), (4, .int .i64 0), (5, .ptr (some (0, 0))), (6, .int .i64 x.1)]
theorem cp_fits1 (s : List UInt8) (q : Int) (p' : Nat) (els : List El) (e : El) (g : List AO) (h : q = p') (j : Nat) (hj : j = g.length + 2) :
    Fits 1 (lay 100 [(0, .str s), (2, .ptr none), (3, .int .i64 0), (4, .int .i64 0), (5, .ptr (some (0, 0))), (6, .int .i64 q)]) ([.row [.str s, .slc (some (j, 0)) (els.length + 1) (els.length + 1) false] 135 true, .dead] ++ g ++ [.row (els.map elAV ++ [elAV e]) 181 true])
      (lay 100 (cpS s (p', els ++ [e]))) (cpA s (p', els ++ [e])) := by
  subst h hj
  have hA : cpA s (p', els ++ [e]) = [.row [.str s, .slc (some (1, 0)) (els.length + 1) (els.length + 1) false] 135 true, .row (els.map elAV ++ [elAV e]) 181 true] := by
    unfold cpA; rw [if_neg (by simp)]; simp
  rw [hA]
  refine Fits.slotsP (f := pickF [0, g.length + 2] _) (pick_map (by rfl) (by simp) (by simp) ?_) ⟨rfl, rfl, rfl, rfl, rfl, rfl, trivial⟩
  have e1 : ∀ f, renL f (els.map elAV ++ [elAV e]) = els.map elAV ++ [elAV e] := fun f => by
    rw [show els.map elAV ++ [elAV e] = (els ++ [e]).map elAV by simp]
    exact renL_map _ (ren_el _)
  simp only [List.map_cons, List.map_nil, renO, e1]
  congr 1
  congr 1
  rw [List.getElem?_append_right (by simp)]
  simp
theorem cp_fits0 (s : List UInt8) (q : Int) (p' : Nat) (e : El) (g : List AO) (h : q = p') (j : Nat) (hj : j = g.length + 1) :
    Fits 1 (lay 100 [(0, .str s), (2, .ptr none), (3, .int .i64 0), (4, .int .i64 0), (5, .ptr (some (0, 0))), (6, .int .i64 q)]) ([.row [.str s, .slc (some (j, 0)) 1 1 false] 135 true] ++ g ++ [.row [elAV e] 181 true])
      (lay 100 (cpS s (p', [e]))) (cpA s (p', [e])) := by
  subst h hj
  have hA : cpA s (p', [e]) = [.row [.str s, .slc (some (1, 0)) 1 1 false] 135 true, .row [elAV e] 181 true] := by
    unfold cpA; rw [if_neg (by simp)]; simp
  rw [hA]
  refine Fits.slotsP (f := pickF [0, g.length + 1] _) (pick_map (by rfl) (by simp) (by simp) ?_) ⟨rfl, rfl, rfl, rfl, rfl, rfl, trivial⟩
  simp only [List.map_cons, List.map_nil, renO, renL, ren_el]
  congr 1
  congr 1
  rw [List.getElem?_append_right (by simp)]
  simp
theorem cplAt_eq (s : List UInt8) (p : Nat) (acc : List El) : cplAt s p acc = if p < s.length then (if named8 (ch s p) = true then cplAt s (p + 1) (acc ++ [.one (s.getD p 0)]) else if ch s p = 63 then cplAt s (p + 1) (acc ++ [.cls [] true]) else if ch s p = 42 then cplAt s (p + 1) (acc ++ [.star])
    else if ch s p = 91 then (match clsOf (s.drop p) with | none => .inr (p, 3) | some (e, n) => cplAt s (p + max n 1) (acc ++ [e])) else .inr (p, 6)) else .inl acc := by
  rw [cplAt]; rfl
theorem cp_loop {w0 : World} (s : List UInt8) (hs : s.length ≤ 1000000) (h0 : s ≠ []) :
    ∃ k, SRoundsB Tryd.prog w0 1 false L46_7 (fun e' t' A' => (∃ x : List El, (fun els => cplAt s 0 [] = .inl els ∧ els ≠ []) x ∧ e' = Exit.exit 1 ∧ t' = (fun _ => lay 100 [(5, AV.ptr (some (0, 0)))]) x ∧ A' = (fun els => [AO.row [AV.str s, AV.slc (some (1, 0)) els.length els.length false] (135 : TypeId) true, AO.row (els.map elAV) (181 : TypeId) true]) x) ∨
      (∃ x : Nat × Nat, (fun x => cplAt s 0 [] = .inr x) x ∧ e' = Exit.ret ∧ t' = (fun x => lay 100 [(2, AV.ptr none), (3, AV.int IntKind.i64 x.1), (4, AV.int IntKind.i64 x.2)]) x ∧ A' = (fun _ => [AO.row [AV.str s, AV.any] (135 : TypeId) true]) x) ∨ False) k
      (lay 100 (cpS s (0, []))) [AO.row [AV.str s, AV.slc none 0 0 true] (135 : TypeId) true] := by
  refine vloop XC_ok (noRC w0) mixedC (S := Nat × List El) (fun x => cplAt s 0 [] = cplAt s x.1 x.2 ∧ (x.2 = [] → x.1 = 0) ∧ x.2.length ≤ x.1 ∧ x.1 ≤ s.length) (fun x => s.length - x.1) (cpS s) (cpA s) ?_ (0, []) ⟨rfl, fun _ => rfl, by simp, Nat.zero_le _⟩
  rintro ⟨p, els⟩ ⟨h1, h2, h3, h4⟩ K next out
  simp only at h1 h2 h3 h4 next
  have heq := cplAt_eq s p els
  have hch : ∀ i, (s.getD i 0).toNat = ch s i := fun _ => rfl
  have enc := @named_small (ch s p)
  have good : ∀ (d : Nat) (e : El), cplAt s p els = cplAt s (p + d) (els ++ [e]) → 0 < d → p + d ≤ s.length → (cplAt s 0 [] = cplAt s (p + d) (els ++ [e]) ∧ (els ++ [e] = [] → p + d = 0) ∧ (els ++ [e]).length ≤ p + d ∧ p + d ≤ s.length) := fun d e h hd hle =>
    ⟨by rw [h1, h], by simp, by simp; omega, hle⟩
  have hend : ¬ p < s.length → cplAt s 0 [] = .inl els ∧ els ≠ [] := fun h => ⟨by rw [h1, heq, if_neg h], fun e => by
    have := h2 e
    have hl : 0 < s.length := List.length_pos_iff.2 h0
    omega⟩
  have step1 : p < s.length → named8 (ch s p) = true → cplAt s p els = cplAt s (p + 1) (els ++ [.one (s.getD p 0)]) := fun a b => by rw [heq, if_pos a, if_pos b]
  have step2 : p < s.length → named8 (ch s p) = false → ch s p = 63 → cplAt s p els = cplAt s (p + 1) (els ++ [.cls [] true]) := fun a b c => by rw [heq, if_pos a, b, if_neg (by simp), if_pos c]
  have step3 : p < s.length → named8 (ch s p) = false → ch s p ≠ 63 → ch s p = 42 → cplAt s p els = cplAt s (p + 1) (els ++ [.star]) := fun a b c d => by rw [heq, if_pos a, b, if_neg (by simp), if_neg c, if_pos d]
  have step4 : p < s.length → named8 (ch s p) = false → ch s p ≠ 63 → ch s p ≠ 42 → ch s p = 91 → cplAt s p els = (match clsOf (s.drop p) with | none => .inr (p, 3) | some (e, n) => cplAt s (p + max n 1) (els ++ [e])) := fun a b c d e => by rw [heq, if_pos a, b, if_neg (by simp), if_neg c, if_neg d, if_pos e]
  have step5 : p < s.length → named8 (ch s p) = false → ch s p ≠ 63 → ch s p ≠ 42 → ch s p ≠ 91 → cplAt s p els = .inr (p, 6) := fun a b c d e => by rw [heq, if_pos a, b, if_neg (by simp), if_neg c, if_neg d, if_neg e]
  have hpc : ∀ A, p < s.length → ch s p = 91 → SCall Tryd.prog w0 67 [AV.str (s.drop p)] A fun v' A' => (∃ x : List UInt8 × Bool × Nat, (fun x => clsOf (s.drop p) = some (El.cls x.1 x.2.1, x.2.2) ∧ 0 < x.2.2 ∧ x.2.2 ≤ (s.drop p).length) x ∧ v' = (fun x => AV.tuple [AV.agg [AV.str x.1, AV.bool x.2.1], AV.int IntKind.i64 x.2.2]) x ∧ A' = (fun _ => A) x) ∨
      (∃ x : List UInt8 × Bool, (fun _ => clsOf (s.drop p) = none) x ∧ v' = (fun x => AV.tuple [AV.agg [AV.str x.1, AV.bool x.2], AV.int IntKind.i64 (0 : Int)]) x ∧ A' = (fun _ => A) x) ∨ False := fun A hp h =>
    (pc_call (s.drop p) (by simp; omega) (by simpa [ch, List.getD_eq_getElem?_getD] using h) A).mono fun v A' ⟨g1, g2⟩ => by
      rcases g1 with ⟨set, inv, n, a, b, c, d⟩ | ⟨a, x, b, c⟩
      · exact .inl ⟨(set, inv, n), ⟨a, b, c⟩, d, g2⟩
      · exact .inr (.inl ⟨(x, b), a, c, g2⟩)
  by_cases he : els = []
  · subst he
    have hA : cpA s (p, []) = [.row [.str s, .slc none 0 0 true] 135 true] := by simp [cpA]
    rw [hA]
    have hn : ∀ (q : Int) (d : Nat) (e : El) (g : List AO) (j : Nat), j = g.length + 1 → cplAt s p [] = cplAt s (p + d) [e] → 0 < d → p + d ≤ s.length → p < s.length → q = ((p + d : Nat) : Int) → K Exit.normal [(0, AV.str s), (2, AV.ptr none), (3, AV.int IntKind.i64 0), (4, AV.int IntKind.i64 0), (5, AV.ptr (some (0, 0))), (6, AV.int IntKind.i64 q)] ([.row [.str s, .slc (some (j, 0)) 1 1 false] 135 true] ++ g ++ [.row [elAV e] 181 true]) :=
      fun q d e g j hj a b c c2 hq => next (p + d, [e]) (good d e a b c) (by simp only; omega) (cp_fits0 s q (p + d) e g hq j hj)
    have hr : ∀ (a b : Nat) (g : List AO), cplAt s p [] = .inr (a, b) → K Exit.ret [(0, AV.str s), (2, AV.ptr none), (3, AV.int IntKind.i64 a), (4, AV.int IntKind.i64 b), (5, AV.ptr (some (0, 0))), (6, AV.int IntKind.i64 p)] ([.row [.str s, .slc none 0 0 true] 135 true] ++ g) := fun a b g h =>
      out [(2, AV.ptr none), (3, AV.int IntKind.i64 a), (4, AV.int IntKind.i64 b)] [.row [.str s, .any] 135 true] (by simp) (by
        refine ((Fits.slots (ps3 := [(2, AV.ptr none), (3, AV.int IntKind.i64 a), (4, AV.int IntKind.i64 b)]) ?_ rfl).trans (Fits.drop (by simp) rfl rfl)).trans (Fits.lessA _ (lessA.cons (lessO.row (LessL.cons (.refl _) (LessL.cons (.any _) .nil))) .nil))
        exact ⟨rfl, rfl, rfl, trivial⟩) (.inr (.inl ⟨(a, b), by rw [h1, h], rfl, rfl, rfl⟩))
    refine ⟨_, _, _, _, _, Eq.mpr (nf_cp0 w0 s p _) ?_⟩
    simp only [decide_eq_true_eq, decide_eq_false_iff_not, beq_iff_eq, ne_eq, beq_eq_false_iff_ne, hch]
    refine ⟨fun hp => ⟨⟨by omega, by omega⟩, SCall.boolCl (named_call _ _), ⟨fun _ hn1 => hn _ 1 (.one (s.getD p 0)) [_] _ rfl (step1 (by omega) hn1) (by omega) (by omega) (by omega) (wr (by omega)), fun _ hn0 => ⟨fun c1 => hn _ 1 (.cls [] true) [_] _ rfl (step2 (by omega) hn0 (by omega)) (by omega) (by omega) (by omega) (wr (by omega)), fun c1 => ⟨fun c2 => hn _ 1 .star [_] _ rfl (step3 (by omega) hn0 (by omega) (by omega)) (by omega) (by omega) (by omega) (wr (by omega)), fun c2 => ⟨fun c3 => ⟨⟨trivial, by omega, by omega⟩, hpc _ (by omega) (by omega), ⟨?_, ?_, trivial⟩⟩, fun c3 => hr p 6 [] (step5 (by omega) hn0 (by omega) (by omega) (by omega))⟩⟩⟩, trivial⟩⟩, fun hp => ?_⟩
    · rintro ⟨set, inv, n⟩ ⟨g1, g2, g3⟩
      simp only at g1 g2 g3 ⊢
      refine ⟨fun g => absurd g (by omega), fun g => ?_⟩
      have e4 := step4 (by omega) hn0 (by omega) (by omega) (by omega)
      rw [g1] at e4
      simp only [show max n 1 = n by omega] at e4
      rw [List.length_drop] at g3
      refine ⟨trivial, hn _ n (.cls set inv) [_, _] _ rfl e4 (by omega) (by omega) (by omega) ?_⟩
      exact wr (by omega)
    · rintro ⟨x, b⟩ g1
      have e4 := step4 (by omega) hn0 (by omega) (by omega) (by omega)
      rw [g1] at e4
      exact hr p 3 [_] e4
    · have := h2 rfl
      have hl : 0 < s.length := List.length_pos_iff.2 h0
      omega
  · have hA : cpA s (p, els) = [.row [.str s, .slc (some (1, 0)) els.length els.length false] 135 true, .row (els.map elAV) 181 true] := by simp [cpA, he]
    rw [hA]
    have hn : ∀ (q : Int) (d : Nat) (e : El) (g : List AO) (j : Nat), j = g.length + 2 → cplAt s p els = cplAt s (p + d) (els ++ [e]) → 0 < d → p + d ≤ s.length → p < s.length → q = ((p + d : Nat) : Int) → K Exit.normal [(0, AV.str s), (2, AV.ptr none), (3, AV.int IntKind.i64 0), (4, AV.int IntKind.i64 0), (5, AV.ptr (some (0, 0))), (6, AV.int IntKind.i64 q)] ([.row [.str s, .slc (some (j, 0)) (els.length + 1) (els.length + 1) false] 135 true, .dead] ++ g ++ [.row (els.map elAV ++ [elAV e]) 181 true]) :=
      fun q d e g j hj a b c c2 hq => next (p + d, els ++ [e]) (good d e a b c) (by simp only; omega) (cp_fits1 s q (p + d) els e g hq j hj)
    have hr : ∀ (a b : Nat) (g : List AO), cplAt s p els = .inr (a, b) → K Exit.ret [(0, AV.str s), (2, AV.ptr none), (3, AV.int IntKind.i64 a), (4, AV.int IntKind.i64 b), (5, AV.ptr (some (0, 0))), (6, AV.int IntKind.i64 p)] ([.row [.str s, .slc (some (1, 0)) els.length els.length false] 135 true, .row (els.map elAV) 181 true] ++ g) := fun a b g h =>
      out [(2, AV.ptr none), (3, AV.int IntKind.i64 a), (4, AV.int IntKind.i64 b)] [.row [.str s, .any] 135 true] (by simp) (by
        refine ((Fits.slots (ps3 := [(2, AV.ptr none), (3, AV.int IntKind.i64 a), (4, AV.int IntKind.i64 b)]) ?_ rfl).trans (Fits.lessA _ (A3 := [.row [.str s, .any] 135 true] ++ (AO.row (els.map elAV) 181 true :: g)) (lessA.cons (lessO.row (LessL.cons (.refl _) (LessL.cons (.any _) .nil))) (lessA.refl _)))).trans (Fits.drop (by simp) rfl rfl)
        exact ⟨rfl, rfl, rfl, trivial⟩) (.inr (.inl ⟨(a, b), by rw [h1, h], rfl, rfl, rfl⟩))
    refine ⟨_, _, _, _, _, Eq.mpr (nf_cp1 w0 s p els.length (els.map elAV) _) ?_⟩
    have hl : els.length * 1 = (els.map elAV).length := by simp
    simp only [decide_eq_true_eq, decide_eq_false_iff_not, beq_iff_eq, ne_eq, beq_eq_false_iff_ne, hch]
    refine ⟨fun hp => ⟨⟨by omega, by omega⟩, SCall.boolCl (named_call _ _), ⟨fun _ hn1 => ⟨⟨trivial, rfl, by omega, hl, by omega, by omega⟩, hn _ 1 (.one (s.getD p 0)) [_] _ rfl (step1 (by omega) hn1) (by omega) (by omega) (by omega) (wr (by omega))⟩, fun _ hn0 => ⟨fun c1 => ⟨⟨trivial, rfl, by omega, hl, by omega, by omega⟩, hn _ 1 (.cls [] true) [_] _ rfl (step2 (by omega) hn0 (by omega)) (by omega) (by omega) (by omega) (wr (by omega))⟩, fun c1 => ⟨fun c2 => ⟨⟨trivial, rfl, by omega, hl, by omega, by omega⟩, hn _ 1 .star [_] _ rfl (step3 (by omega) hn0 (by omega) (by omega)) (by omega) (by omega) (by omega) (wr (by omega))⟩, fun c2 => ⟨fun c3 => ⟨⟨trivial, by omega, by omega⟩, hpc _ (by omega) (by omega), ⟨?_, ?_, trivial⟩⟩, fun c3 => hr p 6 [] (step5 (by omega) hn0 (by omega) (by omega) (by omega))⟩⟩⟩, trivial⟩⟩, fun hp => ?_⟩
    · rintro ⟨set, inv, n⟩ ⟨g1, g2, g3⟩
      simp only at g1 g2 g3 ⊢
      refine ⟨fun g => absurd g (by omega), fun g => ⟨⟨trivial, rfl, by omega, hl, by omega, by omega⟩, ?_⟩⟩
      have e4 := step4 (by omega) hn0 (by omega) (by omega) (by omega)
      rw [g1] at e4
      simp only [show max n 1 = n by omega] at e4
      rw [List.length_drop] at g3
      refine ⟨trivial, hn _ n (.cls set inv) [_, _] _ rfl e4 (by omega) (by omega) (by omega) ?_⟩
      exact wr (by omega)
    · rintro ⟨x, b⟩ g1
      have e4 := step4 (by omega) hn0 (by omega) (by omega) (by omega)
      rw [g1] at e4
      exact hr p 3 [_] e4
    · exact out [(5, AV.ptr (some (0, 0)))] _ (by simp) (Fits.slots ⟨rfl, trivial⟩ rfl) (.inl ⟨els, hend (by omega), rfl, rfl, rfl⟩)
/-- What Compile leaves. -/
def cpR (s : List UInt8) (n : Nat) (v : AV) (N : List AO) : Prop :=
  (∃ k e, compile8 s = .inr (k, e) ∧ v = .tuple [.ptr none, .int .i64 (k : Nat), .int .i64 (e : Nat)] ∧ N = []) ∨
  (∃ els, compile8 s = .inl els ∧ v = .tuple [.ptr (some (n, 0)), .int .i64 0, .int .i64 0] ∧ N = [.row [.str s, .slc (some (n + 1, 0)) els.length els.length false] 135 true, .row (els.map elAV) 181 true])
theorem compile_call (s : List UInt8) (hs : s.length ≤ 1000000) {w0 : World} (A : List AO) : SCall Tryd.prog w0 46 [.str s] A fun v A' => ∃ N, cpR s A.length v N ∧ A' = A ++ N := by
  have key : ∀ w0, SCall Tryd.prog w0 46 [.str s] [] fun v A' => cpR s 0 v A' := by
    intro w0
    refine vcall_fits XC_ok (noRC w0) mixedC (Eq.mpr (nf_cp w0 s _) ?_)
    simp only [decide_eq_true_eq, decide_eq_false_iff_not, beq_iff_eq, beq_eq_false_iff_ne, ne_eq]
    refine ⟨fun h => ⟨_, _, Fits.refl _ _, .inl ⟨0, 4, by rw [h]; rfl, rfl, rfl⟩⟩, fun h => ⟨fun h2 => ⟨_, _, Fits.refl _ _, .inl ⟨80, 5, ?_, rfl, rfl⟩⟩, fun h2 => ⟨cp_loop s hs h, fun els h3 => ⟨_, _, Fits.refl _ _, .inr ⟨els, ?_, rfl, rfl⟩⟩, fun x h3 => ⟨_, _, Fits.clear rfl, .inl ⟨x.1, x.2, ?_, rfl, rfl⟩⟩, trivial⟩⟩⟩
    · unfold compile8; rw [if_neg (by omega), if_pos (by omega)]
    · unfold compile8; rw [if_neg (by have := List.length_pos_iff.2 h; omega), if_neg (by omega)]; exact h3.1
    · unfold compile8; rw [if_neg (by have := List.length_pos_iff.2 h; omega), if_neg (by omega)]; exact h3
  refine (fresh_callR (f := fun k => A.length + k) (B := []) (A := A) (args := [.str s]) (qargs := [.str s]) key (fun v A' h => ⟨A', rfl, ?_⟩) (fun k o hk => by simp at hk) (fun k _ => by simp) rfl).mono fun v A' ⟨v0, N, h1, h2, h3⟩ => ?_
  · rcases h with ⟨_, _, _, _, rfl⟩ | ⟨_, _, _, rfl⟩
    · simp
    · intro o ho
      simp only [List.mem_cons, List.mem_nil_iff, or_false] at ho
      rcases ho with rfl | rfl <;> exact ⟨_, _, rfl⟩
  · rcases h1 with ⟨k, e, a, rfl, b⟩ | ⟨els, a, rfl, b⟩
    · simp only [List.nil_append] at b
      subst b
      exact ⟨[], .inl ⟨k, e, a, h2, rfl⟩, h3⟩
    · simp only [List.nil_append] at b
      subst b
      refine ⟨_, .inr ⟨els, a, h2, rfl⟩, ?_⟩
      rw [h3]
      simp only [List.map_cons, List.map_nil, renO, renL, ren, renL_map _ (ren_el _)]
end Go.Proofs.YthipnddfplbamaaDoor
