/- A part of the proof: Am18. -/
import Derived.Test.YthipnddfplbamaaDoorAm17
set_option linter.unusedVariables false
set_option linter.unusedSimpArgs false
namespace Go.Am
open Go.RowKit

/-! ### Equality of abstract values, computed -/
mutual
def avEq : AV → AV → Bool
  | .bool a, .bool b => a == b
  | .int j a, .int k b => decide (j = k) && a == b
  | .str a, .str b => a == b
  | .ptr a, .ptr b => a == b
  | .slc a n c e, .slc b n' c' e' => a == b && n == n' && c == c' && e == e'
  | .map a, .map b => a == b
  | .func f x y, .func g x' y' => decide (f = g) && avsEq x x' && avsEq y y'
  | .nilFunc, .nilFunc => true
  | .yld a, .yld b => a == b
  | .iface t v, .iface u x => t == u && avEq v x
  | .nilIface, .nilIface => true
  | .agg x, .agg y => avsEq x y
  | .tuple x, .tuple y => avsEq x y
  | _, _ => false
def avsEq : List AV → List AV → Bool
  | [], [] => true
  | x :: r, y :: s => avEq x y && avsEq r s
  | _, _ => false
end

mutual
theorem avEq_eq : ∀ (x y : AV), avEq x y = true → x = y
  | .bool a, y, h => by cases y <;> simp_all [avEq]
  | .int j a, y, h => by cases y <;> simp_all [avEq]
  | .str a, y, h => by cases y <;> simp_all [avEq]
  | .ptr a, y, h => by cases y <;> simp_all [avEq]
  | .slc a n c e, y, h => by cases y <;> simp_all [avEq]
  | .map a, y, h => by cases y <;> simp_all [avEq]
  | .func f x1 x2, y, h => by
    cases y <;> simp only [avEq, Bool.and_eq_true, decide_eq_true_eq, Bool.false_eq_true] at h
    obtain ⟨⟨rfl, h1⟩, h2⟩ := h
    rw [avsEq_eq x1 _ h1, avsEq_eq x2 _ h2]
  | .nilFunc, y, h => by cases y <;> simp_all [avEq]
  | .yld a, y, h => by cases y <;> simp_all [avEq]
  | .iface t v, y, h => by
    cases y <;> simp only [avEq, Bool.and_eq_true, beq_iff_eq, Bool.false_eq_true] at h
    obtain ⟨rfl, h1⟩ := h
    rw [avEq_eq v _ h1]
  | .nilIface, y, h => by cases y <;> simp_all [avEq]
  | .agg x, y, h => by
    cases y <;> simp only [avEq, Bool.false_eq_true] at h
    rw [avsEq_eq x _ h]
  | .tuple x, y, h => by
    cases y <;> simp only [avEq, Bool.false_eq_true] at h
    rw [avsEq_eq x _ h]
theorem avsEq_eq : ∀ (x y : List AV), avsEq x y = true → x = y
  | [], y, h => by cases y <;> simp_all [avsEq]
  | x :: r, y, h => by
    cases y <;> simp only [avsEq, Bool.and_eq_true, Bool.false_eq_true] at h
    rw [avEq_eq x _ h.1, avsEq_eq r _ h.2]
end

/-! ### What hangs on what -/
def closesGo : List Oper → List Nat → List Nat
  | [], acc => acc
  | o :: r, acc => closesGo r (acc ++ [(edgesOf o).foldl (fun s e => s ||| 2 ^ e ||| acc.getD e 0) 0])
def closes (ops : Array Oper) : List Nat := closesGo ops.toList []

theorem foldl_bits (acc : List Nat) : ∀ (l : List Nat) (s j : Nat), (l.foldl (fun s e => s ||| 2 ^ e ||| acc.getD e 0) s).testBit j = true → s.testBit j = true ∨ ∃ e ∈ l, e = j ∨ (acc.getD e 0).testBit j = true := by
  intro l
  induction l with
  | nil => intro s j h; exact .inl h
  | cons x r ih =>
    intro s j h
    simp only [List.foldl_cons] at h
    rcases ih _ j h with h1 | ⟨e, he, h2⟩
    · simp only [Nat.testBit_or, Bool.or_eq_true, Nat.testBit_two_pow, decide_eq_true_eq] at h1
      rcases h1 with (h1 | h1) | h1
      · exact .inl h1
      · exact .inr ⟨x, by simp, .inl h1⟩
      · exact .inr ⟨x, by simp, .inr h1⟩
    · exact .inr ⟨e, by simp [he], h2⟩

theorem closes_reach {ops : Array Oper} {i j : Nat} (h : ((closes ops).getD i 0).testBit j = true) : Reach ops j i := by
  have key : ∀ (l : List Oper) (acc : List Nat), (∀ q, l[q]? = ops[acc.length + q]?) → (∀ i j, (acc.getD i 0).testBit j = true → Reach ops j i) → ∀ i j, ((closesGo l acc).getD i 0).testBit j = true → Reach ops j i := by
    intro l
    induction l with
    | nil => intro acc _ hacc i j h; exact hacc i j h
    | cons o r ih =>
      intro acc hl hacc i j h
      simp only [closesGo] at h
      refine ih _ (fun q => ?_) (fun i j h => ?_) i j h
      · have := hl (q + 1)
        simp only [List.getElem?_cons_succ] at this
        rw [this]; simp; congr 1; omega
      · rw [List.getD_eq_getElem?_getD] at h
        by_cases hi : i < acc.length
        · rw [List.getElem?_append_left hi] at h
          exact hacc i j (by rw [List.getD_eq_getElem?_getD]; exact h)
        · rw [List.getElem?_append_right (by omega)] at h
          by_cases hi0 : i - acc.length = 0
          · rw [hi0] at h
            simp only [List.getElem?_cons_zero, Option.getD_some] at h
            have hie : i = acc.length := by omega
            have ho : ops[i]? = some o := by have := hl 0; simp at this; rw [hie]; exact this.symm
            rcases foldl_bits acc _ _ _ h with h1 | ⟨e, he, h2⟩
            · simp at h1
            · rcases h2 with rfl | h2
              · exact .edge ho he
              · exact .step ho he (hacc e j h2)
          · rw [List.getElem?_eq_none (by simp; omega)] at h
            simp at h
  exact key ops.toList [] (fun q => by simp) (fun i j h => by simp at h) i j h

/-! ### The plan, computed -/
/-- 0: it only computes and reads; 1: it makes a block of cells; 2: anything else. -/
def okind (P : Program) (X : AExt) (o : Op) : Nat :=
  match o with
  | .move _ | .assign _ | .pick .. | .load .. | .nilCheck _ | .binOp .. | .unOp .. | .makeInterface .. | .makeFunc .. | .slice .. | .fieldAddr .. | .field .. | .indexAddr .. | .index .. | .lookup .. | .typeAssert .. | .extract .. => 0
  | .alloc _ | .box .. | .buildSlice .. => 1
  | .build .. => 0
  | .convert _ d _ => match P.underlying d with
    | some (.slice _) => 2
    | _ => 0
  | .call c => match c.callee with
    | .builtin .len | .builtin .min | .builtin .max | .builtin .unsafeSliceData => 0
    | .value (.func g) => if (X g).isSome && !isClone P g then 0 else 2
    | _ => 2
  | _ => 2

structure PInfo where
  kinds : List Nat
  dirs : List Nat
  cls : List Nat

def pinfo (P : Program) (X : AExt) (ops : Array Oper) : PInfo :=
  { kinds := ops.toList.map fun o => okind P X o.op, dirs := ops.toList.map fun o => (edgesOf o).foldl (fun s e => s ||| 2 ^ e) 0, cls := closes ops }

def pass (f : PInfo) : List Nat → Nat → List Nat × List Nat × Nat
  | [], done => ([], [], done)
  | i :: r, done =>
    let d := f.dirs.getD i 0
    if d &&& done == d && f.kinds.getD i 2 != 2 then
      let q := pass f r (done ||| 2 ^ i)
      (i :: q.1, q.2.1, q.2.2)
    else
      let q := pass f r done
      (q.1, i :: q.2.1, q.2.2)
def stagesOf (f : PInfo) : Nat → List Nat → Nat → List (List Nat × Option Nat)
  | 0, _, _ => []
  | n + 1, rem, done =>
    let q := pass f rem done
    match q.2.1.find? fun i => let d := f.dirs.getD i 0; d &&& q.2.2 == d with
    | some i => (q.1, some i) :: stagesOf f n (q.2.1.erase i) (q.2.2 ||| 2 ^ i)
    | none => [(q.1, none)]

def loOf : List (List Nat × Option Nat) → Nat → Nat
  | [], _ => 0
  | s :: r, i => if s.1.contains i || s.2 == some i then 0 else loOf r i + 1
def actsOf (sts : List (List Nat × Option Nat)) : List Nat := sts.filterMap (·.2)
def hiOf (cls : List Nat) : List Nat → Nat → Nat
  | [], _ => 0
  | a :: r, i => if a == i || (cls.getD a 0).testBit i then 0 else hiOf cls r i + 1

/-- All that write slot d come before, or behind. -/
def soonB (ops : Array Oper) (o : Oper) (d : Nat) : Bool := (List.range ops.size).all fun j => !(dstOf ops j == some d) || (edgesOf o).contains j
def lateB (ops : Array Oper) (i d : Nat) : Bool := (List.range ops.size).all fun j => !(dstOf ops j == some d) || match ops[j]? with | some o' => (edgesOf o').contains i | none => false
def lateOf (ops : Array Oper) (o : Oper) : List Nat := (needs ops o).filter fun d => !soonB ops o d
def viewOf (t0 tn : List AV) : List Nat → List AV
  | [] => tn
  | d :: r => (viewOf t0 tn r).set d ((t0[d]?).getD aundef)

/-- What holds of the region, whatever its values. -/
def staticB (ops : Array Oper) (f : PInfo) (sts : List (List Nat × Option Nat)) : Bool :=
  let acts := actsOf sts
  let n := ops.size
  (List.range n).all fun i =>
    match ops[i]? with
    | none => false
    | some o =>
      ((edgesOf o).all fun e => e < i) &&
      ((needs ops o).all fun d => soonB ops o d || lateB ops i d) &&
      (loOf sts i == 0 || match acts[loOf sts i - 1]? with | some a => (f.cls.getD i 0).testBit a | none => false) &&
      ((f.kinds.getD i 2 == 2) == acts.contains i)

def actsB (sts : List (List Nat × Option Nat)) (f : PInfo) (n : Nat) : Bool :=
  let acts := actsOf sts
  (List.range acts.length).all fun j => match acts[j]? with
    | some i => loOf sts i == j && hiOf f.cls acts i == j && i < n
    | none => false
end Go.Am
