/- A part of the proof: Pw1, Pw2. -/
import Derived.Lib.Bytealg
set_option linter.unusedVariables false
/-! Plain functions: what wildmat and msgid compute. No program in sight. -/
namespace Go.Am
open Go

/-! ### Characters (numbers of bytes) -/
def low8 (c : Nat) : Bool := decide (97 ≤ c) && decide (c ≤ 122)
def dig8 (c : Nat) : Bool := decide (48 ≤ c) && decide (c ≤ 57)
def named8 (c : Nat) : Bool := low8 c || dig8 c || c == 43 || c == 45 || c == 46 || c == 95
def sort8 (c : Nat) : Nat := if low8 c then 1 else if dig8 c then 2 else 0
/-- The name characters in increasing order. -/
def chars8 : List UInt8 := [43, 45, 46, 48, 49, 50, 51, 52, 53, 54, 55, 56, 57, 95, 97, 98, 99, 100, 101, 102, 103, 104, 105, 106, 107, 108, 109, 110, 111, 112, 113, 114, 115, 116, 117, 118, 119, 120, 121, 122]
theorem named_index : ∀ c : UInt8, decide (Lib.indexByte chars8 c ≥ 0) = named8 c.toNat := by
  intro c
  have h : ∀ n : Fin 256, decide (Lib.indexByte chars8 (UInt8.ofNat n.val) ≥ 0) = named8 n.val := by decide +kernel
  have := h ⟨c.toNat, c.toNat_lt⟩
  simpa using this
/-- Where a letter or digit stands among them. -/
def place8 (c : Nat) : Nat := if low8 c then c - 83 else c - 45
theorem place_index : ∀ c : UInt8, sort8 c.toNat ≠ 0 → Lib.indexByte chars8 c = (place8 c.toNat : Int) := by
  intro c
  have h : ∀ n : Fin 256, sort8 n.val ≠ 0 → Lib.indexByte chars8 (UInt8.ofNat n.val) = (place8 n.val : Int) := by decide +kernel
  have := h ⟨c.toNat, c.toNat_lt⟩
  simpa using this
/-! ### Lists of patterns -/
inductive El where
  | one (c : UInt8)
  | cls (set : List UInt8) (inv : Bool)
  | star
deriving DecidableEq
def El.has (e : El) (c : UInt8) : Bool :=
  match e with
  | .one d => d == c
  | .cls set inv => named8 c.toNat && (set.contains c != inv)
  | .star => named8 c.toNat
def El.rep : El → Bool
  | .star => true
  | _ => false
/-- The characters from one to another of the same sort. -/
def between8 (a b : UInt8) : List UInt8 := (chars8.drop (place8 a.toNat)).take (place8 b.toNat + 1 - place8 a.toNat)
/-- A class from place p on: its set, and where its end stands. -/
def clsAt (s : List UInt8) (first p : Nat) (acc : List UInt8) : Option (List UInt8 × Nat) :=
  if p < s.length then
    if (s.getD p 0).toNat = 93 then (if p = first then none else some (acc, p))
    else if named8 (s.getD p 0).toNat = false ∨ ((s.getD p 0).toNat = 45 ∧ first < p) then none
    else if (s.getD p 0).toNat = 45 ∨ s.length ≤ p + 1 ∨ (s.getD (p + 1) 0).toNat ≠ 45 then clsAt s first (p + 1) (acc ++ [s.getD p 0])
    else if p + 2 < s.length ∧ sort8 (s.getD p 0).toNat ≠ 0 ∧ sort8 (s.getD p 0).toNat = sort8 (s.getD (p + 2) 0).toNat ∧ (s.getD p 0).toNat ≤ (s.getD (p + 2) 0).toNat then clsAt s first (p + 3) (acc ++ between8 (s.getD p 0) (s.getD (p + 2) 0))
    else none
  else none
termination_by s.length - p
/-- The class at the beginning of a string: set, inverse, length. -/
def clsOf (s : List UInt8) : Option (El × Nat) :=
  let inv := (s.getD 1 0).toNat == 94
  let f := if inv then 2 else 1
  (clsAt s f f []).map fun x => (.cls x.1 inv, x.2 + 1)
/-- The elements from place p on, or where the error is, and which. -/
def cplAt (s : List UInt8) (p : Nat) (acc : List El) : List El ⊕ (Nat × Nat) :=
  if p < s.length then
    if named8 (s.getD p 0).toNat = true then cplAt s (p + 1) (acc ++ [.one (s.getD p 0)])
    else if (s.getD p 0).toNat = 63 then cplAt s (p + 1) (acc ++ [.cls [] true])
    else if (s.getD p 0).toNat = 42 then cplAt s (p + 1) (acc ++ [.star])
    else if (s.getD p 0).toNat = 91 then match clsOf (s.drop p) with
      | none => .inr (p, 3)
      | some (e, n) => cplAt s (p + max n 1) (acc ++ [e])
    else .inr (p, 6)
  else .inl acc
termination_by s.length - p
def compile8 (s : List UInt8) : List El ⊕ (Nat × Nat) := if s.length = 0 then .inr (0, 4) else if 80 < s.length then .inr (80, 5) else cplAt s 0 []
/-- A string's parts. -/
def splitB (c : UInt8) : List UInt8 → List (List UInt8)
  | [] => [[]]
  | x :: r => if x == c then [] :: splitB c r else match splitB c r with
    | [] => [[x]]
    | h :: t => (x :: h) :: t
theorem splitB_none {c : UInt8} : ∀ {s : List UInt8}, Lib.indexByte s c = -1 → splitB c s = [s]
  | [], _ => rfl
  | x :: r, h => by
    unfold Lib.indexByte at h
    split at h
    · cases h
    · rename_i hx
      split at h
      · rename_i h2
        simp only [splitB, if_neg hx, splitB_none (eq_of_beq h2)]
      · have := Lib.indexByte_ge r c
        rename_i h2
        simp at h2
        exact absurd h (by omega)
theorem splitB_some {c : UInt8} : ∀ {s : List UInt8} {m : Nat}, Lib.indexByte s c = (m : Int) → splitB c s = s.take m :: splitB c (s.drop (m + 1))
  | [], m, h => by simp [Lib.indexByte] at h
  | x :: r, m, h => by
    unfold Lib.indexByte at h
    split at h
    · rename_i hx
      obtain rfl : m = 0 := by omega
      simp [splitB, hx]
    · rename_i hx
      split at h
      · omega
      · have := Lib.indexByte_ge r c
        rename_i h2
        simp at h2
        obtain ⟨k, rfl⟩ : ∃ k, m = k + 1 := ⟨m - 1, by omega⟩
        have h3 : Lib.indexByte r c = (k : Int) := by omega
        simp only [splitB, if_neg hx, splitB_some h3, List.take_succ_cons, List.drop_succ_cons]
theorem splitB_length (c : UInt8) : ∀ s : List UInt8, (splitB c s).length = Lib.countByte s c + 1
  | [] => rfl
  | x :: r => by
    have ih := splitB_length c r
    simp only [splitB, Lib.countByte, List.count_cons] at *
    cases hx : x == c with
    | true => simp [ih]
    | false =>
      simp only [Bool.false_eq_true, if_false, Nat.add_zero]
      cases e : splitB c r with
      | nil => rw [e] at ih; simp at ih
      | cons h t => rw [e] at ih; simpa using ih
/-- A part of a list of patterns: its verdict, and what stands behind the sign. -/
def verdict8 (s : List UInt8) : Nat := if s.length ≠ 0 ∧ (s.getD 0 0).toNat = 33 then 2 else if s.length ≠ 0 ∧ (s.getD 0 0).toNat = 64 then 3 else 1
def part8 (s : List UInt8) : List UInt8 := if verdict8 s = 1 then s else s.drop 1
/-- The items of a list of patterns, or the error: n items stand already, the next part begins at place p. -/
def itemsAt (n p : Nat) : List (List UInt8) → List (Nat × List El) ⊕ (Nat × Nat)
  | [] => .inl []
  | s :: r => if n = 64 then .inr (p, 9) else match compile8 (part8 s) with
    | .inr (k, e) => .inr (p + (if verdict8 s = 1 then 0 else 1) + k, e)
    | .inl els => match itemsAt (n + 1) (p + s.length + 1) r with
      | .inr x => .inr x
      | .inl l => .inl ((verdict8 s, els) :: l)
def list8 (s : List UInt8) : List (Nat × List El) ⊕ (Nat × Nat) := if s.length = 0 then .inr (0, 4) else itemsAt 0 0 (splitB 44 s)
def pfx8 (x : List UInt8) (c : UInt8) : Bool := x.take 1 == [c]
def errOf {α : Type} : α ⊕ (Nat × Nat) → Nat
  | .inl _ => 0
  | .inr x => x.2
end Go.Am
set_option linter.unusedVariables false
/-! Plain functions: names of sites, distributions. -/
namespace Go.Am
open Go
def perm8 (c : Nat) : Bool := low8 c || dig8 c || c == 45 || c == 46
def mis8 (s : List UInt8) (i : Nat) : Bool := if i = 0 then !low8 (s.getD i 0).toNat else ((s.getD i 0).toNat == 46 && (s.getD (i - 1) 0).toNat == 46) || (i + 1 == s.length && ((s.getD i 0).toNat == 45 || (s.getD i 0).toNat == 46))
def siteE (s : List UInt8) : Nat := if s.length = 0 then 4 else if 30 < s.length then 5 else if (List.range s.length).any (fun i => !perm8 (s.getD i 0).toNat) = true then 6 else if (List.range s.length).any (mis8 s) = true then 12 else 0
def dis8 (c : Nat) : Bool := low8 c || dig8 c || c == 45
def distr8 (s : List UInt8) : Bool := !(List.range s.length).any (fun i => !dis8 (s.getD i 0).toNat) && decide (s.length ≠ 0) && decide (s.length ≤ 20)
theorem any_snoc {f : Nat → Bool} {i : Nat} (h : (List.range i).any f = false) (hf : f i = false) : (List.range (i + 1)).any f = false := by
  rw [List.range_succ, List.any_append, h]; simp [hf]
theorem any_hit {f : Nat → Bool} {i n : Nat} (hi : i < n) (hf : f i = true) : (List.range n).any f = true :=
  List.any_eq_true.2 ⟨i, by simp [hi], hf⟩
theorem any_full {f : Nat → Bool} {i n : Nat} (h : (List.range i).any f = false) (e : i = n) : (List.range n).any f = false := e ▸ h
/-- The errors of a list of distributions: n stand already. -/
def distE (before : List (List UInt8)) : List (List UInt8) → Nat
  | [] => 0
  | s :: r => if distr8 s = false then 12 else if before.contains s = true then 7 else distE (before ++ [s]) r
/-- The error of a rule. -/
def ruleE (nb pt : List UInt8) (mb dl : Int) (ds : List (List UInt8)) : Nat :=
  if siteE nb ≠ 0 then siteE nb else if errOf (list8 pt) ≠ 0 then errOf (list8 pt) else if mb < 0 ∨ mb > 65536 ∨ dl < 0 ∨ dl > 20160 then 2 else if ds.length > 8 then 9 else distE [] ds
end Go.Am
