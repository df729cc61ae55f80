/- A part of the proof: Am33. -/
import Derived.Test.YthbdelhaedbgcaaAm32
set_option linter.unusedVariables false
set_option linter.unusedSimpArgs false
namespace Go.Am
open Go.RowKit

/-! ### Maps from numbers to numbers, told by a list -/
def intEs (k k2 : IntKind) (l : List (Int × Int)) : List (AV × AV) := l.map fun p => (.int k p.1, .int k2 p.2)
def ilook : List (Int × Int) → Int → Option Int
  | [], _ => none
  | p :: r, d => if d = p.1 then some p.2 else ilook r d
def iput : List (Int × Int) → Int → Int → List (Int × Int)
  | [], d, v => [(d, v)]
  | p :: r, d, v => if d = p.1 then (d, v) :: r else p :: iput r d v
theorem ilook_iput (l : List (Int × Int)) (d v e : Int) : ilook (iput l d v) e = if e = d then some v else ilook l e := by
  induction l with
  | nil => simp [iput, ilook]
  | cons p r ih =>
    by_cases h : d = p.1
    · simp only [iput, if_pos h, ilook]
      by_cases h2 : e = d
      · simp [h2]
      · rw [if_neg h2, if_neg h2, if_neg (by omega)]
    · simp only [iput, if_neg h, ilook]
      by_cases h2 : e = p.1
      · rw [if_pos h2, if_pos h2, if_neg (by omega)]
      · rw [if_neg h2, if_neg h2, ih]
section
variable {P : Program} {kt : TypeId} {k k2 : IntKind}
theorem aeqIn_int (hk : P.underlying kt = some (.int k)) (a b : Int) : aeqIn P 64 kt (.int k a) (.int k b) = some (a == b) := by
  rw [show (64 : Nat) = 63 + 1 from rfl]
  unfold aeqIn
  rw [hk]
  simp
theorem acheckKey_int (hk : P.underlying kt = some (.int k)) (a : Int) : acheckKey P 64 kt (.int k a) = true := by
  rw [show (64 : Nat) = 63 + 1 from rfl]
  unfold acheckKey
  rw [hk]
def iidx : List (Int × Int) → Int → Nat → Option Nat
  | [], _, _ => none
  | p :: r, d, i => if d = p.1 then some i else iidx r d (i + 1)
theorem afind_int (hk : P.underlying kt = some (.int k)) (d : Int) : ∀ (l : List (Int × Int)) (i : Nat), afind P kt (.int k d) (intEs k k2 l) i = some (iidx l d i) := by
  intro l
  induction l with
  | nil => intro i; rfl
  | cons p r ih =>
    intro i
    simp only [intEs, List.map_cons, afind, aeqIn_int hk, iidx]
    by_cases h : d = p.1
    · simp [h]
    · have : (d == p.1) = false := by simpa using h
      rw [this, if_neg h]
      exact ih (i + 1)
theorem iidx_some : ∀ {l : List (Int × Int)} {d : Int} {i j : Nat}, iidx l d i = some j → ∃ q v, j = i + q ∧ l[q]? = some (d, v) ∧ ilook l d = some v ∧ ∀ u, l.set q (d, u) = iput l d u := by
  intro l
  induction l with
  | nil => intro d i j h; simp [iidx] at h
  | cons p r ih =>
    intro d i j h
    simp only [iidx] at h
    split at h
    · rename_i hd
      simp at h; subst h hd
      exact ⟨0, p.2, rfl, rfl, by simp [ilook], fun u => by simp [iput]⟩
    · rename_i hd
      obtain ⟨q, v, h1, h2, h3, h4⟩ := ih h
      exact ⟨q + 1, v, by omega, by simpa using h2, by simp [ilook, hd, h3], fun u => by simp [iput, hd, h4]⟩
theorem iidx_none : ∀ {l : List (Int × Int)} {d : Int} {i : Nat}, iidx l d i = none → ilook l d = none ∧ ∀ u, l ++ [(d, u)] = iput l d u := by
  intro l
  induction l with
  | nil => intro d i _; exact ⟨rfl, fun u => rfl⟩
  | cons p r ih =>
    intro d i h
    simp only [iidx] at h
    split at h
    · cases h
    · rename_i hd
      obtain ⟨h1, h2⟩ := ih h
      exact ⟨by simp [ilook, hd, h1], fun u => by simp [iput, hd, ← h2]⟩
theorem alookup_int {A : List AO} {ty vt : TypeId} {r : Nat} {l : List (Int × Int)} (hu : P.underlying ty = some (.map kt vt)) (hk : P.underlying kt = some (.int k)) (hz : azero P vt = some (.int k2 0)) (hA : A[r]? = some (.map (intEs k k2 l))) (d : Int) :
    alookup P A ty (.map (some r)) (.int k d) false = some (.int k2 ((ilook l d).getD 0)) := by
  simp only [alookup, hu, amapOf, hA, acheckKey_int hk, afind_int hk]
  cases h : iidx l d 0 with
  | none => simp [hz, (iidx_none h).1]
  | some j =>
    obtain ⟨q, v, h1, h2, h3, _⟩ := iidx_some h
    rw [Nat.zero_add] at h1
    subst h1
    simp [intEs, h2, h3]
theorem amapUpdate_int {A : List AO} {ty vt : TypeId} {r : Nat} {l : List (Int × Int)} (hu : P.underlying ty = some (.map kt vt)) (hk : P.underlying kt = some (.int k)) (hA : A[r]? = some (.map (intEs k k2 l))) (d v : Int) :
    amapUpdate P A ty (.map (some r)) (.int k d) (.int k2 v) = some (A.set r (.map (intEs k k2 (iput l d v)))) := by
  simp only [amapUpdate, hu, amapOf, hA, acheckKey_int hk, afind_int hk]
  cases h : iidx l d 0 with
  | none => simp [intEs, ← (iidx_none h).2 v]
  | some j =>
    obtain ⟨q, v', h1, h2, h3, h4⟩ := iidx_some h
    rw [Nat.zero_add] at h1
    subst h1
    simp [intEs, h2, flatEq, cellEq, ← h4 v]
end
end Go.Am
