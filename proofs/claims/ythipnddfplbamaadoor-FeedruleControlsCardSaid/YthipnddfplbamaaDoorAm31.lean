/- A part of the proof: Am31. -/
import Derived.Test.YthipnddfplbamaaDoorAm30
set_option linter.unusedVariables false
set_option linter.unusedSimpArgs false
namespace Go.Am
open Go.RowKit

section
variable {P : Program} {X : AExt} {R : ARes} {w0 : World}

/-- t2, A2 come to t3, A3 when slots are forgotten and blocks of one's own dropped; n0: how many blocks there were. -/
structure Lss (n0 : Nat) (t2 : List AV) (A2 : List AO) (t3 : List AV) (A3 : List AO) : Prop where
  t : lessOf t2 t3
  n : n0 ≤ A3.length
  A : A2.take A3.length = A3
  lt : lowL A3.length t3 = true
  lA : A3.all (lowO A3.length) = true

theorem SCode.lss {rd : Bool} {c : Code} {t : List AV} {A : List AO} {K K' : AK} (h : SCode P w0 rd c t A K')
    (hk : ∀ e t2 A2, K' e t2 A2 → ∃ t3 A3, Lss A.length t2 A2 t3 A3 ∧ K e t3 A3) : SCode P w0 rd c t A K :=
  h.less fun e t2 A2 h2 => by
    obtain ⟨t3, A3, l, hK⟩ := hk e t2 A2 h2
    exact ⟨t3, A3.length, l.t, l.n, l.lt, by rw [l.A]; exact l.lA, by rw [l.A]; exact hK⟩

/-- Forgetting, computed: the slots that the list k marks are kept. -/
def keepB : List Bool → List AV → List AV
  | true :: r, x :: l => x :: keepB r l
  | _ :: r, _ :: l => .any :: keepB r l
  | [], l => l.map fun _ => .any
  | _, [] => []
theorem keepB_less : ∀ (k : List Bool) (t : List AV), lessOf t (keepB k t) := by
  intro k t
  induction k generalizing t with
  | nil =>
    refine ⟨by cases t <;> simp [keepB], fun i x y hx hy => ?_⟩
    have e : keepB [] t = t.map fun _ => .any := by cases t <;> rfl
    rw [e, List.getElem?_map, hx] at hy
    simp at hy; exact .inr hy.symm
  | cons b r ih =>
    cases t with
    | nil => refine ⟨by cases b <;> rfl, fun i x y hx hy => by simp at hx⟩
    | cons a l =>
      have ih := ih l
      refine ⟨by cases b <;> simp [keepB, ih.1], fun i x y hx hy => ?_⟩
      cases i with
      | zero => cases b <;> simp [keepB] at hx hy <;> subst hx hy <;> first | exact .inl rfl | exact .inr rfl
      | succ i => cases b <;> simp [keepB] at hx hy <;> exact ih.2 i x y hx hy

/-- A leaf: the slots that are kept, and the blocks. -/
def leaf (n : Nat) (is : List Nat) (K : Exit → List (Nat × AV) → List AO → Prop) : Exit → List AV → List AO → Scr → Prop :=
  fun e t A _ => match Nat.beq t.length n with
    | true => K e (proj is t) A
    | false => False
theorem leaf_ok {n : Nat} {is : List Nat} {K : Exit → List (Nat × AV) → List AO → Prop} {e : Exit} {t : List AV} {A : List AO} {q : Scr} (h : leaf n is K e t A q) : lessOf t (lay n (proj is t)) ∧ K e (proj is t) A := by
  unfold leaf at h
  split at h
  · rename_i hb
    exact ⟨proj_less is t (Nat.eq_of_beq_eq_true hb), h⟩
  · exact h.elim
/-- A round, by what is computed: the kept slots at its end, and the blocks that stay. -/
theorem vround (hX : ExtOk P X) (hR : ResOk P w0 R) (hmix : P.follows .mixedOrders = true) {n fo N : Nat} {rd ls : Bool} {c : Code} {ps : List (Nat × AV)} {A : List AO} {q : Scr} {is : List Nat} {K' : Exit → List (Nat × AV) → List AO → Prop} {K : AK}
    (h : vexec P w0 X R n fo rd ls c (lay N ps) A q (leaf N is K'))
    (hk : ∀ e ps' A2, K' e ps' A2 → ∃ A3, A.length ≤ A3.length ∧ A2.take A3.length = A3 ∧ lowL A3.length (lay N ps') = true ∧ A3.all (lowO A3.length) = true ∧ K e (lay N ps') A3) : SCode P w0 rd c (lay N ps) A K := by
  refine ((vexec_both hX hR hmix n).1 _ _ _ _ _ _ _ _ h).lss fun e t2 A2 ⟨q', hq⟩ => ?_
  obtain ⟨h1, h2⟩ := leaf_ok hq
  obtain ⟨A3, g1, g2, g3, g4, g5⟩ := hk _ _ _ h2
  exact ⟨_, A3, ⟨h1, g1, g2, g3, g4⟩, g5⟩

/-- A function without arguments that answers true and changes nothing. -/
def knownR (g : FuncId) : ARes := fun f => if f = g then some (fun args A => match args with | [] => some (.bool true, A) | _ => none) else none
theorem knownR_ok {g : FuncId} (hk : PureOk P g { args := [], B := [], v := .bool true }) (w0 : World) : ResOk P w0 (knownR g) := by
  intro f h hf args A v A' ha
  unfold knownR at hf
  split at hf
  · rename_i he
    subst he
    simp only [Option.some.injEq] at hf
    subst hf
    simp only at ha
    split at ha
    · simp only [Option.some.injEq, Prod.mk.injEq] at ha
      obtain ⟨rfl, rfl⟩ := ha
      exact pure_call hk (l := []) rfl rfl rfl
    · cases ha
  · cases hf
/-- The body of the first loop. -/
def loopOf : Code → Option Code
  | .seq a b => match loopOf a with | some c => some c | none => loopOf b
  | .block _ c => loopOf c
  | .scope c => loopOf c
  | .cond _ a b => match loopOf a with | some c => some c | none => loopOf b
  | .loop c => some c
  | _ => none
/-- The bodies of all loops, from outside in. -/
def loopsOf : Code → List Code
  | .seq a b => loopsOf a ++ loopsOf b
  | .block _ c => loopsOf c
  | .scope c => loopsOf c
  | .cond _ a b => loopsOf a ++ loopsOf b
  | .loop c => c :: loopsOf c
  | .rangeFunc _ _ a b => loopsOf a ++ loopsOf b
  | _ => []

/-- A load from a row. -/
theorem aload_cell {A : List AO} {k o : Nat} {cs : List AV} {e : TypeId} {wr : Bool} {ty : TypeId} {v : AV} (hA : A[k]? = some (.row cs e wr)) (ha : aisAgg P ty = some false) (hc : cs[o]? = some v) : aload P A ty (.ptr (some (k, o))) = some v := by
  simp only [aload, aloadVar, arow, hA, ha, hc]
theorem aload_agg {A : List AO} {k o n : Nat} {cs vs : List AV} {e : TypeId} {wr : Bool} {ty : TypeId} (hA : A[k]? = some (.row cs e wr)) (ha : aisAgg P ty = some true) (hn : asize P ty = some n) (hle : o + n ≤ cs.length) (hc : (cs.drop o).take n = vs) : aload P A ty (.ptr (some (k, o))) = some (.agg vs) := by
  simp only [aload, aloadVar, arow, hA, ha, hn, if_pos hle, hc]
end
end Go.Am
