/- A part of the proof: Am24. -/
import Derived.Test.YthipnddfplbamaaDoorAm22
set_option linter.unusedVariables false
set_option linter.unusedSimpArgs false
namespace Go.Am
open Go.RowKit

/-! ### Calls that change nothing, worked out on the blocks that they read -/
mutual
/-- The same value, its blocks numbered anew. -/
def ren (f : Nat → Nat) : AV → AV
  | .ptr (some (k, o)) => .ptr (some (f k, o))
  | .slc (some (k, o)) n c e => .slc (some (f k, o)) n c e
  | .map (some k) => .map (some (f k))
  | .func fn xs ys => .func fn (renL f xs) (renL f ys)
  | .yld k => .yld (f k)
  | .iface t v => .iface t (ren f v)
  | .agg xs => .agg (renL f xs)
  | .tuple xs => .tuple (renL f xs)
  | v => v
def renL (f : Nat → Nat) : List AV → List AV
  | [] => []
  | x :: r => ren f x :: renL f r
end
theorem renL_eq (f : Nat → Nat) : ∀ l : List AV, renL f l = l.map (ren f) := by
  intro l
  induction l with
  | nil => rfl
  | cons x r ih => simp [renL, ih]

mutual
theorem ren_rel {m mB : List (Option Pl)} {f : Nat → Nat} (hm : ∀ (k : Nat) (p : Pl), m[f k]? = some (some p) → mB[k]? = some (some p)) : (x : AV) → (u : Value) → VRel m (ren f x) u → VRel mB x u
  | .bool b, u, h => by simp only [ren] at h; cases h; exact .bool b
  | .int k n, u, h => by simp only [ren] at h; cases h; exact .int k n
  | .str s, u, h => by simp only [ren] at h; cases h; exact .str s
  | .ptr none, u, h => by simp only [ren] at h; cases h; exact .ptrNil
  | .ptr (some (k, o)), u, h => by simp only [ren] at h; cases h with | ptr hp => exact .ptr (hm _ _ hp)
  | .slc none n c e, u, h => by simp only [ren] at h; cases h; exact .slcNil n c e
  | .slc (some (k, o)) n c e, u, h => by
    simp only [ren] at h
    cases h with
    | slc _ _ _ hp => exact .slc n c e (hm _ _ hp)
    | slcEmpty _ _ _ ad => exact .slcEmpty _ _ _ ad
  | .map none, u, h => by simp only [ren] at h; cases h; exact .mapNil
  | .map (some k), u, h => by simp only [ren] at h; cases h with | map hp => exact .map (hm _ _ hp)
  | .func fn xs ys, u, h => by
    simp only [ren] at h
    cases h with
    | func _ h1 h2 h3 h4 => exact .func fn (by rw [renL_eq] at h1; simpa using h1) (renL_rel hm xs _ h2) (by rw [renL_eq] at h3; simpa using h3) (renL_rel hm ys _ h4)
  | .nilFunc, u, h => by simp only [ren] at h; cases h; exact .nilFunc
  | .yld k, u, h => by simp only [ren] at h; cases h with | yld hp => exact .yld (hm _ _ hp)
  | .iface t v, u, h => by simp only [ren] at h; cases h with | iface _ hv => exact .iface t (ren_rel hm v _ hv)
  | .nilIface, u, h => by simp only [ren] at h; cases h; exact .nilIface
  | .agg xs, u, h => by
    simp only [ren] at h
    cases h with
    | agg h1 h2 => exact .agg (by rw [renL_eq] at h1; simpa using h1) (renL_rel hm xs _ h2)
  | .tuple xs, u, h => by
    simp only [ren] at h
    cases h with
    | tuple h1 h2 => exact .tuple (by rw [renL_eq] at h1; simpa using h1) (renL_rel hm xs _ h2)
  | .any, u, h => .any
theorem renL_rel {m mB : List (Option Pl)} {f : Nat → Nat} (hm : ∀ (k : Nat) (p : Pl), m[f k]? = some (some p) → mB[k]? = some (some p)) : (xs : List AV) → (us : Array Value) → (∀ (i : Nat) (x : AV) (u : Value), (renL f xs)[i]? = some x → us[i]? = some u → VRel m x u) → ∀ (i : Nat) (x : AV) (u : Value), xs[i]? = some x → us[i]? = some u → VRel mB x u
  | [], us, h, i, x, u, hx, hu => by simp at hx
  | y :: r, us, h, 0, x, u, hx, hu => by
    simp at hx
    subst hx
    exact ren_rel hm y u (h 0 _ u (by simp [renL]) hu)
  | y :: r, us, h, i + 1, x, u, hx, hu => by
    refine renL_rel hm r (us.extract 1 us.size) (fun j z q hz hq => ?_) i x u (by simpa using hx) ?_
    · rw [Array.getElem?_extract] at hq
      split at hq
      · exact h (j + 1) z q (by simpa [renL] using hz) (by rw [Nat.add_comm]; exact hq)
      · cases hq
    · rw [Array.getElem?_extract, if_pos (by have := (Array.getElem?_eq_some_iff.1 hu).1; omega), Nat.add_comm]; exact hu
end

/-- Values without blocks. -/
def flat0 : AV → Bool
  | .bool _ | .int .. | .str _ | .ptr none | .slc none _ _ _ | .map none | .nilFunc | .nilIface => true
  | _ => false
def flat1 : AV → Bool
  | .tuple xs => xs.all flat0
  | v => flat0 v
theorem flat0_rel {m m' : List (Option Pl)} {v : AV} {u : Value} (h : flat0 v = true) (hr : VRel m v u) : VRel m' v u := by
  cases hr <;> first | (simp [flat0] at h; done) | constructor
theorem flat1_rel {m m' : List (Option Pl)} {v : AV} {u : Value} (h : flat1 v = true) (hr : VRel m v u) : VRel m' v u := by
  unfold flat1 at h
  split at h
  · cases hr with
    | tuple h1 h2 => exact .tuple h1 fun i x u hx hu => flat0_rel (List.all_eq_true.1 h x (List.mem_of_getElem? hx)) (h2 i x u hx hu)
  · exact flat0_rel h hr

/-- A block as a reader sees it. -/
def fitO (f : Nat → Nat) (A : List AO) (b : AO) (k : Nat) : Bool :=
  match b, A[f k]? with
  | .row cs e false, some (.row cs' e' _) => avsEq (renL f cs) cs' && e == e'
  | .dead, _ => true
  | _, _ => false
def fits (f : Nat → Nat) (A : List AO) : List AO → Nat → Bool
  | [], _ => true
  | b :: r, k => fitO f A b k && fits f A r (k + 1)
theorem fits_get {f : Nat → Nat} {A : List AO} : ∀ {B : List AO} {s : Nat}, fits f A B s = true → ∀ (k : Nat) (b : AO), B[k]? = some b → fitO f A b (s + k) = true := by
  intro B
  induction B with
  | nil => intro s _ k b h; simp at h
  | cons x r ih =>
    intro s h k b hk
    simp only [fits, Bool.and_eq_true] at h
    cases k with
    | zero => simp at hk; subst hk; exact h.1
    | succ k =>
      have := ih h.2 k b (by simpa using hk)
      rwa [show s + 1 + k = s + (k + 1) by omega] at this

structure PureRow where
  args : List AV
  B : List AO
  v : AV

/-- Numbers of blocks in a table; d: no block's number. -/
def renOf (l : List Nat) (d k : Nat) : Nat := l.getD k d

def PureOk (P : Program) (g : FuncId) (q : PureRow) : Prop := flat1 q.v = true ∧ ∀ w0 : World, ∃ B', SCall P w0 g q.args q.B fun v A => v = q.v ∧ A = B'

theorem pure_call {P : Program} {w0 : World} {g : FuncId} {q : PureRow} (hq : PureOk P g q) {l : List Nat} {args : List AV} {A : List AO} (hl : l.length = q.B.length) (ha : avsEq (renL (renOf l A.length) q.args) args = true) (hf : fits (renOf l A.length) A q.B 0 = true) :
    SCall P w0 g args A fun v A' => v = q.v ∧ A' = A := by
  intro m w us hr hus
  have ha' := avsEq_eq _ _ ha
  obtain ⟨hfl, hc⟩ := hq
  obtain ⟨B', hc⟩ := hc w
  generalize hf0 : renOf l A.length = f at ha' hf
  obtain ⟨mB, hmB⟩ : ∃ mB : List (Option Pl), mB = (List.range q.B.length).map fun k => (m[f k]?).join := ⟨_, rfl⟩
  have hget : ∀ k p, mB[k]? = some (some p) → m[f k]? = some (some p) ∧ k < q.B.length := by
    intro k p hk
    rw [hmB] at hk
    simp only [List.getElem?_map] at hk
    by_cases hlt : k < q.B.length
    · rw [List.getElem?_range hlt] at hk
      simp only [Option.map_some, Option.some.injEq] at hk
      exact ⟨Option.join_eq_some_iff.1 hk, hlt⟩
    · rw [List.getElem?_eq_none (by simp; omega)] at hk; cases hk
  have hput : ∀ k p, m[f k]? = some (some p) → mB[k]? = some (some p) := by
    intro k p hk
    by_cases hlt : k < q.B.length
    · rw [hmB]
      simp only [List.getElem?_map]
      rw [List.getElem?_range hlt]
      simp [hk]
    · have : f k = A.length := by
        rw [← hf0]
        simp only [renOf, List.getD_eq_getElem?_getD, List.getElem?_eq_none (show l.length ≤ k by omega), Option.getD_none]
      rw [this, ← hr.len] at hk
      simp at hk
  have hrel : Rel P w mB q.B w := by
    refine ⟨by simp [hmB], Below.refl _ _, fun k o p hk hp => ?_, fun k k' o o' p p' hne hk hk' hmut hlive hp hp' => ?_⟩
    · have hfit := fits_get hf k o hk
      rw [Nat.zero_add] at hfit
      obtain ⟨hmp, _⟩ := hget k p hp
      unfold fitO at hfit
      split at hfit
      · rename_i cs e cs' e' wr' hA
        simp only [Bool.and_eq_true, beq_iff_eq] at hfit
        obtain ⟨h1, h2⟩ := hfit
        subst h2
        have h1 := avsEq_eq _ _ h1
        obtain ⟨cc, fr, c1, c2, _⟩ := hr.obj (f k) _ p hA hmp
        refine ⟨cc, fr, c1, fun i x hx => ?_, fun h => by cases h⟩
        have hx' : cs'[i]? = some (ren f x) := by rw [← h1, renL_eq]; simp [hx]
        obtain ⟨u, hu, hru⟩ := c2 i _ hx'
        exact ⟨u, hu, ren_rel hput x u hru⟩
      · trivial
      · cases hfit
    · have hfit := fits_get hf k o hk
      unfold fitO at hfit
      split at hfit
      · simp [AO.mut] at hmut
      · simp [AO.mut] at hmut
      · cases hfit
  have hargs : VsRel mB q.args us := by
    refine ⟨by rw [← hus.1, ← ha', renL_eq]; simp, fun i x u hx hu => ?_⟩
    refine ren_rel hput x u (hus.2 i _ u ?_ hu)
    rw [← ha', renL_eq]; simp [hx]
  refine (hc mB w us hrel hargs).mono ?_
  rintro e w' ⟨u, v, A', m', rfl, hv, hext, hrel', ⟨rfl, rfl⟩, hk⟩
  exact ⟨u, q.v, A, m, rfl, flat1_rel hfl hv, Ext.refl _, hr.grow P w0 hrel'.below, ⟨rfl, rfl⟩, hk⟩

/-- Answers from a table: the first row that fits. -/
def rowTry (l : List Nat) (q : PureRow) (rest : Option (List AV → List AO → Option (AV × List AO))) (args : List AV) (A : List AO) : Option (AV × List AO) :=
  if (l.length == q.B.length && avsEq (renL (renOf l A.length) q.args) args && fits (renOf l A.length) A q.B 0) = true then some (q.v, A) else
    match rest with
    | some h => h args A
    | none => none
def tableR : List (FuncId × List Nat × PureRow) → ARes
  | [], _ => none
  | (g, l, q) :: r, g' => if g = g' then some (rowTry l q (tableR r g')) else tableR r g'

theorem tableR_ok {P : Program} {w0 : World} : ∀ {T : List (FuncId × List Nat × PureRow)}, (∀ x ∈ T, PureOk P x.1 x.2.2) → ResOk P w0 (tableR T) := by
  intro T
  induction T with
  | nil => intro _ g h hg; simp [tableR] at hg
  | cons x r ih =>
    intro hT g h hg args A v A' hh
    obtain ⟨g0, l, q⟩ := x
    have ihr := ih fun y hy => hT y (by simp [hy])
    simp only [tableR] at hg
    split at hg
    · rename_i hgg
      subst hgg
      simp only [Option.some.injEq] at hg; subst hg
      unfold rowTry at hh
      split at hh
      · rename_i hc
        simp only [Bool.and_eq_true, beq_iff_eq] at hc
        simp only [Option.some.injEq, Prod.mk.injEq] at hh; obtain ⟨rfl, rfl⟩ := hh
        exact pure_call (hT (g0, l, q) (by simp)) hc.1.1 hc.1.2 hc.2
      · split at hh
        · rename_i h' hr'
          exact ihr _ _ hr' _ _ _ _ hh
        · cases hh
    · exact ihr _ _ hg _ _ _ _ hh

/-- A row by the machine. -/
def rowOkB (P : Program) (X : AExt) (R : ARes) (n : Nat) (g : FuncId) (q : PureRow) : Bool :=
  match acallX P X R n g q.args q.B with
  | some (v, _) => flat1 q.v && avEq v q.v
  | none => false
theorem PureOk.of_exec {P : Program} {X : AExt} {R : ARes} (hX : ExtOk P X) (hR : ∀ w0, ResOk P w0 R) (hmix : P.follows .mixedOrders = true) {n : Nat} {g : FuncId} {q : PureRow} (h : rowOkB P X R n g q = true) : PureOk P g q := by
  unfold rowOkB at h
  split at h
  · rename_i v A' hc
    simp only [Bool.and_eq_true] at h
    have hv := avEq_eq _ _ h.2
    subst hv
    exact ⟨h.1, fun w0 => ⟨A', acallX_ok hX (hR w0) hmix hc⟩⟩
  · cases h

/-- A closed call, with answers from a table. -/
theorem closed_callR {P : Program} {X : AExt} {R : ARes} (hX : ExtOk P X) (hR : ∀ w0, ResOk P w0 R) (hmix : P.follows .mixedOrders = true) {n : Nat} {g : FuncId} {v : AV} {A' : List AO} (h : acallX P X R n g [] [] = some (v, A')) (w : World) :
    Calls P g #[] w fun e w' => ∃ u m, e = .returned u ∧ VRel m v u ∧ Below w.heap.size w w' := by
  have hs := acallX_ok (w0 := w) hX (hR w) hmix h [] w #[] (Rel.nil P w) (VsRel.nil [])
  exact hs.mono fun e w' ⟨u, v', A2, m', h1, h2, h3, h4, ⟨h5, h6⟩, hk⟩ => ⟨u, m', h1, by rw [← h5]; exact h2, h4.below⟩
end Go.Am
