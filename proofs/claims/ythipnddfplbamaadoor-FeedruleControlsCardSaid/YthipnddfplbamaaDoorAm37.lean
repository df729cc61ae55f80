/- A part of the proof: Am37. -/
import Derived.Test.YthipnddfplbamaaDoorAm35
set_option linter.unusedVariables false
set_option linter.unusedSimpArgs false
namespace Go.Am
open Go.RowKit

/-! ### Loops: of the blocks, those that stood at the loop's begin keep their places -/
def ExtN (nb : Nat) (m m' : List (Option Pl)) : Prop := ∀ (k : Nat) (p : Option Pl), k < nb → m[k]? = some p → m'[k]? = some p
theorem ExtN.of {nb : Nat} {m m' : List (Option Pl)} (h : Ext m m') : ExtN nb m m' := fun k p _ hk => h k p hk
theorem ExtN.trans {nb : Nat} {a b c : List (Option Pl)} (h : ExtN nb a b) (k : ExtN nb b c) : ExtN nb a c := fun i p hi hp => k i p hi (h i p hi hp)
section
variable {P : Program} {w0 : World} {rd : Bool}
variable (P w0) in
def PostB (nb : Nat) (m : List (Option Pl)) (B : Nat) (w0' : World) (K : AK) : Exit → Act → World → Prop := fun e a w =>
  ∃ t A m', K e t A ∧ ExtN nb m m' ∧ Rel P w0 m' A w ∧ VsRel m' t a.tmps ∧ Marks B w a.defers ∧ Kept w0' w
variable (P w0) in
def SCodeB (nb : Nat) (rd : Bool) (c : Code) (t : List AV) (A : List AO) (K : AK) : Prop :=
  ∀ (ro : Option Nat) (m : List (Option Pl)) (w : World) (a : Act) (B : Nat), ro.isSome = rd → Rel P w0 m A w → VsRel m t a.tmps → Marks B w a.defers → B ≤ w.heap.size → c.wpIn (Fw ro) 0 P (PostB P w0 nb m B w K) a w
theorem SCode.toB {nb : Nat} {c : Code} {t : List AV} {A : List AO} {K : AK} (h : SCode P w0 rd c t A K) : SCodeB P w0 nb rd c t A K := by
  intro ro m w a B hro hr ht hd hB
  refine wpIn_mono (h ro m w a B hro hr ht hd hB) ?_
  rintro e a' w' ⟨t2, A2, m2, hK, hext, hr2, ht2, hd2, hq⟩
  exact ⟨t2, A2, m2, hK, .of hext, hr2, ht2, hd2, hq⟩
theorem SCodeB.mono {nb : Nat} {c : Code} {t : List AV} {A : List AO} {K K' : AK} (h : SCodeB P w0 nb rd c t A K) (hk : ∀ e t A, K e t A → K' e t A) : SCodeB P w0 nb rd c t A K' := by
  intro ro m w a B hro hr ht hd hB
  refine wpIn_mono (h ro m w a B hro hr ht hd hB) ?_
  rintro e a' w' ⟨t2, A2, m2, hK, r⟩
  exact ⟨t2, A2, m2, hk _ _ _ hK, r⟩
theorem SCodeB.entry {nb : Nat} {c : Code} {t t' : List AV} {A : List AO} {K : AK} (h : SCodeB P w0 nb rd c t' A K) (hl : lessOf t t') : SCodeB P w0 nb rd c t A K :=
  fun ro m w a B hro hr ht hd hB => h ro m w a B hro hr (hl.vs ht) hd hB
/-- Rounds. -/
def SRoundsB (P : Program) (w0 : World) (nb : Nat) (rd : Bool) (c : Code) (K : AK) : Nat → List AV → List AO → Prop
  | 0, _, _ => False
  | n + 1, t, A => SCodeB P w0 nb rd c t A (AThen (SRoundsB P w0 nb rd c K n) K)
theorem roundsB_of {nb : Nat} {c : Code} {K : AK} : ∀ (n : Nat) (t : List AV) (A : List AO), SRoundsB P w0 nb rd c K n t A → ∀ (ro : Option Nat) (m m1 : List (Option Pl)) (w1 w : World) (a : Act) (B : Nat), ro.isSome = rd → ExtN nb m m1 → Kept w1 w → Rel P w0 m1 A w → VsRel m1 t a.tmps → Marks B w a.defers → B ≤ w1.heap.size →
    Code.roundsIn (Fw ro) 0 P c (PostB P w0 nb m B w1 K) n a w := by
  intro n
  induction n with
  | zero => intro t A h; exact h.elim
  | succ n ih =>
    intro t A h ro m m1 w1 w a B hro he hq hr ht hd hB
    rw [roundsIn_succ]
    refine wpIn_mono (h ro m1 w a B hro hr ht hd (Nat.le_trans hB hq.size)) ?_
    rintro e a' w' ⟨t', A', m', hk, he', hr', ht', hd', hq'⟩
    cases e with
    | normal => exact ih t' A' hk ro m m' w1 w' a' B hro (he.trans he') (hq.trans hq') hr' ht' hd' hB
    | _ => exact ⟨t', A', m', hk, he.trans he', hr', ht', hd', hq.trans hq'⟩
theorem SCode.loopB {nb : Nat} {c : Code} {t : List AV} {A : List AO} {K : AK} (n : Nat) (hnb : A.length ≤ nb) (h : SRoundsB P w0 nb rd c K n t A) : SCode P w0 rd (.loop c) t A K := by
  intro ro m w a B hro hr ht hd hB
  refine wpIn_mono (wpIn_loop_rounds n (roundsB_of n t A h ro m m w w a B hro (fun _ _ _ h => h) (Kept.refl w) hr ht hd hB)) ?_
  rintro e a' w' ⟨t2, A2, m2, hK, hext, r⟩
  refine ⟨t2, A2, m2, hK, fun k p hk => hext k p ?_ hk, r⟩
  have := (List.getElem?_eq_some_iff.1 hk).1
  have := hr.len
  omega
theorem SRoundsB.mono {nb : Nat} {c : Code} {K K' : AK} (hk : ∀ e t A, K e t A → K' e t A) : ∀ {n : Nat} {t : List AV} {A : List AO}, SRoundsB P w0 nb rd c K n t A → SRoundsB P w0 nb rd c K' n t A
  | 0, _, _, h => h.elim
  | n + 1, t, A, h => SCodeB.mono (show SCodeB P w0 nb rd c t A _ from h) fun e t2 A2 h2 => by
    cases e with
    | normal => exact SRoundsB.mono hk h2
    | _ => exact hk _ _ _ h2
theorem SRoundsB.entry {nb : Nat} {c : Code} {t t' : List AV} {A : List AO} {K : AK} {k : Nat} (h : SRoundsB P w0 nb rd c K k t' A) (hl : lessOf t t') : SRoundsB P w0 nb rd c K k t A := by
  cases k with
  | zero => exact h.elim
  | succ k => exact SCodeB.entry (show SCodeB P w0 nb rd c t' A _ from h) hl
/-- A loop by what holds at each round's head, and a number that falls. -/
theorem rounds_inv {nb : Nat} {c : Code} {K : AK} {S : Type} (I : S → Prop) (μ : S → Nat) (T : S → List AV) (AA : S → List AO)
    (round : ∀ s, I s → SCodeB P w0 nb rd c (T s) (AA s) fun e t A => match e with
      | .normal => ∃ s', I s' ∧ μ s' < μ s ∧ t = T s' ∧ A = AA s'
      | e => K e t A) (s : S) (hs : I s) : ∃ k, SRoundsB P w0 nb rd c K k (T s) (AA s) := by
  have key : ∀ n s, I s → μ s = n → ∀ k, n < k → SRoundsB P w0 nb rd c K k (T s) (AA s) := by
    intro n
    induction n using Nat.strongRecOn with
    | _ n ih =>
      intro s h hn k hk
      obtain ⟨k, rfl⟩ : ∃ j, k = j + 1 := ⟨k - 1, by omega⟩
      refine (round s h).mono ?_
      intro e t' A' hx
      cases e with
      | normal =>
        obtain ⟨s', h1, h2, rfl, rfl⟩ := hx
        exact ih (μ s') (by omega) s' h1 rfl k (by omega)
      | _ => exact hx
  exact ⟨_, key _ s hs rfl _ (Nat.lt_succ_self _)⟩
end
end Go.Am
