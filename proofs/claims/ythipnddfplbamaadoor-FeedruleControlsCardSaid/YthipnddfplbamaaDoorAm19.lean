/- A part of the proof: Am19. -/
import Derived.Test.YthipnddfplbamaaDoorAm18
set_option linter.unusedVariables false
set_option linter.unusedSimpArgs false
namespace Go.Am
open Go.RowKit

abbrev ACallF := FuncId → List AV → List AO → Option (AV × List AO)

/-- One operation, called functions by 'call'. -/
def stepA (P : Program) (X : AExt) (call : ACallF) (t : List AV) (H : List AO) (o : Oper) : Option (AV × List AO) :=
  match o.op with
  | .call c => match acallTarget P t c with
    | some (g, args) => if (X g).isSome then aop P X t H o else if abody P g then call g args H else none
    | none => aop P X t H o
  | _ => aop P X t H o

structure ARec where
  i : Nat
  t : List AV
  H : List AO
  v : AV
  K : List AO
  w : Bool

def runQ (P : Program) (X : AExt) (ops : Array Oper) (f : PInfo) : List Nat → List AV → List AO → Option (List AV × List AO × List (Nat × Nat))
  | [], t, H => some (t, H, [])
  | i :: r, t, H =>
    match ops[i]? with
    | none => none
    | some o => match awanted ops t o with
      | some false => runQ P X ops f r (aput t o.dst aundef) H
      | some true => if f.kinds.getD i 2 == 1 then match amake P t o with
          | some (g, cs, e) => match runQ P X ops f r (aput t o.dst (g H.length)) (H ++ [.row cs e true]) with
            | some (t', H', l) => some (t', H', (i, H.length) :: l)
            | none => none
          | none => none
        else match aop P X t H o with
          | some (v, _) => runQ P X ops f r (aput t o.dst v) H
          | none => none
      | none => none

def runS (P : Program) (X : AExt) (call : ACallF) (ops : Array Oper) (f : PInfo) : List (List Nat × Option Nat) → List AV → List AO → Option (List AV × List ARec × List AO × List (Nat × Nat))
  | [], _, _ => none
  | (qs, none) :: r, t, H => match runQ P X ops f qs t H, r with
    | some (t', H', g), [] => some (t', [], H', g)
    | _, _ => none
  | (qs, some i) :: r, t, H => match runQ P X ops f qs t H with
    | some (t1, H1, g1) => match ops[i]? with
      | some o => match awanted ops t1 o with
        | some false => match runS P X call ops f r (aput t1 o.dst aundef) H1 with
          | some (t2, recs, Hl, g2) => some (t2, ⟨i, t1, H1, aundef, H1, false⟩ :: recs, Hl, g1 ++ g2)
          | none => none
        | some true => match stepA P X call t1 H1 o with
          | some (v, K) => match runS P X call ops f r (aput t1 o.dst v) K with
            | some (t2, recs, Hl, g2) => some (t2, ⟨i, t1, H1, v, K, true⟩ :: recs, Hl, g1 ++ g2)
            | none => none
          | none => none
        | none => none
      | none => none
    | none => none

def avOpt : Option AV → Option AV → Bool
  | some x, some y => avEq x y
  | none, none => true
  | _, _ => false
theorem avOpt_eq {x y : Option AV} (h : avOpt x y = true) : x = y := by
  cases x <;> cases y <;> simp_all [avOpt]
  exact avEq_eq _ _ h

def holdsB (tn : List AV) (o : Oper) (v : AV) : Bool :=
  match o.dst with
  | some d => !(d < tn.length) || avOpt tn[d]? (some v)
  | none => true
theorem holdsB_ok {tn : List AV} {o : Oper} {v : AV} (h : holdsB tn o v = true) : Holds tn o v := by
  intro d hd hl
  unfold holdsB at h
  rw [hd] at h
  simp only [Bool.or_eq_true, Bool.not_eq_true', decide_eq_false_iff_not] at h
  rcases h with h | h
  · exact absurd hl h
  · exact avOpt_eq h

def findGid (l : List (Nat × Nat)) (i : Nat) : Option Nat := (l.find? fun x => x.1 == i).map (·.2)

def rangeB (a b : Nat) (p : Nat → Bool) : Bool := (List.range (b + 1 - a)).all fun s => p (a + s)
theorem rangeB_ok {a b : Nat} {p : Nat → Bool} (h : rangeB a b p = true) : ∀ s, a ≤ s → s ≤ b → p s = true := by
  intro s h1 h2
  have := List.all_eq_true.1 h (s - a) (by simp; omega)
  rwa [show a + (s - a) = s by omega] at this

def opB (P : Program) (X : AExt) (ops : Array Oper) (f : PInfo) (sts : List (List Nat × Option Nat)) (t0 tn : List AV) (hs : List (List AO)) (recs : List ARec) (gids : List (Nat × Nat)) (i : Nat) (o : Oper) : Bool :=
  let vw := viewOf t0 tn (lateOf ops o)
  let w := awanted ops vw o
  let a := loOf sts i
  let b := hiOf f.cls (actsOf sts) i
  if f.kinds.getD i 2 == 2 then match recs[a]? with
    | some r => r.i == i && (o.op.operands.toList.all fun x => avOpt (aev r.t x) (aev vw x)) && w == some r.w && holdsB tn o r.v && findGid gids i == none
    | none => false
  else match w with
    | some false => holdsB tn o aundef && findGid gids i == none
    | some true => if f.kinds.getD i 2 == 1 then match amake P vw o, findGid gids i with
        | some (g, cs, e), some k => holdsB tn o (g k) && rangeB a b fun s => match hs[s]? with
          | some H => match arow H k with
            | some (cs', e', true) => avsEq cs cs' && e == e'
            | _ => false
          | none => true
        | _, _ => false
      else findGid gids i == none && okind P X o.op == 0 && match hs[a]? with
        | some H => match aop P X vw H o with
          | some (v, _) => holdsB tn o v && (a == b || rangeB (a + 1) b fun s => match hs[s]? with
              | some H' => match aop P X vw H' o with
                | some (v', _) => avEq v' v
                | none => false
              | none => true)
          | none => false
        | none => false
    | none => false

def nodupB : List Nat → Bool
  | [] => true
  | x :: r => !r.contains x && nodupB r

def gidsB (sts : List (List Nat × Option Nat)) (n0 : Nat) (hs : List (List AO)) (recs : List ARec) (gids : List (Nat × Nat)) : Bool :=
  (gids.all fun x => decide (n0 ≤ x.2) && (match hs[loOf sts x.1]? with | some H => decide (x.2 < H.length) | none => false) &&
    (loOf sts x.1 == 0 || match recs[loOf sts x.1 - 1]? with | some r => decide (r.K.length ≤ x.2) | none => false)) && nodupB (gids.map (·.2))

/-- A region in whatever order, by computation: the slots and the heap behind it. -/
def aregion (P : Program) (X : AExt) (call : ACallF) (ops : Array Oper) (t : List AV) (A : List AO) : Option (List AV × List AO) :=
  let f := pinfo P X ops
  let sts := stagesOf f (ops.size + 1) (List.range ops.size) 0
  if staticB ops f sts && actsB sts f ops.size then
    match runS P X call ops f sts t A with
    | some (tn, recs, Hl, gids) =>
      let hs := recs.map (·.H) ++ [Hl]
      if gidsB sts A.length hs recs gids && (List.range ops.size).all fun i => match ops[i]? with | some o => opB P X ops f sts t tn hs recs gids i o | none => false then some (tn, Hl) else none
    | none => none
  else none

section
variable {P : Program} {X : AExt} {w0 : World} {call : ACallF} {ops : Array Oper} {f : PInfo}

/-- Slots that no operation of the region writes stay. -/
def Keeps (ops : Array Oper) (t t' : List AV) : Prop := t'.length = t.length ∧ ∀ d, hasDst ops (fun _ => true) d = false → t'[d]? = t[d]?
theorem Keeps.refl (t : List AV) : Keeps ops t t := ⟨rfl, fun _ _ => rfl⟩
theorem Keeps.trans {a b c : List AV} (h : Keeps ops a b) (k : Keeps ops b c) : Keeps ops a c := ⟨k.1.trans h.1, fun d hd => (k.2 d hd).trans (h.2 d hd)⟩
theorem Keeps.put {t : List AV} {i : Nat} {o : Oper} (ho : ops[i]? = some o) (v : AV) : Keeps ops t (aput t o.dst v) := by
  cases hd : o.dst with
  | none => exact Keeps.refl t
  | some q =>
    refine ⟨by simp [aput], fun d hh => ?_⟩
    simp only [aput, List.getElem?_set]
    rw [if_neg]
    intro e
    subst e
    have hi : i < ops.size := (Array.getElem?_eq_some_iff.1 ho).1
    rw [hasDst_true.2 ⟨i, hi, rfl, by simp [dstOf, ho, hd]⟩] at hh
    cases hh

theorem runQ_keeps : ∀ {l : List Nat} {t : List AV} {H : List AO} {t' : List AV} {H' : List AO} {g : List (Nat × Nat)}, runQ P X ops f l t H = some (t', H', g) → Keeps ops t t' ∧ ∃ gs, H' = H ++ gs := by
  intro l
  induction l with
  | nil => intro t H t' H' g h; simp [runQ] at h; obtain ⟨rfl, rfl, rfl⟩ := h; exact ⟨Keeps.refl _, [], by simp⟩
  | cons i r ih =>
    intro t H t' H' g h
    simp only [runQ] at h
    split at h
    · cases h
    · rename_i o ho
      split at h
      · obtain ⟨h1, h2⟩ := ih h
        exact ⟨(Keeps.put ho _).trans h1, h2⟩
      · split at h
        · split at h
          · rename_i g' cs e hm
            split at h
            · rename_i t2 H2 l2 hq
              simp at h; obtain ⟨rfl, rfl, rfl⟩ := h
              obtain ⟨h1, gs, h2⟩ := ih hq
              exact ⟨(Keeps.put ho _).trans h1, [.row cs e true] ++ gs, by rw [h2]; simp⟩
            · cases h
          · cases h
        · split at h
          · obtain ⟨h1, h2⟩ := ih h
            exact ⟨(Keeps.put ho _).trans h1, h2⟩
          · cases h
      · cases h

def recOk (P : Program) (X : AExt) (call : ACallF) (ops : Array Oper) (r : ARec) : Prop :=
  ∃ o, ops[r.i]? = some o ∧ awanted ops r.t o = some r.w ∧ (r.w = false → r.v = aundef ∧ r.K = r.H) ∧ (r.w = true → stepA P X call r.t r.H o = some (r.v, r.K))

theorem runS_ok : ∀ {sts : List (List Nat × Option Nat)} {t : List AV} {H : List AO} {tn : List AV} {recs : List ARec} {Hl : List AO} {g : List (Nat × Nat)}, runS P X call ops f sts t H = some (tn, recs, Hl, g) →
    Keeps ops t tn ∧ recs.map (·.i) = actsOf sts ∧ (∃ gs, (recs.map (·.H) ++ [Hl])[0]? = some (H ++ gs)) ∧ (∀ j r, recs[j]? = some r → recOk P X call ops r ∧ ∃ gs, (recs.map (·.H) ++ [Hl])[j + 1]? = some (r.K ++ gs)) := by
  intro sts
  induction sts with
  | nil => intro t H tn recs Hl g h; simp [runS] at h
  | cons s r ih =>
    intro t H tn recs Hl g h
    obtain ⟨qs, ao⟩ := s
    cases ao with
    | none =>
      simp only [runS] at h
      split at h
      · rename_i t' H' g' hq
        simp at h; obtain ⟨rfl, rfl, rfl, rfl⟩ := h
        obtain ⟨h1, gs, h2⟩ := runQ_keeps hq
        exact ⟨h1, rfl, ⟨gs, by simp [h2]⟩, fun j r hr => by simp at hr⟩
      · cases h
    | some i =>
      simp only [runS] at h
      split at h
      case h_2 => cases h
      rename_i t1 H1 g1 hq
      obtain ⟨k1, gs, hg⟩ := runQ_keeps hq
      split at h
      case h_2 => cases h
      rename_i o ho
      have fin : ∀ (v : AV) (K : List AO) (w : Bool) (recs' : List ARec) (g2 : List (Nat × Nat)), runS P X call ops f r (aput t1 o.dst v) K = some (tn, recs', Hl, g2) → recs = ⟨i, t1, H1, v, K, w⟩ :: recs' → recOk P X call ops ⟨i, t1, H1, v, K, w⟩ →
          Keeps ops t tn ∧ recs.map (·.i) = actsOf ((qs, some i) :: r) ∧ (∃ gs, (recs.map (·.H) ++ [Hl])[0]? = some (H ++ gs)) ∧ (∀ j r, recs[j]? = some r → recOk P X call ops r ∧ ∃ gs, (recs.map (·.H) ++ [Hl])[j + 1]? = some (r.K ++ gs)) := by
        intro v K w recs' g2 hS hrec hok
        obtain ⟨a1, a2, ⟨gs2, a3⟩, a4⟩ := ih hS
        subst hrec
        refine ⟨(k1.trans (Keeps.put ho _)).trans a1, ?_, ⟨gs, by simp [hg]⟩, fun j q hj => ?_⟩
        · simp only [List.map_cons, a2, actsOf, List.filterMap_cons]
        · cases j with
          | zero => simp at hj; subst hj; exact ⟨hok, gs2, by simpa using a3⟩
          | succ j =>
            obtain ⟨b1, gs3, b2⟩ := a4 j q (by simpa using hj)
            exact ⟨b1, gs3, by simpa using b2⟩
      split at h
      · rename_i hw
        split at h
        · rename_i t2 recs' Hl' g2 hS
          simp at h; obtain ⟨rfl, rfl, rfl, rfl⟩ := h
          exact fin aundef H1 false recs' g2 hS rfl ⟨o, ho, hw, fun _ => ⟨rfl, rfl⟩, (fun h => by cases h)⟩
        · cases h
      · rename_i hw
        split at h
        · rename_i v K hstep
          split at h
          · rename_i t2 recs' Hl' g2 hS
            simp at h; obtain ⟨rfl, rfl, rfl, rfl⟩ := h
            exact fin v K true recs' g2 hS rfl ⟨o, ho, hw, (fun h => by cases h), fun _ => hstep⟩
          · cases h
        · cases h
      · cases h

theorem aop_quiet {t : List AV} {A A' : List AO} {o : Oper} {v : AV} (hk : okind P X o.op = 0) (h : aop P X t A o = some (v, A')) : A' = A := by
  unfold aop at h
  cases ho : o.op <;> rw [ho] at h hk <;> simp only [okind] at hk h
  case convert s d x =>
    split at h
    · rename_i v0 hv0
      split at h
      · simp at h; exact h.2.symm
      unfold aconvert at h
      split at h
      · simp at h; exact h.2.symm
      · simp at h; exact h.2.symm
      · simp at h; exact h.2.symm
      · rename_i hd hx; simp [hd] at hk
      · split at h
        · split at h
          · simp at h; exact h.2.symm
          · split at h
            · simp at h; exact h.2.symm
            · split at h
              · split at h
                · obtain ⟨q, _, he⟩ := Option.map_eq_some_iff.1 h; simp at he; exact he.2.symm
                · cases h
              · cases h
        · cases h
      · cases h
    · cases h
  case call c =>
    split at h
    · rename_i b hb
      rw [hb] at hk
      unfold abuiltin at h
      split at h <;> (try simp only at hk) <;> first
        | (exact (map_pair h).2)
        | (cases hk; done)
        | (cases h; done)
    · split at h
      · rename_i g args hg
        split at h
        · rename_i hh hX'
          split at h
          · rename_i hcl
            exfalso
            cases hce : c.callee with
            | builtin b => first | (unfold acallTarget at hg; rw [hce] at hg; split at hg <;> cases hg)
            | invoke r n => rw [hce] at hk; cases hk
            | value f =>
              rw [hce] at hk
              cases f with
              | func g0 =>
                have hg0 : g = g0 := by
                  unfold acallTarget at hg
                  rw [hce] at hg
                  split at hg
                  · simp only [aev] at hg
                    simp at hg
                    exact hg.1.symm
                  · cases hg
                subst hg0
                simp [hcl] at hk
              | tmp i => cases hk
              | const v => cases hk
              | global i => cases hk
          · exact (map_pair h).2
        · cases h
      · cases h
  all_goals first
    | (exact (map_pair h).2)
    | (cases hk; done)
    | (split at h <;> first | (exact (map_pair h).2) | (cases h; done) | (simp at h; exact h.2.symm) | (split at h <;> first | (exact (map_pair h).2) | (simp at h; exact h.2.symm) | (cases h; done)))
end
end Go.Am
