/- A part of the proof: Am22. -/
import Derived.Test.YthipnddfplbamaaDoorAm21
set_option linter.unusedVariables false
set_option linter.unusedSimpArgs false
namespace Go.Am
open Go.RowKit

/-- Functions whose answers are known otherwise. -/
abbrev ARes := FuncId → Option (List AV → List AO → Option (AV × List AO))
def ResOk (P : Program) (w0 : World) (R : ARes) : Prop :=
  ∀ g h, R g = some h → ∀ args A v A', h args A = some (v, A') → SCall P w0 g args A fun v' A'' => v' = v ∧ A'' = A'

def ares1 (P : Program) (t : List AV) (A : List AO) : List ResultVar → Option (List AV)
  | [] => some []
  | .tmp d :: r => match t[d]?, ares1 P t A r with
    | some v, some l => some (v :: l)
    | _, _ => none
  | .cell d ty :: r => match t[d]?, ares1 P t A r with
    | some x, some l => match aload P A ty x with
      | some v => some (v :: l)
      | none => none
    | _, _ => none
def ares (P : Program) (fn : Func) (t : List AV) (A : List AO) : Option AV :=
  match ares1 P t A fn.results.toList with
  | some [v] => some v
  | some l => some (.tuple l)
  | none => none

abbrev AYield := Nat → List AV → List AO → Option (AV × List AO)
/-- An operation outside of drawn regions: a round too. -/
def stepY (P : Program) (X : AExt) (call : ACallF) (yl : AYield) (t : List AV) (A : List AO) (o : Oper) : Option (AV × List AO) :=
  match o.op with
  | .call c => match ayield t c with
    | some (k, args) => yl k args A
    | none => stepA P X call t A o
  | _ => stepA P X call t A o

def seqOps (P : Program) (X : AExt) (call : ACallF) (yl : AYield) (ops : Array Oper) : List Nat → List AV → List AO → Option (List AV × List AO)
  | [], t, A => some (t, A)
  | i :: l, t, A => match ops[i]? with
    | none => none
    | some o => match awanted ops t o with
      | some false => seqOps P X call yl ops l (aput t o.dst aundef) A
      | some true => match stepY P X call yl t A o with
        | some (v, A') => seqOps P X call yl ops l (aput t o.dst v) A'
        | none => none
      | none => none

/-- The machine. -/
def aexec (P : Program) (X : AExt) (R : ARes) : Nat → Bool → Code → List AV → List AO → Option (Exit × List AV × List AO)
  | 0, _, _, _, _ => none
  | n + 1, rd, c, t, A =>
    let call : ACallF := fun g args A => match R g with
      | some h => h args A
      | none => match P.funcs[g]? with
        | some fn => match fn.body with
          | some b => match aexec P X R n false b (args ++ List.replicate (fn.ntmps - args.length) aundef) A with
            | some (.normal, t', A') | some (.ret, t', A') => (ares P fn t' A').map (·, A')
            | _ => none
          | none => none
        | none => none
    let yl : AYield := fun k args A => match A[k]? with
      | some (.loop _ _ tl ps asg body) => if args.length = ps.size then match aexec P X R n true asg (setArgs tl (ps.toList.zip args)) A with
          | some (.normal, t2, A2) => match abegin A2 k with
            | some A3 => match aexec P X R n true body t2 A3 with
              | some (e, _, A4) => aendRound A4 k e
              | none => none
            | none => none
          | _ => none
        else none
      | _ => none
    match c with
    | .skip | .label _ => some (.normal, t, A)
    | .ret => some (.ret, t, A)
    | .exit i => some (.exit i, t, A)
    | .seq a b => match aexec P X R n rd a t A with
      | some (.normal, t', A') => aexec P X R n rd b t' A'
      | r => r
    | .cond x a b => match aev t x with
      | some (.bool v) => aexec P X R n rd (if v then a else b) t A
      | _ => none
    | .block id b => match aexec P X R n rd b t A with
      | some (.exit i, t', A') => if i = id then some (.normal, t', A') else some (.exit i, t', A')
      | r => r
    | .loop b => match aexec P X R n rd b t A with
      | some (.normal, t', A') => aexec P X R n rd (.loop b) t' A'
      | r => r
    | .region _ ops false => match seqOps P X call yl ops (List.range ops.size) t A with
      | some (t', A') => some (.normal, t', A')
      | none => none
    | .region _ ops true => match aregion P X call ops t A with
      | some (t', A') => some (.normal, t', A')
      | none => none
    | .scope b => match aexec P X R n rd b t A with
      | some (.goto _, _, _) => none
      | r => r
    | .rangeFunc g ps asg body => if rd then none else match aev t g with
      | some (.func (.func fid) first cap) => if abody P fid then match call fid ((first ++ [.yld A.length]) ++ cap) (A ++ [.loop .ready none t ps asg body]) with
          | some (_, A2) => match aendLoop A2 A.length with
            | some (none, A3) => some (.normal, t, A3)
            | some (some c, A3) => aexec P X R n false c t A3
            | none => none
          | none => none
        else none
      | _ => none
    | _ => none

/-- A call by the machine. -/
def acallX (P : Program) (X : AExt) (R : ARes) (n : Nat) (g : FuncId) (args : List AV) (A : List AO) : Option (AV × List AO) :=
  match P.funcs[g]? with
  | some fn => match fn.body with
    | some b => match aexec P X R n false b (args ++ List.replicate (fn.ntmps - args.length) aundef) A with
      | some (.normal, t', A') | some (.ret, t', A') => (ares P fn t' A').map (·, A')
      | _ => none
    | none => none
  | none => none

section
variable {P : Program} {X : AExt} {R : ARes} {w0 : World} {call : ACallF} {ops : Array Oper}

theorem ares1_run {m : List (Option Pl)} {A : List AO} {w : World} {a : Act} {t : List AV} (hr : Rel P w0 m A w) (ht : VsRel m t a.tmps) : ∀ {rs : List ResultVar} {l : List AV}, ares1 P t A rs = some l →
    ∃ us : List Value, (rs.mapM (m := Sem) fun | .tmp t => pure (a.tmps.getD t undef) | .cell d ty => do loadVar ty (← asAddr (a.tmps.getD d undef))).run P w = .ok us w ∧ l.length = us.length ∧ ∀ (i : Nat) (x : AV) (u : Value), l[i]? = some x → us[i]? = some u → VRel m x u := by
  intro rs
  induction rs with
  | nil => intro l h; simp [ares1] at h; subst h; exact ⟨[], by simp, rfl, fun i x u hx => by simp at hx⟩
  | cons r rs ih =>
    intro l h
    cases r with
    | tmp d =>
      simp only [ares1] at h
      split at h
      · rename_i v l' hv hl
        simp at h; subst h
        obtain ⟨us, h1, h2, h3⟩ := ih hl
        obtain ⟨u, hu, hvr⟩ := ht.get hv
        have hget : a.tmps.getD d undef = u := by simp [Array.getD_eq_getD_getElem?, hu]
        refine ⟨u :: us, ?_, by simp [h2], fun i x q hx hq => ?_⟩
        · rw [List.mapM_cons]
          simp only [Sem.run_bind, Sem.run_pure, Result.andThen_ok, h1, hget]
        · cases i with
          | zero => simp at hx hq; subst hx hq; exact hvr
          | succ i => exact h3 i x q (by simpa using hx) (by simpa using hq)
      · cases h
    | cell d ty =>
      simp only [ares1] at h
      split at h
      · rename_i x l' hx hl
        split at h
        · rename_i v hv
          simp at h; subst h
          obtain ⟨us, h1, h2, h3⟩ := ih hl
          obtain ⟨u, hu, hvr⟩ := ht.get hx
          have hget : a.tmps.getD d undef = u := by simp [Array.getD_eq_getD_getElem?, hu]
          have hload : ∃ r, (do loadVar ty (← asAddr u) : Sem Value).run P w = .ok r w ∧ VRel m v r := by
            cases hvr <;> simp only [aload] at hv <;> try (cases hv; done)
            rename_i k o p hp
            obtain ⟨r, hr1, hr2⟩ := aloadVar_rel hr hv hp
            exact ⟨r, by simp [asAddr, hr1], hr2⟩
          obtain ⟨r, hr1, hr2⟩ := hload
          refine ⟨r :: us, ?_, by simp [h2], fun i x q hx hq => ?_⟩
          · rw [List.mapM_cons]
            simp only [Sem.run_bind] at hr1 ⊢
            simp only [Sem.run_pure, Result.andThen_ok, h1, hget, hr1]
          · cases i with
            | zero => simp at hx hq; subst hx hq; exact hr2
            | succ i => exact h3 i x q (by simpa using hx) (by simpa using hq)
        · cases h
      · cases h

theorem ares_rel {fn : Func} {t : List AV} {A : List AO} {v : AV} (h : ares P fn t A = some v) : ResRel (P := P) (w0 := w0) fn t A v := by
  intro m w a hr ht
  unfold ares at h
  have run : ∀ {l : List AV}, ares1 P t A fn.results.toList = some l → ∃ us : List Value, (results fn a.tmps).run P w = .ok (if h : us.toArray.size = 1 then us.toArray[0] else .tuple us.toArray) w ∧ l.length = us.length ∧ ∀ (i : Nat) (x : AV) (u : Value), l[i]? = some x → us[i]? = some u → VRel m x u := by
    intro l hl
    obtain ⟨us, h1, h2, h3⟩ := ares1_run hr ht hl
    refine ⟨us, ?_, h2, h3⟩
    unfold results
    have e : (fn.results.mapM (m := Sem) fun | .tmp t => pure (a.tmps.getD t undef) | .cell d ty => do loadVar ty (← asAddr (a.tmps.getD d undef))).run P w = .ok us.toArray w := by
      rw [← Array.toArray_toList (xs := fn.results), List.mapM_toArray, Sem.run_map, h1]; rfl
    simp only [Sem.run_bind]
    exact congrArg (fun r => Result.andThen r _) e
  split at h
  · rename_i x hl
    simp at h; subst h
    obtain ⟨us, h1, h2, h3⟩ := run hl
    cases us with
    | nil => simp at h2
    | cons u us =>
      cases us with
      | cons => simp at h2
      | nil => exact ⟨u, by rw [h1]; rfl, h3 0 _ _ rfl rfl⟩
  · rename_i l hn hl
    simp at h; subst h
    obtain ⟨us, h1, h2, h3⟩ := run hl
    have hne : ¬ us.toArray.size = 1 := by
      intro e
      cases hL : l with
      | nil => rw [hL] at h2; simp at h2 e; omega
      | cons x r =>
        cases r with
        | nil => exact hn x (by rw [hL])
        | cons => rw [hL] at h2; simp at h2 e; omega
    rw [dif_neg hne] at h1
    exact ⟨_, h1, .tuple (by simpa using h2) (fun i x u hx hu => h3 i x u hx (by simpa using hu))⟩
  · cases h

def YieldOk (P : Program) (w0 : World) (yl : AYield) : Prop :=
  ∀ k args A v A', yl k args A = some (v, A') → ∃ st pend tl ps asg body, A[k]? = some (.loop st pend tl ps asg body) ∧ args.length = ps.size ∧
    SCode P w0 true asg (setArgs tl (ps.toList.zip args)) A fun e t2 A2 => e = .normal ∧ ∃ A3, abegin A2 k = some A3 ∧ SCode P w0 true body t2 A3 fun e t3 A4 => ∃ v2 A5, aendRound A4 k e = some (v2, A5) ∧ (v2 = v ∧ A5 = A')

theorem seqOps_ok {yl : AYield} (hX : ExtOk P X) (hc : CallOk P w0 call) (hy : YieldOk P w0 yl) : ∀ {l : List Nat} {t t' : List AV} {A A' : List AO}, seqOps P X call yl ops l t A = some (t', A') → SOps P w0 ops l t A fun t2 A2 => t2 = t' ∧ A2 = A' := by
  intro l
  induction l with
  | nil => intro t t' A A' h; simp [seqOps] at h; obtain ⟨rfl, rfl⟩ := h; exact SOps.nil ⟨rfl, rfl⟩
  | cons i l ih =>
    intro t t' A A' h
    simp only [seqOps] at h
    split at h
    · cases h
    · rename_i o ho
      split at h
      · rename_i hw
        exact SOps.skip ho hw (ih h)
      · rename_i hw
        split at h
        · rename_i v A2 hs
          have plain : stepA P X call t A o = some (v, A2) → SOps P w0 ops (i :: l) t A fun t2 A2 => t2 = t' ∧ A2 = A' := by
            intro hs
            rcases stepA_ok hc hs with hop | ⟨c, g, args, q1, q2, q3, q4⟩
            · exact SOps.vals _ ho hw (aop_vals hX hop) fun v' A3 hm => by simp at hm; obtain ⟨rfl, rfl⟩ := hm; exact ih h
            · exact SOps.enter _ ho hw (acall_enter q1 q2 q3) q4 fun v' A3 hR => by obtain ⟨rfl, rfl⟩ := hR; exact ih h
          unfold stepY at hs
          split at hs
          · rename_i c hc'
            split at hs
            · rename_i k args hyl
              obtain ⟨st, pend, tl, ps, asg, body, y1, y2, y3⟩ := hy _ _ _ _ _ hs
              exact SOps.round _ ho hw hc' hyl y1 y2 y3 fun v' A3 hR => by obtain ⟨rfl, rfl⟩ := hR; exact ih h
            · exact plain hs
          · exact plain hs
        · cases h
      · cases h

/-- The machine tells the truth. -/
theorem aexec_both (hX : ExtOk P X) (hR : ResOk P w0 R) (hmix : P.follows .mixedOrders = true) : ∀ (n : Nat),
    (∀ (rd : Bool) (c : Code) (t : List AV) (A : List AO) (e : Exit) (t' : List AV) (A' : List AO), aexec P X R n rd c t A = some (e, t', A') → SCode P w0 rd c t A fun e2 t2 A2 => e2 = e ∧ t2 = t' ∧ A2 = A') ∧
    (∀ (rd : Bool) (c : Code) (t : List AV) (A : List AO) (e : Exit) (t' : List AV) (A' : List AO), aexec P X R n rd (.loop c) t A = some (e, t', A') → ∃ k, SRounds (P := P) (w0 := w0) rd c (fun e2 t2 A2 => e2 = e ∧ t2 = t' ∧ A2 = A') k t A) := by
  intro n
  induction n with
  | zero => exact ⟨fun rd c t A e t' A' h => by simp [aexec] at h, fun rd c t A e t' A' h => by simp [aexec] at h⟩
  | succ n ihb =>
    obtain ⟨ih, ihl⟩ := ihb
    have hloop : ∀ (rd : Bool) (c : Code) (t : List AV) (A : List AO) (e : Exit) (t' : List AV) (A' : List AO), aexec P X R (n + 1) rd (.loop c) t A = some (e, t', A') → ∃ k, SRounds (P := P) (w0 := w0) rd c (fun e2 t2 A2 => e2 = e ∧ t2 = t' ∧ A2 = A') k t A := by
      intro rd b t A e t' A' h
      simp only [aexec] at h
      split at h
      · rename_i t1 A1 h1
        obtain ⟨k, hk⟩ := ihl _ _ _ _ _ _ _ h
        exact ⟨k + 1, (ih _ _ _ _ _ _ _ h1).mono fun e2 t3 A3 ⟨q1, q2, q3⟩ => by subst q1 q2 q3; exact hk⟩
      · rename_i hne
        refine ⟨1, (ih _ _ _ _ _ _ _ h).mono fun e2 t3 A3 ⟨q1, q2, q3⟩ => ?_⟩
        subst q1 q2 q3
        cases e2 with
        | normal => exact absurd h (hne _ _)
        | _ => exact ⟨rfl, rfl, rfl⟩
    refine ⟨fun rd c t A e t' A' h => ?_, hloop⟩
    have hcall : CallOk P w0 (fun g args A => match R g with
      | some h => h args A
      | none => match P.funcs[g]? with
        | some fn => match fn.body with
          | some b => match aexec P X R n false b (args ++ List.replicate (fn.ntmps - args.length) aundef) A with
            | some (.normal, t', A') | some (.ret, t', A') => (ares P fn t' A').map (·, A')
            | _ => none
          | none => none
        | none => none) := by
      intro g args A v A' hg hb
      simp only at hg
      split at hg
      · rename_i hh hr
        exact hR g hh hr args A v A' hg
      · split at hg
        · rename_i fn hf
          split at hg
          · rename_i b hbody
            split at hg
            · rename_i t2 A2 hex
              obtain ⟨q, hq, he⟩ := Option.map_eq_some_iff.1 hg
              simp at he; obtain ⟨rfl, rfl⟩ := he
              exact SCall.body hf hbody ((ih _ _ _ _ _ _ _ hex).mono fun e2 t3 A3 ⟨h1, h2, h3⟩ => by subst h1 h2 h3; exact ⟨.inl rfl, q, ares_rel hq, rfl, rfl⟩)
            · rename_i t2 A2 hex
              obtain ⟨q, hq, he⟩ := Option.map_eq_some_iff.1 hg
              simp at he; obtain ⟨rfl, rfl⟩ := he
              exact SCall.body hf hbody ((ih _ _ _ _ _ _ _ hex).mono fun e2 t3 A3 ⟨h1, h2, h3⟩ => by subst h1 h2 h3; exact ⟨.inr rfl, q, ares_rel hq, rfl, rfl⟩)
            · cases hg
          · cases hg
        · cases hg
    have hyl : YieldOk P w0 (fun k args A => match A[k]? with
      | some (.loop _ _ tl ps asg body) => if args.length = ps.size then match aexec P X R n true asg (setArgs tl (ps.toList.zip args)) A with
          | some (.normal, t2, A2) => match abegin A2 k with
            | some A3 => match aexec P X R n true body t2 A3 with
              | some (e, _, A4) => aendRound A4 k e
              | none => none
            | none => none
          | _ => none
        else none
      | _ => none) := by
      intro k args A v A' hh
      simp only at hh
      split at hh
      case h_2 => cases hh
      rename_i st pend tl ps asg body hk
      split at hh
      case isFalse => cases hh
      rename_i hl
      split at hh
      case h_2 => cases hh
      rename_i t2 A2 h1
      split at hh
      case h_2 => cases hh
      rename_i A3 h2
      split at hh
      case h_2 => cases hh
      rename_i e t3 A4 h3
      refine ⟨_, _, _, _, _, _, hk, hl, (ih _ _ _ _ _ _ _ h1).mono fun e2 t4 A5 ⟨q1, q2, q3⟩ => ?_⟩
      subst q1 q2 q3
      exact ⟨rfl, _, h2, (ih _ _ _ _ _ _ _ h3).mono fun e5 t5 A6 ⟨r1, r2, r3⟩ => by subst r1 r2 r3; exact ⟨_, _, hh, rfl, rfl⟩⟩
    simp only [aexec] at h
    split at h
    · simp at h; obtain ⟨rfl, rfl, rfl⟩ := h; exact SCode.skip ⟨rfl, rfl, rfl⟩
    · simp at h; obtain ⟨rfl, rfl, rfl⟩ := h; exact SCode.label ⟨rfl, rfl, rfl⟩
    · simp at h; obtain ⟨rfl, rfl, rfl⟩ := h; exact SCode.ret ⟨rfl, rfl, rfl⟩
    · simp at h; obtain ⟨rfl, rfl, rfl⟩ := h; exact SCode.exit ⟨rfl, rfl, rfl⟩
    · rename_i a b
      split at h
      · rename_i t1 A1 h1
        refine SCode.seq (fun t2 A2 => t2 = t1 ∧ A2 = A1) ((ih _ _ _ _ _ _ _ h1).mono fun e2 t3 A3 ⟨q1, q2, q3⟩ => by subst q1; exact ⟨q2, q3⟩) fun t2 A2 ⟨q1, q2⟩ => by subst q1 q2; exact ih _ _ _ _ _ _ _ h
      · rename_i hne
        refine SCode.seq (fun _ _ => False) ((ih _ _ _ _ _ _ _ h).mono fun e2 t3 A3 ⟨q1, q2, q3⟩ => ?_) fun t2 A2 hf => hf.elim
        subst q1 q2 q3
        cases e2 with
        | normal => exact absurd h (hne _ _)
        | _ => exact ⟨rfl, rfl, rfl⟩
    · rename_i x a b
      split at h
      · rename_i v hv
        exact SCode.cond v hv (ih _ _ _ _ _ _ _ h)
      · cases h
    · rename_i id b
      split at h
      · rename_i i t1 A1 h1
        refine SCode.block ((ih _ _ _ _ _ _ _ h1).mono fun e2 t3 A3 ⟨q1, q2, q3⟩ => ?_)
        subst q1 q2 q3
        simp only [AInBlock]
        split at h
        · rename_i hi
          simp at h; obtain ⟨rfl, rfl, rfl⟩ := h
          rw [if_pos hi]; exact ⟨rfl, rfl, rfl⟩
        · rename_i hi
          simp at h; obtain ⟨rfl, rfl, rfl⟩ := h
          rw [if_neg hi]; exact ⟨rfl, rfl, rfl⟩
      · rename_i hne
        refine SCode.block ((ih _ _ _ _ _ _ _ h).mono fun e2 t3 A3 ⟨q1, q2, q3⟩ => ?_)
        subst q1 q2 q3
        cases e2 with
        | exit i => exact absurd h (hne _ _ _)
        | _ => exact ⟨rfl, rfl, rfl⟩
    · rename_i b
      -- a loop, round by round
      obtain ⟨k, hk⟩ := hloop rd b t A e t' A' (by simp only [aexec]; exact h)
      exact SCode.loop k hk
    · rename_i id ops
      split at h
      · rename_i t1 A1 h1
        simp at h; obtain ⟨rfl, rfl, rfl⟩ := h
        exact SCode.region ((seqOps_ok hX hcall hyl h1).mono fun t2 A2 ⟨q1, q2⟩ => ⟨rfl, q1, q2⟩)
      · cases h
    · rename_i id ops
      split at h
      · rename_i t1 A1 h1
        simp at h; obtain ⟨rfl, rfl, rfl⟩ := h
        exact aregion_ok hX hmix hcall h1 ⟨rfl, rfl, rfl⟩
      · cases h
    · rename_i b
      split at h
      · cases h
      · rename_i hne
        refine SCode.scope ((ih _ _ _ _ _ _ _ h).mono fun e2 t3 A3 ⟨q1, q2, q3⟩ => ?_)
        subst q1 q2 q3
        refine ⟨fun l hl => ?_, rfl, rfl, rfl⟩
        subst hl
        exact hne _ _ _ h
    · rename_i g ps asg body
      split at h
      · cases h
      rename_i hrd
      have hrd : rd = false := by simpa using hrd
      subst hrd
      split at h
      case h_2 => cases h
      rename_i fid first cap hev
      split at h
      case isFalse => cases h
      rename_i hb
      split at h
      case h_2 => cases h
      rename_i v A2 hc
      have hc' := hcall _ _ _ _ _ hc hb
      split at h
      · rename_i A3 hend
        simp at h; obtain ⟨rfl, rfl, rfl⟩ := h
        exact SCode.rangeFunc _ hev hb hc' fun v' A4 ⟨e1, e2⟩ => by subst e1 e2; exact ⟨_, _, hend, rfl, rfl, rfl⟩
      · rename_i c A3 hend
        exact SCode.rangeFunc _ hev hb hc' fun v' A4 ⟨e1, e2⟩ => by subst e1 e2; exact ⟨_, _, hend, ih _ _ _ _ _ _ _ h⟩
      · cases h
    · cases h

theorem aexec_ok (hX : ExtOk P X) (hR : ResOk P w0 R) (hmix : P.follows .mixedOrders = true) (n : Nat) (rd : Bool) (c : Code) (t : List AV) (A : List AO) (e : Exit) (t' : List AV) (A' : List AO) (h : aexec P X R n rd c t A = some (e, t', A')) :
    SCode P w0 rd c t A fun e2 t2 A2 => e2 = e ∧ t2 = t' ∧ A2 = A' := (aexec_both hX hR hmix n).1 rd c t A e t' A' h

theorem acallX_ok (hX : ExtOk P X) (hR : ResOk P w0 R) (hmix : P.follows .mixedOrders = true) {n : Nat} {g : FuncId} {args : List AV} {A A' : List AO} {v : AV} (h : acallX P X R n g args A = some (v, A')) :
    SCall P w0 g args A fun v' A'' => v' = v ∧ A'' = A' := by
  unfold acallX at h
  split at h
  · rename_i fn hf
    split at h
    · rename_i b hbody
      split at h
      · rename_i t2 A2 hex
        obtain ⟨q, hq, he⟩ := Option.map_eq_some_iff.1 h
        simp at he; obtain ⟨rfl, rfl⟩ := he
        exact SCall.body hf hbody ((aexec_ok hX hR hmix _ _ _ _ _ _ _ _ hex).mono fun e2 t3 A3 ⟨h1, h2, h3⟩ => by subst h1 h2 h3; exact ⟨.inl rfl, q, ares_rel hq, rfl, rfl⟩)
      · rename_i t2 A2 hex
        obtain ⟨q, hq, he⟩ := Option.map_eq_some_iff.1 h
        simp at he; obtain ⟨rfl, rfl⟩ := he
        exact SCall.body hf hbody ((aexec_ok hX hR hmix _ _ _ _ _ _ _ _ hex).mono fun e2 t3 A3 ⟨h1, h2, h3⟩ => by subst h1 h2 h3; exact ⟨.inr rfl, q, ares_rel hq, rfl, rfl⟩)
      · cases h
    · cases h
  · cases h

/-- A call that needs nothing of the heap: it answers v wherever it is made, and what was there stays. -/
theorem closed_call (hX : ExtOk P X) (hmix : P.follows .mixedOrders = true) {n : Nat} {g : FuncId} {v : AV} {A' : List AO} (h : acallX P X (fun _ => none) n g [] [] = some (v, A')) (w : World) :
    Calls P g #[] w fun e w' => ∃ u m, e = .returned u ∧ VRel m v u ∧ Below w.heap.size w w' := by
  have hs := acallX_ok (w0 := w) hX (fun g h hg => by cases hg) hmix h [] w #[] (Rel.nil P w) (VsRel.nil [])
  exact hs.mono fun e w' ⟨u, v', A2, m', h1, h2, h3, h4, ⟨h5, h6⟩, hk⟩ => ⟨u, m', h1, by rw [← h5]; exact h2, h4.below⟩
end
end Go.Am
