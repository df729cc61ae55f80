/- A part of the proof: Am26. -/
import Derived.Test.YthipnddfplbamaaDoorAm25
set_option linter.unusedVariables false
set_option linter.unusedSimpArgs false
namespace Go.Am
open Go.RowKit

/-! ### The machine on unknown numbers: comparisons are told ahead, and what they must come to is handed back -/
inductive OC where
  | b (x d : Bool)
  | op (r told : Option (AV × List AO))
def OC.ok : OC → Prop
  | .b x d => x = d
  | .op r told => r = told
abbrev OCs := List OC
def okC (l : OCs) : Prop := ∀ x ∈ l, x.ok
/-- What is told ahead: a comparison's answer, or an operation's (by region and place). -/
inductive OT where
  | d (b : Bool)
  | v (id i : Nat) (v : AV) (A : List AO)
theorem okC.left {a b : OCs} (h : okC (a ++ b)) : okC a := fun x hx => h x (by simp [hx])
theorem okC.right {a b : OCs} (h : okC (a ++ b)) : okC b := fun x hx => h x (by simp [hx])

abbrev OCallF := FuncId → List AV → List AO → List OT → Option (AV × List AO × List OT × OCs)

def odec (o : Op) (v : AV) (q : List OT) : Option (AV × List OT × OCs) :=
  match o with
  | .binOp .. => match v with
    | .bool b => match q with
      | .d d :: r => some (.bool d, r, [.b b d])
      | _ => none
    | v => some (v, q, [])
  | _ => some (v, q, [])

def ohere (id i : Nat) : List OT → Bool
  | .v a b _ _ :: _ => a == id && b == i
  | _ => false
def oplain (P : Program) (X : AExt) (t : List AV) (A : List AO) (o : Oper) (id i : Nat) (q : List OT) : Option (AV × List AO × List OT × OCs) :=
  if ohere id i q then match q with
    | .v _ _ v A' :: r => some (v, A', r, [.op (aop P X t A o) (some (v, A'))])
    | _ => none
  else match aop P X t A o with
  | some (v, A') => match odec o.op v q with
    | some (v', q', cs) => some (v', A', q', cs)
    | none => none
  | none => none

def ostep (P : Program) (X : AExt) (call : OCallF) (t : List AV) (A : List AO) (o : Oper) (id i : Nat) (q : List OT) : Option (AV × List AO × List OT × OCs) :=
  match o.op with
  | .call c => match acallTarget P t c with
    | some (g, args) => if (X g).isSome then oplain P X t A o id i q else if abody P g then call g args A q else none
    | none => oplain P X t A o id i q
  | _ => oplain P X t A o id i q

def oseq (P : Program) (X : AExt) (call : OCallF) (id : Nat) (ops : Array Oper) : Nat → Nat → List AV → List AO → List OT → Option (List AV × List AO × List OT × OCs)
  | 0, _, t, A, q => some (t, A, q, [])
  | m + 1, i, t, A, q => match ops[i]? with
    | none => none
    | some o => match awanted ops t o with
      | some false => oseq P X call id ops m (i + 1) (aput t o.dst aundef) A q
      | some true => match ostep P X call t A o id i q with
        | some (v, A', q', cs) => match oseq P X call id ops m (i + 1) (aput t o.dst v) A' q' with
          | some (t2, A2, q2, cs2) => some (t2, A2, q2, cs ++ cs2)
          | none => none
        | none => none
      | none => none

def oexec (P : Program) (X : AExt) (R : ARes) : Nat → Code → List AV → List AO → List OT → Option (Exit × List AV × List AO × List OT × OCs)
  | 0, _, _, _, _ => none
  | n + 1, c, t, A, q =>
    let call : OCallF := fun g args A q => match R g with
      | some h => match h args A with
        | some (v, A') => some (v, A', q, [])
        | none => none
      | none => match P.funcs[g]? with
        | some fn => match fn.body with
          | some b => match oexec P X R n b (args ++ List.replicate (fn.ntmps - args.length) aundef) A q with
            | some (.normal, t', A', q', cs) | some (.ret, t', A', q', cs) => match ares P fn t' A' with
              | some v => some (v, A', q', cs)
              | none => none
            | _ => none
          | none => none
        | none => none
    match c with
    | .skip | .label _ => some (.normal, t, A, q, [])
    | .ret => some (.ret, t, A, q, [])
    | .exit i => some (.exit i, t, A, q, [])
    | .seq a b => match oexec P X R n a t A q with
      | some (.normal, t', A', q', cs) => match oexec P X R n b t' A' q' with
        | some (e, t2, A2, q2, cs2) => some (e, t2, A2, q2, cs ++ cs2)
        | none => none
      | r => r
    | .cond x a b => match aev t x with
      | some (.bool v) => oexec P X R n (if v then a else b) t A q
      | _ => none
    | .block id b => match oexec P X R n b t A q with
      | some (.exit i, t', A', q', cs) => if i = id then some (.normal, t', A', q', cs) else some (.exit i, t', A', q', cs)
      | r => r
    | .loop b => match oexec P X R n b t A q with
      | some (.normal, t', A', q', cs) => match oexec P X R n (.loop b) t' A' q' with
        | some (e, t2, A2, q2, cs2) => some (e, t2, A2, q2, cs ++ cs2)
        | none => none
      | r => r
    | .scope b => match oexec P X R n b t A q with
      | some (.goto _, _, _, _, _) => none
      | r => r
    | .region id ops false => match oseq P X call id ops ops.size 0 t A q with
      | some (t', A', q', cs) => some (.normal, t', A', q', cs)
      | none => none
    | .region id ops true => if detB P X ops then match oseq P X call id ops ops.size 0 t A q with
        | some (t', A', q', cs) => some (.normal, t', A', q', cs)
        | none => none
      else none
    | _ => none

section
variable {P : Program} {X : AExt} {R : ARes} {w0 : World} {ops : Array Oper}

def OCallOk (P : Program) (w0 : World) (call : OCallF) : Prop :=
  ∀ g args A q v A' q' cs, call g args A q = some (v, A', q', cs) → okC cs → abody P g = true → SCall P w0 g args A fun v' A'' => v' = v ∧ A'' = A'

theorem oplain_ok {id i : Nat} {t : List AV} {A A' : List AO} {o : Oper} {q q' : List OT} {v : AV} {cs : OCs} (h : oplain P X t A o id i q = some (v, A', q', cs)) (hc : okC cs) : aop P X t A o = some (v, A') := by
  unfold oplain at h
  split at h
  · split at h
    · simp only [Option.some.injEq, Prod.mk.injEq] at h
      obtain ⟨rfl, rfl, rfl, rfl⟩ := h
      exact hc (.op _ _) (by simp)
    · cases h
  split at h
  · rename_i v0 A0 hop
    split at h
    · rename_i v1 q1 c1 hd
      simp only [Option.some.injEq, Prod.mk.injEq] at h
      obtain ⟨rfl, rfl, rfl, rfl⟩ := h
      rw [hop]
      have : v0 = v1 := by
        unfold odec at hd
        split at hd
        · split at hd
          · rename_i b
            split at hd
            · rename_i d r hnh
              simp only [Option.some.injEq, Prod.mk.injEq] at hd
              obtain ⟨rfl, rfl, rfl⟩ := hd
              have := hc (.b b d) (by simp)
              simp only [OC.ok] at this
              rw [this]
            · cases hd
          · simp only [Option.some.injEq, Prod.mk.injEq] at hd; exact hd.1
        · simp only [Option.some.injEq, Prod.mk.injEq] at hd; exact hd.1
      rw [this]
    · cases h
  · cases h

theorem ostep_ok {call : OCallF} (hcall : OCallOk P w0 call) {id i : Nat} {t : List AV} {A A' : List AO} {o : Oper} {q q' : List OT} {v : AV} {cs : OCs} (h : ostep P X call t A o id i q = some (v, A', q', cs)) (hc : okC cs) : OpDoes P X w0 t A o v A' := by
  unfold ostep at h
  split at h
  · rename_i c ho
    split at h
    · rename_i g args ht
      split at h
      · exact .inl (oplain_ok h hc)
      · rename_i hx
        split at h
        · rename_i hb
          exact .inr ⟨c, g, args, ho, by simpa using hx, ht, hb, hcall _ _ _ _ _ _ _ _ h hc hb⟩
        · cases h
    · exact .inl (oplain_ok h hc)
  · exact .inl (oplain_ok h hc)

theorem oseq_run {call : OCallF} (hcall : OCallOk P w0 call) {id : Nat} : ∀ (m i : Nat) (t : List AV) (A : List AO) (q : List OT) (t' : List AV) (A' : List AO) (q' : List OT) (cs : OCs), oseq P X call id ops m i t A q = some (t', A', q', cs) → okC cs →
    ∃ (T : Nat → List AV) (H : Nat → List AO), T i = t ∧ H i = A ∧ T (i + m) = t' ∧ H (i + m) = A' ∧ ∀ j, i ≤ j → j < i + m → StepD P X w0 ops j (T j) (H j) (T (j + 1)) (H (j + 1)) := by
  intro m
  induction m with
  | zero =>
    intro i t A q t' A' q' cs h hc
    simp only [oseq, Option.some.injEq, Prod.mk.injEq] at h
    obtain ⟨rfl, rfl, _, _⟩ := h
    exact ⟨fun _ => t, fun _ => A, rfl, rfl, rfl, rfl, fun j h1 h2 => by omega⟩
  | succ m ih =>
    intro i t A q t' A' q' cs h hc
    have fin : ∀ (t1 : List AV) (A1 : List AO) (q1 : List OT) (cs1 : OCs), StepD P X w0 ops i t A t1 A1 → oseq P X call id ops m (i + 1) t1 A1 q1 = some (t', A', q', cs1) → okC cs1 →
        ∃ (T : Nat → List AV) (H : Nat → List AO), T i = t ∧ H i = A ∧ T (i + (m + 1)) = t' ∧ H (i + (m + 1)) = A' ∧ ∀ j, i ≤ j → j < i + (m + 1) → StepD P X w0 ops j (T j) (H j) (T (j + 1)) (H (j + 1)) := by
      intro t1 A1 q1 cs1 hs h1 hc1
      obtain ⟨T, H, p1, p2, p3, p4, p5⟩ := ih _ _ _ _ _ _ _ _ h1 hc1
      refine ⟨fun j => if j = i then t else T j, fun j => if j = i then A else H j, by simp, by simp, ?_, ?_, fun j hj1 hj2 => ?_⟩
      · show (if i + (m + 1) = i then t else T (i + (m + 1))) = t'
        rw [if_neg (by omega), ← p3]; congr 1; omega
      · show (if i + (m + 1) = i then A else H (i + (m + 1))) = A'
        rw [if_neg (by omega), ← p4]; congr 1; omega
      · show StepD P X w0 ops j (if j = i then t else T j) (if j = i then A else H j) (if j + 1 = i then t else T (j + 1)) (if j + 1 = i then A else H (j + 1))
        by_cases hji : j = i
        · subst hji
          rw [if_pos rfl, if_pos rfl, if_neg (by omega), if_neg (by omega), p1, p2]
          exact hs
        · rw [if_neg hji, if_neg hji, if_neg (by omega), if_neg (by omega)]
          exact p5 j (by omega) (by omega)
    simp only [oseq] at h
    split at h
    · cases h
    · rename_i o ho
      split at h
      · rename_i hw
        exact fin _ _ _ _ ⟨o, aundef, ho, rfl, .inl ⟨hw, rfl, rfl⟩⟩ h hc
      · rename_i hw
        split at h
        · rename_i v A1 q1 c1 hs
          split at h
          · rename_i t2 A2 q2 c2 h2
            simp only [Option.some.injEq, Prod.mk.injEq] at h
            obtain ⟨rfl, rfl, rfl, rfl⟩ := h
            exact fin _ _ _ _ ⟨o, v, ho, rfl, .inr ⟨hw, ostep_ok hcall hs hc.left⟩⟩ h2 hc.right
          · cases h
        · cases h
      · cases h

theorem steps_ops (hX : ExtOk P X) {T : Nat → List AV} {H : Nat → List AO} : ∀ (m i : Nat), (∀ j, i ≤ j → j < i + m → StepD P X w0 ops j (T j) (H j) (T (j + 1)) (H (j + 1))) →
    SOps P w0 ops (List.range' i m) (T i) (H i) fun t A => t = T (i + m) ∧ A = H (i + m) := by
  intro m
  induction m with
  | zero => intro i _; exact SOps.nil ⟨rfl, rfl⟩
  | succ m ih =>
    intro i h
    obtain ⟨o, v, ho, hT, hd⟩ := h i (Nat.le_refl _) (by omega)
    have hrest := ih (i + 1) fun j h1 h2 => h j (by omega) (by omega)
    rw [show i + 1 + m = i + (m + 1) by omega] at hrest
    rw [List.range'_succ]
    rcases hd with ⟨hw, rfl, hH⟩ | ⟨hw, hdo⟩
    · rw [hT, hH] at hrest
      exact SOps.skip ho hw hrest
    · rw [hT] at hrest
      rcases hdo with hop | ⟨c, g, args, q1, _, q2, q3, q4⟩
      · exact SOps.vals _ ho hw (aop_vals hX hop) fun v' A3 hm => by simp at hm; obtain ⟨rfl, rfl⟩ := hm; exact hrest
      · exact SOps.enter _ ho hw (acall_enter q1 q2 q3) q4 fun v' A3 ⟨e1, e2⟩ => by subst e1; rw [e2]; exact hrest

theorem SCode.told {rd : Bool} (hX : ExtOk P X) (hmix : P.follows .mixedOrders = true) {dr : Bool} (hd : dr = true → detB P X ops = true) {call : OCallF} (hcall : OCallOk P w0 call) {id : Nat} {t t' : List AV} {A A' : List AO} {q q' : List OT} {cs : OCs}
    (h : oseq P X call id ops ops.size 0 t A q = some (t', A', q', cs)) (hc : okC cs) {K : AK} (hk : K .normal t' A') : SCode P w0 rd (.region id ops dr) t A K := by
  obtain ⟨T, H, rfl, rfl, h3, h4, h5⟩ := oseq_run hcall _ _ _ _ _ _ _ _ _ h hc
  rw [Nat.zero_add] at h3 h4
  cases dr with
  | false =>
    refine SCode.region ?_
    have := steps_ops (w0 := w0) hX ops.size 0 h5
    rw [← List.range_eq_range', Nat.zero_add] at this
    exact this.mono fun t2 A2 ⟨e1, e2⟩ => by rw [e1, e2, h3, h4]; exact hk
  | true =>
    have R : RunD P X w0 ops T H := ⟨fun i hi => h5 i (Nat.zero_le _) (by omega)⟩
    refine SCode.plan hX hmix (R.plan (hd rfl)) fun H' hH' => ?_
    simp only at hH'
    rw [List.getElem?_append_right (by simp)] at hH'
    simp at hH'
    rw [← hH', h3, h4]
    exact hk

theorem oexec_both (hX : ExtOk P X) (hR : ResOk P w0 R) (hmix : P.follows .mixedOrders = true) : ∀ (n : Nat),
    (∀ (rd : Bool) (c : Code) (t : List AV) (A : List AO) (q : List OT) (e : Exit) (t' : List AV) (A' : List AO) (q' : List OT) (cs : OCs), oexec P X R n c t A q = some (e, t', A', q', cs) → okC cs → SCode P w0 rd c t A fun e2 t2 A2 => e2 = e ∧ t2 = t' ∧ A2 = A') ∧
    (∀ (rd : Bool) (c : Code) (t : List AV) (A : List AO) (q : List OT) (e : Exit) (t' : List AV) (A' : List AO) (q' : List OT) (cs : OCs), oexec P X R n (.loop c) t A q = some (e, t', A', q', cs) → okC cs → ∃ k, SRounds (P := P) (w0 := w0) rd c (fun e2 t2 A2 => e2 = e ∧ t2 = t' ∧ A2 = A') k t A) := by
  intro n
  induction n with
  | zero => exact ⟨fun rd c t A q e t' A' q' cs h => by simp [oexec] at h, fun rd c t A q e t' A' q' cs h => by simp [oexec] at h⟩
  | succ n ihb =>
    obtain ⟨ih, ihl⟩ := ihb
    have hloop : ∀ (rd : Bool) (c : Code) (t : List AV) (A : List AO) (q : List OT) (e : Exit) (t' : List AV) (A' : List AO) (q' : List OT) (cs : OCs), oexec P X R (n + 1) (.loop c) t A q = some (e, t', A', q', cs) → okC cs → ∃ k, SRounds (P := P) (w0 := w0) rd c (fun e2 t2 A2 => e2 = e ∧ t2 = t' ∧ A2 = A') k t A := by
      intro rd b t A q e t' A' q' cs h hc
      simp only [oexec] at h
      split at h
      · rename_i t1 A1 q1 c1 h1
        split at h
        · rename_i e2 t2 A2 q2 c2 h2
          simp only [Option.some.injEq, Prod.mk.injEq] at h
          obtain ⟨rfl, rfl, rfl, rfl, rfl⟩ := h
          obtain ⟨k, hk⟩ := ihl rd _ _ _ _ _ _ _ _ _ h2 hc.right
          exact ⟨k + 1, (ih _ _ _ _ _ _ _ _ _ _ h1 hc.left).mono fun e2 t3 A3 ⟨q1, q2, q3⟩ => by subst q1 q2 q3; exact hk⟩
        · cases h
      · rename_i hne
        refine ⟨1, (ih _ _ _ _ _ _ _ _ _ _ h hc).mono fun e2 t3 A3 ⟨q1, q2, q3⟩ => ?_⟩
        subst q1 q2 q3
        cases e2 with
        | normal => exact absurd h (hne _ _ _ _)
        | _ => exact ⟨rfl, rfl, rfl⟩
    refine ⟨fun rd c t A q e t' A' q' cs h hc => ?_, hloop⟩
    have hcall : OCallOk P w0 (fun g args A q => match R g with
      | some h => match h args A with
        | some (v, A') => some (v, A', q, [])
        | none => none
      | none => match P.funcs[g]? with
        | some fn => match fn.body with
          | some b => match oexec P X R n b (args ++ List.replicate (fn.ntmps - args.length) aundef) A q with
            | some (.normal, t', A', q', cs) | some (.ret, t', A', q', cs) => match ares P fn t' A' with
              | some v => some (v, A', q', cs)
              | none => none
            | _ => none
          | none => none
        | none => none) := by
      intro g args A q v A' q' cs hg hc hb
      simp only at hg
      split at hg
      · rename_i hh hr
        split at hg
        · rename_i v1 A1 h1
          simp only [Option.some.injEq, Prod.mk.injEq] at hg
          obtain ⟨rfl, rfl, rfl, rfl⟩ := hg
          exact hR g hh hr args A _ _ h1
        · cases hg
      · split at hg
        · rename_i fn hf
          split at hg
          · rename_i b hbody
            split at hg
            · rename_i t2 A2 q2 c2 hex
              split at hg
              · rename_i v1 hv
                simp only [Option.some.injEq, Prod.mk.injEq] at hg
                obtain ⟨rfl, rfl, rfl, rfl⟩ := hg
                exact SCall.body hf hbody ((ih _ _ _ _ _ _ _ _ _ _ hex hc).mono fun e2 t3 A3 ⟨h1, h2, h3⟩ => by subst h1 h2 h3; exact ⟨.inl rfl, _, ares_rel hv, rfl, rfl⟩)
              · cases hg
            · rename_i t2 A2 q2 c2 hex
              split at hg
              · rename_i v1 hv
                simp only [Option.some.injEq, Prod.mk.injEq] at hg
                obtain ⟨rfl, rfl, rfl, rfl⟩ := hg
                exact SCall.body hf hbody ((ih _ _ _ _ _ _ _ _ _ _ hex hc).mono fun e2 t3 A3 ⟨h1, h2, h3⟩ => by subst h1 h2 h3; exact ⟨.inr rfl, _, ares_rel hv, rfl, rfl⟩)
              · cases hg
            · cases hg
          · cases hg
        · cases hg
    simp only [oexec] at h
    split at h
    · simp only [Option.some.injEq, Prod.mk.injEq] at h; obtain ⟨rfl, rfl, rfl, rfl, rfl⟩ := h; exact SCode.skip ⟨rfl, rfl, rfl⟩
    · simp only [Option.some.injEq, Prod.mk.injEq] at h; obtain ⟨rfl, rfl, rfl, rfl, rfl⟩ := h; exact SCode.label ⟨rfl, rfl, rfl⟩
    · simp only [Option.some.injEq, Prod.mk.injEq] at h; obtain ⟨rfl, rfl, rfl, rfl, rfl⟩ := h; exact SCode.ret ⟨rfl, rfl, rfl⟩
    · simp only [Option.some.injEq, Prod.mk.injEq] at h; obtain ⟨rfl, rfl, rfl, rfl, rfl⟩ := h; exact SCode.exit ⟨rfl, rfl, rfl⟩
    · rename_i a b
      split at h
      · rename_i t1 A1 q1 c1 h1
        split at h
        · rename_i e2 t2 A2 q2 c2 h2
          simp only [Option.some.injEq, Prod.mk.injEq] at h
          obtain ⟨rfl, rfl, rfl, rfl, rfl⟩ := h
          exact SCode.seq (fun t2 A2 => t2 = t1 ∧ A2 = A1) ((ih _ _ _ _ _ _ _ _ _ _ h1 hc.left).mono fun e2 t3 A3 ⟨q1, q2, q3⟩ => by subst q1; exact ⟨q2, q3⟩) fun t2 A2 ⟨q1, q2⟩ => by subst q1 q2; exact ih _ _ _ _ _ _ _ _ _ _ h2 hc.right
        · cases h
      · rename_i hne
        refine SCode.seq (fun _ _ => False) ((ih _ _ _ _ _ _ _ _ _ _ h hc).mono fun e2 t3 A3 ⟨q1, q2, q3⟩ => ?_) fun t2 A2 hf => hf.elim
        subst q1 q2 q3
        cases e2 with
        | normal => exact absurd h (hne _ _ _ _)
        | _ => exact ⟨rfl, rfl, rfl⟩
    · rename_i x a b
      split at h
      · rename_i v hv
        exact SCode.cond v hv (ih _ _ _ _ _ _ _ _ _ _ h hc)
      · cases h
    · rename_i id b
      split at h
      · rename_i i t1 A1 q1 c1 h1
        refine SCode.block ((ih _ _ _ _ _ _ _ _ _ _ h1 (by split at h <;> simp only [Option.some.injEq, Prod.mk.injEq] at h <;> (rw [h.2.2.2.2]; exact hc))).mono fun e2 t3 A3 ⟨q1, q2, q3⟩ => ?_)
        subst q1 q2 q3
        simp only [AInBlock]
        split at h
        · rename_i hi
          simp only [Option.some.injEq, Prod.mk.injEq] at h; obtain ⟨rfl, rfl, rfl, rfl, rfl⟩ := h
          rw [if_pos hi]; exact ⟨rfl, rfl, rfl⟩
        · rename_i hi
          simp only [Option.some.injEq, Prod.mk.injEq] at h; obtain ⟨rfl, rfl, rfl, rfl, rfl⟩ := h
          rw [if_neg hi]; exact ⟨rfl, rfl, rfl⟩
      · rename_i hne
        refine SCode.block ((ih _ _ _ _ _ _ _ _ _ _ h hc).mono fun e2 t3 A3 ⟨q1, q2, q3⟩ => ?_)
        subst q1 q2 q3
        cases e2 with
        | exit i => exact absurd h (hne _ _ _ _ _)
        | _ => exact ⟨rfl, rfl, rfl⟩
    · rename_i b
      obtain ⟨k, hk⟩ := hloop rd b t A q e t' A' q' cs (by simp only [oexec]; exact h) hc
      exact SCode.loop k hk
    · rename_i b
      split at h
      · cases h
      · rename_i hne
        refine SCode.scope ((ih _ _ _ _ _ _ _ _ _ _ h hc).mono fun e2 t3 A3 ⟨q1, q2, q3⟩ => ?_)
        subst q1 q2 q3
        refine ⟨fun l hl => ?_, rfl, rfl, rfl⟩
        subst hl
        exact hne _ _ _ _ _ h
    · rename_i id ops
      split at h
      · rename_i t1 A1 q1 c1 h1
        simp only [Option.some.injEq, Prod.mk.injEq] at h; obtain ⟨rfl, rfl, rfl, rfl, rfl⟩ := h
        exact SCode.told hX hmix (fun h => by cases h) hcall h1 hc ⟨rfl, rfl, rfl⟩
      · cases h
    · rename_i id ops
      split at h
      · rename_i hdet
        split at h
        · rename_i t1 A1 q1 c1 h1
          simp only [Option.some.injEq, Prod.mk.injEq] at h; obtain ⟨rfl, rfl, rfl, rfl, rfl⟩ := h
          exact SCode.told hX hmix (fun _ => hdet) hcall h1 hc ⟨rfl, rfl, rfl⟩
        · cases h
      · cases h
    · cases h

theorem oexec_ok (hX : ExtOk P X) (hR : ResOk P w0 R) (hmix : P.follows .mixedOrders = true) {n : Nat} {rd : Bool} {c : Code} {t t' : List AV} {A A' : List AO} {q q' : List OT} {e : Exit} {cs : OCs} (h : oexec P X R n c t A q = some (e, t', A', q', cs)) (hc : okC cs) :
    SCode P w0 rd c t A fun e2 t2 A2 => e2 = e ∧ t2 = t' ∧ A2 = A' := (oexec_both hX hR hmix n).1 rd c t A q e t' A' q' cs h hc

/-- A call along one path. -/
def ocall (P : Program) (X : AExt) (R : ARes) (n : Nat) (g : FuncId) (args : List AV) (A : List AO) (q : List OT) : Option (AV × List AO × OCs) :=
  match P.funcs[g]? with
  | some fn => match fn.body with
    | some b => match oexec P X R n b (args ++ List.replicate (fn.ntmps - args.length) aundef) A q with
      | some (.normal, t', A', _, cs) | some (.ret, t', A', _, cs) => match ares P fn t' A' with
        | some v => some (v, A', cs)
        | none => none
      | _ => none
    | none => none
  | none => none

theorem ocall_ok (hX : ExtOk P X) (hR : ResOk P w0 R) (hmix : P.follows .mixedOrders = true) {n : Nat} {g : FuncId} {args : List AV} {A A' : List AO} {q : List OT} {v : AV} {cs : OCs} (h : ocall P X R n g args A q = some (v, A', cs)) (hc : okC cs) :
    SCall P w0 g args A fun v' A'' => v' = v ∧ A'' = A' := by
  unfold ocall at h
  split at h
  · rename_i fn hf
    split at h
    · rename_i b hbody
      split at h
      · rename_i t2 A2 q2 c2 hex
        split at h
        · rename_i v1 hv
          simp only [Option.some.injEq, Prod.mk.injEq] at h
          obtain ⟨rfl, rfl, rfl⟩ := h
          exact SCall.body hf hbody ((oexec_ok hX hR hmix hex hc).mono fun e2 t3 A3 ⟨h1, h2, h3⟩ => by subst h1 h2 h3; exact ⟨.inl rfl, _, ares_rel hv, rfl, rfl⟩)
        · cases h
      · rename_i t2 A2 q2 c2 hex
        split at h
        · rename_i v1 hv
          simp only [Option.some.injEq, Prod.mk.injEq] at h
          obtain ⟨rfl, rfl, rfl⟩ := h
          exact SCall.body hf hbody ((oexec_ok hX hR hmix hex hc).mono fun e2 t3 A3 ⟨h1, h2, h3⟩ => by subst h1 h2 h3; exact ⟨.inr rfl, _, ares_rel hv, rfl, rfl⟩)
        · cases h
      · cases h
    · cases h
  · cases h
end
end Go.Am
