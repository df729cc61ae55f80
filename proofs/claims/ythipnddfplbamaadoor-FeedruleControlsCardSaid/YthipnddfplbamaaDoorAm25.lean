/- A part of the proof: Am25. -/
import Derived.Test.YthipnddfplbamaaDoorAm24
set_option linter.unusedVariables false
set_option linter.unusedSimpArgs false
namespace Go.Am
open Go.RowKit

/-! ### Regions whose order tells nothing: run in the text's order -/
/-- The operation looks at its operands alone, not at the heap. -/
def ofree (P : Program) (o : Op) : Bool :=
  match o with
  | .move _ | .assign _ | .pick .. | .nilCheck _ | .binOp .. | .unOp .. | .makeInterface .. | .makeFunc .. | .slice .. | .fieldAddr .. | .field .. | .indexAddr .. | .index .. | .typeAssert .. | .extract .. | .build .. => true
  | .call c => match c.callee, c.argTypes.toList with
    | .builtin .min, _ | .builtin .max, _ => true
    | .builtin .len, [ty] => match P.underlying ty with
      | some .string | some (.slice _) => true
      | _ => false
    | _, _ => false
  | _ => false

def detK (P : Program) (X : AExt) (o : Oper) : Nat := if ofree P o.op then 0 else if okind P X o.op == 0 then 1 else 2

def detB (P : Program) (X : AExt) (ops : Array Oper) : Bool :=
  let cls := closes ops
  (List.range ops.size).all fun i => match ops[i]? with
    | none => false
    | some o => ((edgesOf o).all fun e => decide (e < i)) && ((needs ops o).all fun d => soonB ops o d || lateB ops i d) &&
      (List.range i).all fun j => match ops[j]? with
        | none => false
        | some p => (match o.dst, p.dst with | some a, some b => a != b | _, _ => true) &&
          (if (detK P X o == 2 && detK P X p != 0) || (detK P X p == 2 && detK P X o != 0) then (cls.getD i 0).testBit j else true)

def stepD (P : Program) (X : AExt) (call : ACallF) (ops : Array Oper) (i : Nat) (t : List AV) (A : List AO) : Option (List AV × List AO) :=
  match ops[i]? with
  | none => none
  | some o => match awanted ops t o with
    | some false => some (aput t o.dst aundef, A)
    | some true => match stepA P X call t A o with
      | some (v, A') => some (aput t o.dst v, A')
      | none => none
    | none => none

def seqD (P : Program) (X : AExt) (call : ACallF) (ops : Array Oper) : Nat → Nat → List AV → List AO → Option (List AV × List AO)
  | 0, _, t, A => some (t, A)
  | m + 1, i, t, A => match stepD P X call ops i t A with
    | some (t', A') => seqD P X call ops m (i + 1) t' A'
    | none => none

section
variable {P : Program} {X : AExt} {w0 : World} {call : ACallF} {ops : Array Oper}

theorem mapA {α : Type} {o : Option AV} {A A' : α} {v : AV} (h : o.map (·, A) = some (v, A')) : A' = A ∧ o = some v := by
  cases o with
  | none => cases h
  | some x => simp at h; exact ⟨h.2.symm, by rw [h.1]⟩

theorem aop_free {t : List AV} {A A' : List AO} {o : Oper} {v : AV} (hk : ofree P o.op = true) (h : aop P X t A o = some (v, A')) : A' = A ∧ ∀ H, aop P X t H o = some (v, H) := by
  unfold aop at h ⊢
  cases ho : o.op <;> rw [ho] at h hk <;> simp only [ofree] at hk h ⊢ <;> try (cases hk; done)
  case call c =>
    split at hk
    · rename_i hc
      rw [hc] at h ⊢
      simp only [abuiltin] at h ⊢
      split at h <;> first
        | (cases h; done)
        | (obtain ⟨rfl, h'⟩ := mapA h; exact ⟨rfl, fun H => by simp_all⟩)
        | (rename_i hb _; cases hb; done)
        | (rename_i hb _ _; cases hb; done)
        | skip
      all_goals simp_all
    · rename_i hc
      rw [hc] at h ⊢
      simp only [abuiltin] at h ⊢
      split at h <;> first
        | (cases h; done)
        | (obtain ⟨rfl, h'⟩ := mapA h; exact ⟨rfl, fun H => by simp_all⟩)
        | skip
      all_goals simp_all
    · rename_i ty hc hat
      rw [hc] at h ⊢
      simp only at h ⊢
      have key : ∀ (x y : AV) (A B : List AO), alen P A ty x = some y → alen P B ty x = some y := by
        intro x y A B hx
        unfold alen at hx ⊢
        cases hu : P.underlying ty with
        | none => rw [hu] at hk; simp at hk
        | some d =>
          rw [hu] at hk hx
          cases d <;> first | (simp at hk; done) | (simp only at hx ⊢; exact hx) | (cases x <;> first | exact hx | (simp only at hx ⊢; exact hx) | (cases hx; done))
      rw [hat] at h ⊢
      cases hev : aevs t c.args.toList with
      | none => simp [abuiltin, hev] at h
      | some l =>
        rcases l with _ | ⟨x, _ | ⟨y, r⟩⟩
        · simp [abuiltin, hev] at h
        · simp only [abuiltin, hev] at h ⊢
          obtain ⟨rfl, h'⟩ := mapA h
          exact ⟨rfl, fun H => by rw [key _ _ _ H h']; rfl⟩
        · simp [abuiltin, hev] at h
    · cases hk
  all_goals first
    | (obtain ⟨rfl, h'⟩ := mapA h; exact ⟨rfl, fun H => by simp_all⟩)
    | (split at h <;> first
        | (cases h; done)
        | (obtain ⟨rfl, h'⟩ := mapA h; exact ⟨rfl, fun H => by simp_all⟩)
        | (simp at h; obtain ⟨h1, h2⟩ := h; subst h2; exact ⟨rfl, fun H => by simp_all⟩)
        | (split at h <;> first
          | (cases h; done)
          | (obtain ⟨rfl, h'⟩ := mapA h; exact ⟨rfl, fun H => by simp_all⟩)
          | (simp at h; obtain ⟨h1, h2⟩ := h; subst h2; exact ⟨rfl, fun H => by simp_all⟩)))

theorem ofree_quiet {o : Op} (h : ofree P o = true) : okind P X o = 0 := by
  cases o <;> simp only [ofree] at h <;> first
    | (cases h; done)
    | rfl
    | (split at h <;> first
      | (rename_i hc; simp [okind, hc]; done)
      | (rename_i hc _; simp [okind, hc]; done)
      | (rename_i hc; cases h; done)
      | (rename_i c ty hc hat; simp [okind, hc]; done)
      | (cases h; done)
      | skip)

theorem stepA_quiet {t : List AV} {A : List AO} {o : Oper} (hk : okind P X o.op = 0) : stepA P X call t A o = aop P X t A o := by
  unfold stepA
  split
  · rename_i c ho
    rw [ho] at hk
    simp only [okind] at hk
    split
    · rename_i g args ht
      split
      · rfl
      · rename_i hx
        exfalso
        split at hk
        · rename_i hc; simp [acallTarget, hc] at ht; split at ht <;> cases ht
        · rename_i hc; simp [acallTarget, hc] at ht; split at ht <;> cases ht
        · rename_i hc; simp [acallTarget, hc] at ht; split at ht <;> cases ht
        · rename_i hc; simp [acallTarget, hc] at ht; split at ht <;> cases ht
        · rename_i g' hc
          split at hk
          · rename_i hx'
            unfold acallTarget at ht
            split at ht
            · rw [hc] at ht
              simp [aev] at ht
              rw [← ht.1] at hx
              simp only [Bool.and_eq_true] at hx'
              exact hx hx'.1
            · cases ht
          · cases hk
        · cases hk
    · rfl
  · rfl

/-- What one wanted operation does. -/
def OpDoes (P : Program) (X : AExt) (w0 : World) (t : List AV) (A : List AO) (o : Oper) (v : AV) (A' : List AO) : Prop :=
  aop P X t A o = some (v, A') ∨ ∃ c g args, o.op = .call c ∧ (X g).isSome = false ∧ acallTarget P t c = some (g, args) ∧ abody P g = true ∧ SCall P w0 g args A fun v' A2 => v' = v ∧ A2 = A'

theorem OpDoes.of_step (hc : CallOk P w0 call) {t : List AV} {A A' : List AO} {o : Oper} {v : AV} (h : stepA P X call t A o = some (v, A')) : OpDoes P X w0 t A o v A' := by
  unfold stepA at h
  split at h
  · rename_i c ho
    split at h
    · rename_i g args ht
      split at h
      · exact .inl h
      · rename_i hx
        split at h
        · rename_i hb
          exact .inr ⟨c, g, args, ho, by simpa using hx, ht, hb, hc _ _ _ _ _ h hb⟩
        · cases h
    · exact .inl h
  · exact .inl h

theorem OpDoes.quiet {t : List AV} {A A' : List AO} {o : Oper} {v : AV} (hk : okind P X o.op = 0) (h : OpDoes P X w0 t A o v A') : aop P X t A o = some (v, A') := by
  rcases h with h | ⟨c, g, args, ho, hx, ht, _⟩
  · exact h
  · exfalso
    rw [ho] at hk
    simp only [okind] at hk
    split at hk
    · rename_i hc; simp [acallTarget, hc] at ht; split at ht <;> cases ht
    · rename_i hc; simp [acallTarget, hc] at ht; split at ht <;> cases ht
    · rename_i hc; simp [acallTarget, hc] at ht; split at ht <;> cases ht
    · rename_i hc; simp [acallTarget, hc] at ht; split at ht <;> cases ht
    · rename_i g' hc
      split at hk
      · rename_i hx'
        unfold acallTarget at ht
        split at ht
        · rw [hc] at ht
          simp [aev] at ht
          rw [← ht.1] at hx
          rw [hx] at hx'; cases hx'
        · cases ht
      · cases hk
    · cases hk

def StepD (P : Program) (X : AExt) (w0 : World) (ops : Array Oper) (i : Nat) (t : List AV) (A : List AO) (t' : List AV) (A' : List AO) : Prop :=
  ∃ o v, ops[i]? = some o ∧ t' = aput t o.dst v ∧ ((awanted ops t o = some false ∧ v = aundef ∧ A' = A) ∨ (awanted ops t o = some true ∧ OpDoes P X w0 t A o v A'))

/-- The run, its states told. -/
structure RunD (P : Program) (X : AExt) (w0 : World) (ops : Array Oper) (T : Nat → List AV) (H : Nat → List AO) : Prop where
  step : ∀ i, i < ops.size → StepD P X w0 ops i (T i) (H i) (T (i + 1)) (H (i + 1))

theorem seqD_run : ∀ (m i : Nat) (t : List AV) (A : List AO) (t' : List AV) (A' : List AO), seqD P X call ops m i t A = some (t', A') →
    ∃ (T : Nat → List AV) (H : Nat → List AO), T i = t ∧ H i = A ∧ T (i + m) = t' ∧ H (i + m) = A' ∧ ∀ j, i ≤ j → j < i + m → stepD P X call ops j (T j) (H j) = some (T (j + 1), H (j + 1)) := by
  intro m
  induction m with
  | zero =>
    intro i t A t' A' h
    simp [seqD] at h
    obtain ⟨rfl, rfl⟩ := h
    exact ⟨fun _ => t, fun _ => A, rfl, rfl, rfl, rfl, fun j h1 h2 => by omega⟩
  | succ m ih =>
    intro i t A t' A' h
    simp only [seqD] at h
    split at h
    · rename_i t1 A1 h1
      obtain ⟨T, H, q1, q2, q3, q4, q5⟩ := ih _ _ _ _ _ h
      refine ⟨fun j => if j = i then t else T j, fun j => if j = i then A else H j, by simp, by simp, ?_, ?_, fun j hj1 hj2 => ?_⟩
      · show (if i + (m + 1) = i then t else T (i + (m + 1))) = t'
        rw [if_neg (by omega), ← q3]; congr 1; omega
      · show (if i + (m + 1) = i then A else H (i + (m + 1))) = A'
        rw [if_neg (by omega), ← q4]; congr 1; omega
      · show stepD P X call ops j (if j = i then t else T j) (if j = i then A else H j) = some (if j + 1 = i then t else T (j + 1), if j + 1 = i then A else H (j + 1))
        by_cases hji : j = i
        · subst hji
          rw [if_pos rfl, if_pos rfl, if_neg (by omega), if_neg (by omega), q1, q2]
          exact h1
        · rw [if_neg hji, if_neg hji, if_neg (by omega), if_neg (by omega)]
          exact q5 j (by omega) (by omega)
    · cases h

theorem stepD_get {t t' : List AV} {A A' : List AO} {i : Nat} (h : stepD P X call ops i t A = some (t', A')) :
    ∃ o v, ops[i]? = some o ∧ t' = aput t o.dst v ∧ ((awanted ops t o = some false ∧ v = aundef ∧ A' = A) ∨ (awanted ops t o = some true ∧ stepA P X call t A o = some (v, A'))) := by
  unfold stepD at h
  split at h
  · cases h
  · rename_i o ho
    split at h
    · rename_i hw
      simp at h
      exact ⟨o, aundef, ho, h.1.symm, .inl ⟨hw, rfl, h.2.symm⟩⟩
    · rename_i hw
      split at h
      · rename_i v A2 hs
        simp at h
        obtain ⟨rfl, rfl⟩ := h
        exact ⟨o, v, ho, rfl, .inr ⟨hw, hs⟩⟩
      · cases h
    · cases h

theorem stepD_step (hc : CallOk P w0 call) {t t' : List AV} {A A' : List AO} {i : Nat} (h : stepD P X call ops i t A = some (t', A')) : StepD P X w0 ops i t A t' A' := by
  obtain ⟨o, v, h1, h2, h3⟩ := stepD_get h
  exact ⟨o, v, h1, h2, h3.imp id fun ⟨q1, q2⟩ => ⟨q1, .of_step hc q2⟩⟩

theorem detK_quiet {o : Oper} (hk : detK P X o ≠ 2) : okind P X o.op = 0 := by
  unfold detK at hk
  split at hk
  · exact ofree_quiet (by assumption)
  · split at hk
    · simpa using (by assumption : (okind P X o.op == 0) = true)
    · simp at hk

section run
variable {T : Nat → List AV} {H : Nat → List AO} (R : RunD P X w0 ops T H)
include R

theorem RunD.length : ∀ k, k ≤ ops.size → (T k).length = (T 0).length := by
  intro k
  induction k with
  | zero => intro _; rfl
  | succ k ih =>
    intro hk
    obtain ⟨o, v, ho, e, _⟩ := (R.step k (by omega))
    rw [e, ← ih (by omega)]
    cases o.dst <;> simp [aput]

theorem RunD.keeps {d : Nat} : ∀ (m a : Nat), a + m ≤ ops.size → (∀ j, a ≤ j → j < a + m → dstOf ops j ≠ some d) → (T (a + m))[d]? = (T a)[d]? := by
  intro m
  induction m with
  | zero => intro a _ _; rfl
  | succ m ih =>
    intro a hm hno
    have h1 := ih a (by omega) fun j h1 h2 => hno j h1 (by omega)
    obtain ⟨o, v, ho, e, _⟩ := (R.step (a + m) (by omega))
    rw [show a + (m + 1) = a + m + 1 by omega, e, ← h1]
    have hd := hno (a + m) (by omega) (by omega)
    simp only [dstOf, ho, Option.bind_some] at hd
    cases hq : o.dst with
    | none => rfl
    | some q =>
      simp only [aput, List.getElem?_set]
      rw [if_neg (fun e => hd (by rw [hq, e]))]

/-- The acts from operation i on, and before it. -/
def actFrom (P : Program) (X : AExt) (ops : Array Oper) (i n : Nat) : List Nat := (List.range' i n).filter fun j => match ops[j]? with | some o => detK P X o == 2 | none => false
def stageD (P : Program) (X : AExt) (ops : Array Oper) (i : Nat) : Nat := (actFrom P X ops 0 i).length

omit R in
theorem actFrom_split (i : Nat) {n : Nat} (h : i ≤ n) : actFrom P X ops 0 n = actFrom P X ops 0 i ++ actFrom P X ops i (n - i) := by
  unfold actFrom
  rw [← List.filter_append]
  congr 1
  have := List.range'_append_1 (s := 0) (m := i) (n := n - i)
  rw [Nat.zero_add] at this
  rw [this]; congr 1; omega

omit R in
theorem actFrom_mem {a n j : Nat} (h : j ∈ actFrom P X ops a n) : a ≤ j ∧ j < a + n ∧ ∃ o, ops[j]? = some o ∧ detK P X o = 2 := by
  unfold actFrom at h
  simp only [List.mem_filter, List.mem_range'_1] at h
  obtain ⟨⟨h1, h2⟩, h3⟩ := h
  refine ⟨h1, h2, ?_⟩
  split at h3
  · rename_i o ho; exact ⟨o, ho, by simpa using h3⟩
  · cases h3

omit R in
theorem actFrom_cons {i n : Nat} {o : Oper} (hi : i < n) (ho : ops[i]? = some o) : actFrom P X ops i (n - i) = if detK P X o = 2 then i :: actFrom P X ops (i + 1) (n - (i + 1)) else actFrom P X ops (i + 1) (n - (i + 1)) := by
  unfold actFrom
  rw [show n - i = (n - (i + 1)) + 1 by omega, List.range'_succ, List.filter_cons, ho]
  simp only [beq_iff_eq]

omit R in
/-- Heaps at the stages. -/
theorem RunD.head (hq : ∀ i, i < ops.size → ∀ o, ops[i]? = some o → detK P X o ≠ 2 → H (i + 1) = H i) : ∀ (m i : Nat), i + m = ops.size → ((actFrom P X ops i m).map H ++ [H ops.size])[0]? = some (H i) := by
  intro m
  induction m with
  | zero => intro i hi; simp at hi; subst hi; simp [actFrom]
  | succ m ih =>
    intro i hi
    have hlt : i < ops.size := by omega
    have ho : ops[i]? = some ops[i] := by simp [hlt]
    have := actFrom_cons (P := P) (X := X) (n := i + (m + 1)) (by omega) ho
    rw [show i + (m + 1) - i = m + 1 by omega, show i + (m + 1) - (i + 1) = m by omega] at this
    rw [this]
    split
    · simp
    · rename_i hk
      rw [ih (i + 1) (by omega), hq i hlt _ ho hk]

theorem RunD.quiet {i : Nat} {o : Oper} (hi : i < ops.size) (ho : ops[i]? = some o) (hk : detK P X o ≠ 2) : H (i + 1) = H i := by
  obtain ⟨o', v, ho', _, h⟩ := (R.step i hi)
  rw [ho] at ho'; cases ho'
  rcases h with ⟨_, _, e⟩ | ⟨_, hs⟩
  · exact e
  · have h0 := detK_quiet hk
    exact aop_quiet h0 (hs.quiet h0)

theorem RunD.hs (i : Nat) (hi : i ≤ ops.size) : ((actFrom P X ops 0 ops.size).map H ++ [H ops.size])[stageD P X ops i]? = some (H i) := by
  have h := RunD.head (P := P) (X := X) (ops := ops) (H := H) (fun i hi o ho hk => R.quiet hi ho hk) (ops.size - i) i (by omega)
  rw [actFrom_split i hi, List.map_append, List.append_assoc, List.getElem?_append_right (by simp [stageD])]
  simpa [stageD] using h

omit R in
theorem detB_get {i : Nat} {o : Oper} (hd : detB P X ops = true) (ho : ops[i]? = some o) : (∀ e ∈ edgesOf o, e < i) ∧ (∀ d ∈ needs ops o, (soonB ops o d || lateB ops i d) = true) ∧
    ∀ (j : Nat) (p : Oper), j < i → ops[j]? = some p → (∀ a, o.dst = some a → p.dst ≠ some a) ∧ (detK P X o = 2 → detK P X p ≠ 0 → Reach ops j i) ∧ (detK P X p = 2 → detK P X o ≠ 0 → Reach ops j i) := by
  have hi : i < ops.size := (Array.getElem?_eq_some_iff.1 ho).1
  have h := List.all_eq_true.1 hd i (by simpa using hi)
  rw [ho] at h
  simp only [Bool.and_eq_true] at h
  obtain ⟨⟨h1, h2⟩, h3⟩ := h
  refine ⟨fun e he => by simpa using List.all_eq_true.1 h1 e he, fun d hd => List.all_eq_true.1 h2 d hd, fun j p hj hp => ?_⟩
  have h4 := List.all_eq_true.1 h3 j (by simpa using hj)
  rw [hp] at h4
  simp only [Bool.and_eq_true] at h4
  obtain ⟨h5, h6⟩ := h4
  refine ⟨fun a ha hpa => ?_, fun hk hk2 => ?_, fun hk hk2 => ?_⟩
  · rw [ha, hpa] at h5; simp at h5
  · rw [if_pos (by simp [hk, hk2])] at h6; exact closes_reach h6
  · rw [if_pos (by simp [hk, hk2])] at h6; exact closes_reach h6

/-- A region whose acts stand in a chain that its readers keep to. -/
theorem RunD.plan (hd : detB P X ops = true) : PlanOk P X w0 ops (T 0) (H 0)
    { tn := T ops.size, tv := fun i => T i, hs := (actFrom P X ops 0 ops.size).map H ++ [H ops.size], acts := actFrom P X ops 0 ops.size,
      lo := fun i => match ops[i]? with | some o => if detK P X o = 0 then 0 else stageD P X ops i | none => 0,
      hi := fun i => match ops[i]? with | some o => if detK P X o = 0 then (actFrom P X ops 0 ops.size).length else stageD P X ops i | none => 0, gid := fun _ => none } := by
  have hact : ∀ (i : Nat) (o : Oper), ops[i]? = some o → detK P X o = 2 → (actFrom P X ops 0 ops.size)[stageD P X ops i]? = some i := by
    intro i o ho hk
    have hi : i < ops.size := (Array.getElem?_eq_some_iff.1 ho).1
    rw [actFrom_split i (Nat.le_of_lt hi), List.getElem?_append_right (by simp [stageD])]
    rw [actFrom_cons hi ho, if_pos hk]
    simp [stageD]
  have hstage : ∀ (j i : Nat), (actFrom P X ops 0 ops.size)[j]? = some i → ∃ o, ops[i]? = some o ∧ detK P X o = 2 ∧ stageD P X ops i = j := by
    intro j i hj
    obtain ⟨_, _, o, ho, hk⟩ := actFrom_mem (List.mem_of_getElem? hj)
    refine ⟨o, ho, hk, ?_⟩
    have h2 := hact i o ho hk
    have hnd : (actFrom P X ops 0 ops.size).Nodup := List.Pairwise.filter _ (List.nodup_range' ..)
    have hj1 : j < (actFrom P X ops 0 ops.size).length := (List.getElem?_eq_some_iff.1 hj).1
    exact ((List.getElem?_inj hj1 hnd).1 (hj.trans h2.symm)).symm
  have hwr : ∀ (i : Nat) (o : Oper), ops[i]? = some o → ∀ d ∈ needs ops o, ((∀ j, j < ops.size → dstOf ops j = some d → j ∈ edgesOf o) ∧ (T i)[d]? = (T ops.size)[d]?) ∨ ((∀ (j : Nat) (o' : Oper), ops[j]? = some o' → dstOf ops j = some d → i ∈ edgesOf o') ∧ (T i)[d]? = (T 0)[d]?) := by
    intro i o ho d hdn
    have hi : i < ops.size := (Array.getElem?_eq_some_iff.1 ho).1
    obtain ⟨hb, hv, _⟩ := detB_get hd ho
    have h0 := hv d hdn
    cases hs : soonB ops o d with
    | true =>
      left
      have hcl : ∀ j, j < ops.size → dstOf ops j = some d → j ∈ edgesOf o := by
        intro j hj hdj
        have := List.all_eq_true.1 hs j (by simpa using hj)
        rw [hdj] at this
        simpa using this
      refine ⟨hcl, ?_⟩
      have := R.keeps (d := d) (ops.size - i) i (by omega) fun j h1 h2 h3 => by
        have := hb j (hcl j (by omega) h3); omega
      rw [show i + (ops.size - i) = ops.size by omega] at this
      exact this.symm
    | false =>
      right
      rw [hs, Bool.false_or] at h0
      have hcl : ∀ (j : Nat) (o' : Oper), ops[j]? = some o' → dstOf ops j = some d → i ∈ edgesOf o' := by
        intro j o' hj hdj
        have hjl : j < ops.size := (Array.getElem?_eq_some_iff.1 hj).1
        have := List.all_eq_true.1 h0 j (by simpa using hjl)
        rw [hdj, hj] at this
        simpa using this
      refine ⟨hcl, ?_⟩
      have := R.keeps (d := d) i 0 (by omega) fun j h1 h2 h3 => by
        have hoj : ops[j]? = some ops[j] := by simp [show j < ops.size by omega]
        have := (detB_get hd hoj).1 i (hcl j _ hoj h3); omega
      rw [Nat.zero_add] at this
      exact this
  refine ⟨fun i o ho => (detB_get hd ho).1, hwr, R.length _ (Nat.le_refl _), fun d _ hh => ?_, fun i hi => ?_, fun i hi => ?_, fun j i hj => ?_, ⟨[], ?_, fun j k hj => (by cases hj)⟩, fun j k hj => (by cases hj), fun i j k hi => (by cases hi), fun i o ho => ?_⟩
  · have := R.keeps (d := d) ops.size 0 (by omega) fun j h1 h2 h3 => by
      rw [hasDst_true.2 ⟨j, by omega, rfl, h3⟩] at hh; cases hh
    rwa [Nat.zero_add] at this
  · have ho : ops[i]? = some ops[i] := by simp [hi]
    simp only [ho]
    split
    · exact .inl rfl
    · rename_i hk
      rcases Nat.eq_zero_or_pos (stageD P X ops i) with h0 | h0
      · exact .inl h0
      · right
        have hlt : stageD P X ops i - 1 < (actFrom P X ops 0 i).length := by unfold stageD at h0 ⊢; omega
        have hg := List.getElem?_eq_getElem hlt
        obtain ⟨_, hm, p, hp, hkp⟩ := actFrom_mem (List.mem_of_getElem? hg)
        refine ⟨_, by rw [actFrom_split i (Nat.le_of_lt hi), List.getElem?_append_left hlt]; exact hg, ?_⟩
        exact ((detB_get hd ho).2.2 _ p (by omega) hp).2.2 hkp hk
  · have ho : ops[i]? = some ops[i] := by simp [hi]
    simp only [ho]
    split
    · exact .inl rfl
    · rename_i hk
      rcases Nat.lt_or_ge (stageD P X ops i) (actFrom P X ops 0 ops.size).length with h0 | h0
      · right
        obtain ⟨a, hg⟩ : ∃ a, (actFrom P X ops 0 ops.size)[stageD P X ops i]? = some a := ⟨_, List.getElem?_eq_getElem h0⟩
        have hg' := hg
        rw [actFrom_split i (Nat.le_of_lt hi), List.getElem?_append_right (by simp [stageD])] at hg'
        obtain ⟨hm1, hm2, p, hp, hkp⟩ := actFrom_mem (List.mem_of_getElem? hg')
        refine ⟨_, hg, ?_⟩
        rcases Nat.eq_or_lt_of_le hm1 with e | e
        · exact .inr e.symm
        · exact .inl (((detB_get hd hp).2.2 i _ e ho).2.1 hkp hk)
      · left
        have : stageD P X ops i ≤ (actFrom P X ops 0 ops.size).length := by rw [actFrom_split i (Nat.le_of_lt hi)]; simp [stageD]
        omega
  · obtain ⟨o, ho, hk, hst⟩ := hstage j i hj
    simp only [ho, hk]
    exact ⟨by simpa using hst, by simpa using hst, (Array.getElem?_eq_some_iff.1 ho).1⟩
  · have := R.hs 0 (Nat.zero_le _)
    have h0 : stageD P X ops 0 = 0 := by simp [stageD, actFrom]
    rw [h0] at this
    simpa using this
  · have hi : i < ops.size := (Array.getElem?_eq_some_iff.1 ho).1
    have hneed : ∀ d ∈ needs ops o, True := fun _ _ => trivial
    obtain ⟨o', v, ho', hT, hstep⟩ := (R.step i hi)
    rw [ho] at ho'; cases ho'
    have hHi := R.hs i (Nat.le_of_lt hi)
    have hHi1 := R.hs (i + 1) hi
    have hsucc : detK P X o = 2 → stageD P X ops (i + 1) = stageD P X ops i + 1 := by
      intro hk
      have h1 := actFrom_cons (P := P) (X := X) (n := i + 1) (by omega) ho
      rw [if_pos hk] at h1
      unfold stageD
      rw [actFrom_split i (Nat.le_succ i), h1]
      simp [actFrom]
    have hholds : Holds (T ops.size) o v := by
      intro d hdd hlt
      have := R.keeps (d := d) (ops.size - (i + 1)) (i + 1) (by omega) fun j h1 h2 h3 => by
        have hoj : ops[j]? = some ops[j] := by simp [show j < ops.size by omega]
        simp only [dstOf, hoj, Option.bind_some] at h3
        exact ((detB_get hd hoj).2.2 i o (by omega) ho).1 d h3 hdd
      rw [show i + 1 + (ops.size - (i + 1)) = ops.size by omega] at this
      rw [this, hT, hdd]
      simp only [aput]
      have hl1 := R.length i (Nat.le_of_lt hi)
      have hl2 := R.length ops.size (Nat.le_refl _)
      have hlt' : d < (T i).length := by rw [hl1, ← hl2]; exact hlt
      rw [List.getElem?_set, if_pos rfl, if_pos hlt']
    have hnact : detK P X o ≠ 2 → ∀ (j : Nat), (actFrom P X ops 0 ops.size)[j]? ≠ some i := by
      intro hk j hj
      obtain ⟨o2, ho2, hk2, _⟩ := hstage j i hj
      rw [ho] at ho2; cases ho2
      exact hk hk2
    by_cases hk : detK P X o = 2
    · have hai := hact i o ho hk
      have hnext : ((actFrom P X ops 0 ops.size).map H ++ [H ops.size])[stageD P X ops i + 1]? = some (H (i + 1) ++ []) := by rw [← hsucc hk, hHi1]; simp
      rcases hstep with ⟨hw, rfl, e⟩ | ⟨hw, hs⟩
      · rw [e] at hnext
        refine .actSkip (H i) [] hw rfl ?_ hholds ?_ ?_ (fun j k hj => (by cases hj))
        · simp only [ho, hk]; exact hai
        · simp only [ho, hk]; exact hHi
        · simp only [ho, hk]; exact hnext
      · refine .act v (H i) (H (i + 1)) [] hw rfl ?_ hholds ?_ ?_ (fun j k hj => (by cases hj)) ?_
        · simp only [ho, hk]; exact hai
        · simp only [ho, hk]; exact hHi
        · simp only [ho, hk]; exact hnext
        · rcases hs with hs | ⟨c, g, args, q1, _, q2, q3, q4⟩
          · exact .inl hs
          · exact .inr ⟨c, g, args, q1, q2, q3, q4⟩
    · have hq := hnact hk
      rcases hstep with ⟨hw, rfl, e⟩ | ⟨hw, hs⟩
      · exact .skip hw hq rfl hholds
      · have hs := hs.quiet (detK_quiet hk)
        refine .quiet v hw hq rfl hholds fun a H' h1 h2 h3 => ?_
        simp only [ho] at h1 h2
        by_cases hk0 : detK P X o = 0
        · have hfree : ofree P o.op = true := by
            unfold detK at hk0
            split at hk0
            · assumption
            · split at hk0 <;> cases hk0
          exact (aop_free hfree hs).2 H'
        · rw [if_neg hk0] at h1 h2
          have : a = stageD P X ops i := by omega
          subst this
          rw [hHi] at h3
          cases h3
          rw [hs, aop_quiet (detK_quiet hk) hs]

end run

/-- So it may be run in the text's order. -/
theorem SCode.det {rd : Bool} (hX : ExtOk P X) (hmix : P.follows .mixedOrders = true) (hc : CallOk P w0 call) (hd : detB P X ops = true) {t t' : List AV} {A A' : List AO} (h : seqD P X call ops ops.size 0 t A = some (t', A')) {id : Nat} {K : AK} (hk : K .normal t' A') :
    SCode P w0 rd (.region id ops true) t A K := by
  obtain ⟨T, H, rfl, rfl, h3, h4, h5⟩ := seqD_run _ _ _ _ _ _ h
  rw [Nat.zero_add] at h3 h4
  have R : RunD P X w0 ops T H := ⟨fun i hi => stepD_step hc (h5 i (Nat.zero_le _) (by omega))⟩
  refine SCode.plan hX hmix (R.plan hd) fun H' hH' => ?_
  simp only at hH'
  rw [List.getElem?_append_right (by simp)] at hH'
  simp at hH'
  rw [← hH', h3, h4]
  exact hk
end
end Go.Am
