/- A part of the proof: Am43. -/
import Derived.Test.YthipnddfplbamaaDoorAm35
set_option linter.unusedVariables false
set_option linter.unusedSimpArgs false
/-! Drawn regions whose blocks of one's own may be made at any time: they are numbered ahead. -/
namespace Go.Am
open Go.RowKit
def isAlloc : Op → Bool
  | .alloc _ => true
  | _ => false
def detG (P : Program) (X : AExt) (o : Oper) : Nat := if isAlloc o.op then 3 else detK P X o
def detBG (P : Program) (X : AExt) (ops : Array Oper) : Bool :=
  let cls := closes ops
  (List.range ops.size).all fun i => match ops[i]? with
    | none => false
    | some o => ((edgesOf o).all fun e => decide (e < i)) && ((needs ops o).all fun d => soonB ops o d || lateB ops i d) &&
      (List.range i).all fun j => match ops[j]? with
        | none => false
        | some p => (match o.dst, p.dst with | some a, some b => a != b | _, _ => true) &&
          (if detG P X o == 2 && detG P X p == 2 then (cls.getD i 0).testBit j else true)
section
variable {P : Program} {w0 : World} {X : AExt} {ops : Array Oper}
def StepG (P : Program) (X : AExt) (w0 : World) (ops : Array Oper) (gid : Nat → Option Nat) (i : Nat) (t : List AV) (A : List AO) (t' : List AV) (A' : List AO) : Prop :=
  ∃ o v, ops[i]? = some o ∧ t' = aput t o.dst v ∧ ((awanted ops t o = some false ∧ v = aundef ∧ A' = A ∧ gid i = none) ∨ (awanted ops t o = some true ∧ isAlloc o.op = false ∧ gid i = none ∧ OpDoes P X w0 t A o v A') ∨
    (awanted ops t o = some true ∧ isAlloc o.op = true ∧ A' = A ∧ ∃ f cs e k, gid i = some k ∧ amake P t o = some (f, cs, e) ∧ v = f k))
structure RunG (P : Program) (X : AExt) (w0 : World) (ops : Array Oper) (gid : Nat → Option Nat) (T : Nat → List AV) (H : Nat → List AO) : Prop where
  step : ∀ i, i < ops.size → StepG P X w0 ops gid i (T i) (H i) (T (i + 1)) (H (i + 1))
theorem detG_le {o : Oper} : detG P X o = 0 ∨ detG P X o = 1 ∨ detG P X o = 2 ∨ detG P X o = 3 := by
  unfold detG
  split
  · exact .inr (.inr (.inr rfl))
  · rcases detK_le (P := P) (X := X) (o := o) with h | h | h <;> simp [h]
theorem detG_plain {o : Oper} (h : isAlloc o.op = false) : detG P X o = detK P X o := by simp [detG, h]
theorem detG_three {o : Oper} : detG P X o = 3 ↔ isAlloc o.op = true := by
  unfold detG
  constructor
  · intro h
    split at h
    · assumption
    · rcases detK_le (P := P) (X := X) (o := o) with h1 | h1 | h1 <;> rw [h1] at h <;> cases h
  · intro h; rw [if_pos h]
theorem detG_quiet {o : Oper} (hk : detG P X o ≠ 2) (h3 : detG P X o ≠ 3) : okind P X o.op = 0 := by
  have hp : isAlloc o.op = false := by
    cases h : isAlloc o.op with
    | false => rfl
    | true => exact absurd (detG_three.2 h) h3
  rw [detG_plain hp] at hk
  exact detK_quiet hk
theorem detBG_get {i : Nat} {o : Oper} (hd : detBG P X ops = true) (ho : ops[i]? = some o) : (∀ e ∈ edgesOf o, e < i) ∧ (∀ d ∈ needs ops o, (soonB ops o d || lateB ops i d) = true) ∧
    ∀ (j : Nat) (p : Oper), j < i → ops[j]? = some p → (∀ a, o.dst = some a → p.dst ≠ some a) ∧ (detG P X o = 2 → detG P X p = 2 → Reach ops j i) := by
  have hi : i < ops.size := (Array.getElem?_eq_some_iff.1 ho).1
  have h := List.all_eq_true.1 hd i (by simpa using hi)
  rw [ho] at h
  simp only [Bool.and_eq_true] at h
  obtain ⟨⟨h1, h2⟩, h3⟩ := h
  refine ⟨fun e he => by simpa using List.all_eq_true.1 h1 e he, fun d hd => List.all_eq_true.1 h2 d hd, fun j p hj hp => ?_⟩
  have h4 := List.all_eq_true.1 h3 j (by simpa using hj)
  rw [hp] at h4
  simp only [Bool.and_eq_true] at h4
  obtain ⟨h5, h6⟩ := h4
  refine ⟨fun a ha hpa => ?_, fun hk hk2 => ?_⟩
  · rw [ha, hpa] at h5; simp at h5
  · rw [if_pos (by simp [hk, hk2])] at h6; exact closes_reach h6
section run
variable {T : Nat → List AV} {H : Nat → List AO} {gid : Nat → Option Nat} (R : RunG P X w0 ops gid T H)
include R

theorem RunG.length : ∀ k, k ≤ ops.size → (T k).length = (T 0).length := by
  intro k
  induction k with
  | zero => intro _; rfl
  | succ k ih =>
    intro hk
    obtain ⟨o, v, ho, e, _⟩ := (R.step k (by omega))
    rw [e, ← ih (by omega)]
    cases o.dst <;> simp [aput]

theorem RunG.keeps {d : Nat} : ∀ (m a : Nat), a + m ≤ ops.size → (∀ j, a ≤ j → j < a + m → dstOf ops j ≠ some d) → (T (a + m))[d]? = (T a)[d]? := by
  intro m
  induction m with
  | zero => intro a _ _; rfl
  | succ m ih =>
    intro a hm hno
    have h1 := ih a (by omega) fun j h1 h2 => hno j h1 (by omega)
    obtain ⟨o, v, ho, e, _⟩ := (R.step (a + m) (by omega))
    rw [show a + (m + 1) = a + m + 1 by omega, e, ← h1]
    have hd := hno (a + m) (by omega) (by omega)
    simp only [dstOf, ho, Option.bind_some] at hd
    cases hq : o.dst with
    | none => rfl
    | some q =>
      simp only [aput, List.getElem?_set]
      rw [if_neg (fun e => hd (by rw [hq, e]))]

/-- The acts from operation i on, and before it. -/
def actG (P : Program) (X : AExt) (ops : Array Oper) (i n : Nat) : List Nat := (List.range' i n).filter fun j => match ops[j]? with | some o => detG P X o == 2 | none => false
def stageG (P : Program) (X : AExt) (ops : Array Oper) (i : Nat) : Nat := (actG P X ops 0 i).length

omit R in
theorem actG_split (i : Nat) {n : Nat} (h : i ≤ n) : actG P X ops 0 n = actG P X ops 0 i ++ actG P X ops i (n - i) := by
  unfold actG
  rw [← List.filter_append]
  congr 1
  have := List.range'_append_1 (s := 0) (m := i) (n := n - i)
  rw [Nat.zero_add] at this
  rw [this]; congr 1; omega

omit R in
theorem actG_mem {a n j : Nat} (h : j ∈ actG P X ops a n) : a ≤ j ∧ j < a + n ∧ ∃ o, ops[j]? = some o ∧ detG P X o = 2 := by
  unfold actG at h
  simp only [List.mem_filter, List.mem_range'_1] at h
  obtain ⟨⟨h1, h2⟩, h3⟩ := h
  refine ⟨h1, h2, ?_⟩
  split at h3
  · rename_i o ho; exact ⟨o, ho, by simpa using h3⟩
  · cases h3

omit R in
theorem actG_cons {i n : Nat} {o : Oper} (hi : i < n) (ho : ops[i]? = some o) : actG P X ops i (n - i) = if detG P X o = 2 then i :: actG P X ops (i + 1) (n - (i + 1)) else actG P X ops (i + 1) (n - (i + 1)) := by
  unfold actG
  rw [show n - i = (n - (i + 1)) + 1 by omega, List.range'_succ, List.filter_cons, ho]
  simp only [beq_iff_eq]

omit R in
/-- Heaps at the stages. -/
theorem RunG.head (hq : ∀ i, i < ops.size → ∀ o, ops[i]? = some o → detG P X o ≠ 2 → H (i + 1) = H i) : ∀ (m i : Nat), i + m = ops.size → ((actG P X ops i m).map H ++ [H ops.size])[0]? = some (H i) := by
  intro m
  induction m with
  | zero => intro i hi; simp at hi; subst hi; simp [actG]
  | succ m ih =>
    intro i hi
    have hlt : i < ops.size := by omega
    have ho : ops[i]? = some ops[i] := by simp [hlt]
    have := actG_cons (P := P) (X := X) (n := i + (m + 1)) (by omega) ho
    rw [show i + (m + 1) - i = m + 1 by omega, show i + (m + 1) - (i + 1) = m by omega] at this
    rw [this]
    split
    · simp
    · rename_i hk
      rw [ih (i + 1) (by omega), hq i hlt _ ho hk]

theorem RunG.quiet {i : Nat} {o : Oper} (hi : i < ops.size) (ho : ops[i]? = some o) (hk : detG P X o ≠ 2) : H (i + 1) = H i := by
  obtain ⟨o', v, ho', _, h⟩ := (R.step i hi)
  rw [ho] at ho'; cases ho'
  rcases h with ⟨_, _, e, _⟩ | ⟨_, ha, _, hs⟩ | ⟨_, _, e, _⟩
  · exact e
  · have h0 := detG_quiet hk (fun h => by rw [detG_three.1 h] at ha; cases ha)
    exact aop_quiet h0 (hs.quiet h0)
  · exact e

theorem RunG.hs (i : Nat) (hi : i ≤ ops.size) : ((actG P X ops 0 ops.size).map H ++ [H ops.size])[stageG P X ops i]? = some (H i) := by
  have h := RunG.head (P := P) (X := X) (ops := ops) (H := H) (fun i hi o ho hk => R.quiet hi ho hk) (ops.size - i) i (by omega)
  rw [actG_split i hi, List.map_append, List.append_assoc, List.getElem?_append_right (by simp [stageG])]
  simpa [stageG] using h

/-PLAN-/
theorem RunG.planG (hd : detBG P X ops = true) {A0 gs : List AO} (h0 : H 0 = A0 ++ gs) (hb : ∀ j k, gid j = some k → A0.length ≤ k ∧ k < A0.length + gs.length) (hdist : ∀ i j k, gid i = some k → gid j = some k → i = j)
    (hgal : ∀ j k, gid j = some k → ∃ o, ops[j]? = some o ∧ detG P X o = 3)
    (hmk : ∀ (i : Nat) (o : Oper) (f : Nat → AV) (cs : List AV) (e : TypeId) (k : Nat), ops[i]? = some o → gid i = some k → amake P (T i) o = some (f, cs, e) → ∀ (a : Nat) (H' : List AO), a ≤ hiOf (closes ops) (actG P X ops 0 ops.size) i →
      ((actG P X ops 0 ops.size).map H ++ [H ops.size])[a]? = some H' → H'[k]? = some (.row cs e true))
    (hdyn : ∀ (i : Nat) (o : Oper) (v : AV), ops[i]? = some o → detG P X o = 1 → awanted ops (T i) o = some true → aop P X (T i) (H i) o = some (v, H i) → ∀ (a : Nat) (H' : List AO), loL ((closes ops).getD i 0) (actG P X ops 0 ops.size) 0 0 ≤ a → a ≤ hiOf (closes ops) (actG P X ops 0 ops.size) i →
      ((actG P X ops 0 ops.size).map H ++ [H ops.size])[a]? = some H' → aop P X (T i) H' o = some (v, H')) : PlanOk P X w0 ops (T 0) A0
    { tn := T ops.size, tv := fun i => T i, hs := (actG P X ops 0 ops.size).map H ++ [H ops.size], acts := actG P X ops 0 ops.size,
      lo := fun i => match ops[i]? with | some o => if detG P X o = 0 then 0 else if detG P X o = 1 then loL ((closes ops).getD i 0) (actG P X ops 0 ops.size) 0 0 else if detG P X o = 3 then 0 else stageG P X ops i | none => 0,
      hi := fun i => match ops[i]? with | some o => if detG P X o = 0 then (actG P X ops 0 ops.size).length else if detG P X o = 1 then hiOf (closes ops) (actG P X ops 0 ops.size) i else if detG P X o = 3 then hiOf (closes ops) (actG P X ops 0 ops.size) i else stageG P X ops i | none => 0, gid := gid } := by
  have two : ∀ {o : Oper}, detG P X o ≠ 0 → detG P X o ≠ 1 → detG P X o ≠ 3 → detG P X o = 2 := fun {o} a b c => by
    rcases detG_le (P := P) (X := X) (o := o) with h | h | h | h
    · exact absurd h a
    · exact absurd h b
    · exact h
    · exact absurd h c
  have hlo : ∀ j k, gid j = some k → (match ops[j]? with | some o => if detG P X o = 0 then 0 else if detG P X o = 1 then loL ((closes ops).getD j 0) (actG P X ops 0 ops.size) 0 0 else if detG P X o = 3 then 0 else stageG P X ops j | none => 0) = 0 := by
    intro j k hj
    obtain ⟨o, ho, h3⟩ := hgal j k hj
    simp [ho, h3]
  have hact : ∀ (i : Nat) (o : Oper), ops[i]? = some o → detG P X o = 2 → (actG P X ops 0 ops.size)[stageG P X ops i]? = some i := by
    intro i o ho hk
    have hi : i < ops.size := (Array.getElem?_eq_some_iff.1 ho).1
    rw [actG_split i (Nat.le_of_lt hi), List.getElem?_append_right (by simp [stageG])]
    rw [actG_cons hi ho, if_pos hk]
    simp [stageG]
  have hstage : ∀ (j i : Nat), (actG P X ops 0 ops.size)[j]? = some i → ∃ o, ops[i]? = some o ∧ detG P X o = 2 ∧ stageG P X ops i = j := by
    intro j i hj
    obtain ⟨_, _, o, ho, hk⟩ := actG_mem (List.mem_of_getElem? hj)
    refine ⟨o, ho, hk, ?_⟩
    have h2 := hact i o ho hk
    have hnd : (actG P X ops 0 ops.size).Nodup := List.Pairwise.filter _ (List.nodup_range' ..)
    have hj1 : j < (actG P X ops 0 ops.size).length := (List.getElem?_eq_some_iff.1 hj).1
    exact ((List.getElem?_inj hj1 hnd).1 (hj.trans h2.symm)).symm
  have hwr : ∀ (i : Nat) (o : Oper), ops[i]? = some o → ∀ d ∈ needs ops o, ((∀ j, j < ops.size → dstOf ops j = some d → j ∈ edgesOf o) ∧ (T i)[d]? = (T ops.size)[d]?) ∨ ((∀ (j : Nat) (o' : Oper), ops[j]? = some o' → dstOf ops j = some d → i ∈ edgesOf o') ∧ (T i)[d]? = (T 0)[d]?) := by
    intro i o ho d hdn
    have hi : i < ops.size := (Array.getElem?_eq_some_iff.1 ho).1
    obtain ⟨hb, hv, _⟩ := detBG_get hd ho
    have h0 := hv d hdn
    cases hs : soonB ops o d with
    | true =>
      left
      have hcl : ∀ j, j < ops.size → dstOf ops j = some d → j ∈ edgesOf o := by
        intro j hj hdj
        have := List.all_eq_true.1 hs j (by simpa using hj)
        rw [hdj] at this
        simpa using this
      refine ⟨hcl, ?_⟩
      have := R.keeps (d := d) (ops.size - i) i (by omega) fun j h1 h2 h3 => by
        have := hb j (hcl j (by omega) h3); omega
      rw [show i + (ops.size - i) = ops.size by omega] at this
      exact this.symm
    | false =>
      right
      rw [hs, Bool.false_or] at h0
      have hcl : ∀ (j : Nat) (o' : Oper), ops[j]? = some o' → dstOf ops j = some d → i ∈ edgesOf o' := by
        intro j o' hj hdj
        have hjl : j < ops.size := (Array.getElem?_eq_some_iff.1 hj).1
        have := List.all_eq_true.1 h0 j (by simpa using hjl)
        rw [hdj, hj] at this
        simpa using this
      refine ⟨hcl, ?_⟩
      have := R.keeps (d := d) i 0 (by omega) fun j h1 h2 h3 => by
        have hoj : ops[j]? = some ops[j] := by simp [show j < ops.size by omega]
        have := (detBG_get hd hoj).1 i (hcl j _ hoj h3); omega
      rw [Nat.zero_add] at this
      exact this
  refine ⟨fun i o ho => (detBG_get hd ho).1, hwr, R.length _ (Nat.le_refl _), fun d _ hh => ?_, fun i hi => ?_, fun i hi => ?_, fun j i hj => ?_, ⟨gs, ?_, fun j k hj _ => (hb j k hj).2⟩, fun j k hj => (hb j k hj).1, hdist, fun i o ho => ?_⟩
  · have := R.keeps (d := d) ops.size 0 (by omega) fun j h1 h2 h3 => by
      rw [hasDst_true.2 ⟨j, by omega, rfl, h3⟩] at hh; cases hh
    rwa [Nat.zero_add] at this
  · have ho : ops[i]? = some ops[i] := by simp [hi]
    simp only [ho]
    split
    · exact .inl rfl
    · rename_i hk
      split
      · rcases loL_ok ((closes ops).getD i 0) (actG P X ops 0 ops.size) 0 0 with h | ⟨q, a, h1, h2, h3⟩
        · exact .inl h
        · exact .inr ⟨a, by rw [h3]; simpa using h1, closes_reach h2⟩
      · rename_i hk1
        split
        · exact .inl rfl
        rename_i hk3
        have hk2 : detG P X ops[i] = 2 := two hk hk1 hk3
        rcases Nat.eq_zero_or_pos (stageG P X ops i) with h0 | h0
        · exact .inl h0
        · right
          have hlt : stageG P X ops i - 1 < (actG P X ops 0 i).length := by unfold stageG at h0 ⊢; omega
          have hg := List.getElem?_eq_getElem hlt
          obtain ⟨_, hm, p, hp, hkp⟩ := actG_mem (List.mem_of_getElem? hg)
          refine ⟨_, by rw [actG_split i (Nat.le_of_lt hi), List.getElem?_append_left hlt]; exact hg, ?_⟩
          exact ((detBG_get hd ho).2.2 _ p (by omega) hp).2 hk2 hkp
  · have ho : ops[i]? = some ops[i] := by simp [hi]
    simp only [ho]
    split
    · exact .inl rfl
    · rename_i hk
      split
      · rcases hiOf_ok (closes ops) (actG P X ops 0 ops.size) i with h | ⟨a, h1, h2⟩
        · exact .inl h
        · refine .inr ⟨a, h1, ?_⟩
          rcases h2 with h2 | h2
          · exact .inl (closes_reach h2)
          · exact .inr h2
      · rename_i hk1
        split
        · rcases hiOf_ok (closes ops) (actG P X ops 0 ops.size) i with h | ⟨a, h1, h2⟩
          · exact .inl h
          · refine .inr ⟨a, h1, ?_⟩
            rcases h2 with h2 | h2
            · exact .inl (closes_reach h2)
            · exact .inr h2
        rename_i hk3
        have hk2 : detG P X ops[i] = 2 := two hk hk1 hk3
        rcases Nat.lt_or_ge (stageG P X ops i) (actG P X ops 0 ops.size).length with h0 | h0
        · right
          exact ⟨i, hact i _ ho hk2, .inr rfl⟩
        · left
          have : stageG P X ops i ≤ (actG P X ops 0 ops.size).length := by rw [actG_split i (Nat.le_of_lt hi)]; simp [stageG]
          omega
  · obtain ⟨o, ho, hk, hst⟩ := hstage j i hj
    simp only [ho, hk]
    exact ⟨by simpa using hst, by simpa using hst, (Array.getElem?_eq_some_iff.1 ho).1⟩
  · have := R.hs 0 (Nat.zero_le _)
    have h0' : stageG P X ops 0 = 0 := by simp [stageG, actG]
    rw [h0'] at this
    rw [← h0]
    simpa using this
  · have hi : i < ops.size := (Array.getElem?_eq_some_iff.1 ho).1
    have hneed : ∀ d ∈ needs ops o, True := fun _ _ => trivial
    obtain ⟨o', v, ho', hT, hstep⟩ := (R.step i hi)
    rw [ho] at ho'; cases ho'
    have hHi := R.hs i (Nat.le_of_lt hi)
    have hHi1 := R.hs (i + 1) hi
    have hsucc : detG P X o = 2 → stageG P X ops (i + 1) = stageG P X ops i + 1 := by
      intro hk
      have h1 := actG_cons (P := P) (X := X) (n := i + 1) (by omega) ho
      rw [if_pos hk] at h1
      unfold stageG
      rw [actG_split i (Nat.le_succ i), h1]
      simp [actG]
    have hholds : Holds (T ops.size) o v := by
      intro d hdd hlt
      have := R.keeps (d := d) (ops.size - (i + 1)) (i + 1) (by omega) fun j h1 h2 h3 => by
        have hoj : ops[j]? = some ops[j] := by simp [show j < ops.size by omega]
        simp only [dstOf, hoj, Option.bind_some] at h3
        exact ((detBG_get hd hoj).2.2 i o (by omega) ho).1 d h3 hdd
      rw [show i + 1 + (ops.size - (i + 1)) = ops.size by omega] at this
      rw [this, hT, hdd]
      simp only [aput]
      have hl1 := R.length i (Nat.le_of_lt hi)
      have hl2 := R.length ops.size (Nat.le_refl _)
      have hlt' : d < (T i).length := by rw [hl1, ← hl2]; exact hlt
      rw [List.getElem?_set, if_pos rfl, if_pos hlt']
    have hnact : detG P X o ≠ 2 → ∀ (j : Nat), (actG P X ops 0 ops.size)[j]? ≠ some i := by
      intro hk j hj
      obtain ⟨o2, ho2, hk2, _⟩ := hstage j i hj
      rw [ho] at ho2; cases ho2
      exact hk hk2
    have hno : ∀ {m : Nat}, detG P X o = 2 → gid i = none := fun {m} hk => by
      cases hg : gid i with
      | none => rfl
      | some k =>
        obtain ⟨o2, ho2, h3⟩ := hgal i k hg
        rw [ho] at ho2; cases ho2
        rw [h3] at hk; cases hk
    by_cases hk : detG P X o = 2
    · have hai := hact i o ho hk
      have hnext : ((actG P X ops 0 ops.size).map H ++ [H ops.size])[stageG P X ops i + 1]? = some (H (i + 1) ++ []) := by rw [← hsucc hk, hHi1]; simp
      have hgs : ∀ (K : List AO) j k, gid j = some k → (match ops[j]? with | some o => if detG P X o = 0 then 0 else if detG P X o = 1 then loL ((closes ops).getD j 0) (actG P X ops 0 ops.size) 0 0 else if detG P X o = 3 then 0 else stageG P X ops j | none => 0) = (match ops[i]? with | some o => if detG P X o = 0 then 0 else if detG P X o = 1 then loL ((closes ops).getD i 0) (actG P X ops 0 ops.size) 0 0 else if detG P X o = 3 then 0 else stageG P X ops i | none => 0) + 1 → K.length ≤ k ∧ k < K.length + ([] : List AO).length := by
        intro K j k hj he
        rw [hlo j k hj] at he
        cases he
      rcases hstep with ⟨hw, rfl, e, hg⟩ | ⟨hw, hna, hg, hs⟩ | ⟨hw, ha, _⟩
      · rw [e] at hnext
        refine .actSkip (H i) [] hw hg ?_ hholds ?_ ?_ (hgs _)
        · simp only [ho, hk]; exact hai
        · simp only [ho, hk]; exact hHi
        · simp only [ho, hk]; exact hnext
      · refine .act v (H i) (H (i + 1)) [] hw hg ?_ hholds ?_ ?_ (hgs _) ?_
        · simp only [ho, hk]; exact hai
        · simp only [ho, hk]; exact hHi
        · simp only [ho, hk]; exact hnext
        · rcases hs with hs | ⟨c, g, args, q1, _, q2, q3, q4⟩
          · exact .inl hs
          · exact .inr ⟨c, g, args, q1, q2, q3, q4⟩
      · rw [detG_three.2 ha] at hk; cases hk
    · have hq := hnact hk
      rcases hstep with ⟨hw, rfl, e, hg⟩ | ⟨hw, hna, hg, hs⟩ | ⟨hw, ha, hH, f, cs, e, k, hg, hm, rfl⟩
      · exact .skip hw hq hg hholds
      · have h3 : detG P X o ≠ 3 := fun h => by rw [detG_three.1 h] at hna; cases hna
        have hs := hs.quiet (detG_quiet hk h3)
        refine .quiet v hw hq hg hholds fun a H' h1 h2 h3' => ?_
        simp only [ho] at h1 h2
        by_cases hk0 : detG P X o = 0
        · have hfree : ofree P o.op = true := by
            rw [detG_plain hna] at hk0
            unfold detK at hk0
            split at hk0
            · assumption
            · split at hk0 <;> cases hk0
          exact (aop_free hfree hs).2 H'
        · have hk1 : detG P X o = 1 := by
            rcases detG_le (P := P) (X := X) (o := o) with h | h | h | h
            · exact absurd h hk0
            · exact h
            · exact absurd h hk
            · exact absurd h h3
          rw [if_neg hk0, if_pos hk1] at h1 h2
          exact hdyn i o v ho hk1 hw (by rw [hs, aop_quiet (detG_quiet hk h3) hs]) a H' h1 h2 h3'
      · refine .make f cs e k hw hq hg hholds hm fun a H' h1 h2 h3' => ?_
        have h3 : detG P X o = 3 := detG_three.2 ha
        simp only [ho, h3] at h2
        exact hmk i o f cs e k ho hg hm a H' h2 h3'
end run
end
end Go.Am
