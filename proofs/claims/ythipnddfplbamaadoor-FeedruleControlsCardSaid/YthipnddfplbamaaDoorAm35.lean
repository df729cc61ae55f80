/- A part of the proof: Am35. -/
import Derived.Test.YthipnddfplbamaaDoorAm29
set_option linter.unusedVariables false
set_option linter.unusedSimpArgs false
namespace Go.Am
open Go.RowKit

/-! ### Regions whose acts stand in a chain; what reads beside them is held against every stage -/
def detB1 (P : Program) (X : AExt) (ops : Array Oper) : Bool :=
  let cls := closes ops
  (List.range ops.size).all fun i => match ops[i]? with
    | none => false
    | some o => ((edgesOf o).all fun e => decide (e < i)) && ((needs ops o).all fun d => soonB ops o d || lateB ops i d) &&
      (List.range i).all fun j => match ops[j]? with
        | none => false
        | some p => (match o.dst, p.dst with | some a, some b => a != b | _, _ => true) &&
          (if detK P X o == 2 && detK P X p == 2 then (cls.getD i 0).testBit j else true)
/-- The first stage at which an operation may run: behind the last act that it hangs on. -/
def loL (c : Nat) : List Nat → Nat → Nat → Nat
  | [], _, b => b
  | a :: r, j, b => loL c r (j + 1) (if c.testBit a then j + 1 else b)
theorem loL_ok (c : Nat) : ∀ (l : List Nat) (j b : Nat), loL c l j b = b ∨ ∃ q a, l[q]? = some a ∧ c.testBit a = true ∧ loL c l j b - 1 = j + q := by
  intro l
  induction l with
  | nil => intro j b; exact .inl rfl
  | cons a r ih =>
    intro j b
    simp only [loL]
    rcases ih (j + 1) (if c.testBit a then j + 1 else b) with h | ⟨q, a', h1, h2, h3⟩
    · by_cases ha : c.testBit a = true
      · rw [if_pos ha] at h
        exact .inr ⟨0, a, rfl, ha, by rw [if_pos ha, h]; omega⟩
      · rw [if_neg ha] at h
        exact .inl (by rw [if_neg ha]; exact h)
    · exact .inr ⟨q + 1, a', by simpa using h1, h2, by rw [h3]; omega⟩
section
variable {P : Program} {w0 : World} {X : AExt} {ops : Array Oper}
theorem detK_le {o : Oper} : detK P X o = 0 ∨ detK P X o = 1 ∨ detK P X o = 2 := by
  unfold detK
  split
  · exact .inl rfl
  · split
    · exact .inr (.inl rfl)
    · exact .inr (.inr rfl)
theorem detK_two {o : Oper} (h0 : detK P X o ≠ 0) (h1 : detK P X o ≠ 1) : detK P X o = 2 := by
  rcases detK_le (P := P) (X := X) (o := o) with h | h | h
  · exact absurd h h0
  · exact absurd h h1
  · exact h
theorem detK_one {o : Oper} (h0 : detK P X o ≠ 0) (h1 : detK P X o ≠ 2) : detK P X o = 1 := by
  rcases detK_le (P := P) (X := X) (o := o) with h | h | h
  · exact absurd h h0
  · exact h
  · exact absurd h h1
theorem detB1_get {i : Nat} {o : Oper} (hd : detB1 P X ops = true) (ho : ops[i]? = some o) : (∀ e ∈ edgesOf o, e < i) ∧ (∀ d ∈ needs ops o, (soonB ops o d || lateB ops i d) = true) ∧
    ∀ (j : Nat) (p : Oper), j < i → ops[j]? = some p → (∀ a, o.dst = some a → p.dst ≠ some a) ∧ (detK P X o = 2 → detK P X p = 2 → Reach ops j i) := by
  have hi : i < ops.size := (Array.getElem?_eq_some_iff.1 ho).1
  have h := List.all_eq_true.1 hd i (by simpa using hi)
  rw [ho] at h
  simp only [Bool.and_eq_true] at h
  obtain ⟨⟨h1, h2⟩, h3⟩ := h
  refine ⟨fun e he => by simpa using List.all_eq_true.1 h1 e he, fun d hd => List.all_eq_true.1 h2 d hd, fun j p hj hp => ?_⟩
  have h4 := List.all_eq_true.1 h3 j (by simpa using hj)
  rw [hp] at h4
  simp only [Bool.and_eq_true] at h4
  obtain ⟨h5, h6⟩ := h4
  refine ⟨fun a ha hpa => ?_, fun hk hk2 => ?_⟩
  · rw [ha, hpa] at h5; simp at h5
  · rw [if_pos (by simp [hk, hk2])] at h6; exact closes_reach h6
section run
variable {T : Nat → List AV} {H : Nat → List AO} (R : RunD P X w0 ops T H)
include R
theorem RunD.plan1 (hd : detB1 P X ops = true)
    (hdyn : ∀ (i : Nat) (o : Oper) (v : AV), ops[i]? = some o → detK P X o = 1 → awanted ops (T i) o = some true → aop P X (T i) (H i) o = some (v, H i) → ∀ (a : Nat) (H' : List AO), loL ((closes ops).getD i 0) (actFrom P X ops 0 ops.size) 0 0 ≤ a → a ≤ hiOf (closes ops) (actFrom P X ops 0 ops.size) i →
      ((actFrom P X ops 0 ops.size).map H ++ [H ops.size])[a]? = some H' → aop P X (T i) H' o = some (v, H')) : PlanOk P X w0 ops (T 0) (H 0)
    { tn := T ops.size, tv := fun i => T i, hs := (actFrom P X ops 0 ops.size).map H ++ [H ops.size], acts := actFrom P X ops 0 ops.size,
      lo := fun i => match ops[i]? with | some o => if detK P X o = 0 then 0 else if detK P X o = 1 then loL ((closes ops).getD i 0) (actFrom P X ops 0 ops.size) 0 0 else stageD P X ops i | none => 0,
      hi := fun i => match ops[i]? with | some o => if detK P X o = 0 then (actFrom P X ops 0 ops.size).length else if detK P X o = 1 then hiOf (closes ops) (actFrom P X ops 0 ops.size) i else stageD P X ops i | none => 0, gid := fun _ => none } := by
  have hact : ∀ (i : Nat) (o : Oper), ops[i]? = some o → detK P X o = 2 → (actFrom P X ops 0 ops.size)[stageD P X ops i]? = some i := by
    intro i o ho hk
    have hi : i < ops.size := (Array.getElem?_eq_some_iff.1 ho).1
    rw [actFrom_split i (Nat.le_of_lt hi), List.getElem?_append_right (by simp [stageD])]
    rw [actFrom_cons hi ho, if_pos hk]
    simp [stageD]
  have hstage : ∀ (j i : Nat), (actFrom P X ops 0 ops.size)[j]? = some i → ∃ o, ops[i]? = some o ∧ detK P X o = 2 ∧ stageD P X ops i = j := by
    intro j i hj
    obtain ⟨_, _, o, ho, hk⟩ := actFrom_mem (List.mem_of_getElem? hj)
    refine ⟨o, ho, hk, ?_⟩
    have h2 := hact i o ho hk
    have hnd : (actFrom P X ops 0 ops.size).Nodup := List.Pairwise.filter _ (List.nodup_range' ..)
    have hj1 : j < (actFrom P X ops 0 ops.size).length := (List.getElem?_eq_some_iff.1 hj).1
    exact ((List.getElem?_inj hj1 hnd).1 (hj.trans h2.symm)).symm
  have hwr : ∀ (i : Nat) (o : Oper), ops[i]? = some o → ∀ d ∈ needs ops o, ((∀ j, j < ops.size → dstOf ops j = some d → j ∈ edgesOf o) ∧ (T i)[d]? = (T ops.size)[d]?) ∨ ((∀ (j : Nat) (o' : Oper), ops[j]? = some o' → dstOf ops j = some d → i ∈ edgesOf o') ∧ (T i)[d]? = (T 0)[d]?) := by
    intro i o ho d hdn
    have hi : i < ops.size := (Array.getElem?_eq_some_iff.1 ho).1
    obtain ⟨hb, hv, _⟩ := detB1_get hd ho
    have h0 := hv d hdn
    cases hs : soonB ops o d with
    | true =>
      left
      have hcl : ∀ j, j < ops.size → dstOf ops j = some d → j ∈ edgesOf o := by
        intro j hj hdj
        have := List.all_eq_true.1 hs j (by simpa using hj)
        rw [hdj] at this
        simpa using this
      refine ⟨hcl, ?_⟩
      have := R.keeps (d := d) (ops.size - i) i (by omega) fun j h1 h2 h3 => by
        have := hb j (hcl j (by omega) h3); omega
      rw [show i + (ops.size - i) = ops.size by omega] at this
      exact this.symm
    | false =>
      right
      rw [hs, Bool.false_or] at h0
      have hcl : ∀ (j : Nat) (o' : Oper), ops[j]? = some o' → dstOf ops j = some d → i ∈ edgesOf o' := by
        intro j o' hj hdj
        have hjl : j < ops.size := (Array.getElem?_eq_some_iff.1 hj).1
        have := List.all_eq_true.1 h0 j (by simpa using hjl)
        rw [hdj, hj] at this
        simpa using this
      refine ⟨hcl, ?_⟩
      have := R.keeps (d := d) i 0 (by omega) fun j h1 h2 h3 => by
        have hoj : ops[j]? = some ops[j] := by simp [show j < ops.size by omega]
        have := (detB1_get hd hoj).1 i (hcl j _ hoj h3); omega
      rw [Nat.zero_add] at this
      exact this
  refine ⟨fun i o ho => (detB1_get hd ho).1, hwr, R.length _ (Nat.le_refl _), fun d _ hh => ?_, fun i hi => ?_, fun i hi => ?_, fun j i hj => ?_, ⟨[], ?_, fun j k hj => (by cases hj)⟩, fun j k hj => (by cases hj), fun i j k hi => (by cases hi), fun i o ho => ?_⟩
  · have := R.keeps (d := d) ops.size 0 (by omega) fun j h1 h2 h3 => by
      rw [hasDst_true.2 ⟨j, by omega, rfl, h3⟩] at hh; cases hh
    rwa [Nat.zero_add] at this
  · have ho : ops[i]? = some ops[i] := by simp [hi]
    simp only [ho]
    split
    · exact .inl rfl
    · rename_i hk
      split
      · rcases loL_ok ((closes ops).getD i 0) (actFrom P X ops 0 ops.size) 0 0 with h | ⟨q, a, h1, h2, h3⟩
        · exact .inl h
        · exact .inr ⟨a, by rw [h3]; simpa using h1, closes_reach h2⟩
      · rename_i hk1
        have hk2 : detK P X ops[i] = 2 := detK_two hk hk1
        rcases Nat.eq_zero_or_pos (stageD P X ops i) with h0 | h0
        · exact .inl h0
        · right
          have hlt : stageD P X ops i - 1 < (actFrom P X ops 0 i).length := by unfold stageD at h0 ⊢; omega
          have hg := List.getElem?_eq_getElem hlt
          obtain ⟨_, hm, p, hp, hkp⟩ := actFrom_mem (List.mem_of_getElem? hg)
          refine ⟨_, by rw [actFrom_split i (Nat.le_of_lt hi), List.getElem?_append_left hlt]; exact hg, ?_⟩
          exact ((detB1_get hd ho).2.2 _ p (by omega) hp).2 hk2 hkp
  · have ho : ops[i]? = some ops[i] := by simp [hi]
    simp only [ho]
    split
    · exact .inl rfl
    · rename_i hk
      split
      · rcases hiOf_ok (closes ops) (actFrom P X ops 0 ops.size) i with h | ⟨a, h1, h2⟩
        · exact .inl h
        · refine .inr ⟨a, h1, ?_⟩
          rcases h2 with h2 | h2
          · exact .inl (closes_reach h2)
          · exact .inr h2
      · rename_i hk1
        have hk2 : detK P X ops[i] = 2 := detK_two hk hk1
        rcases Nat.lt_or_ge (stageD P X ops i) (actFrom P X ops 0 ops.size).length with h0 | h0
        · right
          exact ⟨i, hact i _ ho hk2, .inr rfl⟩
        · left
          have : stageD P X ops i ≤ (actFrom P X ops 0 ops.size).length := by rw [actFrom_split i (Nat.le_of_lt hi)]; simp [stageD]
          omega
  · obtain ⟨o, ho, hk, hst⟩ := hstage j i hj
    simp only [ho, hk]
    exact ⟨by simpa using hst, by simpa using hst, (Array.getElem?_eq_some_iff.1 ho).1⟩
  · have := R.hs 0 (Nat.zero_le _)
    have h0 : stageD P X ops 0 = 0 := by simp [stageD, actFrom]
    rw [h0] at this
    simpa using this
  · have hi : i < ops.size := (Array.getElem?_eq_some_iff.1 ho).1
    have hneed : ∀ d ∈ needs ops o, True := fun _ _ => trivial
    obtain ⟨o', v, ho', hT, hstep⟩ := (R.step i hi)
    rw [ho] at ho'; cases ho'
    have hHi := R.hs i (Nat.le_of_lt hi)
    have hHi1 := R.hs (i + 1) hi
    have hsucc : detK P X o = 2 → stageD P X ops (i + 1) = stageD P X ops i + 1 := by
      intro hk
      have h1 := actFrom_cons (P := P) (X := X) (n := i + 1) (by omega) ho
      rw [if_pos hk] at h1
      unfold stageD
      rw [actFrom_split i (Nat.le_succ i), h1]
      simp [actFrom]
    have hholds : Holds (T ops.size) o v := by
      intro d hdd hlt
      have := R.keeps (d := d) (ops.size - (i + 1)) (i + 1) (by omega) fun j h1 h2 h3 => by
        have hoj : ops[j]? = some ops[j] := by simp [show j < ops.size by omega]
        simp only [dstOf, hoj, Option.bind_some] at h3
        exact ((detB1_get hd hoj).2.2 i o (by omega) ho).1 d h3 hdd
      rw [show i + 1 + (ops.size - (i + 1)) = ops.size by omega] at this
      rw [this, hT, hdd]
      simp only [aput]
      have hl1 := R.length i (Nat.le_of_lt hi)
      have hl2 := R.length ops.size (Nat.le_refl _)
      have hlt' : d < (T i).length := by rw [hl1, ← hl2]; exact hlt
      rw [List.getElem?_set, if_pos rfl, if_pos hlt']
    have hnact : detK P X o ≠ 2 → ∀ (j : Nat), (actFrom P X ops 0 ops.size)[j]? ≠ some i := by
      intro hk j hj
      obtain ⟨o2, ho2, hk2, _⟩ := hstage j i hj
      rw [ho] at ho2; cases ho2
      exact hk hk2
    by_cases hk : detK P X o = 2
    · have hai := hact i o ho hk
      have hnext : ((actFrom P X ops 0 ops.size).map H ++ [H ops.size])[stageD P X ops i + 1]? = some (H (i + 1) ++ []) := by rw [← hsucc hk, hHi1]; simp
      rcases hstep with ⟨hw, rfl, e⟩ | ⟨hw, hs⟩
      · rw [e] at hnext
        refine .actSkip (H i) [] hw rfl ?_ hholds ?_ ?_ (fun j k hj => (by cases hj))
        · simp only [ho, hk]; exact hai
        · simp only [ho, hk]; exact hHi
        · simp only [ho, hk]; exact hnext
      · refine .act v (H i) (H (i + 1)) [] hw rfl ?_ hholds ?_ ?_ (fun j k hj => (by cases hj)) ?_
        · simp only [ho, hk]; exact hai
        · simp only [ho, hk]; exact hHi
        · simp only [ho, hk]; exact hnext
        · rcases hs with hs | ⟨c, g, args, q1, _, q2, q3, q4⟩
          · exact .inl hs
          · exact .inr ⟨c, g, args, q1, q2, q3, q4⟩
    · have hq := hnact hk
      rcases hstep with ⟨hw, rfl, e⟩ | ⟨hw, hs⟩
      · exact .skip hw hq rfl hholds
      · have hs := hs.quiet (detK_quiet hk)
        refine .quiet v hw hq rfl hholds fun a H' h1 h2 h3 => ?_
        simp only [ho] at h1 h2
        by_cases hk0 : detK P X o = 0
        · have hfree : ofree P o.op = true := by
            unfold detK at hk0
            split at hk0
            · assumption
            · split at hk0 <;> cases hk0
          exact (aop_free hfree hs).2 H'
        · have hk1 : detK P X o = 1 := detK_one hk0 hk
          rw [if_neg hk0, if_pos hk1] at h1 h2
          exact hdyn i o v ho hk1 hw (by rw [hs, aop_quiet (detK_quiet hk) hs]) a H' h1 h2 h3
end run
end
end Go.Am
