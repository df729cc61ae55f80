/- A part of the proof: Am20. -/
import Derived.Test.YthipnddfplbamaaDoorAm19
set_option linter.unusedVariables false
set_option linter.unusedSimpArgs false
namespace Go.Am
open Go.RowKit

section
variable {P : Program} {X : AExt} {w0 : World} {call : ACallF} {ops : Array Oper} {f : PInfo}

theorem hiOf_ok (cls : List Nat) : ∀ (acts : List Nat) (i : Nat), hiOf cls acts i = acts.length ∨ ∃ a, acts[hiOf cls acts i]? = some a ∧ (((cls.getD a 0).testBit i = true) ∨ a = i) := by
  intro acts
  induction acts with
  | nil => intro i; exact .inl rfl
  | cons a r ih =>
    intro i
    simp only [hiOf]
    split
    · rename_i h
      simp only [Bool.or_eq_true, beq_iff_eq] at h
      exact .inr ⟨a, by simp, h.symm⟩
    · rcases ih i with h | ⟨b, h1, h2⟩
      · exact .inl (by simp [h])
      · exact .inr ⟨b, by simpa using h1, h2⟩

theorem nodupB_ok : ∀ {l : List Nat}, nodupB l = true → l.Nodup := by
  intro l
  induction l with
  | nil => intro _; exact List.nodup_nil
  | cons x r ih =>
    intro h
    simp only [nodupB, Bool.and_eq_true, Bool.not_eq_true'] at h
    exact List.nodup_cons.2 ⟨by simpa using h.1, ih h.2⟩

theorem findGid_mem {l : List (Nat × Nat)} {i k : Nat} (h : findGid l i = some k) : (i, k) ∈ l := by
  unfold findGid at h
  obtain ⟨x, hx, rfl⟩ := Option.map_eq_some_iff.1 h
  have h1 := List.mem_of_find?_eq_some hx
  have h2 := List.find?_some hx
  simp at h2
  obtain ⟨a, b⟩ := x
  simp at h2; subst h2; exact h1

theorem nodup_snd {l : List (Nat × Nat)} (hn : (l.map (·.2)).Nodup) {i j k : Nat} (h1 : (i, k) ∈ l) (h2 : (j, k) ∈ l) : i = j := by
  induction l with
  | nil => cases h1
  | cons x r ih =>
    simp only [List.map_cons, List.nodup_cons] at hn
    rcases List.mem_cons.1 h1 with e1 | e1
    · rcases List.mem_cons.1 h2 with e2 | e2
      · rw [← e1] at e2; simp at e2; exact e2.symm
      · exact absurd (List.mem_map.2 ⟨_, e2, by rw [← e1]⟩) hn.1
    · rcases List.mem_cons.1 h2 with e2 | e2
      · exact absurd (List.mem_map.2 ⟨_, e1, by rw [← e2]⟩) hn.1
      · exact ih hn.2 e1 e2

def CallOk (P : Program) (w0 : World) (call : ACallF) : Prop :=
  ∀ g args A v A', call g args A = some (v, A') → abody P g = true → SCall P w0 g args A fun v' A'' => v' = v ∧ A'' = A'

/-- What a step of an operation is good for. -/
theorem stepA_ok {t : List AV} {H K : List AO} {o : Oper} {v : AV} (hc : CallOk P w0 call) (h : stepA P X call t H o = some (v, K)) :
    aop P X t H o = some (v, K) ∨ ∃ c g args, o.op = .call c ∧ acallTarget P t c = some (g, args) ∧ abody P g = true ∧ SCall P w0 g args H fun v' A' => v' = v ∧ A' = K := by
  unfold stepA at h
  split at h
  · rename_i c ho
    split at h
    · rename_i g args ht
      split at h
      · exact .inl h
      · split at h
        · rename_i hb
          exact .inr ⟨c, g, args, ho, ht, hb, hc _ _ _ _ _ h hb⟩
        · cases h
    · exact .inl h
  · exact .inl h

theorem viewOf_other {t0 tn : List AV} {d : Nat} : ∀ {l : List Nat}, d ∉ l → (viewOf t0 tn l)[d]? = tn[d]? := by
  intro l
  induction l with
  | nil => intro _; rfl
  | cons x r ih =>
    intro h
    simp only [List.mem_cons, not_or] at h
    simp only [viewOf, List.getElem?_set, if_neg (Ne.symm h.1)]
    exact ih h.2
theorem viewOf_length {t0 tn : List AV} : ∀ {l : List Nat}, (viewOf t0 tn l).length = tn.length := by
  intro l
  induction l with
  | nil => rfl
  | cons x r ih => simp [viewOf, ih]
theorem viewOf_late {t0 tn : List AV} {d : Nat} (hl : tn.length = t0.length) : ∀ {l : List Nat}, d ∈ l → (viewOf t0 tn l)[d]? = t0[d]? := by
  intro l
  induction l with
  | nil => intro h; cases h
  | cons x r ih =>
    intro h
    simp only [viewOf, List.getElem?_set, viewOf_length]
    by_cases hx : x = d
    · subst hx
      by_cases hlt : x < t0.length
      · simp [hl, hlt]
      · rw [if_pos rfl, if_neg (by omega), List.getElem?_eq_none (by omega)]
    · rw [if_neg hx]
      rcases List.mem_cons.1 h with e | e
      · exact absurd e.symm hx
      · exact ih e

theorem plan_ok (hc : CallOk P w0 call) {t : List AV} {A : List AO} {sts : List (List Nat × Option Nat)} {tn : List AV} {recs : List ARec} {Hl : List AO} {gids : List (Nat × Nat)} (hcls : f.cls = closes ops)
    (hst : staticB ops f sts = true) (hac : actsB sts f ops.size = true) (hrun : runS P X call ops f sts t A = some (tn, recs, Hl, gids)) (hg : gidsB sts A.length (recs.map (·.H) ++ [Hl]) recs gids = true)
    (hop : ((List.range ops.size).all fun i => match ops[i]? with | some o => opB P X ops f sts t tn (recs.map (·.H) ++ [Hl]) recs gids i o | none => false) = true) :
    PlanOk P X w0 ops t A { tn, tv := fun i => viewOf t tn (match ops[i]? with | some o => lateOf ops o | none => []), hs := recs.map (·.H) ++ [Hl], acts := actsOf sts, lo := loOf sts, hi := hiOf f.cls (actsOf sts), gid := findGid gids } := by
  obtain ⟨hkeep, hacts, ⟨gs0, hs0⟩, hrecs⟩ := runS_ok hrun
  have hsta : ∀ (i : Nat) (o : Oper), ops[i]? = some o → i < ops.size ∧ ((edgesOf o).all fun e => decide (e < i)) = true ∧ ((needs ops o).all fun d => soonB ops o d || lateB ops i d) = true ∧
      ((loOf sts i == 0 || match (actsOf sts)[loOf sts i - 1]? with | some a => (f.cls.getD i 0).testBit a | none => false) = true) ∧ (((f.kinds.getD i 2 == 2) == (actsOf sts).contains i) = true) := by
    intro i o ho
    have hi : i < ops.size := (Array.getElem?_eq_some_iff.1 ho).1
    have := List.all_eq_true.1 hst i (by simpa using hi)
    rw [ho] at this
    simp only [Bool.and_eq_true] at this
    exact ⟨hi, this.1.1.1, this.1.1.2, this.1.2, this.2⟩
  have hact : ∀ (j i : Nat), (actsOf sts)[j]? = some i → loOf sts i = j ∧ hiOf f.cls (actsOf sts) i = j ∧ i < ops.size := by
    intro j i hj
    have hjl : j < (actsOf sts).length := (List.getElem?_eq_some_iff.1 hj).1
    have := List.all_eq_true.1 hac j (by simpa using hjl)
    rw [hj] at this
    simp only [Bool.and_eq_true, beq_iff_eq, decide_eq_true_eq] at this
    exact ⟨this.1.1, this.1.2, this.2⟩
  unfold gidsB at hg
  simp only [Bool.and_eq_true] at hg
  obtain ⟨hg1, hg2⟩ := hg
  have hgid : ∀ j k, findGid gids j = some k → A.length ≤ k ∧ (∃ H, (recs.map (·.H) ++ [Hl])[loOf sts j]? = some H ∧ k < H.length) ∧ (loOf sts j = 0 ∨ ∃ r, recs[loOf sts j - 1]? = some r ∧ r.K.length ≤ k) := by
    intro j k hjk
    have := List.all_eq_true.1 hg1 _ (findGid_mem hjk)
    simp only [Bool.and_eq_true, Bool.or_eq_true, decide_eq_true_eq, beq_iff_eq] at this
    obtain ⟨⟨h1, h2⟩, h3⟩ := this
    refine ⟨h1, ?_, ?_⟩
    · split at h2
      · rename_i H hH; exact ⟨H, hH, by simpa using h2⟩
      · cases h2
    · rcases h3 with h3 | h3
      · exact .inl h3
      · split at h3
        · rename_i r hr; exact .inr ⟨r, hr, by simpa using h3⟩
        · cases h3
  have nact : ∀ (i : Nat) (o : Oper), ops[i]? = some o → ¬ (f.kinds.getD i 2 == 2) = true → ∀ (j : Nat), (actsOf sts)[j]? ≠ some i := by
    intro i o ho hk j hj
    have h5 := (hsta i o ho).2.2.2.2
    have hk' : (f.kinds.getD i 2 == 2) = false := by simpa using hk
    rw [hk'] at h5
    have : (actsOf sts).contains i = true := by
      simp only [List.contains_iff_exists_mem_beq]
      exact ⟨i, List.mem_of_getElem? hj, by simp⟩
    rw [this] at h5
    cases h5
  refine ⟨fun i o ho e he => ?_, fun i o ho d hd => ?_, hkeep.1, fun d hd hh => hkeep.2 d hh, fun i hi => ?_, fun i hi => ?_, hact, ⟨gs0, hs0, fun j k hj hl => ?_⟩, fun j k hj => (hgid j k hj).1, fun i j k hi hj => nodup_snd (nodupB_ok hg2) (findGid_mem hi) (findGid_mem hj), fun i o ho => ?_⟩
  · have := List.all_eq_true.1 (hsta i o ho).2.1 e he
    simpa using this
  · have h0 := List.all_eq_true.1 (hsta i o ho).2.2.1 d hd
    simp only [ho]
    cases hs : soonB ops o d with
    | true =>
      left
      refine ⟨fun j hj hdj => ?_, viewOf_other (by simp [lateOf, hs])⟩
      have := List.all_eq_true.1 hs j (by simpa using hj)
      rw [hdj] at this
      simp only [BEq.rfl, Bool.not_true, Bool.false_or] at this
      simpa using this
    | false =>
      right
      rw [hs] at h0
      simp only [Bool.false_or] at h0
      refine ⟨fun j o' hj hdj => ?_, viewOf_late hkeep.1 (by simp [lateOf, hs, hd])⟩
      have hjl : j < ops.size := (Array.getElem?_eq_some_iff.1 hj).1
      have := List.all_eq_true.1 h0 j (by simpa using hjl)
      rw [hdj, hj] at this
      simp only [BEq.rfl, Bool.not_true, Bool.false_or] at this
      simpa using this
  · have ho : ops[i]? = some ops[i] := by simp [hi]
    have := (hsta i _ ho).2.2.2.1
    simp only [Bool.or_eq_true, beq_iff_eq] at this
    rcases this with h | h
    · exact .inl h
    · split at h
      · rename_i a ha
        rw [hcls] at h
        exact .inr ⟨a, ha, closes_reach h⟩
      · cases h
  · rcases hiOf_ok f.cls (actsOf sts) i with h | ⟨a, h1, h2⟩
    · exact .inl h
    · refine .inr ⟨a, h1, ?_⟩
      rcases h2 with h2 | h2
      · rw [hcls] at h2; exact .inl (closes_reach h2)
      · exact .inr h2
  · obtain ⟨_, ⟨H, h1, h2⟩, _⟩ := hgid j k hj
    simp only at hl
    rw [hl, hs0] at h1
    simp at h1
    rw [← h1] at h2
    simpa using h2
  · suffices key : ∀ tv : Nat → List AV, tv i = viewOf t tn (lateOf ops o) → StepOk P X w0 ops { tn, tv, hs := recs.map (·.H) ++ [Hl], acts := actsOf sts, lo := loOf sts, hi := hiOf f.cls (actsOf sts), gid := findGid gids } i o from key _ (by simp only [ho])
    intro tv htv
    have hi := (hsta i o ho).1
    have hb := List.all_eq_true.1 hop i (by simpa using hi)
    rw [ho] at hb
    simp only [opB] at hb
    rw [← htv] at hb
    by_cases hk2 : (f.kinds.getD i 2 == 2) = true
    · rw [if_pos hk2] at hb
      split at hb
      · rename_i r hr
        simp only [Bool.and_eq_true, beq_iff_eq] at hb
        obtain ⟨⟨⟨⟨h1, h2⟩, h3⟩, h4⟩, h5⟩ := hb
        obtain ⟨⟨o', ho', hw', hwf, hwt⟩, gs, hnext⟩ := hrecs _ r hr
        rw [h1, ho] at ho'
        simp at ho'; subst ho'
        have haev : ∀ x ∈ o.op.operands.toList, aev r.t x = aev (tv i) x := fun x hx => avOpt_eq (List.all_eq_true.1 h2 x hx)
        have hai : (actsOf sts)[loOf sts i]? = some i := by
          rw [← hacts]; simp [hr, h1]
        have hH : (recs.map (·.H) ++ [Hl])[loOf sts i]? = some r.H := by
          have hlt : loOf sts i < recs.length := (List.getElem?_eq_some_iff.1 hr).1
          rw [List.getElem?_append_left (by simpa using hlt)]
          simp [hr]
        have hgs : ∀ j k, findGid gids j = some k → loOf sts j = loOf sts i + 1 → r.K.length ≤ k ∧ k < r.K.length + gs.length := by
          intro j k hj hl
          obtain ⟨_, ⟨H, q1, q2⟩, q3⟩ := hgid j k hj
          rw [hl, hnext] at q1
          simp at q1
          rcases q3 with q3 | ⟨r', q4, q5⟩
          · omega
          · rw [hl] at q4
            simp [hr] at q4
            subst q4
            rw [← q1] at q2
            exact ⟨q5, by simpa using q2⟩
        cases hwb : r.w with
        | false =>
          obtain ⟨e1, e2⟩ := hwf hwb
          rw [hwb] at h3
          rw [e1] at h4
          rw [e2] at hnext hgs
          exact .actSkip r.H gs h3 h5 hai (holdsB_ok h4) hH hnext hgs
        | true =>
          have hstep := hwt hwb
          rw [hwb] at h3
          refine .act r.v r.H r.K gs h3 h5 hai (holdsB_ok h4) hH hnext hgs ?_
          rcases stepA_ok hc hstep with h | ⟨c, g, args, q1, q2, q3, q4⟩
          · left
            rw [← aop_congr haev]; exact h
          · right
            refine ⟨c, g, args, q1, ?_, q3, q4⟩
            have : acallTarget P r.t c = acallTarget P (tv i) c := acallTarget_congr fun x hx => haev x (by rw [q1]; exact hx)
            rw [← this]; exact q2
      · cases hb
    · rw [if_neg hk2] at hb
      have hna := nact i o ho hk2
      split at hb
      · rename_i hw
        simp only [Bool.and_eq_true, beq_iff_eq] at hb
        exact .skip hw hna hb.2 (holdsB_ok hb.1)
      · rename_i hw
        split at hb
        · split at hb
          · rename_i g cs e k hm hgk
            simp only [Bool.and_eq_true] at hb
            obtain ⟨h1, h2⟩ := hb
            refine .make g cs e k hw hna hgk (holdsB_ok h1) hm fun a H ha1 ha2 hH => ?_
            have := rangeB_ok h2 a ha1 ha2
            simp only at hH
            rw [hH] at this
            simp only at this
            split at this
            · rename_i cs' e' hrow
              simp only [Bool.and_eq_true, beq_iff_eq] at this
              rw [arow_some hrow, ← avsEq_eq _ _ this.1, ← this.2]
            · cases this
          · cases hb
        · simp only [Bool.and_eq_true, beq_iff_eq] at hb
          obtain ⟨⟨hgn, hkind⟩, hb⟩ := hb
          split at hb
          · rename_i H hH
            split at hb
            · rename_i v H2 hv
              have e2 := aop_quiet hkind hv
              subst e2
              simp only [Bool.and_eq_true, Bool.or_eq_true, beq_iff_eq] at hb
              obtain ⟨h1, h2⟩ := hb
              refine .quiet v hw hna hgn (holdsB_ok h1) fun a H' ha1 ha2 hH' => ?_
              simp only at ha1 ha2 hH'
              by_cases he : a = loOf sts i
              · subst he
                rw [hH] at hH'; simp at hH'; subst hH'
                exact hv
              · rcases h2 with h2 | h2
                · omega
                · have := rangeB_ok h2 a (by omega) ha2
                  rw [hH'] at this
                  simp only at this
                  split at this
                  · rename_i v' H3 hv'
                    have e3 := aop_quiet hkind hv'
                    subst e3
                    rw [hv', avEq_eq _ _ this]
                  · cases this
            · cases hb
          · cases hb
      · cases hb

theorem aregion_ok {rd : Bool} (hX : ExtOk P X) (hmix : P.follows .mixedOrders = true) (hc : CallOk P w0 call) {t t' : List AV} {A A' : List AO} (h : aregion P X call ops t A = some (t', A')) {id : Nat} {K : AK} (hk : K .normal t' A') :
    SCode P w0 rd (.region id ops true) t A K := by
  unfold aregion at h
  simp only at h
  split at h
  · rename_i hs
    simp only [Bool.and_eq_true] at hs
    split at h
    · rename_i tn recs Hl gids hrun
      split at h
      · rename_i hb
        simp only [Bool.and_eq_true] at hb
        simp at h; obtain ⟨rfl, rfl⟩ := h
        have ok := plan_ok hc rfl hs.1 hs.2 hrun hb.1 hb.2
        refine SCode.plan hX hmix ok fun H hH => ?_
        obtain ⟨_, hacts, _, _⟩ := runS_ok hrun
        simp only [← hacts, List.length_map] at hH
        rw [List.getElem?_append_right (by simp)] at hH
        simp at hH; subst hH
        exact hk
      · cases h
    · cases h
  · cases h
end
end Go.Am
