/- A part of the proof: Am15. -/
import Derived.Test.YthipnddfplbamaaDoorAm14
set_option linter.unusedVariables false
set_option linter.unusedSimpArgs false
namespace Go.Am
open Go.RowKit

/-! ### The orders of a region -/
def edgesOf (o : Oper) : List Nat := (o.after.toList.filter fun e => Region.binds .any e).map (·.on)

def Lin (ops : Array Oper) (S : Nat → Bool) : List Nat → Prop
  | [] => ∀ i, i < ops.size → S i = true
  | i :: L => i < ops.size ∧ S i = false ∧ (∀ o, ops[i]? = some o → ∀ e ∈ edgesOf o, S e = true) ∧ Lin ops (fun j => S j || j == i) L

theorem count_set : ∀ (l : List Bool) (i : Nat), l[i]? = some false → (l.set i true).count false + 1 = l.count false := by
  intro l
  induction l with
  | nil => intro i h; simp at h
  | cons b r ih =>
    intro i h
    cases i with
    | zero => simp at h; subst h; simp
    | succ i =>
      have := ih i (by simpa using h)
      simp only [List.set_cons_succ, List.count_cons]
      omega

theorem go_lin {ops : Array Oper} (hback : ∀ (i : Nat) (o : Oper), ops[i]? = some o → ∀ e ∈ edgesOf o, e < i) : ∀ (fuel t : Nat) (listed : Array Bool) (acc : List Nat), listed.size = ops.size → listed.toList.count false ≤ fuel →
    ∃ L, Region.linearise.go .any ops fuel t listed acc = acc.reverse ++ L ∧ Lin ops (fun i => listed.getD i true) L := by
  intro fuel
  induction fuel with
  | zero =>
    intro t listed acc hs hc
    refine ⟨[], by simp [Region.linearise.go], fun i hi => ?_⟩
    have h0 : listed.toList.count false = 0 := by omega
    have hne : ¬ false ∈ listed.toList := List.count_eq_zero.1 h0
    have hlt : i < listed.size := by omega
    simp only [Array.getD_eq_getD_getElem?, Array.getElem?_eq_getElem hlt, Option.getD_some]
    cases hq : listed[i] with
    | true => rfl
    | false => exact absurd (by rw [← hq]; simp) hne
  | succ fuel ih =>
    intro t listed acc hs hc
    simp only [Region.linearise.go]
    generalize hrs : ((List.range ops.size).filter fun i => !listed.getD i true && ((ops[i]?).map (·.after.all fun e => !Region.binds .any e || listed.getD e.on false)).getD false) = rs
    split
    · rename_i i hi
      have hmem : i ∈ rs := List.mem_of_getElem? hi
      rw [← hrs] at hmem
      simp only [List.mem_filter, List.mem_range, Bool.and_eq_true, Bool.not_eq_true'] at hmem
      obtain ⟨hlt, hun, hready⟩ := hmem
      have hlt' : i < listed.size := by omega
      have hgf : listed[i] = false := by simpa [Array.getD_eq_getD_getElem?, hlt'] using hun
      have hcount : (listed.setIfInBounds i true).toList.count false ≤ fuel := by
        have := count_set listed.toList i (by simp [hlt', hgf])
        simp only [Array.toList_setIfInBounds]
        omega
      obtain ⟨L, h1, h2⟩ := ih (t / rs.length) (listed.setIfInBounds i true) (i :: acc) (by simpa using hs) hcount
      refine ⟨i :: L, by rw [h1]; simp, hlt, hun, fun o ho e he => ?_, ?_⟩
      · rw [ho] at hready
        simp only [Option.map_some, Option.getD_some, Array.all_eq_true_iff_forall_mem] at hready
        simp only [edgesOf, List.mem_map, List.mem_filter] at he
        obtain ⟨ed, ⟨hed, hb⟩, rfl⟩ := he
        have := hready ed (by simpa using hed)
        rw [hb] at this
        simp only [Bool.not_true, Bool.false_or] at this
        simp only [Array.getD_eq_getD_getElem?] at this ⊢
        cases hq : listed[ed.on]? with
        | none => rw [hq] at this; simp at this
        | some b => rw [hq] at this; simpa using this
      · have : (fun j => (listed.setIfInBounds i true).getD j true) = (fun j => listed.getD j true || j == i) := by
          funext j
          simp only [Array.getD_eq_getD_getElem?, Array.getElem?_setIfInBounds]
          by_cases hj : i = j
          · subst hj; simp [hlt']
          · rw [if_neg hj]
            have : (j == i) = false := by simpa using fun e => hj e.symm
            rw [this, Bool.or_false]
        rw [← this]; exact h2
    · rename_i hnone
      have hempty : rs = [] := by
        cases rs with
        | nil => rfl
        | cons x r =>
          have hpos : 0 < (x :: r).length := by simp
          have := Nat.mod_lt t hpos
          rw [List.getElem?_eq_getElem this] at hnone
          cases hnone
      refine ⟨[], by simp, ?_⟩
      have key : ∀ i, i < ops.size → listed.getD i true = true := by
        intro i
        induction i using Nat.strongRecOn with
        | _ i ihi =>
          intro hi
          cases hq : listed.getD i true with
          | true => rfl
          | false =>
            have : i ∈ rs := by
              rw [← hrs]
              simp only [List.mem_filter, List.mem_range, Bool.and_eq_true, Bool.not_eq_true']
              refine ⟨hi, hq, ?_⟩
              have hop : ops[i]? = some ops[i] := by simp [hi]
              rw [hop]
              simp only [Option.map_some, Option.getD_some, Array.all_eq_true_iff_forall_mem]
              intro ed hed
              cases hb : Region.binds .any ed with
              | false => simp
              | true =>
                have hlt := hback i _ hop ed.on (by simp only [edgesOf, List.mem_map, List.mem_filter]; exact ⟨ed, ⟨by simpa using hed, hb⟩, rfl⟩)
                have hd := ihi ed.on hlt (by omega)
                have hsz : ed.on < listed.size := by omega
                simp only [Bool.not_true, Bool.false_or]
                simpa [Array.getD_eq_getD_getElem?, hsz] using hd
            rw [hempty] at this; cases this
      exact key

theorem schedule_lin {ops : Array Oper} (hback : ∀ (i : Nat) (o : Oper), ops[i]? = some o → ∀ e ∈ edgesOf o, e < i) (t : Nat) : Lin ops (fun i => decide (ops.size ≤ i)) (Region.schedule true ops t) := by
  obtain ⟨L, h1, h2⟩ := go_lin hback ops.size t (Array.replicate ops.size false) [] (by simp) (by simp [List.count_replicate])
  have e : Region.schedule true ops t = L := by
    simp only [Region.schedule, Bool.true_or, if_true, Region.linearise]
    simpa using h1
  rw [e]
  have : (fun i => (Array.replicate ops.size false).getD i true) = (fun i => decide (ops.size ≤ i)) := by
    funext i
    simp only [Array.getD_eq_getD_getElem?, Array.getElem?_replicate]
    by_cases h : i < ops.size
    · simp [h]
    · simp [h]; omega
  rw [← this]; exact h2

/-- The order of the text is one of the orders. -/
theorem range_lin {ops : Array Oper} (hback : ∀ (i : Nat) (o : Oper), ops[i]? = some o → ∀ e ∈ edgesOf o, e < i) : ∀ (k n : Nat), n + k = ops.size → Lin ops (fun i => decide (i < n) || decide (ops.size ≤ i)) (List.range' n k) := by
  intro k
  induction k with
  | zero => intro n hn i hi; simp; omega
  | succ k ih =>
    intro n hn
    rw [List.range'_succ]
    refine ⟨by omega, by simp; omega, fun o ho e he => ?_, ?_⟩
    · have := hback n o ho e he
      simp [this]
    · have e : (fun j => (decide (j < n) || decide (ops.size ≤ j)) || j == n) = (fun i => decide (i < n + 1) || decide (ops.size ≤ i)) := by
        funext j
        rw [Bool.eq_iff_iff]
        simp
        omega
      rw [e]
      exact ih (n + 1) (by omega)
end Go.Am
