/- A part of the proof: Am32. -/
import Derived.Test.YthipnddfplbamaaDoorAm31
import Derived.DataReads
import Derived.ChangeOld
import Derived.OpenShut
import Derived.Deep.Slices
set_option linter.unusedVariables false
set_option linter.unusedSimpArgs false
namespace Go.Am
open Go.RowKit

/-! ### What came in, cell by cell -/
/-- A cell of the model, as far as it is told: numbers, bools and strings. -/
def avOf : Value → AV
  | .bool b => .bool b
  | .int k n => .int k n
  | .string s => .str s.data.toList
  | _ => .any
theorem avOf_rel (m : List (Option Pl)) (u : Value) : VRel m (avOf u) u := by
  cases u <;> first | exact .any | exact .bool _ | exact .int _ _ | skip
  rename_i s
  have h := VRel.str (m := m) s.data.toList
  have e : (⟨s.data.toList.toArray⟩ : ByteArray) = s := rfl
  rw [e] at h
  exact h

inductive CK where
  | bool
  | int (k : IntKind)
  | str
  | slc (e : TypeId)
/-- The kind of cell j of a variable of type t. -/
def kindAt (P : Program) : Nat → TypeId → Nat → Option CK
  | 0, _, _ => none
  | d + 1, t, j => match P.underlying t with
    | some .bool => if j = 0 then some .bool else none
    | some (.int k) => if j = 0 then some (.int k) else none
    | some .string => if j = 0 then some .str else none
    | some (.slice e) => if j = 0 then some (.slc e) else none
    | some (.struct fs) => match fs.toList.find? fun f => decide (f.offset ≤ j) && decide (j < f.offset + P.cellsOf f.type) with
      | some f => kindAt P d f.type (j - f.offset)
      | none => none
    | some (.array n e) => if j < n * P.cellsOf e then kindAt P d e (j % P.cellsOf e) else none
    | _ => none
section
variable {H : Type} {enc : TypeId × Value → H} {P : Program} {w : World}
/-- A slice as it came in. -/
def InSlice (enc : TypeId × Value → H) (P : Program) (w : World) (e : TypeId) (c : Value) : Prop :=
  c = .slice none 0 0 ∨ ∃ a len cap, c = .slice (some a) len cap ∧ len ≤ cap ∧ cap ≤ maxLen ∧ ∀ i, i < cap → ∃ us x fuel, w.cells? 0 (a.add (i * P.cellsOf e)) (P.cellsOf e) = some us ∧ DataW.trod enc P w 0 (fun _ => true) true fuel e us = some x
def OkK (enc : TypeId × Value → H) (P : Program) (w : World) : CK → Value → Prop
  | .bool, c => ∃ b, c = .bool b
  | .int k, c => ∃ n, c = .int k n ∧ (Lit.int k n).wf = true
  | .str, c => ∃ s, c = .string s ∧ s.size ≤ maxLen
  | .slc e, c => InSlice enc P w e c

theorem trod_slice {fuel : Nat} {t e : TypeId} {cs : List Value} {x : DataW H × List MemPlace} (hu : P.underlying t = some (.slice e)) (h : DataW.trod enc P w 0 (fun _ => true) true fuel t cs = some x) : ∃ v, cs = [v] ∧ InSlice enc P w e v := by
  rcases Go.Deep.open_slice hu h with ⟨rfl, _⟩ | ⟨a, len, cap, m, n, D, Pl, rfl, _, h1, h2, hm, _, h3⟩
  · exact ⟨_, rfl, .inl rfl⟩
  · refine ⟨_, rfl, .inr ⟨a, len, cap, rfl, h1, h2, fun i hi => ?_⟩⟩
    obtain ⟨cs', h4, h5⟩ := h3 i (by simp at hm; omega)
    exact ⟨cs', _, n, h4, h5⟩

theorem kindAt_ok : ∀ (d : Nat) {t : TypeId} {j : Nat} {k : CK} {fuel : Nat} {cs : List Value} {x : DataW H × List MemPlace}, DataW.trod enc P w 0 (fun _ => true) true fuel t cs = some x → kindAt P d t j = some k → ∃ c, cs[j]? = some c ∧ OkK enc P w k c := by
  intro d
  induction d with
  | zero => intro t j k fuel cs x _ h; simp [kindAt] at h
  | succ d ih =>
    intro t j k fuel cs x ht hk
    unfold kindAt at hk
    split at hk
    · rename_i hu
      split at hk
      · rename_i hj
        simp at hk; subst hj hk
        obtain ⟨b, rfl, _⟩ := DataW.trod_bool hu ht
        exact ⟨_, rfl, b, rfl⟩
      · cases hk
    · rename_i k' hu
      split at hk
      · rename_i hj
        simp at hk; subst hj hk
        obtain ⟨n, rfl, _, hw⟩ := DataW.trod_int hu ht
        exact ⟨_, rfl, n, rfl, hw⟩
      · cases hk
    · rename_i hu
      split at hk
      · rename_i hj
        simp at hk; subst hj hk
        obtain ⟨s, rfl, _, hs⟩ := DataW.trod_string hu ht
        exact ⟨_, rfl, s, rfl, hs⟩
      · cases hk
    · rename_i e hu
      split at hk
      · rename_i hj
        simp at hk; subst hj hk
        obtain ⟨v, rfl, hv⟩ := trod_slice hu ht
        exact ⟨v, rfl, hv⟩
      · cases hk
    · rename_i fs hu
      split at hk
      · rename_i f hf
        have hm := List.mem_of_find?_eq_some hf
        have hp := List.find?_some hf
        simp only [Bool.and_eq_true, decide_eq_true_eq] at hp
        obtain ⟨xs, n, _, _, hl, hx, hfs⟩ := DataW.trod_struct hu ht
        obtain ⟨i, hi, hif⟩ := List.getElem_of_mem hm
        have hif' : fs[i]? = some f := by
          have : fs.toList[i]? = some f := by rw [List.getElem?_eq_getElem hi, hif]
          simpa using this
        have hy := hfs i f hif'
        have hix : i < xs.length := by rw [hx]; simpa using hi
        rw [List.getElem?_eq_getElem hix] at hy
        obtain ⟨c, hc, hok⟩ := ih hy hk
        refine ⟨c, ?_, hok⟩
        rw [List.getElem?_take] at hc
        split at hc
        · rw [List.getElem?_drop] at hc
          rw [← hc]; congr 1; omega
        · cases hc
      · cases hk
    · rename_i n e hu
      split at hk
      · rename_i hj
        have hpos : 0 < P.cellsOf e := by
          rcases Nat.eq_zero_or_pos (P.cellsOf e) with h0 | h0
          · rw [h0] at hj; simp at hj
          · exact h0
        obtain ⟨xs, m, _, _, hl, hx, hes⟩ := DataW.trod_array hu ht
        have hq : j / P.cellsOf e < n := (Nat.div_lt_iff_lt_mul hpos).2 hj
        have hy := hes _ hq
        rw [List.getElem?_eq_getElem (by rw [hx]; exact hq)] at hy
        obtain ⟨c, hc, hok⟩ := ih hy hk
        refine ⟨c, ?_, hok⟩
        rw [List.getElem?_take] at hc
        split at hc
        · rw [List.getElem?_drop] at hc
          rw [← hc]; congr 1
          have := Nat.div_add_mod j (P.cellsOf e)
          rw [Nat.mul_comm]; exact this.symm
        · cases hc
      · cases hk
    · cases hk

/-! ### A slice that came in, as a row -/
/-- Cell j behind an address. -/
def cellAt (w : World) (a : Addr) (j : Nat) : Value := (w.cell? ⟨a.block, a.off + j, none⟩).getD default
def inRow (w : World) (a : Addr) (n : Nat) : List AV := (List.range n).map fun j => avOf (cellAt w a j)
theorem inRow_get {a : Addr} {n j : Nat} (h : j < n) : (inRow w a n)[j]? = some (avOf (cellAt w a j)) := by
  simp [inRow, h]
theorem inRow_length (a : Addr) (n : Nat) : (inRow w a n).length = n := by simp [inRow]

theorem cells_cell {a : Addr} {n : Nat} {us : List Value} (h : w.cells? 0 a n = some us) : us.length = n ∧ ∀ j, j < n → w.cell? (a.add j) = us[j]? := by
  unfold World.cells? at h
  rw [if_pos (Nat.zero_le _)] at h
  have key : ∀ (k s : Nat) (us : List Value), (List.range' s k).mapM (fun i => w.cell? (a.add i)) = some us → us.length = k ∧ ∀ j, j < k → w.cell? (a.add (s + j)) = us[j]? := by
    intro k
    induction k with
    | zero => intro s us h; simp at h; subst h; exact ⟨rfl, fun j hj => by omega⟩
    | succ k ih =>
      intro s us h
      rw [List.range'_succ, List.mapM_cons] at h
      cases h1 : w.cell? (a.add s) with
      | none => rw [h1] at h; simp at h
      | some v =>
        rw [h1] at h
        cases h2 : (List.range' (s + 1) k).mapM (fun i => w.cell? (a.add i)) with
        | none => rw [h2] at h; simp at h
        | some vs =>
          rw [h2] at h
          simp at h; subst h
          obtain ⟨h3, h4⟩ := ih _ _ h2
          refine ⟨by simp [h3], fun j hj => ?_⟩
          cases j with
          | zero => simpa using h1
          | succ j => rw [show s + (j + 1) = s + 1 + j by omega]; simpa using h4 j (by omega)
  rw [List.range_eq_range'] at h
  obtain ⟨h1, h2⟩ := key n 0 us h
  exact ⟨h1, fun j hj => by simpa using h2 j hj⟩

theorem addr_add2 {a : Addr} (hs : a.spot = none) (i j : Nat) : (a.add i).add j = ⟨a.block, a.off + (i + j), none⟩ := by
  cases a
  simp only at hs; subst hs
  simp only [Addr.add]
  split <;> split <;> simp_all [Nat.add_assoc]
/-- Where the cells of a slice that came in lie. -/
theorem InSlice.block {e : TypeId} {a : Addr} {len cap : Nat} (h : InSlice enc P w e (.slice (some a) len cap)) (hn : 0 < P.cellsOf e) (hc : 0 < cap) :
    a.spot = none ∧ ∃ cc te fr, w.heap[a.block]? = some (.cells cc te fr) ∧ a.off + cap * P.cellsOf e ≤ cc.size := by
  rcases h with h | ⟨a', l', c', h, hl, hm, he⟩
  · cases h
  simp only [Value.slice.injEq, Option.some.injEq] at h
  obtain ⟨rfl, rfl, rfl⟩ := h
  have cellb : ∀ i, i < cap → ∀ j, j < P.cellsOf e → ∃ v, w.cell? ((a.add (i * P.cellsOf e)).add j) = some v := by
    intro i hi j hj
    obtain ⟨us, x, fuel, h1, _⟩ := he i hi
    obtain ⟨h2, h3⟩ := cells_cell h1
    exact ⟨us[j]'(by omega), by rw [h3 j hj, List.getElem?_eq_getElem (by omega)]⟩
  obtain ⟨v0, hv0⟩ := cellb 0 hc 0 hn
  have hs : a.spot = none := by
    rw [Nat.zero_mul] at hv0
    have e0 : (a.add 0).add 0 = a := by simp [Addr.add]
    rw [e0] at hv0
    unfold World.cell? at hv0
    split at hv0
    · split at hv0
      · cases hv0
      · rename_i h; simpa using h
    · cases hv0
  obtain ⟨v, hv⟩ := cellb (cap - 1) (by omega) (P.cellsOf e - 1) (by omega)
  rw [addr_add2 hs] at hv
  refine ⟨hs, ?_⟩
  unfold World.cell? at hv
  split at hv
  · rename_i c te fr hb
    simp only [Option.isSome_none, Bool.false_eq_true, if_false] at hv
    refine ⟨c, te, fr, hb, ?_⟩
    have := (Array.getElem?_eq_some_iff.1 hv).1
    have e1 : (cap - 1) * P.cellsOf e + P.cellsOf e = cap * P.cellsOf e := by
      rw [← Nat.succ_mul, Nat.succ_eq_add_one, Nat.sub_add_cancel hc]
    omega
  · cases hv
theorem InSlice.kind {e : TypeId} {a : Addr} {len cap : Nat} (h : InSlice enc P w e (.slice (some a) len cap)) (hs : a.spot = none) {i j d : Nat} {k : CK} (hi : i < cap) (hj : j < P.cellsOf e) (hk : kindAt P d e j = some k) :
    OkK enc P w k (cellAt w a (i * P.cellsOf e + j)) := by
  rcases h with h | ⟨a', l', c', h, hl, hm, he⟩
  · cases h
  simp only [Value.slice.injEq, Option.some.injEq] at h
  obtain ⟨rfl, rfl, rfl⟩ := h
  obtain ⟨us, x, fuel, h1, h2⟩ := he i hi
  obtain ⟨c, hc, hok⟩ := kindAt_ok d h2 hk
  obtain ⟨_, h3⟩ := cells_cell h1
  have := h3 j hj
  rw [hc] at this
  rw [addr_add2 hs] at this
  unfold cellAt
  rw [this]
  exact hok
/-- The row that a slice shows: part of the blocks. -/
theorem rel_inRow {m : List (Option Pl)} {A : List AO} {w' : World} (hr : Rel P w m A w') {a : Addr} {n : Nat} (hs : a.spot = none) {cc : Array Value} {te : TypeId} {fr : Nat × Nat} (hb : w.heap[a.block]? = some (.cells cc te fr)) (hle : a.off + n ≤ cc.size) :
    Rel P w (m ++ [some ⟨a.block, a.off, 0⟩]) (A ++ [.row (inRow w a n) te false]) w' := by
  have hlt : a.block < w.heap.size := (Array.getElem?_eq_some_iff.1 hb).1
  have hb' : w'.heap[a.block]? = some (.cells cc te fr) := by rw [hr.below.block _ hlt]; exact hb
  have oldm : ∀ {k : Nat} {p : Option Pl}, (m ++ [some ⟨a.block, a.off, 0⟩])[k]? = some p → k ≠ A.length → m[k]? = some p := by
    intro k p hk hne
    by_cases hlt : k < m.length
    · rwa [List.getElem?_append_left hlt] at hk
    · have : k = m.length := by
        have := (List.getElem?_eq_some_iff.1 hk).1
        simp at this; omega
      exact absurd (this.trans hr.len) hne
  have oldA : ∀ {k : Nat} {o : AO}, (A ++ [.row (inRow w a n) te false])[k]? = some o → k ≠ A.length → A[k]? = some o := by
    intro k o hk hne
    by_cases hlt : k < A.length
    · rwa [List.getElem?_append_left hlt] at hk
    · have := (List.getElem?_eq_some_iff.1 hk).1
      simp at this; omega
  have newA : ∀ {o : AO}, (A ++ [.row (inRow w a n) te false])[A.length]? = some o → o = .row (inRow w a n) te false := by
    intro o h; simp at h; exact h.symm
  have newm : ∀ {p : Pl}, (m ++ [some ⟨a.block, a.off, 0⟩])[A.length]? = some (some p) → p = ⟨a.block, a.off, 0⟩ := by
    intro p h; rw [← hr.len] at h; simp at h; exact h.symm
  refine ⟨by simp [hr.len], hr.below, fun k o p hk hp => ?_, fun k k' o o' p p' hne hk hk' hm hl hp hp' => ?_⟩
  · by_cases hkA : k = A.length
    · subst hkA
      obtain rfl := newA hk
      obtain rfl := newm hp
      refine ⟨cc, fr, hb', fun i v hi => ?_, fun hw => by cases hw⟩
      have hin : i < n := by have := (List.getElem?_eq_some_iff.1 hi).1; rwa [inRow_length] at this
      rw [inRow_get hin] at hi
      simp only [Option.some.injEq] at hi
      subst hi
      have hin2 : a.off + i < cc.size := by omega
      refine ⟨cc[a.off + i], by simp [hin2], ?_⟩
      have : cellAt w a i = cc[a.off + i] := by
        simp [cellAt, World.cell?, hb, hin2]
      rw [this]
      exact avOf_rel _ _
    · exact (hr.obj k o p (oldA hk hkA) (oldm hp hkA)).ext P w (Ext.weak (Ext.append _ _))
  · by_cases hkA : k = A.length
    · subst hkA
      obtain rfl := newA hk
      simp [AO.mut] at hm
    · have h1 := oldA hk hkA
      have h2 := oldm hp hkA
      by_cases hkA' : k' = A.length
      · subst hkA'
        obtain rfl := newm hp'
        -- what is written lies above
        have ho := hr.obj k o p h1 h2
        have hge : w.heap.size ≤ p.b := by
          cases o with
          | row cs e wr =>
            simp only [AO.mut] at hm
            obtain ⟨cc', fr', _, _, h3⟩ := ho
            exact (h3 hm).1
          | dead => simp [AO.mut] at hm
          | map es bs ck => exact ho.1
          | iter s pos => exact ho.1
          | miter mp since seen last => exact ho.1
          | loop st pend t ps asg body => exact ho.1
        simp only; omega
      · exact hr.inj k k' o o' p p' hne h1 (oldA hk' hkA') hm hl h2 (oldm hp' hkA')
/-- A place of which nothing is known. -/
theorem rel_ghost {m : List (Option Pl)} {A : List AO} {w' : World} (hr : Rel P w m A w') (o : AO) : Rel P w (m ++ [none]) (A ++ [o]) w' := by
  have := hr.ghosts [o]
  simpa using this
end
end Go.Am
