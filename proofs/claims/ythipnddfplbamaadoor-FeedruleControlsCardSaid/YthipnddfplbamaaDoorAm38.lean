/- A part of the proof: Am38. -/
import Derived.Test.YthipnddfplbamaaDoorAm34
import Derived.Test.YthipnddfplbamaaDoorAm36
set_option linter.unusedVariables false
/-! Arguments of a law: what a slice that came in gives to the engine; a struct's cells. -/
namespace Go.Am
open Go.RowKit
theorem low_avOf (n : Nat) (u : Value) : low n (avOf u) = true := by cases u <;> rfl
theorem low_inRow (w : World) (a : Addr) (k n : Nat) : lowL n (inRow w a k) = true := by
  unfold inRow
  generalize List.range k = l
  induction l with
  | nil => rfl
  | cons x r ih => simp only [List.map_cons, lowL, low_avOf, ih, Bool.and_self]
section
variable {H : Type} {enc : TypeId × Value → H} {P : Program} {w : World}
/-- A slice that came in, laid as the engine's next block. -/
theorem InSlice.put {e : TypeId} {c : Value} (h : InSlice enc P w e c) (hn : 0 < P.cellsOf e) :
    ∃ (len cap : Nat) (cs : List AV) (te : TypeId), len ≤ cap ∧ cap ≤ maxLen ∧ cs.length = cap * P.cellsOf e ∧
      (∀ (i j d : Nat) (k : CK), i < cap → j < P.cellsOf e → kindAt P d e j = some k → ∃ u, cs[i * P.cellsOf e + j]? = some (avOf u) ∧ OkK enc P w k u) ∧
      (∀ n, lowL n cs = true) ∧
      ∀ (m : List (Option Pl)) (A : List AO), Rel P w m A w → ∃ pl, Rel P w (m ++ [pl]) (A ++ [.row cs te false]) w ∧ ∀ m', VRel (m ++ [pl] ++ m') (.slc (some (m.length, 0)) len cap true) c := by
  have h' := h
  have emp : ∀ ad, c = .slice ad 0 0 → ∃ (len cap : Nat) (cs : List AV) (te : TypeId), len ≤ cap ∧ cap ≤ maxLen ∧ cs.length = cap * P.cellsOf e ∧
      (∀ (i j d : Nat) (k : CK), i < cap → j < P.cellsOf e → kindAt P d e j = some k → ∃ u, cs[i * P.cellsOf e + j]? = some (avOf u) ∧ OkK enc P w k u) ∧
      (∀ n, lowL n cs = true) ∧
      ∀ (m : List (Option Pl)) (A : List AO), Rel P w m A w → ∃ pl, Rel P w (m ++ [pl]) (A ++ [.row cs te false]) w ∧ ∀ m', VRel (m ++ [pl] ++ m') (.slc (some (m.length, 0)) len cap true) c := by
    rintro ad rfl
    refine ⟨0, 0, [], 0, Nat.le_refl _, by unfold maxLen; omega, by simp, fun i j d k hi => by omega, fun n => rfl, fun m A hr => ⟨none, rel_ghost hr _, fun m' => .slcEmpty _ _ _ _⟩⟩
  rcases h with rfl | ⟨a, len, cap, rfl, hl, hm, _⟩
  · exact emp none rfl
  · by_cases hc : 0 < cap
    · obtain ⟨hs, cc, te, fr, hb, hle⟩ := h'.block hn hc
      refine ⟨len, cap, inRow w a (cap * P.cellsOf e), te, hl, hm, inRow_length _ _, fun i j d k hi hj hk => ?_, low_inRow _ _ _, fun m A hr => ⟨some ⟨a.block, a.off, 0⟩, rel_inRow hr hs hb hle, fun m' => ?_⟩⟩
      · refine ⟨_, inRow_get ?_, h'.kind hs hi hj hk⟩
        calc i * P.cellsOf e + j < i * P.cellsOf e + P.cellsOf e := by omega
          _ = (i + 1) * P.cellsOf e := by rw [Nat.add_mul, Nat.one_mul]
          _ ≤ cap * P.cellsOf e := Nat.mul_le_mul_right _ hi
      · have hg : (m ++ [some ⟨a.block, a.off, 0⟩] ++ m')[m.length]? = some (some ⟨a.block, a.off, 0⟩) := by
          rw [List.append_assoc, List.getElem?_append_right (Nat.le_refl _), Nat.sub_self]; rfl
        have := VRel.slc (m := m ++ [some ⟨a.block, a.off, 0⟩] ++ m') (k := m.length) (o := 0) (p := ⟨a.block, a.off, 0⟩) len cap true hg
        cases a; simp only at hs; subst hs
        exact this
    · obtain rfl : cap = 0 := by omega
      obtain rfl : len = 0 := by omega
      exact emp _ rfl
theorem okInt {P : Program} {w : World} {k : IntKind} {c : Value} (h : OkK enc P w (.int k) c) : ∃ n, c = .int k n ∧ (Lit.int k n).wf = true := h
/-- A struct that came in: its cells, by their kinds. -/
theorem open_agg {t : TypeId} {fs : Array Field} {v : Value} {d : DataW H} {ps : List MemPlace} {base : Nat} (hu : P.underlying t = some (.struct fs)) (hval : Value.okWide P w .any base t v) (hd : DataW.Trod enc P w 0 (fun _ => true) true t v d ps) :
    ∃ cs : Array Value, v = .agg cs ∧ cs.size = P.cellsOf t ∧ ∀ (d j : Nat) (k : CK), kindAt P d t j = some k → ∃ c, cs[j]? = some c ∧ OkK enc P w k c := by
  unfold Value.okWide at hval
  rw [hu] at hval
  obtain ⟨cs, rfl, hsz, _⟩ := hval
  obtain ⟨fuel, hf⟩ := hd
  refine ⟨cs, rfl, hsz, fun d j k hk => ?_⟩
  have := kindAt_ok d hf hk
  simpa [Value.cells] using this
end
end Go.Am
