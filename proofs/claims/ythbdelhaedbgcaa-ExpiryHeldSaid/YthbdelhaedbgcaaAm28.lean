/- A part of the proof: Am28. -/
import Derived.Test.YthbdelhaedbgcaaAm27
import Derived.Lib.Bytealg
import Derived.Laws.Externs
set_option linter.unusedVariables false
set_option linter.unusedSimpArgs false
namespace Go.Am
open Go.RowKit

/-! ### Functions of Go's library without a body -/
def xIndexByte (args : List AV) (A : List AO) : Option AV :=
  match args with
  | [.str s, .int .u8 n] => some (.int .i64 (Lib.indexByte s n.toNat.toUInt8))
  | _ => none
def xCount (args : List AV) (A : List AO) : Option AV :=
  match args with
  | [.str s, .int .u8 n] => some (.int .i64 (Lib.countByte s n.toNat.toUInt8))
  | _ => none
def xCompare (args : List AV) (A : List AO) : Option AV :=
  match args with
  | [.str s, .str t] => some (.int .i64 (Lib.compareBytes s t))
  | _ => none

theorem VsRel.pair {m : List (Option Pl)} {a b : AV} {us : Array Value} (h : VsRel m [a, b] us) : ∃ u v, us = #[u, v] ∧ VRel m a u ∧ VRel m b v := by
  obtain ⟨u0, h0, r0⟩ := h.get (i := 0) rfl
  obtain ⟨u1, h1, r1⟩ := h.get (i := 1) rfl
  have hsz := h.1
  simp at hsz
  refine ⟨u0, u1, ?_, r0, r1⟩
  apply Array.ext
  · simp; omega
  · intro i hi hi2
    have : i < 2 := by simpa using hi2
    rcases i with _ | _ | i
    · exact (Array.getElem?_eq_some_iff.1 h0).2
    · exact (Array.getElem?_eq_some_iff.1 h1).2
    · omega

/-- What a row of the library does, told by the machine. -/
def RowOk (e : Array Value → Sem Value) (x : List AV → List AO → Option AV) : Prop :=
  ∀ (P : Program) (m : List (Option Pl)) (A : List AO) (w : World) (args : List AV) (us : Array Value) (v : AV), VsRel m args us → x args A = some v → ∃ u, (e us).run P w = .ok u w ∧ VRel m v u

theorem xIndexByte_ok : RowOk Extern.BytealgIndexByte.indexByte xIndexByte := by
  intro P m A w args us v hus h
  unfold xIndexByte at h
  split at h
  · obtain ⟨u, u', rfl, r0, r1⟩ := hus.pair
    cases r0; cases r1
    simp only [Option.some.injEq] at h; subst h
    exact ⟨_, Lib.run_indexByteString _ _ w, .int _ _⟩
  · cases h
theorem xCount_ok : RowOk Extern.BytealgCount.count xCount := by
  intro P m A w args us v hus h
  unfold xCount at h
  split at h
  · obtain ⟨u, u', rfl, r0, r1⟩ := hus.pair
    cases r0; cases r1
    simp only [Option.some.injEq] at h; subst h
    exact ⟨_, Lib.run_countString _ _ w, .int _ _⟩
  · cases h
theorem xCompare_ok : RowOk Extern.BytealgCompare.compare xCompare := by
  intro P m A w args us v hus h
  unfold xCompare at h
  split at h
  · obtain ⟨u, u', rfl, r0, r1⟩ := hus.pair
    cases r0; cases r1
    simp only [Option.some.injEq] at h; subst h
    exact ⟨_, Lib.run_compareString _ _ w, .int _ _⟩
  · cases h

/-- A program's functions without a body, each by its row. -/
def tableX : List (FuncId × (List AV → List AO → Option AV)) → AExt
  | [], _ => none
  | (g, x) :: r, f => if f = g then some x else tableX r f
theorem tableX_ok {P : Program} : ∀ {T : List (FuncId × (List AV → List AO → Option AV))}, (∀ x ∈ T, ∃ fn e, P.funcs[x.1]? = some fn ∧ (fn.name == "runtime.NumGoroutine") = false ∧ fn.body.isNone = true ∧ Extern.findNext fn = none ∧ Extern.find fn = some e ∧ RowOk e x.2) → ExtOk P (tableX T) := by
  intro T
  induction T with
  | nil => intro _ f g h; simp [tableX] at h
  | cons y r ih =>
    intro hT f g h w0 m A w args us v hr hus hv
    obtain ⟨g0, x⟩ := y
    simp only [tableX] at h
    split at h
    · rename_i e; subst e
      simp only [Option.some.injEq] at h; subst h
      obtain ⟨fn, e, h1, h2, h3, h4, h5, h6⟩ := hT (f, x) (by simp)
      obtain ⟨u, hu, hvr⟩ := h6 P m A w args us v hus hv
      refine ⟨u, ?_, hvr⟩
      rw [run_callFunc_extern h1 h2 h3 h4 h5, hu]; rfl
    · exact ih (fun z hz => hT z (by simp [hz])) f g h w0 m A w args us v hr hus hv
end Go.Am
