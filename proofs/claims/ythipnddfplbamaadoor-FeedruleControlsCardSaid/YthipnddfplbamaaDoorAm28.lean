/- A part of the proof: Am28. -/
import Derived.Test.YthipnddfplbamaaDoorAm27
import Derived.Lib.Bytealg
import Derived.Laws.Externs
set_option linter.unusedVariables false
set_option linter.unusedSimpArgs false
namespace Go.Am
open Go.RowKit

/-! ### Functions of Go's library without a body -/
def xIndexByte (args : List AV) (A : List AO) : Option AV :=
  match args with
  | [.str s, .int .u8 n] => some (.int .i64 (Lib.indexByte s n.toNat.toUInt8))
  | _ => none
def xCount (args : List AV) (A : List AO) : Option AV :=
  match args with
  | [.str s, .int .u8 n] => some (.int .i64 (Lib.countByte s n.toNat.toUInt8))
  | _ => none
def xCompare (args : List AV) (A : List AO) : Option AV :=
  match args with
  | [.str s, .str t] => some (.int .i64 (Lib.compareBytes s t))
  | _ => none

theorem VsRel.pair {m : List (Option Pl)} {a b : AV} {us : Array Value} (h : VsRel m [a, b] us) : ∃ u v, us = #[u, v] ∧ VRel m a u ∧ VRel m b v := by
  obtain ⟨u0, h0, r0⟩ := h.get (i := 0) rfl
  obtain ⟨u1, h1, r1⟩ := h.get (i := 1) rfl
  have hsz := h.1
  simp at hsz
  refine ⟨u0, u1, ?_, r0, r1⟩
  apply Array.ext
  · simp; omega
  · intro i hi hi2
    have : i < 2 := by simpa using hi2
    rcases i with _ | _ | i
    · exact (Array.getElem?_eq_some_iff.1 h0).2
    · exact (Array.getElem?_eq_some_iff.1 h1).2
    · omega

/-- What a row of the library does, told by the machine. -/
def RowOk (e : Array Value → Sem Value) (x : List AV → List AO → Option AV) : Prop :=
  ∀ (P : Program) (w0 : World) (m : List (Option Pl)) (A : List AO) (w : World) (args : List AV) (us : Array Value) (v : AV), Rel P w0 m A w → VsRel m args us → x args A = some v → ∃ u, (e us).run P w = .ok u w ∧ VRel m v u

theorem xIndexByte_ok : RowOk Extern.BytealgIndexByte.indexByte xIndexByte := by
  intro P w0 m A w args us v hrel hus h
  unfold xIndexByte at h
  split at h
  · obtain ⟨u, u', rfl, r0, r1⟩ := hus.pair
    cases r0; cases r1
    simp only [Option.some.injEq] at h; subst h
    exact ⟨_, Lib.run_indexByteString _ _ w, .int _ _⟩
  · cases h
theorem xCount_ok : RowOk Extern.BytealgCount.count xCount := by
  intro P w0 m A w args us v hrel hus h
  unfold xCount at h
  split at h
  · obtain ⟨u, u', rfl, r0, r1⟩ := hus.pair
    cases r0; cases r1
    simp only [Option.some.injEq] at h; subst h
    exact ⟨_, Lib.run_countString _ _ w, .int _ _⟩
  · cases h
theorem xCompare_ok : RowOk Extern.BytealgCompare.compare xCompare := by
  intro P w0 m A w args us v hrel hus h
  unfold xCompare at h
  split at h
  · obtain ⟨u, u', rfl, r0, r1⟩ := hus.pair
    cases r0; cases r1
    simp only [Option.some.injEq] at h; subst h
    exact ⟨_, Lib.run_compareString _ _ w, .int _ _⟩
  · cases h

/-! ### Bytes, of a string or a slice -/
def bytesAV (A : List AO) : AV → Option (List UInt8)
  | .str s => some s
  | .slc none _ _ _ => some []
  | .slc (some (k, o)) n _ _ => if n = 0 then some [] else match arow A k with
    | some (cs, _, _) => if o + n ≤ cs.length then bytesOfCells ((cs.drop o).take n) else none
    | none => none
  | _ => none
theorem loadBytesX_run {P : Program} {w : World} {b : Nat} {c : Array Value} {e : TypeId} {f : Nat × Nat} (h : w.heap[b]? = some (.cells c e f)) : ∀ (s : List UInt8) (o : Nat) (acc : ByteArray), (∀ (i : Nat) (x : UInt8), s[i]? = some x → c[o + i]? = some (.int .u8 x.toNat)) →
    (Extern.Bytes.loadBytes ⟨b, o, none⟩ s.length acc).run P w = .ok ⟨acc.data ++ s.toArray⟩ w := by
  intro s
  induction s with
  | nil => intro o acc _; simp [Extern.Bytes.loadBytes]
  | cons x r ih =>
    intro o acc hs
    have h0 := hs 0 x rfl
    simp only [Nat.add_zero] at h0
    have hl : (load ⟨b, o, none⟩).run P w = .ok (.int .u8 x.toNat) w := by
      simp [load, Sem.run, World.cell?, h, h0]
    simp only [List.length_cons, Extern.Bytes.loadBytes, Sem.run_bind, hl, Result.andThen_ok]
    have := ih (o + 1) (acc.push (Int.toNat (x.toNat : Int)).toUInt8) (fun i y hy => by rw [show o + 1 + i = o + (i + 1) by omega]; exact hs (i + 1) y (by simpa using hy))
    rw [show (Addr.add ⟨b, o, none⟩ 1) = ⟨b, o + 1, none⟩ from rfl, this]
    simp [ByteArray.push]
theorem bytesAV_run {P : Program} {w0 : World} {m : List (Option Pl)} {A : List AO} {w : World} (h : Rel P w0 m A w) {x : AV} {u : Value} (hx : VRel m x u) {s : List UInt8} (hb : bytesAV A x = some s) : (Extern.Bytes.bytesOf u).run P w = .ok ⟨s.toArray⟩ w := by
  unfold bytesAV at hb
  split at hb
  · simp at hb; subst hb
    cases hx; rfl
  · simp at hb; subst hb
    cases hx; rfl
  · split at hb
    · rename_i h0
      subst h0
      simp at hb; subst hb
      cases hx
      · rfl
      · rename_i ad; cases ad <;> rfl
    · rename_i h0
      split at hb
      case h_2 => cases hb
      rename_i k o n c e _ cs te wr hk
      split at hb
      case isFalse => cases hb
      rename_i hle
      cases hx
      · rename_i p hp
        obtain ⟨cc, fr, q1, q2, _⟩ := h.obj k _ p (arow_some hk) hp
        obtain ⟨b1, b2⟩ := bytes_get hb
        have hlen : s.length = n := by rw [b1]; simp; omega
        have := loadBytesX_run (P := P) q1 s (p.o + o) .empty (fun i x hx => by
          have h1 := b2 i x hx
          have hi' : i < n := by have := (List.getElem?_eq_some_iff.1 hx).1; omega
          rw [List.getElem?_take, if_pos hi', List.getElem?_drop] at h1
          obtain ⟨uu, hu, hr⟩ := q2 _ _ h1
          cases hr
          rw [show p.o + o + i = p.o + (o + i) by omega]; exact hu)
        rw [hlen] at this
        show (Extern.Bytes.loadBytes ⟨p.b, p.o + o, none⟩ n .empty).run P w = _
        rw [this]
        simp
      · exact absurd rfl h0
  · cases hb
def xCompareB (args : List AV) (A : List AO) : Option AV :=
  match args with
  | [x, y] => match bytesAV A x, bytesAV A y with
    | some s, some t => some (.int .i64 (Lib.compareBytes s t))
    | _, _ => none
  | _ => none
theorem xCompareB_ok : RowOk Extern.BytealgCompare.compare xCompareB := by
  intro P w0 m A w args us v hrel hus h
  unfold xCompareB at h
  split at h
  · split at h
    · rename_i s t hs ht
      obtain ⟨u, u', rfl, r0, r1⟩ := hus.pair
      simp only [Option.some.injEq] at h; subst h
      refine ⟨_, ?_, .int .i64 _⟩
      change Sem.run P (do pure (goInt (Extern.BytealgCompare.cmp (← Extern.Bytes.bytesOf u) (← Extern.Bytes.bytesOf u')))) w = _
      simp only [Sem.run_bind, bytesAV_run hrel r0 hs, bytesAV_run hrel r1 ht, Result.andThen_ok, Sem.run_pure, Lib.cmp_eq]
      rfl
    · cases h
  · cases h
def xIndexByteB (args : List AV) (A : List AO) : Option AV :=
  match args with
  | [x, .int .u8 z] => match bytesAV A x with
    | some s => some (.int .i64 (Lib.indexByte s z.toNat.toUInt8))
    | none => none
  | _ => none
theorem xIndexByteB_ok : RowOk Extern.BytealgIndexByte.indexByte xIndexByteB := by
  intro P w0 m A w args us v hrel hus h
  unfold xIndexByteB at h
  split at h
  · split at h
    · rename_i s hs
      obtain ⟨u, u', rfl, r0, r1⟩ := hus.pair
      cases r1
      rename_i x0 n hk0
      simp only [Option.some.injEq] at h; subst h
      refine ⟨_, ?_, .int .i64 _⟩
      have h1 := Lib.run_indexByteString (P := P) ⟨s.toArray⟩ n w
      rw [← h1]
      change Sem.run P (do
        let b ← Extern.Bytes.bytesOf u
        let c ← Extern.Bytes.asByte (.int .u8 n)
        match (List.range b.size).find? fun i => b[i]! == c with
        | some i => pure (goInt i)
        | none => pure (goInt (-1))) w = Sem.run P (do
        let b ← Extern.Bytes.bytesOf (.string ⟨s.toArray⟩)
        let c ← Extern.Bytes.asByte (.int .u8 n)
        match (List.range b.size).find? fun i => b[i]! == c with
        | some i => pure (goInt i)
        | none => pure (goInt (-1))) w
      rw [Sem.run_bind, Sem.run_bind, bytesAV_run hrel r0 hs]
      rfl
    · cases h
  · cases h
def xSame (args : List AV) (A : List AO) : Option AV :=
  match args with
  | [x] => some x
  | _ => none
theorem xSame_ok : RowOk Extern.AbiNoEscape.same xSame := by
  intro P w0 m A w args us v hrel hus h
  unfold xSame at h
  split at h
  · simp only [Option.some.injEq] at h; subst h
    obtain ⟨u0, hu0, hr0⟩ := hus.get (i := 0) rfl
    have e : us = #[u0] := by
      have := hus.1
      apply Array.ext
      · simpa using this.symm
      · intro i h1 h2
        have hi : i = 0 := by simpa using h2
        subst hi
        exact (Array.getElem?_eq_some_iff.1 hu0).2
    subst e
    exact ⟨u0, rfl, hr0⟩
  · cases h
def xNone (args : List AV) (A : List AO) : Option AV := none
theorem xNone_ok {e : Array Value → Sem Value} : RowOk e xNone := fun _ _ _ _ _ _ _ _ _ _ h => by cases h

/-- A program's functions without a body, each by its row. -/
def tableX : List (FuncId × (List AV → List AO → Option AV)) → AExt
  | [], _ => none
  | (g, x) :: r, f => if f = g then some x else tableX r f
theorem tableX_ok {P : Program} : ∀ {T : List (FuncId × (List AV → List AO → Option AV))}, (∀ x ∈ T, ∃ fn e, P.funcs[x.1]? = some fn ∧ (fn.name == "runtime.NumGoroutine") = false ∧ fn.body.isNone = true ∧ Extern.findNext fn = none ∧ Extern.find fn = some e ∧ RowOk e x.2) → ExtOk P (tableX T) := by
  intro T
  induction T with
  | nil => intro _ f g h; simp [tableX] at h
  | cons y r ih =>
    intro hT f g h w0 m A w args us v hr hus hv
    obtain ⟨g0, x⟩ := y
    simp only [tableX] at h
    split at h
    · rename_i e; subst e
      simp only [Option.some.injEq] at h; subst h
      obtain ⟨fn, e, h1, h2, h3, h4, h5, h6⟩ := hT (f, x) (by simp)
      obtain ⟨u, hu, hvr⟩ := h6 P w0 m A w args us v hr hus hv
      refine ⟨u, ?_, hvr⟩
      rw [run_callFunc_extern h1 h2 h3 h4 h5, hu]; rfl
    · exact ih (fun z hz => hT z (by simp [hz])) f g h w0 m A w args us v hr hus hv
end Go.Am
