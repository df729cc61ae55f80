/- A part of the proof: Am10. -/
import Derived.Test.YthipnddfplbamaaDoorAm9
set_option linter.unusedVariables false
set_option linter.unusedSimpArgs false
namespace Go.Am
open Go.RowKit

section
variable {P : Program} {w0 : World} {m : List (Option Pl)} {A : List AO} {w : World} {t : List AV} {a : Act}

/-! ### Small ones -/
def aextract (x : AV) (i : Nat) : Option AV :=
  match x with
  | .tuple vs => vs[i]?
  | _ => none
theorem aextract_rel (h : Rel P w0 m A w) {x v : AV} {u : Value} {i : Nat} (hx : VRel m x u) (hf : aextract x i = some v) : Gives P w0 m A w (Instr.extract u i) v A := by
  cases hx <;> simp only [aextract] at hf <;> try (cases hf; done)
  rename_i h1 h2
  obtain ⟨r, hr, hv⟩ := (show VsRel m _ _ from ⟨h1, h2⟩).get hf
  exact Gives.here h (by simp [Instr.extract, hr]) hv

def amkIface (P : Program) (ty : TypeId) (x : AV) : Option AV :=
  match P.underlying ty with
  | some (.interface _) => none
  | some _ => some (.iface ty x)
  | none => none
theorem amkIface_rel (h : Rel P w0 m A w) {ty : TypeId} {x v : AV} {u : Value} (hx : VRel m x u) (hf : amkIface P ty x = some v) : Gives P w0 m A w (Instr.makeInterface ty u) v A := by
  unfold amkIface at hf
  split at hf
  · cases hf
  · rename_i d hn hd
    simp at hf; subst hf
    refine Gives.here h ?_ (.iface ty hx)
    unfold Instr.makeInterface
    simp only [Sem.run_bind, run_underlying hd, Result.andThen_ok]
    cases d <;> first | rfl | exact absurd hd (hn _)
  · cases hf

def atypeAssert (P : Program) (x : AV) (asserted : TypeId) (ok : Bool) : Option AV :=
  match P.underlying asserted, x with
  | some (.interface _), _ => none
  | some _, .iface ty v => if ty = asserted then some (if ok then .tuple [v, .bool true] else v) else
      if ok then (azero P asserted).map fun z => .tuple [z, .bool false] else none
  | some _, .nilIface => if ok then (azero P asserted).map fun z => .tuple [z, .bool false] else none
  | _, _ => none
theorem VsRel.two {x y : AV} {u v : Value} (hx : VRel m x u) (hy : VRel m y v) : VRel m (.tuple [x, y]) (.tuple #[u, v]) := by
  have := ((VsRel.nil m).push hx).push hy
  exact .tuple this.1 this.2
theorem atypeAssert_rel (h : Rel P w0 m A w) {x v : AV} {u : Value} {xt asserted : TypeId} {ok : Bool} (hx : VRel m x u) (hf : atypeAssert P x asserted ok = some v) : Gives P w0 m A w (Instr.typeAssert u xt asserted ok) v A := by
  unfold atypeAssert at hf
  split at hf
  · cases hf
  · rename_i d ty y hn hd
    cases hx
    rename_i uy hy
    split at hf
    · rename_i he
      subst he
      simp at hf; subst hf
      refine Gives.here h (u := if ok then .tuple #[uy, .bool true] else uy) ?_ ?_
      · unfold Instr.typeAssert
        simp only [Sem.run_bind, run_underlying hd, Result.andThen_ok]
        cases d <;> first | (simp; done) | exact absurd hd (hn _)
      · cases ok
        · exact hy
        · exact VsRel.two hy (.bool true)
    · rename_i he
      split at hf
      · rename_i hok
        subst hok
        obtain ⟨z, hz, rfl⟩ := Option.map_eq_some_iff.1 hf
        obtain ⟨uz, hrun, hzr⟩ := azero_run (P := P) (w := w) hz
        refine Gives.here h (u := .tuple #[uz, .bool false]) ?_ (VsRel.two (hzr m) (.bool false))
        unfold Instr.typeAssert
        simp only [Sem.run_bind, run_underlying hd, Result.andThen_ok]
        cases d <;> first | (simp [he, hrun]; done) | exact absurd hd (hn _)
      · cases hf
  · rename_i d hn hd
    cases hx
    split at hf
    · rename_i hok
      subst hok
      obtain ⟨z, hz, rfl⟩ := Option.map_eq_some_iff.1 hf
      obtain ⟨uz, hrun, hzr⟩ := azero_run (P := P) (w := w) hz
      refine Gives.here h (u := .tuple #[uz, .bool false]) ?_ (VsRel.two (hzr m) (.bool false))
      unfold Instr.typeAssert
      simp only [Sem.run_bind, run_underlying hd, Result.andThen_ok]
      cases d <;> first | (simp [hrun]; done) | exact absurd hd (hn _)
    · cases hf
  · cases hf

def anilCheck (P : Program) : AV → Bool
  | .ptr (some _) => true
  | .func (.func _) _ _ => true
  | .func (.method name) (.iface ty u :: _) _ => match P.info? ty with
    | some i => match i.methods.find? (·.name == name) with
      | some mt => match mt.path.toList, mt.func with
        | [], some (_, true) => true
        | [], some (_, false) => match P.underlying ty, u with
          | some (.pointer _), .ptr (some _) => true
          | some (.pointer _), _ => false
          | some _, _ => true
          | none, _ => false
        | _, _ => false
      | none => false
    | none => false
  | .map _ | .slc .. | .str _ | .int .. | .bool _ | .agg _ | .tuple _ => true
  | _ => false

def alen (P : Program) (A : List AO) (ty : TypeId) (x : AV) : Option AV :=
  match P.underlying ty, x with
  | some .string, .str s => some (.int .i64 s.length)
  | some (.array n _), _ => some (.int .i64 n)
  | some (.slice _), .slc _ n _ _ => some (.int .i64 n)
  | some (.map _ _), .map none => some (.int .i64 0)
  | some (.map _ _), .map (some k) => match A[k]? with
    | some (.map es _ _) => some (.int .i64 es.length)
    | _ => none
  | some (.pointer arr), _ => match P.underlying arr with
    | some (.array n _) => some (.int .i64 n)
    | _ => none
  | _, _ => none

theorem map_obj (h : Rel P w0 m A w) {k : Nat} {es : List (AV × AV)} {bs : List Nat} {ck : Nat} (hk : A[k]? = some (.map es bs ck)) {p : Pl} (hp : m[k]? = some (some p)) : ∃ ces, w.heap[p.b]? = some (.map ces ck) ∧ es.length = ces.size ∧
    (∀ (i : Nat) (x : AV × AV) (c : MapEntry), es[i]? = some x → ces[i]? = some c → VRel m x.1 c.key ∧ VRel m x.2 c.val) ∧ ces.toList.map (·.born) = bs := (h.obj k _ p hk hp).2
theorem getObj_map {r : Nat} {es : Array MapEntry} {c : Nat} (h : w.heap[r]? = some (.map es c)) : (getObj r).run P w = .ok (.map es c) w := by
  simp [getObj, Sem.run, h]

theorem alen_rel (h : Rel P w0 m A w) {ty rt : TypeId} {x v : AV} {u : Value} (hx : VRel m x u) (hf : alen P A ty x = some v) : Gives P w0 m A w (Builtin.len_ #[ty] rt #[u]) v A := by
  unfold alen at hf
  split at hf
  · rename_i s hu
    cases hx
    simp at hf; subst hf
    have hsz : (⟨s.toArray⟩ : ByteArray).size = s.length := by simp [ByteArray.size]
    exact Gives.here h (u := .int .i64 s.length) (by simp [Builtin.len_, run_underlying hu, hsz, goInt]) (.int _ _)
  · rename_i n e hu
    simp at hf; subst hf
    exact Gives.here h (u := .int .i64 n) (by simp [Builtin.len_, run_underlying hu, goInt]) (.int _ _)
  · rename_i e b n c ex hu
    simp at hf; subst hf
    cases hx <;> exact Gives.here h (by simp [Builtin.len_, run_underlying hu, goInt]) (.int _ _)
  · rename_i hu
    simp at hf; subst hf
    cases hx
    exact Gives.here h (u := .int .i64 0) (by simp [Builtin.len_, run_underlying hu, goInt]) (.int _ _)
  · rename_i kk e k hu
    cases hx
    rename_i p hp
    split at hf
    · rename_i es bs clock hk
      simp at hf; subst hf
      obtain ⟨ces, h1, h2, _⟩ := map_obj h hk hp
      exact Gives.here h (u := .int .i64 es.length) (by simp [Builtin.len_, run_underlying hu, getObj_map h1, goInt, h2]) (.int _ _)
    · cases hf
  · rename_i arr hu
    split at hf
    · rename_i n e ha
      simp at hf; subst hf
      exact Gives.here h (u := .int .i64 n) (by simp [Builtin.len_, run_underlying hu, run_underlying ha, goInt]) (.int _ _)
    · cases hf
  · cases hf

def aminmax (mx : Bool) : AV → List AV → Option AV
  | x, [] => some x
  | .int k x, .int k' y :: r => if k = k' then aminmax mx (.int k (if mx then (if x < y then y else x) else (if y < x then y else x))) r else none
  | _, _ => none

theorem aminmax_min : ∀ {xs : List AV} {x v : AV} {us : List Value} {u : Value}, VRel m x u → xs.length = us.length → (∀ (i : Nat) (x : AV) (u : Value), xs[i]? = some x → us[i]? = some u → VRel m x u) → aminmax false x xs = some v →
    ∃ r, (us.foldlM Builtin.min2 u).run P w = .ok r w ∧ VRel m v r := by
  intro xs
  induction xs with
  | nil =>
    intro x v us u hx hl _ hm
    cases us with
    | nil => simp [aminmax] at hm; subst hm; exact ⟨u, rfl, hx⟩
    | cons => simp at hl
  | cons y r ih =>
    intro x v us u hx hl hr hm
    cases us with
    | nil => simp at hl
    | cons uy us =>
      have hy := hr 0 y uy rfl rfl
      unfold aminmax at hm
      split at hm
      · rename_i heq; cases heq
      · rename_i k x' k' y' r' heq
        simp at heq; obtain ⟨rfl, rfl⟩ := heq
        cases hx; cases hy
        split at hm
        · rename_i hk
          subst hk
          obtain ⟨q, h1, h2⟩ := ih (u := .int k (if y' < x' then y' else x')) (.int _ _) (by simpa using hl) (fun i a b ha hb => hr (i + 1) a b (by simpa using ha) (by simpa using hb)) hm
          exact ⟨q, by simp [List.foldlM_cons, Builtin.min2, h1], h2⟩
        · cases hm
      · cases hm

theorem aminmax_max (hdef : ∀ (k k' : IntKind) (x y : Int), Builtin.max2 (.int k x) (.int k' y) = pure (.int k (if x < y then y else x))) : ∀ {xs : List AV} {x v : AV} {us : List Value} {u : Value}, VRel m x u → xs.length = us.length → (∀ (i : Nat) (x : AV) (u : Value), xs[i]? = some x → us[i]? = some u → VRel m x u) → aminmax true x xs = some v →
    ∃ r, (us.foldlM Builtin.max2 u).run P w = .ok r w ∧ VRel m v r := by
  intro xs
  induction xs with
  | nil =>
    intro x v us u hx hl _ hm
    cases us with
    | nil => simp [aminmax] at hm; subst hm; exact ⟨u, rfl, hx⟩
    | cons => simp at hl
  | cons y r ih =>
    intro x v us u hx hl hr hm
    cases us with
    | nil => simp at hl
    | cons uy us =>
      have hy := hr 0 y uy rfl rfl
      unfold aminmax at hm
      split at hm
      · rename_i heq; cases heq
      · rename_i k x' k' y' r' heq
        simp at heq; obtain ⟨rfl, rfl⟩ := heq
        cases hx; cases hy
        split at hm
        · rename_i hk
          subst hk
          obtain ⟨q, h1, h2⟩ := ih (u := .int k (if x' < y' then y' else x')) (.int _ _) (by simpa using hl) (fun i a b ha hb => hr (i + 1) a b (by simpa using ha) (by simpa using hb)) hm
          exact ⟨q, by simp [List.foldlM_cons, hdef, h1], h2⟩
        · cases hm
      · cases hm

/-! ### Strings, byte by rune -/
def aiter (A : List AO) (k : Nat) : Option (List UInt8 × Nat) :=
  match A[k]? with
  | some (.iter s p) => some (s, p)
  | _ => none
def anextStr (A : List AO) (x : AV) : Option (AV × List AO) :=
  match x with
  | .ptr (some (k, 0)) => match aiter A k with
    | some (s, pos) => if pos < s.length then
        let d := Utf8.decode ⟨s.toArray⟩ pos
        some (.tuple [.bool true, .int .i64 pos, .int .i32 d.1], A.set k (.iter s (pos + d.2)))
      else some (.tuple [.bool false], A)
    | none => none
  | _ => none

end
end Go.Am
