/- A part of the proof: Am11. -/
import Derived.Test.YthipnddfplbamaaDoorAm10
set_option linter.unusedVariables false
set_option linter.unusedSimpArgs false
namespace Go.Am
open Go.RowKit

section
variable {P : Program} {w0 : World} {m : List (Option Pl)} {A : List AO} {w : World} {t : List AV} {a : Act}

/-! ### Map keys -/
def acheckKey (P : Program) : Nat → TypeId → AV → Bool
  | 0, _, _ => false
  | d + 1, t, v =>
    match P.underlying t, v with
    | some (.interface _), _ => false
    | some (.array len e), .agg cs => match asize P e with
      | some n => (List.range len).all fun i => match apart P e cs (i * n) with
        | some x => acheckKey P d e x
        | none => false
      | none => false
    | some (.struct fs), .agg cs => fs.toList.all fun f => f.name == "_" || (match apart P f.type cs f.offset with
        | some x => acheckKey P d f.type x
        | none => false)
    | some (.array _ _), _ => false
    | some (.struct _), _ => false
    | some _, _ => true
    | none, _ => false

theorem forIn_all {α : Type} (f : α → Sem Unit) : ∀ (l : List α), (∀ x ∈ l, (f x).run P w = .ok () w) → (forIn (m := Sem) l PUnit.unit fun x _ => do f x; pure (ForInStep.yield PUnit.unit)).run P w = .ok PUnit.unit w := by
  intro l
  induction l with
  | nil => intro _; simp
  | cons x r ih =>
    intro h
    rw [List.forIn_cons]
    simp only [Sem.run_bind, h x (by simp), Result.andThen_ok, Sem.run_pure]
    exact ih fun y hy => h y (by simp [hy])

theorem acheckKey_run (em : Bool) : ∀ (d D : Nat), d ≤ D → ∀ (t : TypeId) (x : AV) (u : Value), acheckKey P d t x = true → VRel m x u → (Instr.checkKey em D t u).run P w = .ok () w := by
  intro d
  induction d with
  | zero => intro D _ t x u h; simp [acheckKey] at h
  | succ d ih =>
    intro D hD t x u h hx
    obtain ⟨D, rfl⟩ : ∃ j, D = j + 1 := ⟨D - 1, by omega⟩
    unfold acheckKey at h
    cases hu : P.underlying t with
    | none => simp [hu] at h
    | some kd =>
      rw [hu] at h
      cases kd with
      | interface ms => simp at h
      | array len e =>
        cases x <;> simp only [Bool.false_eq_true] at h
        rename_i cs
        split at h
        · rename_i n hn
          cases hx with
          | agg h1 h2 =>
            rename_i us
            simp only [Instr.checkKey, Sem.run_bind, run_underlying hu, Result.andThen_ok]
            simp only [Std.Legacy.Range.forIn_eq_forIn_range', Std.Legacy.Range.size, Nat.sub_zero, Nat.add_one_sub_one, Nat.div_one]
            have := forIn_all (P := P) (w := w) (fun i => do Instr.checkKey em D e (← part e us (i * (← sizeOf e)))) (List.range len) (fun i hi => by
              have hc := List.all_eq_true.1 h i hi
              split at hc
              · rename_i y hy
                obtain ⟨v, hv, hvr⟩ := apart_rel (P := P) (w := w) ⟨h1, h2⟩ hy
                simp [asize_run hn, hv, ih D (by omega) e y v hc hvr]
              · cases hc)
            rw [List.range_eq_range'] at this
            simp only [bind_assoc] at this ⊢
            simp at this ⊢
            rw [this]
            rfl
        · cases h
      | struct fs =>
        cases x <;> simp only [Bool.false_eq_true] at h
        rename_i cs
        cases hx with
        | agg h1 h2 =>
          rename_i us
          simp only [Instr.checkKey, Sem.run_bind, run_underlying hu, Result.andThen_ok]
          rw [← Array.forIn_toList]
          have := forIn_all (P := P) (w := w) (fun f : Field => if f.name ≠ "_" then (do Instr.checkKey em D f.type (← part f.type us f.offset)) else pure ()) fs.toList (fun f hf => by
            have hc := List.all_eq_true.1 h f hf
            by_cases hne : f.name = "_"
            · simp [hne]
            · have hb : (f.name == "_") = false := by simpa using hne
              rw [hb, Bool.false_or] at hc
              split at hc
              · rename_i y hy
                obtain ⟨v, hv, hvr⟩ := apart_rel (P := P) (w := w) ⟨h1, h2⟩ hy
                simp [hne, hv, ih D (by omega) f.type y v hc hvr]
              · cases hc)
          rw [show (forIn (m := Sem) fs.toList PUnit.unit fun f r => if f.name ≠ "_" then (do let v ← part f.type us f.offset; Instr.checkKey em D f.type v; pure (ForInStep.yield PUnit.unit)) else pure (ForInStep.yield PUnit.unit)) = (forIn (m := Sem) fs.toList PUnit.unit fun f _ => do (if f.name ≠ "_" then (do Instr.checkKey em D f.type (← part f.type us f.offset)) else pure ()); pure (ForInStep.yield PUnit.unit)) from by
            congr 1; funext f r; split <;> simp]
          rw [this]
          rfl
      | _ => simp [Instr.checkKey, run_underlying hu]

def cellEq : AV → AV → Bool
  | .bool a, .bool b => a == b
  | .int j a, .int k b => j == k && a == b
  | .str a, .str b => a == b
  | _, _ => false
def cellsEq : List AV → List AV → Bool
  | [], [] => true
  | x :: r, y :: s => cellEq x y && cellsEq r s
  | _, _ => false
def flatEq : AV → AV → Bool
  | .agg xs, .agg ys => cellsEq xs ys
  | x, y => cellEq x y

theorem cellEq_same {x y : AV} {u v : Value} (h : cellEq x y = true) (hx : VRel m x u) (hy : VRel m y v) (n : Nat) : Instr.sameBits n u v = true := by
  unfold cellEq at h
  split at h
  · cases hx; cases hy; cases n <;> simpa [Instr.sameBits] using h
  · cases hx; cases hy; cases n <;> simpa [Instr.sameBits] using h
  · cases hx; cases hy
    cases n <;> (simp only [Instr.sameBits]; rw [bytes_eq]; exact h)
  · cases h
theorem cellsEq_same : ∀ {xs ys : List AV} {us vs : List Value}, cellsEq xs ys = true → xs.length = us.length → ys.length = vs.length → (∀ (i : Nat) (x : AV) (u : Value), xs[i]? = some x → us[i]? = some u → VRel m x u) →
    (∀ (i : Nat) (x : AV) (u : Value), ys[i]? = some x → vs[i]? = some u → VRel m x u) → ∀ n, us.length = vs.length ∧ ((us.zip vs).all fun (x, y) => Instr.sameBits n x y) = true := by
  intro xs
  induction xs with
  | nil =>
    intro ys us vs h h1 h2 _ _ n
    cases ys with
    | nil =>
      cases us with
      | nil => cases vs with
        | nil => simp
        | cons => simp at h2
      | cons => simp at h1
    | cons => simp [cellsEq] at h
  | cons x r ih =>
    intro ys us vs h h1 h2 h3 h4 n
    cases ys with
    | nil => simp [cellsEq] at h
    | cons y s =>
      simp only [cellsEq, Bool.and_eq_true] at h
      cases us with
      | nil => simp at h1
      | cons u us =>
        cases vs with
        | nil => simp at h2
        | cons v vs =>
          obtain ⟨e1, e2⟩ := ih h.2 (by simpa using h1) (by simpa using h2) (fun i a b ha hb => h3 (i + 1) a b (by simpa using ha) (by simpa using hb)) (fun i a b ha hb => h4 (i + 1) a b (by simpa using ha) (by simpa using hb)) n
          refine ⟨by simpa using e1, ?_⟩
          simp only [List.zip_cons_cons, List.all_cons, Bool.and_eq_true]
          exact ⟨cellEq_same h.1 (h3 0 _ _ rfl rfl) (h4 0 _ _ rfl rfl) n, e2⟩
theorem flatEq_same {x y : AV} {u v : Value} (h : flatEq x y = true) (hx : VRel m x u) (hy : VRel m y v) (n : Nat) : Instr.sameBits (n + 1) u v = true := by
  unfold flatEq at h
  split at h
  · cases hx with
    | agg h1 h2 =>
      cases hy with
      | agg h3 h4 =>
        obtain ⟨e1, e2⟩ := cellsEq_same (m := m) (us := Array.toList _) (vs := Array.toList _) h (by simpa using h1) (by simpa using h3) (fun i a b ha hb => h2 i a b ha (by simpa using hb)) (fun i a b ha hb => h4 i a b ha (by simpa using hb)) n
        simp only [Instr.sameBits, Bool.and_eq_true]
        exact ⟨by simpa using e1, e2⟩
  · exact cellEq_same h hx hy _

/-! ### Finding an entry -/
def afind (P : Program) (kt : TypeId) (k : AV) : List (AV × AV) → Nat → Option (Option Nat)
  | [], _ => some none
  | e :: r, i => match aeqIn P 64 kt k e.1 with
    | some true => some (some i)
    | some false => afind P kt k r (i + 1)
    | none => none

theorem sameNow_agree {kt : TypeId} {kd : TypeDesc} (hu : P.underlying kt = some kd) {x y : AV} {u v : Value} {b b' : Bool} (hs : Instr.sameNow kd u v = some b) (he : aeqIn P 64 kt x y = some b') (hx : VRel m x u) (hy : VRel m y v) : b = b' := by
  unfold Instr.sameNow at hs
  unfold aeqIn at he
  rw [hu] at he
  split at hs
  · cases hx <;> cases hy <;> try (simp at he; done)
    split at hs
    · rename_i hk; subst hk
      simp at hs he; rw [← hs, ← he]
    · cases hs
  · cases hx <;> cases hy <;> try (simp at he; done)
    simp only [Option.some.injEq] at hs he; rw [← hs, ← he, bytes_eq]
  · cases hx <;> cases hy <;> try (simp at he; done)
    simp at hs he; rw [← hs, ← he]
  · cases hs

def foundOf (ces : List MapEntry) (i0 : Nat) : Option Nat → Option (Nat × Value)
  | none => none
  | some i => (ces[i - i0]?).map fun e => (i, e.val)

theorem afind_ge {kt : TypeId} {k : AV} : ∀ {es : List (AV × AV)} {i j : Nat}, afind P kt k es i = some (some j) → i ≤ j ∧ j < i + es.length := by
  intro es
  induction es with
  | nil => intro i j h; simp [afind] at h
  | cons e r ih =>
    intro i j h
    simp only [afind] at h
    split at h
    · simp at h; subst h; simp
    · have := ih h; simp; omega
    · cases h

theorem findNow_agree {kt : TypeId} {kd : TypeDesc} (hu : P.underlying kt = some kd) {k : AV} {u : Value} (hk : VRel m k u) : ∀ {es : List (AV × AV)} {ces : List MapEntry} {i : Nat} {r : Option Nat} {q : Option (Nat × Value)}, es.length = ces.length →
    (∀ (j : Nat) (x : AV × AV) (c : MapEntry), es[j]? = some x → ces[j]? = some c → VRel m x.1 c.key) → afind P kt k es i = some r → Instr.findNow kd u ces i = some q → q = foundOf ces i r := by
  intro es
  induction es with
  | nil =>
    intro ces i r q hl _ h1 h2
    cases ces with
    | nil => simp [afind] at h1; subst h1; simp [Instr.findNow] at h2; subst h2; rfl
    | cons => simp at hl
  | cons e es ih =>
    intro ces i r q hl hr h1 h2
    cases ces with
    | nil => simp at hl
    | cons c ces =>
      have h0 := hr 0 e c rfl rfl
      simp only [afind] at h1
      simp only [Instr.findNow] at h2
      have step : ∀ q r, q = foundOf ces (i + 1) r → (∀ j, r = some j → i + 1 ≤ j) → q = foundOf (c :: ces) i r := by
        intro q r hq hj
        subst hq
        cases r with
        | none => rfl
        | some j =>
          have := hj j rfl
          simp only [foundOf]
          rw [show j - i = (j - (i + 1)) + 1 by omega, List.getElem?_cons_succ]
      split at h2
      · rename_i hs
        simp at h2; subst h2
        split at h1
        · simp at h1; subst h1; simp [foundOf]
        · rename_i he; exact absurd (sameNow_agree hu hs he hk h0) (by simp)
        · cases h1
      · rename_i hs
        split at h1
        · rename_i he; exact absurd (sameNow_agree hu hs he hk h0) (by simp)
        · refine step _ _ (ih (by simpa using hl) (fun j x d hx hd => hr (j + 1) x d (by simpa using hx) (by simpa using hd)) h1 h2) (fun j hj => ?_)
          subst hj
          exact (afind_ge h1).1
        · cases h1
      · cases h2

theorem findAsking_agree {kt : TypeId} {k : AV} {u : Value} (hk : VRel m k u) : ∀ {es : List (AV × AV)} {ces : List MapEntry} {i : Nat} {r : Option Nat}, es.length = ces.length →
    (∀ (j : Nat) (x : AV × AV) (c : MapEntry), es[j]? = some x → ces[j]? = some c → VRel m x.1 c.key) → afind P kt k es i = some r → (Instr.findAsking kt u ces i).run P w = .ok (foundOf ces i r) w := by
  intro es
  induction es with
  | nil =>
    intro ces i r hl _ h1
    cases ces with
    | nil => simp [afind] at h1; subst h1; simp [Instr.findAsking, foundOf]
    | cons => simp at hl
  | cons e es ih =>
    intro ces i r hl hr h1
    cases ces with
    | nil => simp at hl
    | cons c ces =>
      have h0 := hr 0 e c rfl rfl
      simp only [afind] at h1
      split at h1
      · rename_i he
        have := aeqIn_run (P := P) (w := w) (m := m) (fun _ => trivial) 64 10000 (by omega) kt _ _ _ _ _ he hk h0
        simp at h1; subst h1
        simp [Instr.findAsking, Op.equal, Op.maxDepth, this, foundOf]
      · rename_i he
        have := aeqIn_run (P := P) (w := w) (m := m) (fun _ => trivial) 64 10000 (by omega) kt _ _ _ _ _ he hk h0
        have hrec := ih (by simpa using hl) (fun j x d hx hd => hr (j + 1) x d (by simpa using hx) (by simpa using hd)) h1
        simp only [Instr.findAsking, Op.equal, Op.maxDepth, Sem.run_bind, this, Result.andThen_ok, Bool.false_eq_true, if_false, hrec]
        cases r with
        | none => rfl
        | some j =>
          have := (afind_ge h1).1
          simp only [foundOf]
          rw [show j - i = (j - (i + 1)) + 1 by omega, List.getElem?_cons_succ]
      · cases h1

theorem findKey_run {kt : TypeId} {k : AV} {u : Value} (hk : VRel m k u) {es : List (AV × AV)} {ces : List MapEntry} {r : Option Nat} (hl : es.length = ces.length)
    (hr : ∀ (j : Nat) (x : AV × AV) (c : MapEntry), es[j]? = some x → ces[j]? = some c → VRel m x.1 c.key) (hu : ∃ kd, P.underlying kt = some kd) (h : afind P kt k es 0 = some r) : (Instr.findKey kt u ces).run P w = .ok (foundOf ces 0 r) w := by
  obtain ⟨kd, hkd⟩ := hu
  unfold Instr.findKey
  simp only [Sem.run_bind, run_underlying hkd, Result.andThen_ok]
  cases hn : Instr.findNow kd u ces 0 with
  | some q => simp only [Sem.run_pure]; rw [findNow_agree hkd hk hl hr h hn]
  | none => exact findAsking_agree hk hl hr h
end
end Go.Am
