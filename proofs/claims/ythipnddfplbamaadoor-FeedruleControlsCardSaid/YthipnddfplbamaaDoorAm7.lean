/- A part of the proof: Am7. -/
import Derived.Test.YthipnddfplbamaaDoorAm6
set_option linter.unusedVariables false
set_option linter.unusedSimpArgs false
namespace Go.Am
open Go.RowKit

section
variable {P : Program} {w0 : World} {m : List (Option Pl)} {A : List AO} {w : World} {t : List AV} {a : Act}

/-! ### Loads and stores -/
def aload (P : Program) (A : List AO) (ty : TypeId) : AV → Option AV
  | .ptr (some (k, o)) => aloadVar P A ty k o
  | _ => none
theorem aload_rel (h : Rel P w0 m A w) {ty : TypeId} {x v : AV} {u : Value} (hx : VRel m x u) (hl : aload P A ty x = some v) : Gives P w0 m A w (Instr.loadAt ty u) v A := by
  cases hx <;> simp only [aload] at hl <;> try (cases hl; done)
  rename_i k o p hp
  obtain ⟨u, hu, hr⟩ := aloadVar_rel h hl hp
  exact Gives.here h (by simp [Instr.loadAt, Instr.sureAddr, hu]) hr

def astore (P : Program) (A : List AO) (ty : TypeId) (x v : AV) : Option (List AO) :=
  match x with
  | .ptr (some (k, o)) => match arow A k, asize P ty with
    | some (cs, e, true), some n => if (acells v).length = n ∧ (acells v).all aone = true ∧ o + (acells v).length ≤ cs.length then some (A.set k (.row (asplice cs o (acells v)) e true)) else none
    | _, _ => none
  | _ => none
theorem astore_rel (h : Rel P w0 m A w) {ty : TypeId} {x v : AV} {u uv : Value} (hx : VRel m x u) (hv : VRel m v uv) {A' : List AO} (hs : astore P A ty x v = some A') :
    ∃ w', (Instr.storeAt ty u uv).run P w = .ok () w' ∧ Rel P w0 m A' w' ∧ Kept w w' := by
  cases hx <;> simp only [astore] at hs <;> try (cases hs; done)
  rename_i k o p hp
  split at hs
  · rename_i cs e n hrow hn
    split at hs
    · rename_i hc
      obtain ⟨hc1, hc2, hc3⟩ := hc
      simp at hs; subst hs
      have hcr := acells_rel hv (notAny_of_one hc2)
      obtain ⟨w', hr, hrel, hkp⟩ := store_row (P := P) h (arow_some hrow) hp o (us := uv.cells.toList) (by simpa using hcr) hc2 hc3
      refine ⟨w', ?_, hrel, hkp⟩
      have hsz : uv.cells.size = n := by rw [← hcr.1]; exact hc1
      unfold Instr.storeAt
      simp only [Sem.run_bind, Instr.sureAddr, Sem.run_pure, Result.andThen_ok, storeVar, asize_run hn, hsz, ne_eq, not_true, if_false]
      exact hr
    · cases hs
  · cases hs

/-! ### Parts -/
def afield (P : Program) (ty : TypeId) (x : AV) (f : Nat) : Option AV :=
  match P.underlying ty, x with
  | some (.struct fs), .agg cs => match fs[f]? with
    | some g => apart P g.type cs g.offset
    | none => none
  | _, _ => none
theorem afield_rel (h : Rel P w0 m A w) {ty : TypeId} {x v : AV} {u : Value} {f : Nat} (hx : VRel m x u) (hf : afield P ty x f = some v) : Gives P w0 m A w (Instr.field ty u f) v A := by
  unfold afield at hf
  split at hf
  · rename_i fs cs hu
    cases hx with
    | agg h1 h2 =>
      split at hf
      · rename_i g hg
        obtain ⟨r, hr, hv⟩ := apart_rel (P := P) (w := w) ⟨h1, h2⟩ hf
        exact Gives.here h (by simp [Instr.field, run_underlying hu, hg, asAgg, hr]) hv
      · cases hf
  · cases hf

def aindex (P : Program) (ty : TypeId) (x : AV) (i : AV) : Option AV :=
  match i with
  | .int _ n => match P.underlying ty, x with
    | some (.array len e), .agg cs => if 0 ≤ n ∧ n < len then match asize P e with
        | some k => apart P e cs (n.toNat * k)
        | none => none
      else none
    | some .string, .str s => if 0 ≤ n then match s[n.toNat]? with
        | some b => some (.int .u8 b.toNat)
        | none => none
      else none
    | _, _ => none
  | _ => none
theorem aindex_rel (h : Rel P w0 m A w) {ty : TypeId} {x i v : AV} {u ui : Value} (hx : VRel m x u) (hi : VRel m i ui) (hf : aindex P ty x i = some v) : Gives P w0 m A w (Instr.index ty u ui) v A := by
  unfold aindex at hf
  split at hf
  · cases hi
    rename_i k n
    split at hf
    · rename_i len e cs hu
      split at hf
      · rename_i hr
        split at hf
        · rename_i q hq
          cases hx with
          | agg h1 h2 =>
            obtain ⟨r, hrr, hv⟩ := apart_rel (P := P) (w := w) ⟨h1, h2⟩ hf
            exact Gives.here h (by simp [Instr.index, asIntOf, run_underlying hu, hr, asize_run hq, hrr]) hv
        · cases hf
      · cases hf
    · rename_i s hu
      split at hf
      · rename_i h0
        split at hf
        · rename_i b hb
          simp at hf; subst hf
          cases hx
          have hg : (⟨s.toArray⟩ : ByteArray)[n.toNat]? = some b := by
            have hlt : n.toNat < s.length := (List.getElem?_eq_some_iff.1 hb).1
            have : (⟨s.toArray⟩ : ByteArray).size = s.length := by simp [ByteArray.size]
            rw [getElem?_pos _ _ (by rw [this]; exact hlt)]
            have e := (List.getElem?_eq_some_iff.1 hb).2
            congr 1
          exact Gives.here h (by simp [Instr.index, asIntOf, run_underlying hu, h0, hg]) (.int _ _)
        · cases hf
      · cases hf
    · cases hf
  · cases hf

def aindexAddr (P : Program) (ty : TypeId) (x i : AV) : Option AV :=
  match i with
  | .int _ n => match P.underlying ty, x with
    | some (.array len e), .ptr (some (k, o)) => if 0 ≤ n ∧ n < len then match asize P e with
        | some q => some (.ptr (some (k, o + n.toNat * q)))
        | none => none
      else none
    | some (.slice e), .slc (some (k, o)) len _ _ => if 0 ≤ n ∧ n < len then match asize P e with
        | some q => some (.ptr (some (k, o + n.toNat * q)))
        | none => none
      else none
    | _, _ => none
  | _ => none
theorem aindexAddr_rel (h : Rel P w0 m A w) {ty : TypeId} {x i v : AV} {u ui : Value} (hx : VRel m x u) (hi : VRel m i ui) (hf : aindexAddr P ty x i = some v) : Gives P w0 m A w (Instr.indexAt ty u ui) v A := by
  unfold aindexAddr at hf
  split at hf
  · cases hi
    rename_i kk n
    split at hf
    · rename_i len e k o hu
      split at hf
      · rename_i hr
        split at hf
        · rename_i q hq
          simp at hf; subst hf
          cases hx
          rename_i p hp
          refine Gives.here h (u := .pointer (some ⟨p.b, p.o + (o + n.toNat * q), none⟩)) ?_ (.ptr hp)
          simp [Instr.indexAt, asIntOf, run_underlying hu, Instr.sureAddr, hr, asize_run hq, add_at, Nat.add_assoc]
        · cases hf
      · cases hf
    · rename_i e k o len c ex hu
      split at hf
      · rename_i hr
        split at hf
        · rename_i q hq
          simp at hf; subst hf
          cases hx with
          | slc _ _ _ hp =>
            rename_i p
            refine Gives.here h (u := .pointer (some ⟨p.b, p.o + (o + n.toNat * q), none⟩)) ?_ (.ptr hp)
            simp [Instr.indexAt, asIntOf, run_underlying hu, hr, asize_run hq, add_at, Nat.add_assoc]
          | slcEmpty => omega
        · cases hf
      · cases hf
    · cases hf
  · cases hf

def afieldAddr (P : Program) (ty : TypeId) (x : AV) (f : Nat) : Option AV :=
  match P.underlying ty, x with
  | some (.struct fs), .ptr (some (k, o)) => match fs[f]? with
    | some g => match asize P g.type with
      | some (_ + 1) => some (.ptr (some (k, o + g.offset)))
      | _ => none
    | none => none
  | _, _ => none
theorem afieldAddr_rel (h : Rel P w0 m A w) {ty : TypeId} {x v : AV} {u : Value} {f : Nat} (hx : VRel m x u) (hf : afieldAddr P ty x f = some v) : Gives P w0 m A w (Instr.fieldAt ty u f) v A := by
  unfold afieldAddr at hf
  split at hf
  · rename_i fs k o hu
    cases hx
    rename_i p hp
    split at hf
    · rename_i g hg
      split at hf
      · rename_i n hn
        simp at hf; subst hf
        refine Gives.here h (u := .pointer (some ⟨p.b, p.o + (o + g.offset), none⟩)) ?_ (.ptr hp)
        simp [Instr.fieldAt, run_underlying hu, hg, Instr.sureAddr, fieldPlace, asize_run hn, add_at, Nat.add_assoc]
      · cases hf
    · cases hf
  · cases hf

/-! ### Slicing -/
def abound (y : Nat) : Option AV → Nat → Option Nat
  | none, d => some d
  | some (.int _ n), _ => if 0 ≤ n ∧ n ≤ y then some n.toNat else none
  | some _, _ => none

def ORelV (m : List (Option Pl)) : Option AV → Option Value → Prop
  | none, none => True
  | some v, some u => VRel m v u
  | _, _ => False

def aslice (P : Program) (ty : TypeId) (x : AV) (lo hi mx : Option AV) : Option AV :=
  match P.underlying ty, x, mx with
  | some .string, .str s, none => match abound s.length hi s.length with
    | some h => match abound h lo 0 with
      | some l => some (.str ((s.drop l).take (h - l)))
      | none => none
    | none => none
  | some (.slice e), .slc b len c ex, none => match asize P e, abound c hi len with
    | some n, some h => match abound h lo 0 with
      | some l => some (.slc (b.map fun p => (p.1, p.2 + l * n)) (h - l) (c - l) ex)
      | none => none
    | _, _ => none
  | some (.slice e), .slc (some (k, o)) _ c ex, some (.int _ q) => match asize P e, hi with
    | some n, some hv => if 0 ≤ q ∧ q ≤ c then match abound q.toNat (some hv) 0 with
        | some h => match abound h lo 0 with
          | some l => some (.slc (some (k, o + l * n)) (h - l) (q.toNat - l) true)
          | none => none
        | none => none
      else none
    | _, _ => none
  | some (.array len e), .ptr (some (k, o)), none => match asize P e, abound len hi len with
    | some n, some h => match abound h lo 0 with
      | some l => some (.slc (some (k, o + l * n)) (h - l) (len - l) true)
      | none => none
    | _, _ => none
  | _, _, _ => none

theorem abound_run {y d r : Nat} {v : Option AV} {u : Option Value} (hv : ORelV m v u) (h : abound y v d = some r) (code : BoundsCode) (hd : v = none → d ≤ y) (y' : Nat) (hy : y ≤ y') :
    (match u with | some x => Instr.sliceBound x y' code | none => pure d : Sem Nat).run P w = .ok r w ∧ r ≤ y := by
  cases v with
  | none =>
    cases u with
    | none => simp [abound] at h; subst h; exact ⟨rfl, hd rfl⟩
    | some x => exact hv.elim
  | some v =>
    cases u with
    | none => exact hv.elim
    | some x =>
      have hv' : VRel m v x := hv
      cases hv' <;> simp only [abound] at h <;> try (cases h; done)
      rename_i k n
      split at h
      · rename_i hr
        simp at h; subst h
        refine ⟨?_, by omega⟩
        have : (0 : Int) ≤ n ∧ n ≤ (y' : Int) := ⟨hr.1, by omega⟩
        simp [Instr.sliceBound, asIntOf, this]
      · cases h

theorem ORelV.ne {v : Option AV} {u : Option Value} (h : ORelV m v u) : u.isSome = v.isSome := by
  cases v <;> cases u <;> first | rfl | exact h.elim

theorem bounds_run {isS : Bool} {len c c' h l : Nat} {lo hi : Option AV} {ulo uhi : Option Value} (hlo : ORelV m lo ulo) (hhi : ORelV m hi uhi) (hc : c ≤ c') (hl : len ≤ c)
    (h1 : abound c hi len = some h) (h2 : abound h lo 0 = some l) : (Instr.sliceBounds isS len c' ulo uhi none).run P w = .ok (l, h, c') w ∧ l ≤ h ∧ h ≤ c := by
  obtain ⟨r1, b1⟩ := abound_run (P := P) (w := w) hhi h1 (if isS then .sliceAcap else .sliceAlen) (fun _ => hl) c' hc
  obtain ⟨r2, b2⟩ := abound_run (P := P) (w := w) hlo h2 .sliceB (fun _ => Nat.zero_le _) h (Nat.le_refl _)
  refine ⟨?_, b2, b1⟩
  unfold Instr.sliceBounds
  cases uhi with
  | none =>
    simp only [Sem.run_pure, Result.ok.injEq] at r1
    cases ulo with
    | none => simp only [Sem.run_pure, Result.ok.injEq] at r2; simp [r1.1, ← r2.1]
    | some x => simp at r2; simp [r1.1, r2]
  | some y =>
    simp at r1
    cases ulo with
    | none => simp only [Sem.run_pure, Result.ok.injEq] at r2; simp [r1, ← r2.1]
    | some x => simp at r2; simp [r1, r2]

theorem bounds3_run {len c c' q h l : Nat} {lo : Option AV} {hv : AV} {ulo : Option Value} {uh : Value} {k : IntKind} {n : Int} (hlo : ORelV m lo ulo) (hhi : VRel m hv uh) (hc : c ≤ c') (h0 : 0 ≤ n ∧ n ≤ c) (hq : q = n.toNat)
    (h1 : abound q (some hv) 0 = some h) (h2 : abound h lo 0 = some l) : (Instr.sliceBounds true len c' ulo (some uh) (some (.int k n))).run P w = .ok (l, h, q) w ∧ l ≤ h ∧ h ≤ q := by
  obtain ⟨r1, b1⟩ := abound_run (P := P) (w := w) (v := some hv) (u := some uh) hhi h1 .slice3B (fun e => by cases e) q (Nat.le_refl _)
  obtain ⟨r2, b2⟩ := abound_run (P := P) (w := w) hlo h2 .slice3C (fun _ => Nat.zero_le _) h (Nat.le_refl _)
  refine ⟨?_, b2, b1⟩
  have hn : (0 : Int) ≤ n ∧ n ≤ (c' : Int) := ⟨h0.1, by omega⟩
  have r0 : (Instr.sliceBound (.int k n) c' .slice3Acap).run P w = .ok q w := by simp [Instr.sliceBound, asIntOf, hn, hq]
  unfold Instr.sliceBounds
  simp only at r1
  cases ulo with
  | none => simp only [Sem.run_pure, Result.ok.injEq] at r2; simp [r0, r1, ← r2.1]
  | some x => simp at r2; simp [r0, r1, r2]

theorem slc_sub {k o n l h c : Nat} {p : Pl} (hp : m[k]? = some (some p)) (ex : Bool) (x : Nat) (hx : x = if ex then 0 else p.x) (hl : l ≤ h) (hh : h ≤ c) :
    VRel m (.slc (some (k, o + l * n)) (h - l) (c - l) ex) (.slice (some (if c + x = l then (⟨p.b, p.o + o, none⟩ : Addr) else (⟨p.b, p.o + o, none⟩ : Addr).add (l * n))) (h - l) (c + x - l)) := by
  by_cases e : c + x = l
  · rw [if_pos e]
    have e1 : h - l = 0 := by omega
    have e2 : c - l = 0 := by omega
    have e3 : c + x - l = 0 := by omega
    rw [e1, e2, e3]
    exact .slcEmpty _ _ _ _
  · rw [if_neg e, add_at]
    have := VRel.slc (m := m) (o := o + l * n) (h - l) (c - l) ex hp
    have e3 : c + x - l = (if ex then c - l else c - l + p.x) := by cases ex <;> simp_all <;> omega
    rw [e3, Nat.add_assoc]
    exact this

theorem aslice_rel (h : Rel P w0 m A w) {ty : TypeId} {x v : AV} {u : Value} {lo hi mx : Option AV} {ulo uhi umx : Option Value} (hx : VRel m x u) (hlo : ORelV m lo ulo) (hhi : ORelV m hi uhi) (hmx : ORelV m mx umx)
    (hok : ∀ b len c ex, x = .slc b len c ex → len ≤ c) (hf : aslice P ty x lo hi mx = some v) : Gives P w0 m A w (Instr.sliceAt ty u ulo uhi umx) v A := by
  unfold aslice at hf
  split at hf
  · rename_i s hu
    cases umx with
    | some y => exact hmx.elim
    | none =>
      cases hx
      split at hf
      · rename_i q hq
        split at hf
        · rename_i l hl
          simp at hf; subst hf
          have hsz : (⟨s.toArray⟩ : ByteArray).size = s.length := by simp [ByteArray.size]
          obtain ⟨r, b1, b2⟩ := bounds_run (P := P) (w := w) (isS := false) hlo hhi (Nat.le_refl s.length) (Nat.le_refl _) hq hl
          refine Gives.here h (u := .string ⟨((s.drop l).take (q - l)).toArray⟩) ?_ (.str _)
          have e : (⟨s.toArray⟩ : ByteArray).extract l q = ⟨((s.drop l).take (q - l)).toArray⟩ := by
            apply ByteArray.ext
            rw [ByteArray.data_extract]
            simp [List.extract_eq_take_drop]
          unfold Instr.sliceAt
          simp only [Sem.run_bind, run_underlying hu, Result.andThen_ok, Instr.slice, hsz]
          simp [r, e]
        · cases hf
      · cases hf
  · rename_i e b len c ex hu
    have hlc := hok _ _ _ _ rfl
    cases umx with
    | some y => exact hmx.elim
    | none =>
      split at hf
      · rename_i n q hn hq
        split at hf
        · rename_i l hl
          simp at hf; subst hf
          cases hx with
          | slcNil =>
            obtain ⟨r, b1, b2⟩ := bounds_run (P := P) (w := w) (isS := true) hlo hhi (Nat.le_refl c) hlc hq hl
            refine Gives.here h (u := .slice none (q - l) (c - l)) ?_ (.slcNil _ _ _)
            unfold Instr.sliceAt
            simp only [Sem.run_bind, run_underlying hu, Result.andThen_ok, Instr.slice]
            simp [r, asize_run hn]
          | slcEmpty k o _ ad =>
            obtain ⟨r, b1, b2⟩ := bounds_run (P := P) (w := w) (isS := true) hlo hhi (Nat.le_refl 0) hlc hq hl
            have e1 : q - l = 0 := by omega
            have e0 : l = 0 := by omega
            subst e0
            refine Gives.here h (u := .slice ad 0 0) ?_ ?_
            · unfold Instr.sliceAt
              simp only [Sem.run_bind, run_underlying hu, Result.andThen_ok, Instr.slice]
              cases ad <;> simp [r, asize_run hn, e1]
            · simp only [e1, Nat.sub_zero]
              exact .slcEmpty _ _ _ _
          | slc _ _ _ hp =>
            rename_i k o p
            obtain ⟨r, b1, b2⟩ := bounds_run (P := P) (w := w) (isS := true) (c' := if ex then c else c + p.x) hlo hhi (by cases ex <;> simp) hlc hq hl
            have hs := slc_sub (n := n) (o := o) hp ex (if ex then 0 else p.x) rfl b1 b2
            refine Gives.here h ?_ hs
            unfold Instr.sliceAt
            cases ex
            · simp only [Bool.false_eq_true, if_false] at r ⊢
              simp only [Sem.run_bind, run_underlying hu, Result.andThen_ok, Instr.slice, r, asize_run hn, Sem.run_pure]
              congr 2
              split <;> rfl
            · simp only [if_true] at r ⊢
              simp only [Sem.run_bind, run_underlying hu, Result.andThen_ok, Instr.slice, r, asize_run hn, Sem.run_pure, Nat.add_zero]
              congr 2
              split <;> rfl
        · cases hf
      · cases hf
  · rename_i e k o len c ex kk q hu
    have hlc := hok _ _ _ _ rfl
    cases umx with
    | none => exact hmx.elim
    | some y =>
      have hy : VRel m (.int kk q) y := hmx
      cases hy
      split at hf
      · rename_i n hv hn
        split at hf
        · rename_i h0
          split at hf
          · rename_i hh h1
            split at hf
            · rename_i l h2
              simp at hf; subst hf
              cases uhi with
              | none => exact hhi.elim
              | some uh =>
                have hvr : VRel m hv uh := hhi
                cases hx with
                | slcEmpty _ _ _ ad =>
                  have hq0 : q.toNat = 0 := by omega
                  obtain ⟨r, b1, b2⟩ := bounds3_run (P := P) (w := w) (len := 0) (k := kk) hlo hvr (Nat.le_refl 0) h0 rfl h1 h2
                  have e0 : l = 0 := by omega
                  have e1 : hh = 0 := by omega
                  subst e0 e1
                  refine Gives.here h (u := .slice ad 0 0) ?_ ?_
                  · unfold Instr.sliceAt
                    simp only [Sem.run_bind, run_underlying hu, Result.andThen_ok, Instr.slice]
                    cases ad <;> simp [r, asize_run hn, hq0]
                  · rw [hq0]; exact .slcEmpty _ _ _ _
                | slc _ _ _ hp =>
                  rename_i p
                  obtain ⟨r, b1, b2⟩ := bounds3_run (P := P) (w := w) (len := len) (k := kk) hlo hvr (c' := if ex then c else c + p.x) (by cases ex <;> simp) h0 rfl h1 h2
                  have hs := slc_sub (n := n) (o := o) hp true 0 rfl b1 b2
                  refine Gives.here h ?_ hs
                  unfold Instr.sliceAt
                  simp only [Sem.run_bind, run_underlying hu, Result.andThen_ok, Instr.slice, r, asize_run hn, Sem.run_pure, Nat.add_zero]
                  congr 2
                  split <;> rfl
            · cases hf
          · cases hf
        · cases hf
      · cases hf
  · rename_i len e k o hu
    cases umx with
    | some y => exact hmx.elim
    | none =>
      split at hf
      · rename_i n q hn hq
        split at hf
        · rename_i l hl
          simp at hf; subst hf
          cases hx
          rename_i p hp
          obtain ⟨r, b1, b2⟩ := bounds_run (P := P) (w := w) (isS := false) hlo hhi (Nat.le_refl len) (Nat.le_refl _) hq hl
          have hs := slc_sub (n := n) (o := o) hp true 0 rfl b1 b2
          refine Gives.here h ?_ hs
          unfold Instr.sliceAt
          simp only [Sem.run_bind, run_underlying hu, Result.andThen_ok, Instr.sureAddr, Sem.run_pure, r, asize_run hn, Nat.add_zero]
        · cases hf
      · cases hf
  · cases hf
end
end Go.Am
