/- A part of the proof: Am14. -/
import Derived.Test.YthipnddfplbamaaDoorAm41
set_option linter.unusedVariables false
set_option linter.unusedSimpArgs false
namespace Go.Am
open Go.RowKit

/-- Functions of the library that the model gives itself: what they answer. -/
abbrev AExt := FuncId → Option (List AV → List AO → Option AV)
def ExtOk (P : Program) (X : AExt) : Prop :=
  ∀ f g, X f = some g → ∀ (w0 : World) (m : List (Option Pl)) (A : List AO) (w : World) (args : List AV) (us : Array Value) (v : AV), Rel P w0 m A w → VsRel m args us → g args A = some v →
    ∃ u, (callFunc f us).run P w = .ok (.value u) w ∧ VRel m v u

section
variable {P : Program} {w0 : World} {m : List (Option Pl)} {A : List AO} {w : World} {t : List AV} {a : Act}

def aun (op : UnOp) (x : AV) : Option AV :=
  match op, x with
  | .neg, .int k n => some (.int k (k.wrap (0 - n)))
  | .not, .bool b => some (.bool (!b))
  | _, _ => none
theorem aun_run {op : UnOp} {x v : AV} {u : Value} (hx : VRel m x u) (h : aun op x = some v) : ∃ r, (Op.unary op u).run P w = .ok r w ∧ VRel m v r := by
  unfold aun at h
  split at h
  · cases hx; simp at h; subst h; exact ⟨_, by simp [Op.unary, Op.intArith], .int _ _⟩
  · cases hx; simp at h; subst h; exact ⟨_, by simp [Op.unary], .bool _⟩
  · cases h

def aopt (t : List AV) : Option Operand → Option (Option AV)
  | none => some none
  | some x => (aev t x).map some
theorem aopt_rel (ht : VsRel m t a.tmps) {x : Option Operand} {v : Option AV} (h : aopt t x = some v) : ORelV m v (x.map a.eval) := by
  cases x with
  | none => simp [aopt] at h; subst h; trivial
  | some x =>
    obtain ⟨y, hy, rfl⟩ := Option.map_eq_some_iff.1 h
    exact aev_rel ht hy

def sliceOk : AV → Bool
  | .slc _ l c _ => l ≤ c
  | _ => true

def abuiltin (P : Program) (t : List AV) (A : List AO) (b : Builtin) (ats : List TypeId) (args : List Operand) : Option (AV × List AO) :=
  match b, ats, aevs t args with
  | .append, [ty, xt], some [s, x] => aappend P A ty xt s x
  | .len, [ty], some [x] => (alen P A ty x).map (·, A)
  | .copy, [dT, _], some [d, x] => acopy P A dT d x
  | .clear, [ty], some [x] => aclear P A ty x
  | .unsafeSliceData, [_], some [x] => (asliceData x).map (·, A)
  | .unsafeString, [pt, _], some [x, n] => astring P A pt x n
  | .min, _, some (x :: r) => (aminmax false x r).map (·, A)
  | .max, _, some (x :: r) => (aminmax true x r).map (·, A)
  | _, _, _ => none

def aop (P : Program) (X : AExt) (t : List AV) (A : List AO) (o : Oper) : Option (AV × List AO) :=
  match o.op with
  | .move x | .assign x => (aev t x).map (·, A)
  | .pick c x y => match aev t c, aev t x, aev t y with
    | some (.bool b), some u, some v => some (if b then u else v, A)
    | _, _, _ => none
  | .alloc e => match azero P e with
    | some z => abox P A e z
    | none => none
  | .box e x => match aev t x with
    | some v => abox P A e v
    | none => none
  | .build ty ps => match aparts t ps.toList with
    | some l => (abuild P ty l).map (·, A)
    | none => none
  | .buildSlice ty n ps => match aparts t ps.toList with
    | some l => abuildSlice P A ty n l
    | none => none
  | .load ty x => match aev t x with
    | some v => (aload P A ty v).map (·, A)
    | none => none
  | .store ty x y => match aev t x, aev t y with
    | some u, some v => (astore P A ty u v).map (aundef, ·)
    | _, _ => none
  | .nilCheck x => match aev t x with
    | some v => if anilCheck P v then some (v, A) else none
    | none => none
  | .binOp op ty x y _ => match aev t x, aev t y with
    | some u, some v => (abin P op ty (isConstOp x) (isConstOp y) u v).map (·, A)
    | _, _ => none
  | .unOp op _ x => match aev t x with
    | some v => (aun op v).map (·, A)
    | none => none
  | .convert s d x => match aev t x with
    | some v => match aptrConv P A s d v with
      | some r => some (r, A)
      | none => aconvert P A s d v
    | none => none
  | .range ty x => match aev t x with
    | some v => arange P A ty v
    | none => none
  | .next x true => match aev t x with
    | some v => anextStr A v
    | none => none
  | .next x false => match aev t x with
    | some v => match anextMap A v with
      | [r] => some r
      | _ => none
    | none => none
  | .entry x => match aev t x with
    | some v => (aentry A v).map (·, A)
    | none => none
  | .makeInterface ty x => match aev t x with
    | some v => (amkIface P ty v).map (·, A)
    | none => none
  | .makeFunc fn first cap => match aevs t first.toList, aevs t cap.toList with
    | some f, some c => some (.func fn f c, A)
    | _, _ => none
  | .makeMap _ none => some (.map (some A.length), A ++ [.map [] [] 0])
  | .makeSlice ty l c => match aev t l, aev t c with
    | some u, some v => amakeSlice P A ty u v
    | _, _ => none
  | .slice ty x lo hi mx => match aev t x, aopt t lo, aopt t hi, aopt t mx with
    | some v, some l, some h, some q => if sliceOk v then (aslice P ty v l h q).map (·, A) else none
    | _, _, _, _ => none
  | .fieldAddr ty x f => match aev t x with
    | some v => (afieldAddr P ty v f).map (·, A)
    | none => none
  | .field ty x f => match aev t x with
    | some v => (afield P ty v f).map (·, A)
    | none => none
  | .indexAddr ty x i => match aev t x, aev t i with
    | some u, some v => (aindexAddr P ty u v).map (·, A)
    | _, _ => none
  | .index ty x i => match aev t x, aev t i with
    | some u, some v => (aindex P ty u v).map (·, A)
    | _, _ => none
  | .lookup ty x k ok => match aev t x, aev t k with
    | some u, some v => (alookup P A ty u v ok).map (·, A)
    | _, _ => none
  | .mapUpdate ty mp k v | .insert ty mp k v => match aev t mp, aev t k, aev t v with
    | some x, some y, some z => (amapUpdate P A ty x y z).map (aundef, ·)
    | _, _, _ => none
  | .typeAssert x _ b ok => match aev t x with
    | some v => (atypeAssert P v b ok).map (·, A)
    | none => none
  | .extract x i => match aev t x with
    | some v => (aextract v i).map (·, A)
    | none => none
  | .call c => match c.callee with
    | .builtin b => abuiltin P t A b c.argTypes.toList c.args.toList
    | _ => match acallTarget P t c with
      | some (g, args) => match X g with
        | some h => if isClone P g then aclone A args else (h args A).map (·, A)
        | none => none
      | none => none
  | _ => none

theorem gives_vals {v : AV} {A' : List AO} {o : Oper} (h : ∀ (m : List (Option Pl)) (w : World) (a : Act), Rel P w0 m A w → VsRel m t a.tmps →
    (∃ s : Sem Value, (execOp a.eval o = (do pure (.value (← s)))) ∧ Gives P w0 m A w s v A') ∨ (∃ s : Sem Unit, (execOp a.eval o = (do s; pure .skip)) ∧ v = aundef ∧ ∃ w', s.run P w = .ok () w' ∧ Rel P w0 m A' w' ∧ Kept w w')) :
    OpVals (P := P) (w0 := w0) t A o [(v, A')] := by
  intro m w a hr ht
  rcases h m w a hr ht with ⟨s, he, u, w', m', hs, hext, hrel, hv, hkp⟩ | ⟨s, he, rfl, w', hs, hrel, hkp⟩
  · refine ⟨v, A', m', u, w', by simp, .inl ?_, hext, hrel, hv, hkp⟩
    rw [he]; simp [hs]
  · refine ⟨aundef, A', m, undef, w', by simp, .inr ⟨?_, rfl⟩, Ext.refl _, hrel, .undef m, hkp⟩
    rw [he]; simp [hs]

theorem map_pair {x : Option AV} {v : AV} {A A' : List AO} (h : x.map (·, A) = some (v, A')) : x = some v ∧ A' = A := by
  obtain ⟨y, hy, he⟩ := Option.map_eq_some_iff.1 h
  simp at he; obtain ⟨rfl, rfl⟩ := he
  exact ⟨hy, rfl⟩
theorem map_pair' {x : Option (List AO)} {v : AV} {A' : List AO} (h : x.map (aundef, ·) = some (v, A')) : x = some A' ∧ v = aundef := by
  obtain ⟨y, hy, he⟩ := Option.map_eq_some_iff.1 h
  simp at he; obtain ⟨rfl, rfl⟩ := he
  exact ⟨hy, rfl⟩

theorem max2_int (k k' : IntKind) (x y : Int) : Builtin.max2 (.int k x) (.int k' y) = pure (.int k (if x < y then y else x)) := rfl

theorem abuiltin_vals {b : Builtin} {ats : List TypeId} {args : List Operand} {v : AV} {A' : List AO} {o : Oper} {c : Call} (ho : o.op = .call c) (hb : c.callee = .builtin b) (ha : c.argTypes.toList = ats) (hg : c.args.toList = args)
    (h : abuiltin P t A b ats args = some (v, A')) : OpVals (P := P) (w0 := w0) t A o [(v, A')] := by
  refine gives_vals fun m w a hr ht => .inl ?_
  have ha' : c.argTypes = ats.toArray := by rw [← ha]
  have hg' : c.args.map a.eval = (args.toArray.map a.eval) := by rw [← hg]
  have exec : ∀ s, builtin b c.argTypes o.type (c.args.map fun | .const _ => true | _ => false) (c.args.map a.eval) = (do pure (.value (← s))) → execOp a.eval o = (do pure (.value (← s))) := by
    intro s hs
    simp only [execOp, ho, resolve, hb, pure_bind, invoke]
    exact hs
  unfold abuiltin at h
  split at h
  · rename_i ty xt s x hev
    have hvs := aevs_rel ht hev
    obtain ⟨us, hus, hsr⟩ := hvs.get (i := 0) rfl
    obtain ⟨ux, hux, hxr⟩ := hvs.get (i := 1) rfl
    have hargs : c.args.map a.eval = #[us, ux] := by
      rw [hg']
      have := hvs.1
      apply Array.ext
      · simpa using this.symm
      · intro i h1 h2
        have hi : i < 2 := by simpa using h2
        rcases i with _ | _ | i
        · have := Array.getElem?_eq_some_iff.1 hus; exact this.2
        · have := Array.getElem?_eq_some_iff.1 hux; exact this.2
        · omega
    exact ⟨_, exec _ (by simp only [builtin]; rw [hargs, ha']), aappend_rel hr hsr hxr h⟩
  · rename_i ty x hev
    obtain ⟨h', rfl⟩ := map_pair h
    have hvs := aevs_rel ht hev
    obtain ⟨ux, hux, hxr⟩ := hvs.get (i := 0) rfl
    have hargs : c.args.map a.eval = #[ux] := by
      rw [hg']
      have := hvs.1
      apply Array.ext
      · simpa using this.symm
      · intro i h1 h2
        have hi : i < 1 := by simpa using h2
        rcases i with _ | i
        · have := Array.getElem?_eq_some_iff.1 hux; exact this.2
        · omega
    exact ⟨_, exec _ (by simp only [builtin]; rw [hargs, ha']), alen_rel hr hxr h'⟩
  · rename_i dT xT d x hev
    have hvs := aevs_rel ht hev
    obtain ⟨us, hus, hsr⟩ := hvs.get (i := 0) rfl
    obtain ⟨ux, hux, hxr⟩ := hvs.get (i := 1) rfl
    have hargs : c.args.map a.eval = #[us, ux] := by
      rw [hg']
      have := hvs.1
      apply Array.ext
      · simpa using this.symm
      · intro i h1 h2
        have hi : i < 2 := by simpa using h2
        rcases i with _ | _ | i
        · have := Array.getElem?_eq_some_iff.1 hus; exact this.2
        · have := Array.getElem?_eq_some_iff.1 hux; exact this.2
        · omega
    exact ⟨_, exec _ (by simp only [builtin]; rw [hargs, ha']), acopy_rel hr hsr hxr h⟩
  · rename_i ty x hev
    have hvs := aevs_rel ht hev
    obtain ⟨ux, hux, hxr⟩ := hvs.get (i := 0) rfl
    have hargs : c.args.map a.eval = #[ux] := by
      rw [hg']
      have := hvs.1
      apply Array.ext
      · simpa using this.symm
      · intro i h1 h2
        have hi : i < 1 := by simpa using h2
        rcases i with _ | i
        · have := Array.getElem?_eq_some_iff.1 hux; exact this.2
        · omega
    exact ⟨_, exec _ (by simp only [builtin]; rw [hargs, ha']), aclear_rel hr hxr h⟩
  · rename_i ty x hev
    obtain ⟨h', rfl⟩ := map_pair h
    have hvs := aevs_rel ht hev
    obtain ⟨ux, hux, hxr⟩ := hvs.get (i := 0) rfl
    have hargs : c.args.map a.eval = #[ux] := by
      rw [hg']
      have := hvs.1
      apply Array.ext
      · simpa using this.symm
      · intro i h1 h2
        have hi : i < 1 := by simpa using h2
        rcases i with _ | i
        · have := Array.getElem?_eq_some_iff.1 hux; exact this.2
        · omega
    exact ⟨_, exec _ (by simp only [builtin]; rw [hargs, ha']), asliceData_rel hr hxr h'⟩
  · rename_i pt xt x n hev
    have hvs := aevs_rel ht hev
    obtain ⟨us, hus, hsr⟩ := hvs.get (i := 0) rfl
    obtain ⟨ux, hux, hxr⟩ := hvs.get (i := 1) rfl
    have hargs : c.args.map a.eval = #[us, ux] := by
      rw [hg']
      have := hvs.1
      apply Array.ext
      · simpa using this.symm
      · intro i h1 h2
        have hi : i < 2 := by simpa using h2
        rcases i with _ | _ | i
        · have := Array.getElem?_eq_some_iff.1 hus; exact this.2
        · have := Array.getElem?_eq_some_iff.1 hux; exact this.2
        · omega
    exact ⟨_, exec _ (by simp only [builtin]; rw [hargs, ha']), astring_rel hr hsr hxr h⟩
  · rename_i x r hev
    obtain ⟨h', rfl⟩ := map_pair h
    have hvs := aevs_rel ht hev
    obtain ⟨ux, hux, hxr⟩ := hvs.get (i := 0) rfl
    generalize hl : (args.toArray.map a.eval) = l at *
    obtain ⟨l⟩ := l
    cases l with
    | nil => simp at hux
    | cons y ys =>
      simp at hux; subst hux
      obtain ⟨q, h1, h2⟩ := aminmax_min (P := P) (w := w) (m := m) hxr (by have := hvs.1; simpa using this) (fun i p u hp hu => hvs.2 (i + 1) p u (by simpa using hp) (by simpa using hu)) h'
      exact ⟨_, exec _ (by simp only [builtin]; rw [hg']), Gives.here hr (by simp [Builtin.min_, h1]) h2⟩
  · rename_i x r hev
    obtain ⟨h', rfl⟩ := map_pair h
    have hvs := aevs_rel ht hev
    obtain ⟨ux, hux, hxr⟩ := hvs.get (i := 0) rfl
    generalize hl : (args.toArray.map a.eval) = l at *
    obtain ⟨l⟩ := l
    cases l with
    | nil => simp at hux
    | cons y ys =>
      simp at hux; subst hux
      obtain ⟨q, h1, h2⟩ := aminmax_max (P := P) (w := w) (m := m) max2_int hxr (by have := hvs.1; simpa using this) (fun i p u hp hu => hvs.2 (i + 1) p u (by simpa using hp) (by simpa using hu)) h'
      exact ⟨_, exec _ (by simp only [builtin]; rw [hg']), Gives.here hr (by simp [Builtin.max_, h1]) h2⟩
  · cases h

theorem anextMap_vals {o : Oper} {x : Operand} {y : AV} (ho : o.op = .next x false) (hy : aev t x = some y) (hne : anextMap A y ≠ []) : OpVals (P := P) (w0 := w0) t A o (anextMap A y) := by
  intro m w a hr ht
  obtain ⟨v, A', hmem, u, w', m', h1, h2⟩ := anextMap_rel hr (ty := o.type) (aev_rel ht hy) hne
  exact ⟨v, A', m', u, w', hmem, .inl (by simp [execOp, ho, h1]), h2⟩
set_option maxHeartbeats 4000000 in
theorem aop_vals {X : AExt} (hX : ExtOk P X) {o : Oper} {v : AV} {A' : List AO} (h : aop P X t A o = some (v, A')) : OpVals (P := P) (w0 := w0) t A o [(v, A')] := by
  unfold aop at h
  split at h <;> rename_i ho
  · rename_i x
    obtain ⟨h', rfl⟩ := map_pair h
    exact gives_vals fun m w a hr ht => .inl ⟨pure (a.eval x), by simp [execOp, ho], Gives.pure hr (aev_rel ht h')⟩
  · rename_i x
    obtain ⟨h', rfl⟩ := map_pair h
    exact gives_vals fun m w a hr ht => .inl ⟨pure (a.eval x), by simp [execOp, ho], Gives.pure hr (aev_rel ht h')⟩
  · rename_i c x y
    split at h
    · rename_i b u v' hc hx hy
      simp at h; obtain ⟨rfl, rfl⟩ := h
      refine gives_vals fun m w a hr ht => .inl ⟨do pure (if ← asBool (a.eval c) then a.eval x else a.eval y), by simp [execOp, ho], ?_⟩
      have hcr := aev_rel ht hc
      generalize a.eval c = uc at hcr
      cases hcr
      refine Gives.here hr (u := if b then a.eval x else a.eval y) (by simp [asBool]) ?_
      cases b
      · exact aev_rel ht hy
      · exact aev_rel ht hx
    · cases h
  · rename_i e
    split at h
    · rename_i z hz
      refine gives_vals fun m w a hr ht => .inl ⟨_, by first | (simp only [execOp, ho]; done) | (simp only [execOp, ho]; rfl), ?_⟩
      obtain ⟨uz, hrun, hzr⟩ := azero_run (P := P) (w := w) hz
      obtain ⟨u, w', m', h1, h2⟩ := abox_rel hr (hzr m) h
      refine ⟨u, w', m', ?_, h2⟩
      simp only [Instr.alloc, Sem.run_bind, hrun, Result.andThen_ok]
      simpa using h1
    · cases h
  · rename_i e x
    split at h
    · rename_i y hy
      refine gives_vals fun m w a hr ht => .inl ⟨_, by first | (simp only [execOp, ho]; done) | (simp only [execOp, ho]; rfl), ?_⟩
      exact abox_rel hr (aev_rel ht hy) h
    · cases h
  · rename_i ty ps
    split at h
    · rename_i l hl
      obtain ⟨h', rfl⟩ := map_pair h
      refine gives_vals fun m w a hr ht => .inl ⟨_, by first | (simp only [execOp, ho]; done) | (simp only [execOp, ho]; rfl), ?_⟩
      obtain ⟨h1, h2⟩ := aparts_rel ht hl
      obtain ⟨u, hu, hv⟩ := abuild_rel (P := P) (w := w) (m := m) (us := ps.map fun (i, x) => (i, a.eval x)) (by simpa using h1) (fun i x u hx hu => h2 i x u hx (by simpa using hu)) h'
      exact Gives.here hr hu hv
    · cases h
  · rename_i ty n ps
    split at h
    · rename_i l hl
      refine gives_vals fun m w a hr ht => .inl ⟨_, by first | (simp only [execOp, ho]; done) | (simp only [execOp, ho]; rfl), ?_⟩
      obtain ⟨h1, h2⟩ := aparts_rel ht hl
      exact abuildSlice_rel hr (us := ps.map fun (i, x) => (i, a.eval x)) (by simpa using h1) (fun i x u hx hu => h2 i x u hx (by simpa using hu)) h
    · cases h
  · rename_i ty x
    split at h
    · rename_i y hy
      obtain ⟨h', rfl⟩ := map_pair h
      exact gives_vals fun m w a hr ht => .inl ⟨_, by first | (simp only [execOp, ho]; done) | (simp only [execOp, ho]; rfl), aload_rel hr (aev_rel ht hy) h'⟩
    · cases h
  · rename_i ty x y
    split at h
    · rename_i u v' hx hy
      obtain ⟨h', rfl⟩ := map_pair' h
      exact gives_vals fun m w a hr ht => .inr ⟨_, by first | (simp only [execOp, ho]; done) | (simp only [execOp, ho]; rfl), rfl, astore_rel hr (aev_rel ht hx) (aev_rel ht hy) h'⟩
    · cases h
  · rename_i x
    split at h
    · rename_i y hy
      split at h
      · rename_i hn
        simp at h; obtain ⟨rfl, rfl⟩ := h
        intro m w a hr ht
        have hyr := aev_rel ht hy
        refine ⟨_, _, m, a.eval x, w, by simp, .inl ?_, Ext.refl _, hr, hyr, Kept.refl w⟩
        simp only [execOp, ho]
        generalize a.eval x = ux at hyr
        cases hyr
        case func fn xs ys us vs q1 q2 q3 q4 =>
          cases fn
          case method name =>
            cases xs with
            | nil => simp [anilCheck] at hn
            | cons y0 ys0 =>
              cases y0 <;> try (simp [anilCheck] at hn; done)
              rename_i ty u
              obtain ⟨u0, hu0, hr0⟩ := (show VsRel m (.iface ty u :: ys0) us from ⟨q1, q2⟩).get (i := 0) rfl
              cases hr0
              rename_i uu huu
              have key : (nilAhead (P.types.size + Made.depth) ty uu name).run P w = .ok (some false) w := by
                have hfuel : ∃ k, P.types.size + Made.depth = k + 1 := ⟨P.types.size + 99, rfl⟩
                obtain ⟨k, hk⟩ := hfuel
                rw [hk]
                simp only [anilCheck] at hn
                split at hn
                case h_2 => cases hn
                rename_i inf hinf
                split at hn
                case h_2 => cases hn
                rename_i mt hmt
                split at hn
                · rename_i hpath hfn
                  simp only [nilAhead, Sem.run_bind, typeInfo, run_program, Result.andThen_ok, hinf, Sem.run_pure, hmt, hpath, followBlind, hfn]
                · rename_i hpath hfn
                  split at hn
                  · rename_i e q hund
                    cases huu
                    simp only [nilAhead, Sem.run_bind, typeInfo, run_program, Result.andThen_ok, hinf, Sem.run_pure, hmt, hpath, followBlind, hfn, run_underlying hund]
                  · cases hn
                  · rename_i d hne hund hnb
                    simp only [nilAhead, Sem.run_bind, typeInfo, run_program, Result.andThen_ok, hinf, Sem.run_pure, hmt, hpath, followBlind, hfn, run_underlying hund]
                    cases d <;> first | rfl | exact absurd rfl (hne _)
                  · cases hn
                · cases hn
              simp only [hu0, Sem.run_bind, run_program, Result.andThen_ok, key]
              simp
          all_goals first | rfl | (simp [anilCheck] at hn; done)
        all_goals first
          | (simp [anilCheck] at hn; done)
          | rfl
      · cases h
    · cases h
  · rename_i op ty x y yt
    split at h
    · rename_i u v' hx hy
      obtain ⟨h', rfl⟩ := map_pair h
      refine gives_vals fun m w a hr ht => .inl ⟨_, by first | (simp only [execOp, ho]; done) | (simp only [execOp, ho]; rfl), ?_⟩
      obtain ⟨r, h1, h2⟩ := abin_rel (P := P) (w := w) (yt := yt) h' (aev_rel ht hx) (aev_rel ht hy)
      exact Gives.here hr h1 h2
    · cases h
  · rename_i op ty x
    split at h
    · rename_i y hy
      obtain ⟨h', rfl⟩ := map_pair h
      refine gives_vals fun m w a hr ht => .inl ⟨_, by first | (simp only [execOp, ho]; done) | (simp only [execOp, ho]; rfl), ?_⟩
      obtain ⟨r, h1, h2⟩ := aun_run (P := P) (w := w) (aev_rel ht hy) h'
      exact Gives.here hr h1 h2
    · cases h
  · rename_i s d x
    split at h
    · rename_i y hy
      split at h
      · rename_i r hpc
        simp at h; obtain ⟨rfl, rfl⟩ := h
        exact gives_vals fun m w a hr ht => .inl ⟨_, by first | (simp only [execOp, ho]; done) | (simp only [execOp, ho]; rfl), aptrConv_rel hr (aev_rel ht hy) hpc⟩
      · exact gives_vals fun m w a hr ht => .inl ⟨_, by first | (simp only [execOp, ho]; done) | (simp only [execOp, ho]; rfl), aconvert_rel hr (aev_rel ht hy) h⟩
    · cases h
  · rename_i ty x
    split at h
    · rename_i y hy
      exact gives_vals fun m w a hr ht => .inl ⟨_, by first | (simp only [execOp, ho]; done) | (simp only [execOp, ho]; rfl), arange_rel hr (aev_rel ht hy) h⟩
    · cases h
  · rename_i x
    split at h
    · rename_i y hy
      exact gives_vals fun m w a hr ht => .inl ⟨_, by first | (simp only [execOp, ho]; done) | (simp only [execOp, ho]; rfl), anextStr_rel hr (aev_rel ht hy) h⟩
    · cases h
  · rename_i x
    split at h
    · rename_i y hy
      split at h
      · rename_i r hL
        simp at h; subst h
        have := anextMap_vals (P := P) (w0 := w0) (t := t) (A := A) ho hy (by rw [hL]; simp)
        rwa [hL] at this
      · cases h
    · cases h
  · rename_i x
    split at h
    · rename_i y hy
      obtain ⟨h', rfl⟩ := map_pair h
      exact gives_vals fun m w a hr ht => .inl ⟨_, by first | (simp only [execOp, ho]; done) | (simp only [execOp, ho]; rfl), aentry_rel hr (aev_rel ht hy) h'⟩
    · cases h
  · rename_i ty x
    split at h
    · rename_i y hy
      obtain ⟨h', rfl⟩ := map_pair h
      exact gives_vals fun m w a hr ht => .inl ⟨_, by first | (simp only [execOp, ho]; done) | (simp only [execOp, ho]; rfl), amkIface_rel hr (aev_rel ht hy) h'⟩
    · cases h
  · rename_i fn first cap
    split at h
    · rename_i f c hf hc
      simp at h; obtain ⟨rfl, rfl⟩ := h
      refine gives_vals fun m w a hr ht => .inl ⟨_, by first | (simp only [execOp, ho]; done) | (simp only [execOp, ho]; rfl), ?_⟩
      have h1 := aevs_rel ht hf
      have h2 := aevs_rel ht hc
      have e1 : first.toList.toArray.map a.eval = first.map a.eval := by simp
      have e2 : cap.toList.toArray.map a.eval = cap.map a.eval := by simp
      rw [e1] at h1; rw [e2] at h2
      exact Gives.pure hr (.func fn h1.1 h1.2 h2.1 h2.2)
    · cases h
  · simp at h; obtain ⟨rfl, rfl⟩ := h
    refine gives_vals fun m w a hr ht => .inl ⟨_, by first | (simp only [execOp, ho]; done) | (simp only [execOp, ho]; rfl), ?_⟩
    refine ⟨.map (some w.heap.size), w.alloc (.map #[] 0), m ++ [some ⟨w.heap.size, 0, 0⟩], by simp [Instr.makeMap], Ext.append _ _, ?_, .map (hr.newLast _), Kept.alloc _ _⟩
    exact hr.push P w0 ((Below.refl _ _).alloc (Nat.le_refl _) _) _ _ (Nat.le_refl _) ⟨hr.below.size, #[], new_block _ _, rfl, fun i x c hx => by simp at hx, rfl⟩
  · rename_i ty l c
    split at h
    · rename_i u v' hx hy
      exact gives_vals fun m w a hr ht => .inl ⟨_, by first | (simp only [execOp, ho]; done) | (simp only [execOp, ho]; rfl), amakeSlice_rel hr (aev_rel ht hx) (aev_rel ht hy) h⟩
    · cases h
  · rename_i ty x lo hi mx
    split at h
    · rename_i v' l hh q hx hl hhi hq
      split at h
      · rename_i hok
        obtain ⟨h', rfl⟩ := map_pair h
        exact gives_vals fun m w a hr ht => .inl ⟨_, by first | (simp only [execOp, ho]; done) | (simp only [execOp, ho]; rfl), aslice_rel hr (aev_rel ht hx) (aopt_rel ht hl) (aopt_rel ht hhi) (aopt_rel ht hq) (fun b len c ex e => by subst e; simpa [sliceOk] using hok) h'⟩
      · cases h
    · cases h
  · rename_i ty x f
    split at h
    · rename_i y hy
      obtain ⟨h', rfl⟩ := map_pair h
      exact gives_vals fun m w a hr ht => .inl ⟨_, by first | (simp only [execOp, ho]; done) | (simp only [execOp, ho]; rfl), afieldAddr_rel hr (aev_rel ht hy) h'⟩
    · cases h
  · rename_i ty x f
    split at h
    · rename_i y hy
      obtain ⟨h', rfl⟩ := map_pair h
      exact gives_vals fun m w a hr ht => .inl ⟨_, by first | (simp only [execOp, ho]; done) | (simp only [execOp, ho]; rfl), afield_rel hr (aev_rel ht hy) h'⟩
    · cases h
  · rename_i ty x i
    split at h
    · rename_i u v' hx hy
      obtain ⟨h', rfl⟩ := map_pair h
      exact gives_vals fun m w a hr ht => .inl ⟨_, by first | (simp only [execOp, ho]; done) | (simp only [execOp, ho]; rfl), aindexAddr_rel hr (aev_rel ht hx) (aev_rel ht hy) h'⟩
    · cases h
  · rename_i ty x i
    split at h
    · rename_i u v' hx hy
      obtain ⟨h', rfl⟩ := map_pair h
      exact gives_vals fun m w a hr ht => .inl ⟨_, by first | (simp only [execOp, ho]; done) | (simp only [execOp, ho]; rfl), aindex_rel hr (aev_rel ht hx) (aev_rel ht hy) h'⟩
    · cases h
  · rename_i ty x k ok
    split at h
    · rename_i u v' hx hy
      obtain ⟨h', rfl⟩ := map_pair h
      exact gives_vals fun m w a hr ht => .inl ⟨_, by first | (simp only [execOp, ho]; done) | (simp only [execOp, ho]; rfl), alookup_rel hr (aev_rel ht hx) (aev_rel ht hy) h'⟩
    · cases h
  · rename_i ty mp k v'
    split at h
    · rename_i x y z hx hy hz
      obtain ⟨h', rfl⟩ := map_pair' h
      exact gives_vals fun m w a hr ht => .inr ⟨_, by first | (simp only [execOp, ho]; done) | (simp only [execOp, ho]; rfl), rfl, amapUpdate_rel hr (aev_rel ht hx) (aev_rel ht hy) (aev_rel ht hz) h'⟩
    · cases h
  · rename_i ty mp k v'
    split at h
    · rename_i x y z hx hy hz
      obtain ⟨h', rfl⟩ := map_pair' h
      exact gives_vals fun m w a hr ht => .inr ⟨_, by first | (simp only [execOp, ho]; done) | (simp only [execOp, ho]; rfl), rfl, amapUpdate_rel hr (aev_rel ht hx) (aev_rel ht hy) (aev_rel ht hz) h'⟩
    · cases h
  · rename_i x xt b ok
    split at h
    · rename_i y hy
      obtain ⟨h', rfl⟩ := map_pair h
      exact gives_vals fun m w a hr ht => .inl ⟨_, by first | (simp only [execOp, ho]; done) | (simp only [execOp, ho]; rfl), atypeAssert_rel hr (aev_rel ht hy) h'⟩
    · cases h
  · rename_i x i
    split at h
    · rename_i y hy
      obtain ⟨h', rfl⟩ := map_pair h
      exact gives_vals fun m w a hr ht => .inl ⟨_, by first | (simp only [execOp, ho]; done) | (simp only [execOp, ho]; rfl), aextract_rel hr (aev_rel ht hy) h'⟩
    · cases h
  · rename_i c
    split at h
    · rename_i b hb
      exact abuiltin_vals ho hb rfl rfl h
    · split at h
      · rename_i g args hg
        split at h
        · rename_i hh hX'
          split at h
          · rename_i hcl
            intro m w a hr ht
            obtain ⟨us, hus, he⟩ := acallTarget_run hr ht ho hg
            obtain ⟨u, w', m', hu, h1, h2, h3, h4⟩ := aclone_rel hr hcl hus h
            exact ⟨v, _, m', u, w', by simp, .inl (by rw [he, hu]), h1, h2, h3, h4⟩
          · obtain ⟨h', hA⟩ := map_pair h
            subst hA
            intro m w a hr ht
            obtain ⟨us, hus, he⟩ := acallTarget_run hr ht ho hg
            obtain ⟨u, hu, hv⟩ := hX _ _ hX' w0 m _ w args us v hr hus h'
            exact ⟨v, _, m, u, w, by simp, .inl (by rw [he, hu]), Ext.refl _, hr, hv, Kept.refl w⟩
        · cases h
      · cases h
  · cases h

/-- An operation that calls a function of the program. -/
theorem acall_enter {o : Oper} {c : Call} (ho : o.op = .call c) {g : FuncId} {args : List AV} (hc : acallTarget P t c = some (g, args)) (hb : abody P g = true) : OpEnter (P := P) (w0 := w0) t A o g args := by
  intro m w a hr ht
  obtain ⟨us, hus, he⟩ := acallTarget_run hr ht ho hc
  exact ⟨us, by rw [he, abody_run hb], hus⟩
end
end Go.Am
