/- A part of the proof: Am13. -/
import Derived.Test.YthipnddfplbamaaDoorAm12
set_option linter.unusedVariables false
set_option linter.unusedSimpArgs false
namespace Go.Am
open Go.RowKit

section
variable {P : Program} {w0 : World} {m : List (Option Pl)} {A : List AO} {w : World} {t : List AV} {a : Act}

/-! ### copy -/
def acopy (P : Program) (A : List AO) (dT : TypeId) (d x : AV) : Option (AV × List AO) :=
  match P.underlying dT, d with
  | some (.slice e), .slc b dl _ _ => match asize P e with
    | some n =>
      match (match x with | .slc bx lx cx ex => (anews A n (.slc bx (Nat.min lx dl) cx ex)) | .str s => if s.length ≤ dl then anews A n (.str s) else none | _ => none) with
      | some (cnt, news) => if news.all aone then match b with
        | none => if cnt = 0 then some (.int .i64 0, A) else none
        | some (k, o) => if cnt = 0 then some (.int .i64 0, A) else match arow A k with
          | some (cs, e', true) => if o + news.length ≤ cs.length then some (.int .i64 cnt, A.set k (.row (asplice cs o news) e' true)) else none
          | _ => none
        else none
      | none => none
    | none => none
  | _, _ => none

theorem acopy_rel (h : Rel P w0 m A w) {dT xT rt : TypeId} {d x v : AV} {ud ux : Value} (hd : VRel m d ud) (hx : VRel m x ux) {A' : List AO} (hc : acopy P A dT d x = some (v, A')) : Gives P w0 m A w (Builtin.copy_ #[dT, xT] rt #[ud, ux]) v A' := by
  unfold acopy at hc
  split at hc
  case h_2 => cases hc
  rename_i e b dl dc dx hu
  split at hc
  case h_2 => cases hc
  rename_i n hn
  split at hc
  case h_2 => cases hc
  rename_i cnt news hnews
  -- what is copied
  have key : ∃ us, (Builtin.lenOf ux).run P w = .ok us w ∧ Nat.min us dl = cnt ∧ news.length = cnt * n ∧ ∃ ns, VsRel m news ns ∧ (Builtin.firstCells n cnt ux).run P w = .ok ns w := by
    split at hnews
    · rename_i bx lx cx ex
      have hx' : ∃ ad C, ux = .slice ad lx C ∧ VRel m (.slc bx (Nat.min lx dl) cx ex) (.slice ad (Nat.min lx dl) C) := by
        cases hx with
        | slcNil => exact ⟨_, _, rfl, .slcNil _ _ _⟩
        | slc _ _ _ hp => exact ⟨_, _, rfl, .slc _ _ _ hp⟩
        | slcEmpty k o _ ad =>
          refine ⟨_, _, rfl, ?_⟩
          rw [show Nat.min 0 dl = 0 by exact Nat.zero_min dl]
          exact .slcEmpty _ _ _ _
      obtain ⟨ad, C, rfl, hxr⟩ := hx'
      obtain ⟨h1, h2, ns, h3, h4⟩ := anews_rel h hxr hnews
      have hcnt : cnt = Nat.min lx dl := by
        have := h1 w
        simp [Builtin.lenOf] at this
        exact this.symm
      refine ⟨lx, by simp [Builtin.lenOf], hcnt.symm, h2, ns, h3, ?_⟩
      have := h4 w (Below.refl _ _)
      cases ad <;> simpa [Builtin.firstCells] using this
    · rename_i s
      split at hnews
      · rename_i hle
        obtain ⟨h1, h2, ns, h3, h4⟩ := anews_rel h hx hnews
        have hcnt : cnt = s.length := by
          simp only [anews] at hnews
          split at hnews
          · simp at hnews; exact hnews.1.symm
          · cases hnews
        exact ⟨cnt, h1 w, by rw [hcnt]; exact Nat.min_eq_left hle, h2, ns, h3, h4 w (Below.refl _ _)⟩
      · cases hnews
    · cases hnews
  obtain ⟨q, hlen, hmin, hnn, ns, hnr, hfc⟩ := key
  split at hc
  case isFalse => cases hc
  rename_i hone
  have hnl : news.length = ns.size := hnr.1
  split at hc
  · split at hc
    · rename_i h0
      simp at hc; obtain ⟨rfl, rfl⟩ := hc
      cases hd
      refine Gives.here h (u := .int .i64 0) ?_ (.int _ _)
      simp [Builtin.copy_, run_underlying hu, hlen, hmin, asize_run hn, hfc, goInt, h0]
      subst h0
      simp [hfc]
    · cases hc
  · rename_i k o
    split at hc
    · rename_i h0
      simp at hc; obtain ⟨rfl, rfl⟩ := hc
      have hns : ns.toList = [] := by
        subst h0
        have : news.length = 0 := by rw [hnn]; simp
        rw [hnl] at this
        simpa using this
      cases hd with
      | slc => refine Gives.here h (u := .int .i64 0) ?_ (.int _ _) <;> subst h0 <;> simp [Builtin.copy_, run_underlying hu, hlen, hmin, asize_run hn, hfc, goInt, hns, storeCells]
      | slcEmpty _ _ _ ad => cases ad <;> refine Gives.here h (u := .int .i64 0) ?_ (.int _ _) <;> subst h0 <;> simp [Builtin.copy_, run_underlying hu, hlen, hmin, asize_run hn, hfc, goInt, hns, storeCells]
    · rename_i h0
      split at hc
      · rename_i cs e' hrow
        split at hc
        · rename_i hle
          simp at hc; obtain ⟨rfl, rfl⟩ := hc
          cases hd with
          | slcEmpty => exact absurd (by rw [← hmin]; exact Nat.min_zero q) h0
          | slc _ _ _ hp =>
            rename_i p
            obtain ⟨w', hr, hrel, hkp⟩ := store_row (P := P) h (arow_some hrow) hp o (us := ns.toList) (by simpa using hnr) hone hle
            refine ⟨.int .i64 cnt, w', m, ?_, Ext.refl _, hrel, .int _ _, hkp⟩
            simp [Builtin.copy_, run_underlying hu, hlen, hmin, asize_run hn, hfc, goInt, hr]
        · cases hc
      · cases hc

/-! ### clear -/
def aclear (P : Program) (A : List AO) (ty : TypeId) (x : AV) : Option (AV × List AO) :=
  match P.underlying ty, x with
  | some (.slice e), .slc none _ _ _ => some (aundef, A)
  | some (.slice e), .slc (some (k, o)) n _ _ => if n = 0 then some (aundef, A) else match azero P e, arow A k with
    | some z, some (cs, e', true) => if (areps n (acells z)).all aone = true ∧ o + (areps n (acells z)).length ≤ cs.length then some (aundef, A.set k (.row (asplice cs o (areps n (acells z))) e' true)) else none
    | _, _ => none
  | _, _ => none
theorem aclear_rel (h : Rel P w0 m A w) {ty rt : TypeId} {x v : AV} {u : Value} (hx : VRel m x u) {A' : List AO} (hc : aclear P A ty x = some (v, A')) : Gives P w0 m A w (Builtin.clear_ #[ty] rt #[u]) v A' := by
  have same : ∀ {u : Value}, (Builtin.clear_ #[ty] rt #[u]).run P w = .ok (.tuple #[]) w → Gives P w0 m A w (Builtin.clear_ #[ty] rt #[u]) aundef A := fun h1 => ⟨_, w, m, h1, Ext.refl _, h, VRel.undef _, Kept.refl _⟩
  unfold aclear at hc
  split at hc
  · rename_i e l c ex hu
    simp at hc; obtain ⟨rfl, rfl⟩ := hc
    cases hx
    exact same (by simp [Builtin.clear_, run_underlying hu])
  · rename_i e k o n c ex hu
    split at hc
    · rename_i hn
      simp at hc; obtain ⟨rfl, rfl⟩ := hc
      subst hn
      cases hx with
      | slc => exact same (by simp [Builtin.clear_, run_underlying hu])
      | slcEmpty _ _ _ ad => cases ad <;> exact same (by simp [Builtin.clear_, run_underlying hu])
    · rename_i hn
      split at hc
      · rename_i z cs e' hz hrow
        split at hc
        · rename_i hcc
          simp at hc; obtain ⟨rfl, rfl⟩ := hc
          obtain ⟨uz, hrun, hzr⟩ := azero_run (P := P) (w := w) hz
          have hzc := acells_rel (hzr m) (azero_na hz)
          cases hx with
          | slcEmpty => exact absurd rfl hn
          | slc _ _ _ hp =>
            rename_i p
            obtain ⟨w', h1, h2, h3⟩ := store_row (P := P) h (arow_some hrow) hp o (us := (Builtin.zeroCells uz.cells n).toList) (by rw [Array.toArray_toList]; exact areps_rel n hzc) hcc.1 hcc.2
            refine ⟨.tuple #[], w', m, ?_, Ext.refl _, h2, VRel.undef _, h3⟩
            obtain ⟨n, rfl⟩ : ∃ j, n = j + 1 := ⟨n - 1, by omega⟩
            simp [Builtin.clear_, run_underlying hu, hrun, h1]
        · cases hc
      · cases hc
  · cases hc

/-! ### Calls -/
def abody (P : Program) (g : FuncId) : Bool :=
  match P.funcs[g]? with
  | some fn => fn.body.isSome && !(fn.name == "runtime.NumGoroutine")
  | none => false
theorem abody_run {g : FuncId} (h : abody P g = true) (us : Array Value) : (callFunc g us).run P w = .ok (.enter g us) w := by
  unfold abody at h
  split at h
  · rename_i fn hf
    simp only [Bool.and_eq_true, Bool.not_eq_true'] at h
    have hb : fn.body.isNone = false := by cases hq : fn.body <;> simp_all
    simp only [callFunc, Sem.run_bind, run_program, Result.andThen_ok, hf, h.2, hb, Bool.false_eq_true, if_false, Sem.run_pure]
  · cases h

def amethod (P : Program) (ty : TypeId) (v : AV) (name : String) : Option (FuncId × AV) :=
  match P.info? ty, P.underlying ty with
  | some i, some d => match i.methods.find? (·.name == name) with
    | some mt => match mt.path.toList, mt.func with
      | [], some (g, pr) => match d, pr with
        | .pointer _, true => some (g, v)
        | .pointer _, false => none
        | _, true => none
        | _, false => some (g, v)
      | _, _ => none
    | none => none
  | _, _ => none
theorem recv_run {ty : TypeId} {d : TypeDesc} (hd : P.underlying ty = some d) (u : Value) (pr : Bool) (wr : Option String) (h : ((∃ e, d = .pointer e) ∧ pr = true) ∨ ((∀ e, d ≠ .pointer e) ∧ pr = false)) :
    (receiverAt ty (.val u) pr wr).run P w = .ok u w := by
  unfold receiverAt
  simp only [Sem.run_bind, run_underlying hd, Result.andThen_ok]
  rcases h with ⟨⟨e, rfl⟩, rfl⟩ | ⟨hn, rfl⟩
  · rfl
  · cases d <;> first | rfl | exact absurd rfl (hn _)
theorem amethod_run {ty : TypeId} {v : AV} {u : Value} {name : String} (hv : VRel m v u) {g : FuncId} {r : AV} (h : amethod P ty v name = some (g, r)) :
    ∃ ur, (method (P.types.size + Made.depth) ty u name).run P w = .ok (g, ur) w ∧ VRel m r ur := by
  unfold amethod at h
  split at h
  · rename_i i d hi hd
    split at h
    · rename_i mt hm
      split at h
      · rename_i g' pr hpath hfn
        have hfuel : ∃ k, P.types.size + Made.depth = k + 1 := ⟨P.types.size + 99, rfl⟩
        obtain ⟨k, hk⟩ := hfuel
        rw [hk]
        have fin : g' = g → v = r → (((∃ e, d = .pointer e) ∧ pr = true) ∨ ((∀ e, d ≠ .pointer e) ∧ pr = false)) → ∃ ur, (method (k + 1) ty u name).run P w = .ok (g, ur) w ∧ VRel m r ur := by
          rintro rfl rfl hdp
          refine ⟨u, ?_, hv⟩
          have hr := recv_run (P := P) (w := w) hd u pr (if mt.path.isEmpty then some ((name.splitOn ".").getLastD name) else none) hdp
          simp only [method, Sem.run_bind, typeInfo, run_program, Result.andThen_ok, hi, Sem.run_pure, hm, hpath, follow, hfn, hr]
        cases d <;> cases pr <;> simp only [Option.some.injEq, Prod.mk.injEq, reduceCtorEq] at h <;> first
          | exact fin h.1 h.2 (.inl ⟨⟨_, rfl⟩, rfl⟩)
          | exact fin h.1 h.2 (.inr ⟨(fun e he => by cases he), rfl⟩)
      · cases h
    · cases h
  · cases h

def acallTarget (P : Program) (t : List AV) (c : Call) : Option (FuncId × List AV) :=
  match aevs t c.args.toList with
  | some args => match c.callee with
    | .value f => match aev t f with
      | some (.func (.func g) first cap) => some (g, (first ++ args) ++ cap)
      | some (.func (.method name) first _) => match first ++ args with
        | .iface ty v :: rest => match amethod P ty v name with
          | some (g, r) => some (g, [r] ++ rest)
          | none => none
        | _ => none
      | _ => none
    | .invoke r name => match aev t r with
      | some (.iface ty v) => match amethod P ty v name with
        | some (g, rv) => some (g, [rv] ++ args)
        | none => none
      | _ => none
    | .builtin _ => none
  | none => none

/-- What an operation 'call' comes to: a call of function g on the model's arguments. -/
theorem acallTarget_run (h : Rel P w0 m A w) (ht : VsRel m t a.tmps) {o : Oper} {c : Call} (ho : o.op = .call c) {g : FuncId} {args : List AV} (hc : acallTarget P t c = some (g, args)) :
    ∃ us, VsRel m args us ∧ (execOp a.eval o).run P w = (callFunc g us).run P w := by
  unfold acallTarget at hc
  split at hc
  case h_2 => cases hc
  rename_i as has
  have hus := aevs_rel ht has
  have huse : c.args.toList.toArray.map a.eval = c.args.map a.eval := by simp
  rw [huse] at hus
  split at hc
  · rename_i f hf
    split at hc
    · rename_i g' first cap hev
      simp at hc; obtain ⟨rfl, rfl⟩ := hc
      have hr := aev_rel ht hev
      generalize hef : a.eval f = uf at hr
      cases hr with
      | func fn h1 h2 h3 h4 =>
        rename_i uf1 uf2
        refine ⟨(uf1 ++ c.args.map a.eval) ++ uf2, ((show VsRel m _ _ from ⟨h1, h2⟩).append hus).append ⟨h3, h4⟩ |> fun q => by simpa using q, ?_⟩
        simp [execOp, ho, resolve, hf, hef, Deferred.ofValue, invoke]
    · rename_i name first cap hev
      have hr := aev_rel ht hev
      generalize hef : a.eval f = uf at hr
      cases hr with
      | func fn h1 h2 h3 h4 =>
        rename_i uf1 uf2
        have hall := (show VsRel m _ _ from ⟨h1, h2⟩).append hus
        split at hc
        · rename_i ty v rest heq
          split at hc
          · rename_i g' r hm
            simp at hc; obtain ⟨rfl, rfl⟩ := hc
            rw [heq] at hall
            obtain ⟨u0, hu0, hr0⟩ := hall.get (i := 0) rfl
            cases hr0
            rename_i uv hv
            obtain ⟨ur, hrun, hrr⟩ := amethod_run (P := P) (w := w) hv hm
            have hrest : VsRel m rest ((uf1 ++ c.args.map a.eval).extract 1 (uf1 ++ c.args.map a.eval).size) := by
              refine ⟨by have := hall.1; simp at this ⊢; omega, fun i x u hx hu => ?_⟩
              rw [Array.getElem?_extract] at hu
              split at hu
              · exact hall.2 (i + 1) x u (by simpa using hx) (by rw [Nat.add_comm]; exact hu)
              · cases hu
            refine ⟨#[ur] ++ (uf1 ++ c.args.map a.eval).extract 1 (uf1 ++ c.args.map a.eval).size, ?_, ?_⟩
            · have := ((VsRel.nil m).push hrr).append hrest
              simpa using this
            · simp only [execOp, ho, resolve, hf, hef, Deferred.ofValue, invoke, Sem.run_bind, Sem.run_pure, Result.andThen_ok, hu0, callMethod, run_program, hrun]
          · cases hc
        · cases hc
    · cases hc
  · rename_i r name hf
    split at hc
    · rename_i ty v hev
      split at hc
      · rename_i g' rv hm
        simp at hc; obtain ⟨rfl, rfl⟩ := hc
        have hr := aev_rel ht hev
        generalize hef : a.eval r = ur0 at hr
        cases hr
        rename_i uv hv
        obtain ⟨ur, hrun, hrr⟩ := amethod_run (P := P) (w := w) hv hm
        refine ⟨#[ur] ++ c.args.map a.eval, ?_, ?_⟩
        · have := ((VsRel.nil m).push hrr).append hus
          simpa using this
        · have e1 : (#[Value.iface ty uv] ++ c.args.map a.eval)[0]? = some (Value.iface ty uv) := by
            rw [Array.getElem?_append_left (by simp)]; rfl
          have e2 : (#[Value.iface ty uv] ++ c.args.map a.eval).extract 1 (#[Value.iface ty uv] ++ c.args.map a.eval).size = c.args.map a.eval := by
            apply Array.ext'
            rw [Array.toList_extract]
            simp [List.extract_eq_take_drop]
            exact List.take_of_length_le (by simp)
          simp only [execOp, ho, resolve, hf, hef, invoke, Sem.run_bind, Sem.run_pure, Result.andThen_ok, e1, e2, callMethod, run_program, hrun]
      · cases hc
    · cases hc
  · cases hc
end
end Go.Am
