/- A part of the proof: Am21. -/
import Derived.Test.YthipnddfplbamaaDoorAm20
set_option linter.unusedVariables false
set_option linter.unusedSimpArgs false
namespace Go.Am
open Go.RowKit

/-! ### A range over a function -/
def setArgs (t : List AV) : List (Tmp × AV) → List AV
  | [] => t
  | (p, v) :: r => setArgs (t.set p v) r
def abegin (A : List AO) (k : Nat) : Option (List AO) :=
  match A[k]? with
  | some (.loop .ready pend t ps asg body) => some (A.set k (.loop .busy pend t ps asg body))
  | _ => none
def ajump : Exit → Option (Option Code)
  | .normal => some none
  | .ret => some (some .ret)
  | .exit i => some (some (.exit i))
  | .goto t => some (some (.goto t))
  | _ => none
def aendRound (A : List AO) (k : Nat) (e : Exit) : Option (AV × List AO) :=
  match A[k]?, ajump e with
  | some (.loop _ _ t ps asg body), some j => some (.bool j.isNone, A.set k (.loop (if j.isNone then .ready else .done) j t ps asg body))
  | _, _ => none
def aendLoop (A : List AO) (k : Nat) : Option (Option Code × List AO) :=
  match A[k]? with
  | some (.loop .busy _ _ _ _ _) => none
  | some (.loop _ pend t ps asg body) => some (pend, A.set k (.loop .exhausted pend t ps asg body))
  | _ => none
def ayield (t : List AV) (c : Call) : Option (Nat × List AV) :=
  match aevs t c.args.toList, c.callee with
  | some args, .value f => match aev t f with
    | some (.yld k) => some (k, args)
    | _ => none
  | _, _ => none

section
variable {P : Program} {X : AExt} {w0 : World} {m : List (Option Pl)} {A : List AO} {w : World} {a : Act} {t : List AV}

theorem setArgs_rel : ∀ {l : List (Tmp × AV)} {l' : List (Tmp × Value)} {t : List AV} {us : Array Value}, VsRel m t us → l.map (·.1) = l'.map (·.1) → (∀ (i : Nat) (x : Tmp × AV) (y : Tmp × Value), l[i]? = some x → l'[i]? = some y → VRel m x.2 y.2) →
    VsRel m (setArgs t l) (l'.foldl (fun tmps (x : Tmp × Value) => tmps.setIfInBounds x.1 x.2) us) := by
  intro l
  induction l with
  | nil => intro l' t us h he _; cases l' with | nil => exact h | cons y r => simp at he
  | cons x r ih =>
    intro l' t us h he hv
    cases l' with
    | nil => simp at he
    | cons y r' =>
      obtain ⟨p, v⟩ := x
      obtain ⟨q, u⟩ := y
      simp only [List.map_cons, List.cons.injEq] at he
      obtain ⟨e1, e2⟩ := he
      subst e1
      show VsRel m (setArgs (t.set p v) r) (r'.foldl _ (us.setIfInBounds p u))
      exact ih (h.set p (hv 0 (p, v) (p, u) rfl rfl)) e2 fun i x y hx hy => hv (i + 1) x y (by simpa using hx) (by simpa using hy)

theorem args_rel {ps : Array Tmp} {args : List AV} {us tm : Array Value} (ht : VsRel m t tm) (hl : args.length = ps.size) (hu : VsRel m args us) :
    us.size = ps.size ∧ VsRel m (setArgs t (ps.toList.zip args)) ((ps.zip us).foldl (fun tmps (t, a) => tmps.setIfInBounds t a) tm) := by
  have hus : us.size = ps.size := hu.1.symm.trans hl
  refine ⟨hus, ?_⟩
  rw [← Array.foldl_toList, Array.toList_zip]
  refine setArgs_rel ht ?_ fun i x y hx hy => ?_
  · rw [List.map_fst_zip (by simp; omega), List.map_fst_zip (by simp; omega)]
  · rw [List.getElem?_zip_eq_some] at hx hy
    exact hu.2 i _ _ hx.2 (by simpa using hy.2)

theorem Rel.loopSet (h : Rel P w0 m A w) {k : Nat} {st : LoopState} {pend : Option Code} {ps : Array Tmp} {asg body : Code} (hk : A[k]? = some (.loop st pend t ps asg body)) {p : Pl} (hp : m[k]? = some (some p)) :
    ∃ r : Loop, w.heap[p.b]? = some (.loop r) ∧ r.state = st ∧ r.pending = pend ∧ r.params = ps ∧ r.assign = asg ∧ r.body = body ∧ VsRel m t r.tmps ∧
      ∀ (st' : LoopState) (pend' : Option Code), Rel P w0 m (A.set k (.loop st' pend' t ps asg body)) (w.putObj p.b (.loop { r with state := st', pending := pend' })) ∧ Kept w (w.putObj p.b (.loop { r with state := st', pending := pend' })) := by
  obtain ⟨h0, f, tm, D, h1, h2⟩ := h.obj k _ p hk hp
  refine ⟨_, h2, rfl, rfl, rfl, rfl, rfl, h1, fun st' pend' => ?_⟩
  have hlt : p.b < w.heap.size := (Array.getElem?_eq_some_iff.1 h2).1
  have hg : w.grownBy (w.putObj p.b (.loop { state := st', pending := pend', fn := f, tmps := tm, params := ps, assign := asg, body := body, defers := D })) (some p.b) :=
    ⟨rfl, rfl, rfl, by simp, fun b hb hne => World.putObj_heap_other (by simpa using hne)⟩
  exact ⟨h.setAny hk hp rfl rfl hg h0 ⟨h0, f, tm, D, h1, World.putObj_heap_same hlt⟩, Kept.grown hg fun c e => by rw [h2] at e; simp at e⟩

theorem Marks.cons {B : Nat} {w w' : World} {ds : List Deferred} (h : Marks B w ds) (k : Kept w w') (hB : B ≤ w.heap.size) {r : Nat} (hr : w.heap.size ≤ r) (hd : w'.heap[r]? = some (.deferred (some []))) :
    Marks B w' ([{ target := .collected r, args := #[] }] ++ ds) := by
  obtain ⟨rs, h1, h2, h3⟩ := h
  refine ⟨r :: rs, List.nodup_cons.2 ⟨fun hm => ?_, h1⟩, by simp [h2], fun q hq => ?_⟩
  · have := (Array.getElem?_eq_some_iff.1 (h3 r hm).2).1; omega
  · rcases List.mem_cons.1 hq with rfl | hq
    · exact ⟨by omega, hd⟩
    · exact ⟨(h3 q hq).1, k.defd q _ (h3 q hq).2⟩

theorem ayield_run (ht : VsRel m t a.tmps) {o : Oper} {c : Call} (ho : o.op = .call c) {k : Nat} {args : List AV} (hy : ayield t c = some (k, args)) :
    ∃ p us, m[k]? = some (some p) ∧ VsRel m args us ∧ (execOp a.eval o).run P w = (Instr.yield p.b us).run P w := by
  unfold ayield at hy
  split at hy
  · rename_i as f has hf
    split at hy
    · rename_i k' hev
      simp at hy; obtain ⟨rfl, rfl⟩ := hy
      have hus := aevs_rel ht has
      have huse : c.args.toList.toArray.map a.eval = c.args.map a.eval := by simp
      rw [huse] at hus
      have hr := aev_rel ht hev
      generalize hef : a.eval f = uf at hr
      cases hr with
      | yld hp =>
        rename_i p
        refine ⟨p, _, hp, hus, ?_⟩
        simp [execOp, ho, resolve, hf, hef, Deferred.ofValue, invoke]
    · cases hy
  · cases hy

theorem wpOps_round {ro : Option Nat} {ops : Array Oper} {i : Nat} {l : List Nat} {o : Oper} {w' : World} {Q : Exit → Act → World → Prop} {lp : Nat} {f : FuncId} {tm : Array Value} {asg body : Code} (ho : ops[i]? = some o) (hw : Region.wanted o (yielded ops a.tmps) = true)
    (hrun : (execOp a.eval o).run P w = .ok (.round lp f tm asg body) w')
    (h : RoundIn (Fw ro) 0 P lp f tm asg body w' fun e w'' => ∃ v, e = .returned v ∧ wpOpsIn (Fw ro) 0 P ops Q l (a.put o.dst v) w'') : wpOpsIn (Fw ro) 0 P ops Q (i :: l) a w := by
  refine wpOps_cons ho hw ?_
  rw [semAt_run hrun (fun d h => by cases h), Oper.uponIn_round]
  exact ⟨fun h => by simp [Fw, Fence.wide] at h, h.mono fun e w'' ⟨v, he, hq⟩ => by subst he; exact hq⟩

/-- A round: the caller of the body is called. -/
theorem SOps.round {ops : Array Oper} {i : Nat} {l : List Nat} {o : Oper} {K : List AV → List AO → Prop} {c : Call} {k : Nat} {args : List AV} {st : LoopState} {pend : Option Code} {tl : List AV} {ps : Array Tmp} {asg body : Code} (R : AV → List AO → Prop)
    (ho : ops[i]? = some o) (hw : awanted ops t o = some true) (hc : o.op = .call c) (hy : ayield t c = some (k, args)) (hk : A[k]? = some (.loop st pend tl ps asg body)) (hl : args.length = ps.size)
    (hr : SCode P w0 true asg (setArgs tl (ps.toList.zip args)) A fun e t2 A2 => e = .normal ∧ ∃ A3, abegin A2 k = some A3 ∧ SCode P w0 true body t2 A3 fun e t3 A4 => ∃ v A5, aendRound A4 k e = some (v, A5) ∧ R v A5)
    (h : ∀ v A', R v A' → SOps P w0 ops l (aput t o.dst v) A' K) : SOps P w0 ops (i :: l) t A K := by
  intro ro m w a Q hrel ht hq
  obtain ⟨p, us, hp, hus, hrun⟩ := ayield_run (P := P) (w := w) ht hc hy
  obtain ⟨r, q1, q2, q3, q4, q5, q6, q7, q8⟩ := hrel.loopSet hk hp
  obtain ⟨hsz, htm⟩ := args_rel q7 hl hus
  rw [← q4] at hsz htm
  rw [run_yield q1 hsz] at hrun
  refine wpOps_round ho (awanted_rel ht hw) hrun (roundIn_of_wpIn (Fw.fn ro _) ?_)
  rw [q5, q6]
  rw [q4] at htm ⊢
  refine wpIn_mono (hr (some p.b) m w { tmps := _, defers := [] } 0 rfl hrel htm (Marks.nil _ _) (Nat.zero_le _)) ?_
  rintro e a1 w1 ⟨t2, A2, m2, ⟨rfl, A3, hb, hbody⟩, he2, hrel2, ht2, hd2, hk2⟩
  unfold abegin at hb
  split at hb
  case h_2 => cases hb
  rename_i pend2 tl2 ps2 asg2 body2 hA2
  simp at hb; subst hb
  have hp2 := he2 _ _ hp
  obtain ⟨r2, s1, s2, s3, s4, s5, s6, s7, s8⟩ := hrel2.loopSet hA2 hp2
  obtain ⟨u1, u2⟩ := s8 .busy pend2
  refine ⟨_, by rw [run_beginRound s1 s2], ?_⟩
  rw [← s3] at u1 u2
  refine wpIn_mono (hbody (some p.b) m2 _ a1 0 rfl (by rw [← s3]; exact u1) ht2 (hd2.kept u2) (Nat.zero_le _)) ?_
  rintro e a3 w3 ⟨t3, A4, m4, ⟨v, A5, hend, hR⟩, he4, hrel4, ht4, hd4, hk4⟩
  unfold aendRound at hend
  split at hend
  case h_2 => cases hend
  rename_i st4 pend4 tl4 ps4 asg4 body4 j hA4 hj
  obtain ⟨rfl, rfl⟩ := Prod.mk.inj (Option.some.inj hend)
  have hp4 := he4 _ _ hp2
  obtain ⟨r4, x1, x2, x3, x4, x5, x6, x7, x8⟩ := hrel4.loopSet hA4 hp4
  obtain ⟨y1, y2⟩ := x8 (if j.isNone then .ready else .done) j
  have fin : ∃ v w', (Instr.endRound p.b j).run P w3 = .ok v w' ∧ ∃ v', Ending.returned v = .returned v' ∧ wpOpsIn (Fw ro) 0 P ops Q l (a.put o.dst v') w' := by
    refine ⟨_, _, run_endRound j x1, _, rfl, ?_⟩
    refine h _ _ hR ro m4 _ (a.put o.dst (.bool j.isNone)) Q y1 (aput_rel (ht.ext (he2.trans he4)) o.dst (.bool _)) ?_
    intro t' A' m' a' w' hk' he' hr' ht' hd' hq'
    exact hq t' A' m' a' w' hk' ((he2.trans he4).trans he') hr' ht' (hd'.trans (put_defers _ _ _)) (((hk2.trans u2).trans hk4).trans (y2.trans hq'))
  cases e with
  | normal => simp [ajump] at hj; subst hj; exact fin
  | ret => simp [ajump] at hj; subst hj; exact fin
  | exit id => simp [ajump] at hj; subst hj; exact fin
  | goto tg => simp [ajump] at hj; subst hj; exact fin
  | panic _ => simp [ajump] at hj
  | outgrown => simp [ajump] at hj

/-- The statement. -/
theorem SCode.rangeFunc {K : AK} {g : Operand} {ps : Array Tmp} {asg body : Code} {fid : FuncId} {first cap : List AV} (R : AV → List AO → Prop) (hg : aev t g = some (.func (.func fid) first cap)) (hb : abody P fid = true)
    (hc : SCall P w0 fid ((first ++ [.yld A.length]) ++ cap) (A ++ [.loop .ready none t ps asg body]) R)
    (h : ∀ v A2, R v A2 → ∃ jump A3, aendLoop A2 A.length = some (jump, A3) ∧ match jump with | none => K .normal t A3 | some c => SCode P w0 false c t A3 K) : SCode P w0 false (.rangeFunc g ps asg body) t A K := by
  intro ro m w a B hro hr ht hd hB
  cases ro with
  | some l => simp at hro
  | none =>
  have hev := aev_rel ht hg
  generalize hef : a.eval g = uf at hev
  cases hev with
  | func fn h1 h2 h3 h4 =>
  rename_i uf1 uf2
  refine wpIn_rangeFunc fun fn hfn => ?_
  have hpl : (m ++ [some ⟨w.heap.size + 1, 0, 0⟩])[A.length]? = some (some ⟨w.heap.size + 1, 0, 0⟩) := by rw [← hr.len]; simp
  have hbel : Below w.heap.size w ((w.alloc (.deferred (some []))).alloc (.loop { state := .ready, pending := none, fn := fn, tmps := a.tmps, params := ps, assign := asg, body := body, defers := w.heap.size })) :=
    ((Below.refl _ _).alloc (Nat.le_refl _) _).alloc (by simp) _
  have hnew : ((w.alloc (.deferred (some []))).alloc (.loop { state := .ready, pending := none, fn := fn, tmps := a.tmps, params := ps, assign := asg, body := body, defers := w.heap.size })).heap[w.heap.size + 1]? = some (.loop { state := .ready, pending := none, fn := fn, tmps := a.tmps, params := ps, assign := asg, body := body, defers := w.heap.size }) := by
    have := World.alloc_heap_new (w.alloc (.deferred (some []))) (.loop { state := .ready, pending := none, fn := fn, tmps := a.tmps, params := ps, assign := asg, body := body, defers := w.heap.size })
    rwa [World.size_alloc] at this
  have hdef : ((w.alloc (.deferred (some []))).alloc (.loop { state := .ready, pending := none, fn := fn, tmps := a.tmps, params := ps, assign := asg, body := body, defers := w.heap.size })).heap[w.heap.size]? = some (.deferred (some [])) := by
    rw [Below.heap_alloc _ _ _ (by simp)]; exact World.alloc_heap_new w _
  have hrel := hr.push P w0 hbel ⟨w.heap.size + 1, 0, 0⟩ (.loop .ready none t ps asg body) (by simp) ⟨Nat.le_trans hr.base (by simp), fn, a.tmps, w.heap.size, ht.ext (Ext.append _ _), hnew⟩
  have hargs : VsRel (m ++ [some ⟨w.heap.size + 1, 0, 0⟩]) ((first ++ [.yld A.length]) ++ cap) ((uf1 ++ #[.func (.yield (w.heap.size + 1)) #[] #[]]) ++ uf2) := by
    refine VsRel.append (VsRel.append (VsRel.ext (Ext.append _ _) ⟨h1, h2⟩) ?_) (VsRel.ext (Ext.append _ _) ⟨h3, h4⟩)
    exact (VsRel.nil _).push (.yld hpl)
  have hres : ∀ W : World, (resolve a.eval (rangeCall g (w.heap.size + 1)) 0).run P W = .ok { target := .fn (.func fid) uf2, args := uf1 ++ #[.func (.yield (w.heap.size + 1)) #[] #[]] } W := by
    intro W
    have e : ((rangeCall g (w.heap.size + 1)).args.map a.eval) = #[.func (.yield (w.heap.size + 1)) #[] #[]] := by simp [rangeCall, Act.eval]
    simp only [resolve, e, hef, Deferred.ofValue, Sem.run_pure]
  have hinv : ∀ W : World, (invoke (.fn (.func fid) uf2) (uf1 ++ #[.func (.yield (w.heap.size + 1)) #[] #[]])).run P W = .ok (.enter fid ((uf1 ++ #[.func (.yield (w.heap.size + 1)) #[] #[]]) ++ uf2)) W := by
    intro W; simp only [invoke]; exact abody_run hb _
  refine ⟨w.heap.size + 1, _, _, _, _, fid, _, _, run_enterLoop_outer fn a.tmps ps asg body, hres _, fun _ _ => trivial, hinv _, (fun h => by simp [Fw, Fence.wide] at h), (calls_wide P).2 ((hc _ _ _ hrel hargs).mono ?_)⟩
  · rintro e w' ⟨u, v, A2, m2, rfl, hv, he, hr2, hR, hk2⟩
    obtain ⟨jump, A3, hend, hj⟩ := h v A2 hR
    have hp2 := he _ _ hpl
    have key : ∀ (st : LoopState) (pend : Option Code) (t2 : List AV) (ps2 : Array Tmp) (asg2 body2 : Code), A2[A.length]? = some (.loop st pend t2 ps2 asg2 body2) → st ≠ .busy → pend = jump → A2.set A.length (.loop .exhausted pend t2 ps2 asg2 body2) = A3 →
        rangePost (Fw none) 0 P (w.heap.size + 1) (Post P w0 m B w K) { a with defers := [{ target := .collected w.heap.size, args := #[] }] ++ a.defers } (.returned u) w' := by
      rintro st pend t2 ps2 asg2 body2 hA2 hst rfl rfl
      obtain ⟨r, s1, s2, s3, s4, s5, s6, s7, s8⟩ := hr2.loopSet hA2 hp2
      obtain ⟨u1, u2⟩ := s8 .exhausted pend
      have hkept : Kept w (w'.putObj (w.heap.size + 1) (.loop { r with state := .exhausted, pending := pend })) := ((Kept.below hbel).trans hk2).trans u2
      have hmarks := hd.cons hkept hB (Nat.le_refl _) (u2.defd _ _ (hk2.defd _ _ hdef))
      refine ⟨pend, _, by rw [run_endLoop s1 (by rw [s2]; exact hst), s3], ?_⟩
      rw [← s3] at u1 u2 hkept hmarks ⊢
      rw [← s3] at hj
      cases hpd : r.pending with
      | none =>
        rw [hpd] at hj u1 hkept hmarks
        exact ⟨t, _, m2, hj, (Ext.append _ _).trans he, u1, ht.ext ((Ext.append _ _).trans he), hmarks, hkept⟩
      | some c =>
        rw [hpd] at hj u1 hkept hmarks
        exact wpIn_mono (hj none m2 _ { a with defers := [{ target := .collected w.heap.size, args := #[] }] ++ a.defers } B rfl u1 (ht.ext ((Ext.append _ _).trans he)) hmarks (Nat.le_trans hB hkept.size)) (Post.ext ((Ext.append _ _).trans he) hkept)
    unfold aendLoop at hend
    split at hend
    · cases hend
    · rename_i hnb hA2
      simp at hend
      exact key _ _ _ _ _ _ hA2 (fun e => hnb e) hend.1 hend.2
    · cases hend

/-! ### A scope through which no goto goes -/
section scope
variable {b : Frame} {k : List Item} {cs : List Frame}
theorem stepR_scope {c : Code} : step P (lone (b.atR a (.code (.scope c) :: k)) cs w) = .next (lone (b.atR a (.code c :: .inScope c :: k)) cs w) :=
  step_lone_go (by simp [stepG, stepG.exec, Frame.atR])
theorem stepR_inScope {c : Code} : step P (lone (b.atR a (.inScope c :: k)) cs w) = .next (lone (b.atR a k) cs w) :=
  step_lone_go (by simp [stepG, stepG.exec, Frame.atR])
end scope

theorem wpIn_scope {F : Fence} {n : Nat} {Q : Exit → Act → World → Prop} {c : Code} (h : c.wpIn F n P (fun e a w => (∀ l, e ≠ .goto l) ∧ Q e a w) a w) : (Code.scope c).wpIn F n P Q a w := by
  intro b k cs hro hb hr
  have h0 : (lone (b.atR a (.code (.scope c) :: k)) cs w).fenced P F := fenced_calm hb hr rfl
  obtain ⟨e, a₁, w₁, ⟨hg, hq⟩, harr⟩ := h b (.inScope c :: k) cs hro hb hr
  cases e with
  | normal => exact ⟨.normal, a₁, w₁, hq, .head h0 stepR_scope (StepsIn.trans harr (.one (fenced_calm hb hr rfl) stepR_inScope))⟩
  | exit id =>
    have hx : exitTo id (.inScope c :: k) = exitTo id k := by simp [exitTo]
    exact ⟨_, a₁, w₁, hq, fun k' hk => .head h0 stepR_scope (harr.1 k' (by rw [hx]; exact hk)),
      fun hr' hk => let ⟨k₁, h1, h2⟩ := harr.2 hr' (by rw [hx]; exact hk); ⟨k₁, h1, .head h0 stepR_scope h2⟩⟩
  | goto l => exact absurd rfl (hg l)
  | ret => exact ⟨_, a₁, w₁, hq, .of_steps (.one h0 stepR_scope) harr⟩
  | panic ch => exact ⟨_, a₁, w₁, hq, .of_steps (.one h0 stepR_scope) harr⟩
  | outgrown => exact ⟨_, a₁, w₁, hq, .of_steps (.one h0 stepR_scope) harr⟩

theorem SCode.scope {rd : Bool} {K : AK} {c : Code} (h : SCode P w0 rd c t A fun e t A => (∀ l, e ≠ .goto l) ∧ K e t A) : SCode P w0 rd (.scope c) t A K :=
  fun ro m w a B hro hr ht hd hB => wpIn_scope (wpIn_mono (h ro m w a B hro hr ht hd hB) fun e a w ⟨t, A, m', ⟨h1, h2⟩, r⟩ => ⟨h1, t, A, m', h2, r⟩)
end
end Go.Am
