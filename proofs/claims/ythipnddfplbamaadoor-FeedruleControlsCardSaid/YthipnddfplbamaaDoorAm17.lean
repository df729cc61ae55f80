/- A part of the proof: Am17. -/
import Derived.Test.YthipnddfplbamaaDoorAm16
set_option linter.unusedVariables false
set_option linter.unusedSimpArgs false
namespace Go.Am
open Go.RowKit

/-! ### A region in whatever order -/
def dstOf (ops : Array Oper) (i : Nat) : Option Tmp := (ops[i]?).bind (·.dst)
def hasDst (ops : Array Oper) (S : Nat → Bool) (d : Nat) : Bool := (List.range ops.size).any fun j => S j && (dstOf ops j == some d)
def tmix (ops : Array Oper) (S : Nat → Bool) (t0 tn : List AV) : List AV :=
  (List.range t0.length).map fun d => if hasDst ops S d then (tn[d]?).getD aundef else (t0[d]?).getD aundef
def needs (ops : Array Oper) (o : Oper) : List Tmp :=
  (o.op.operands.toList.filterMap fun | .tmp d => some d | _ => none) ++ (match o.guard with | some (j, _) => (dstOf ops j).toList | none => [])

inductive Reach (ops : Array Oper) : Nat → Nat → Prop where
  | edge {i j : Nat} {o : Oper} (ho : ops[i]? = some o) (h : j ∈ edgesOf o) : Reach ops j i
  | step {i j e : Nat} {o : Oper} (ho : ops[i]? = some o) (h : e ∈ edgesOf o) (hr : Reach ops j e) : Reach ops j i

structure Plan where
  tn : List AV
  tv : Nat → List AV
  hs : List (List AO)
  acts : List Nat
  lo : Nat → Nat
  hi : Nat → Nat
  gid : Nat → Option Nat

/-- What slot dst holds at the end. -/
def Holds (tn : List AV) (o : Oper) (v : AV) : Prop := ∀ d, o.dst = some d → d < tn.length → tn[d]? = some v

inductive StepOk (P : Program) (X : AExt) (w0 : World) (ops : Array Oper) (pl : Plan) (i : Nat) (o : Oper) : Prop where
  | skip (hw : awanted ops (pl.tv i) o = some false) (hn : ∀ (j : Nat), pl.acts[j]? ≠ some i) (hg : pl.gid i = none) (hv : Holds pl.tn o aundef)
  | quiet (v : AV) (hw : awanted ops (pl.tv i) o = some true) (hn : ∀ (j : Nat), pl.acts[j]? ≠ some i) (hg : pl.gid i = none) (hv : Holds pl.tn o v)
      (h : ∀ (a : Nat) (H : List AO), pl.lo i ≤ a → a ≤ pl.hi i → pl.hs[a]? = some H → aop P X (pl.tv i) H o = some (v, H))
  | make (f : Nat → AV) (cs : List AV) (e : TypeId) (k : Nat) (hw : awanted ops (pl.tv i) o = some true) (hn : ∀ (j : Nat), pl.acts[j]? ≠ some i) (hg : pl.gid i = some k) (hv : Holds pl.tn o (f k))
      (hm : amake P (pl.tv i) o = some (f, cs, e)) (h : ∀ (a : Nat) (H : List AO), pl.lo i ≤ a → a ≤ pl.hi i → pl.hs[a]? = some H → H[k]? = some (.row cs e true))
  | actSkip (H gs : List AO) (hw : awanted ops (pl.tv i) o = some false) (hg : pl.gid i = none) (hi : pl.acts[pl.lo i]? = some i) (hv : Holds pl.tn o aundef) (hH : pl.hs[pl.lo i]? = some H) (hK : pl.hs[pl.lo i + 1]? = some (H ++ gs))
      (hgs : ∀ j k, pl.gid j = some k → pl.lo j = pl.lo i + 1 → H.length ≤ k ∧ k < H.length + gs.length)
  | act (v : AV) (H K gs : List AO) (hw : awanted ops (pl.tv i) o = some true) (hg : pl.gid i = none) (hi : pl.acts[pl.lo i]? = some i) (hv : Holds pl.tn o v) (hH : pl.hs[pl.lo i]? = some H) (hK : pl.hs[pl.lo i + 1]? = some (K ++ gs))
      (hgs : ∀ j k, pl.gid j = some k → pl.lo j = pl.lo i + 1 → K.length ≤ k ∧ k < K.length + gs.length)
      (h : aop P X (pl.tv i) H o = some (v, K) ∨ ∃ c g args, o.op = .call c ∧ acallTarget P (pl.tv i) c = some (g, args) ∧ abody P g = true ∧ SCall P w0 g args H fun v' A' => v' = v ∧ A' = K)

structure PlanOk (P : Program) (X : AExt) (w0 : World) (ops : Array Oper) (t0 : List AV) (A0 : List AO) (pl : Plan) : Prop where
  back : ∀ (i : Nat) (o : Oper), ops[i]? = some o → ∀ e ∈ edgesOf o, e < i
  view : ∀ (i : Nat) (o : Oper), ops[i]? = some o → ∀ d ∈ needs ops o, ((∀ j, j < ops.size → dstOf ops j = some d → j ∈ edgesOf o) ∧ (pl.tv i)[d]? = pl.tn[d]?) ∨ ((∀ (j : Nat) (o' : Oper), ops[j]? = some o' → dstOf ops j = some d → i ∈ edgesOf o') ∧ (pl.tv i)[d]? = t0[d]?)
  len : pl.tn.length = t0.length
  keep : ∀ (d : Nat), d < t0.length → hasDst ops (fun _ => true) d = false → pl.tn[d]? = t0[d]?
  lo_ok : ∀ i, i < ops.size → pl.lo i = 0 ∨ ∃ a, pl.acts[pl.lo i - 1]? = some a ∧ Reach ops a i
  hi_ok : ∀ i, i < ops.size → pl.hi i = pl.acts.length ∨ ∃ a, pl.acts[pl.hi i]? = some a ∧ (Reach ops i a ∨ a = i)
  act_ok : ∀ (j i : Nat), pl.acts[j]? = some i → pl.lo i = j ∧ pl.hi i = j ∧ i < ops.size
  start : ∃ gs, pl.hs[0]? = some (A0 ++ gs) ∧ ∀ j k, pl.gid j = some k → pl.lo j = 0 → k < A0.length + gs.length
  gbase : ∀ j k, pl.gid j = some k → A0.length ≤ k
  gdist : ∀ i j k, pl.gid i = some k → pl.gid j = some k → i = j
  step : ∀ (i : Nat) (o : Oper), ops[i]? = some o → StepOk P X w0 ops pl i o

section
variable {P : Program} {X : AExt} {w0 : World} {ops : Array Oper} {t0 : List AV} {A0 : List AO} {pl : Plan}

def Down (ops : Array Oper) (S : Nat → Bool) : Prop := ∀ (i : Nat) (o : Oper), ops[i]? = some o → S i = true → ∀ e ∈ edgesOf o, S e = true
theorem Reach.mem {S : Nat → Bool} (hd : Down ops S) {j i : Nat} (h : Reach ops j i) : S i = true → S j = true := by
  induction h with
  | edge ho h => exact fun hi => hd _ _ ho hi _ h
  | step ho h _ ih => exact fun hi => ih (hd _ _ ho hi _ h)
theorem Reach.pre {S : Nat → Bool} (hd : Down ops S) {j i : Nat} {o : Oper} (ho : ops[i]? = some o) (hp : ∀ e ∈ edgesOf o, S e = true) (h : Reach ops j i) : S j = true := by
  cases h with
  | edge ho' h => rw [ho] at ho'; simp at ho'; subst ho'; exact hp _ h
  | step ho' h hr => rw [ho] at ho'; simp at ho'; subst ho'; exact hr.mem hd (hp _ h)

theorem tmix_length (S : Nat → Bool) (t0 tn : List AV) : (tmix ops S t0 tn).length = t0.length := by simp [tmix]
theorem tmix_get (S : Nat → Bool) {t0 tn : List AV} (hl : tn.length = t0.length) (d : Nat) : (tmix ops S t0 tn)[d]? = if hasDst ops S d then tn[d]? else t0[d]? := by
  unfold tmix
  by_cases h : d < t0.length
  · simp only [List.getElem?_map, List.getElem?_range h, Option.map_some]
    split
    · rw [List.getElem?_eq_getElem (by omega)]; rfl
    · rw [List.getElem?_eq_getElem h]; rfl
  · rw [List.getElem?_eq_none (by simp; omega)]
    split
    · rw [List.getElem?_eq_none (by omega)]
    · rw [List.getElem?_eq_none (by omega)]

theorem hasDst_true {S : Nat → Bool} {d : Nat} : hasDst ops S d = true ↔ ∃ j, j < ops.size ∧ S j = true ∧ dstOf ops j = some d := by
  unfold hasDst
  simp only [List.any_eq_true, List.mem_range, Bool.and_eq_true, beq_iff_eq]

theorem tmix_put (hl : pl.tn.length = t0.length) {S : Nat → Bool} {i : Nat} {o : Oper} (ho : ops[i]? = some o) {v : AV} (hv : Holds pl.tn o v) :
    aput (tmix ops S t0 pl.tn) o.dst v = tmix ops (fun j => S j || j == i) t0 pl.tn := by
  have hi : i < ops.size := (Array.getElem?_eq_some_iff.1 ho).1
  have hdi : dstOf ops i = o.dst := by simp [dstOf, ho]
  apply List.ext_getElem?
  intro d
  rw [tmix_get _ hl]
  have hS' : hasDst ops (fun j => S j || j == i) d = (hasDst ops S d || (o.dst == some d)) := by
    rw [Bool.eq_iff_iff, Bool.or_eq_true, hasDst_true, hasDst_true]
    constructor
    · rintro ⟨j, h1, h2, h3⟩
      simp only [Bool.or_eq_true, beq_iff_eq] at h2
      rcases h2 with h2 | rfl
      · exact .inl ⟨j, h1, h2, h3⟩
      · right; rw [← hdi, h3]; simp
    · rintro (⟨j, h1, h2, h3⟩ | h)
      · exact ⟨j, h1, by simp [h2], h3⟩
      · exact ⟨i, hi, by simp, by rw [hdi]; simpa using h⟩
  rw [hS']
  cases hd : o.dst with
  | none => simp only [aput, tmix_get _ hl]; simp
  | some q =>
    simp only [aput, List.getElem?_set, tmix_length]
    by_cases hq : q = d
    · subst hq
      simp only [if_pos rfl, BEq.rfl, Bool.or_true, if_true]
      by_cases hlt : q < t0.length
      · have hlt' : q < pl.tn.length := by rw [hl]; exact hlt
        rw [if_pos hlt]; exact (hv q hd hlt').symm
      · have hlt' : pl.tn.length ≤ q := by rw [hl]; exact Nat.le_of_not_lt hlt
        rw [if_neg hlt, List.getElem?_eq_none hlt']
    · rw [if_neg hq, tmix_get _ hl]
      have : (some q == some d) = false := by simpa using hq
      rw [this, Bool.or_false]

theorem tmix_need (ok : PlanOk P X w0 ops t0 A0 pl) {S : Nat → Bool} {i : Nat} {o : Oper} (ho : ops[i]? = some o) (hp : ∀ e ∈ edgesOf o, S e = true) (hdn : Down ops S) (hSi : S i = false) {d : Nat} (hd : d ∈ needs ops o) : (tmix ops S t0 pl.tn)[d]? = (pl.tv i)[d]? := by
  rw [tmix_get _ ok.len]
  rcases ok.view i o ho d hd with ⟨hcl, hv⟩ | ⟨hcl, hv⟩
  · rw [hv]
    cases hh : hasDst ops S d with
    | true => rfl
    | false =>
      simp only [Bool.false_eq_true, if_false]
      by_cases hlt : d < t0.length
      · refine (ok.keep d hlt ?_).symm
        cases hall : hasDst ops (fun _ => true) d with
        | false => rfl
        | true =>
          obtain ⟨j, h1, _, h3⟩ := hasDst_true.1 hall
          have := hp j (hcl j h1 h3)
          rw [hasDst_true.2 ⟨j, h1, this, h3⟩] at hh
          cases hh
      · rw [List.getElem?_eq_none (by omega), List.getElem?_eq_none (by have := ok.len; omega)]
  · rw [hv]
    cases hh : hasDst ops S d with
    | false => rfl
    | true =>
      obtain ⟨j, h1, h2, h3⟩ := hasDst_true.1 hh
      have hoj : ops[j]? = some ops[j] := by simp [h1]
      have := hdn j _ hoj h2 i (hcl j _ hoj h3)
      rw [hSi] at this; cases this

theorem tmix_aev (ok : PlanOk P X w0 ops t0 A0 pl) {S : Nat → Bool} {i : Nat} {o : Oper} (ho : ops[i]? = some o) (hp : ∀ e ∈ edgesOf o, S e = true) (hdn : Down ops S) (hSi : S i = false) : ∀ x ∈ o.op.operands.toList, aev (tmix ops S t0 pl.tn) x = aev (pl.tv i) x := by
  intro x hx
  cases x with
  | tmp d => exact tmix_need ok ho hp hdn hSi (by simp only [needs, List.mem_append, List.mem_filterMap]; exact .inl ⟨.tmp d, hx, rfl⟩)
  | _ => rfl

theorem tmix_wanted (ok : PlanOk P X w0 ops t0 A0 pl) {S : Nat → Bool} {i : Nat} {o : Oper} (ho : ops[i]? = some o) (hp : ∀ e ∈ edgesOf o, S e = true) (hdn : Down ops S) (hSi : S i = false) : awanted ops (tmix ops S t0 pl.tn) o = awanted ops (pl.tv i) o := by
  unfold awanted
  cases hg : o.guard with
  | none => rfl
  | some g =>
    obtain ⟨j, want⟩ := g
    simp only
    cases hd : (ops[j]?).bind (·.dst) with
    | none => rfl
    | some d =>
      simp only [Option.bind_some]
      rw [tmix_need ok ho hp hdn hSi (d := d) (by simp only [needs, hg, dstOf, hd, List.mem_append]; right; simp)]

structure Inv (P : Program) (w0 : World) (ops : Array Oper) (t0 : List AV) (pl : Plan) (m0 : List (Option Pl)) (w1 : World) (ds : List Deferred) (S : Nat → Bool) (st : Nat) (m : List (Option Pl)) (w : World) (a : Act) : Prop where
  down : Down ops S
  acts : ∀ (j b : Nat), pl.acts[j]? = some b → (S b = true ↔ j < st)
  le : st ≤ pl.acts.length
  rel : ∃ H, pl.hs[st]? = some H ∧ Rel P w0 m H w
  tm : VsRel m (tmix ops S t0 pl.tn) a.tmps
  gh : ∀ i k, pl.gid i = some k → S i = false → pl.lo i ≤ st → m[k]? = some none
  ext : Ext m0 m
  df : a.defers = ds
  kp : Kept w1 w

theorem down_add {S : Nat → Bool} (hd : Down ops S) {i : Nat} {o : Oper} (ho : ops[i]? = some o) (hp : ∀ e ∈ edgesOf o, S e = true) : Down ops (fun j => S j || j == i) := by
  intro q oq hoq hq e he
  simp only [Bool.or_eq_true, beq_iff_eq] at hq ⊢
  rcases hq with hq | rfl
  · exact .inl (hd q oq hoq hq e he)
  · rw [ho] at hoq; simp at hoq; subst hoq; exact .inl (hp e he)

theorem plan_run (hX : ExtOk P X) (ok : PlanOk P X w0 ops t0 A0 pl) {ro : Option Nat} {w1 : World} {ds : List Deferred} {m0 : List (Option Pl)} (hm0 : m0.length = A0.length) {Q : Exit → Act → World → Prop}
    (hq : ∀ (H : List AO) (m : List (Option Pl)) (a : Act) (w : World), pl.hs[pl.acts.length]? = some H → Ext m0 m → Rel P w0 m H w → VsRel m pl.tn a.tmps → a.defers = ds → Kept w1 w → Q .normal a w) :
    ∀ (L : List Nat) (S : Nat → Bool) (st : Nat) (m : List (Option Pl)) (w : World) (a : Act), Lin ops S L → Inv P w0 ops t0 pl m0 w1 ds S st m w a → wpOpsIn (Fw ro) 0 P ops Q L a w := by
  intro L
  induction L with
  | nil =>
    intro S st m w a hL inv
    have hst : st = pl.acts.length := by
      rcases Nat.lt_or_ge st pl.acts.length with hlt | hge
      · have hb := List.getElem?_eq_getElem hlt
        have := (inv.acts st _ hb).1 (hL _ (ok.act_ok st _ hb).2.2)
        omega
      · have := inv.le; omega
    obtain ⟨H, hH, hrel⟩ := inv.rel
    have htn : tmix ops S t0 pl.tn = pl.tn := by
      apply List.ext_getElem?
      intro d
      rw [tmix_get _ ok.len]
      cases hh : hasDst ops S d with
      | true => rfl
      | false =>
        simp only [Bool.false_eq_true, if_false]
        by_cases hlt : d < t0.length
        · refine (ok.keep d hlt ?_).symm
          cases hall : hasDst ops (fun _ => true) d with
          | false => rfl
          | true =>
            obtain ⟨j, h1, _, h3⟩ := hasDst_true.1 hall
            rw [hasDst_true.2 ⟨j, h1, hL j h1, h3⟩] at hh
            cases hh
        · rw [List.getElem?_eq_none (by omega), List.getElem?_eq_none (by have := ok.len; omega)]
    subst hst
    simp only [wpOpsIn]
    exact hq H m a w hH inv.ext hrel (by have := inv.tm; rwa [htn] at this) inv.df inv.kp
  | cons i L ih =>
    intro S st m w a hL inv
    obtain ⟨hlt, hSi, hpre, hL'⟩ := hL
    have ho : ops[i]? = some ops[i] := by simp [hlt]
    generalize ops[i] = o at ho
    have hp := hpre o ho
    have hlo : pl.lo i ≤ st := by
      rcases ok.lo_ok i hlt with h0 | ⟨b, hb, hr⟩
      · omega
      · have := (inv.acts _ b hb).1 (hr.pre inv.down ho hp)
        omega
    have hhi : st ≤ pl.hi i := by
      rcases ok.hi_ok i hlt with h0 | ⟨b, hb, hr⟩
      · have := inv.le; omega
      · rcases Nat.lt_or_ge (pl.hi i) st with hc | hc
        · have hSb := (inv.acts _ b hb).2 hc
          rcases hr with hr | rfl
          · rw [hr.mem inv.down hSb] at hSi; cases hSi
          · rw [hSb] at hSi; cases hSi
        · exact hc
    have hdown := down_add inv.down ho hp
    have haev := tmix_aev ok ho hp inv.down hSi
    have hwant := tmix_wanted ok ho hp inv.down hSi
    obtain ⟨H, hH, hrel⟩ := inv.rel
    have notact : (∀ (j : Nat), pl.acts[j]? ≠ some i) → ∀ (j b : Nat), pl.acts[j]? = some b → ((S b || b == i) = true ↔ j < st) := by
      intro hn j b hb
      have hne : b ≠ i := fun e => hn j (by rw [hb, e])
      have : (b == i) = false := by simpa using hne
      rw [this, Bool.or_false]
      exact inv.acts j b hb
    -- an operation that takes its turn
    have turn : ∀ (v : AV) (K gs : List AO), pl.acts[pl.lo i]? = some i → Holds pl.tn o v → pl.hs[pl.lo i + 1]? = some (K ++ gs) → (∀ j k, pl.gid j = some k → pl.lo j = pl.lo i + 1 → K.length ≤ k ∧ k < K.length + gs.length) →
        st = pl.lo i ∧ ∀ (m' : List (Option Pl)) (u : Value) (w' : World), Ext m m' → Rel P w0 m' K w' → VRel m' v u → Kept w w' → wpOpsIn (Fw ro) 0 P ops Q L (a.put o.dst u) w' := by
      intro v K gs hi hv hK hgs
      obtain ⟨e1, e2, _⟩ := ok.act_ok _ i hi
      have hst : st = pl.lo i := by omega
      subst hst
      have hacts : ∀ (j b : Nat), pl.acts[j]? = some b → ((S b || b == i) = true ↔ j < pl.lo i + 1) := by
        intro j b hb
        simp only [Bool.or_eq_true, beq_iff_eq]
        constructor
        · rintro (h1 | rfl)
          · have := (inv.acts j b hb).1 h1; omega
          · have := (ok.act_ok j b hb).1; omega
        · intro hj
          rcases Nat.lt_or_ge j (pl.lo i) with h1 | h1
          · exact .inl ((inv.acts j b hb).2 h1)
          · have : j = pl.lo i := by omega
            subst this
            rw [hi] at hb; simp at hb; exact .inr hb.symm
      have hle' : pl.lo i + 1 ≤ pl.acts.length := by
        have := (List.getElem?_eq_some_iff.1 hi).1; omega
      refine ⟨rfl, fun m' u w' hext hrel' hvr hkp => ?_⟩
      have hr2 := hrel'.ghosts gs
      refine ih _ (pl.lo i + 1) _ w' (a.put o.dst u) hL' ⟨hdown, hacts, hle', ⟨_, hK, hr2⟩, ?_, fun j k hj hS hl => ?_, (inv.ext.trans hext).trans (Ext.append _ _), (put_defers _ _ _).trans inv.df, inv.kp.trans hkp⟩
      · rw [← tmix_put ok.len ho hv]
        exact (aput_rel (inv.tm.ext hext) o.dst hvr).ext (Ext.append _ _)
      · simp only [Bool.or_eq_false_iff] at hS
        rcases Nat.lt_or_ge (pl.lo i) (pl.lo j) with h1 | h1
        · obtain ⟨g1, g2⟩ := hgs j k hj (by omega)
          have hml := hrel'.len
          rw [List.getElem?_append_right (by omega), List.getElem?_replicate, if_pos (by omega)]
        · exact Ext.append _ _ _ _ (hext _ _ (inv.gh j k hj hS.1 h1))
    cases ok.step i o ho with
    | skip hw hn hg hv =>
      rw [← hwant] at hw
      refine wpOps_skip ho (awanted_rel inv.tm hw) (ih _ st m w (a.put o.dst undef) hL' ⟨hdown, notact hn, inv.le, ⟨H, hH, hrel⟩, ?_, fun j k hj hS hl => ?_, inv.ext, (put_defers _ _ _).trans inv.df, inv.kp⟩)
      · rw [← tmix_put ok.len ho hv]; exact aput_rel inv.tm o.dst (.undef m)
      · simp only [Bool.or_eq_false_iff] at hS; exact inv.gh j k hj hS.1 hl
    | quiet v hw hn hg hv h =>
      rw [← hwant] at hw
      have hop := h st H hlo hhi hH
      rw [← aop_congr haev] at hop
      obtain ⟨v', A', m', u, w', hmem, hrun, hext, hrel', hvr, hkp⟩ := aop_vals (w0 := w0) hX hop m w a hrel inv.tm
      simp at hmem; obtain ⟨rfl, rfl⟩ := hmem
      have hrest := ih _ st m' w' (a.put o.dst u) hL' ⟨hdown, notact hn, inv.le, ⟨_, hH, hrel'⟩, by rw [← tmix_put ok.len ho hv]; exact aput_rel (inv.tm.ext hext) o.dst hvr,
        fun j k hj hS hl => by simp only [Bool.or_eq_false_iff] at hS; exact hext _ _ (inv.gh j k hj hS.1 hl), inv.ext.trans hext, (put_defers _ _ _).trans inv.df, inv.kp.trans hkp⟩
      exact wpOps_vals ho (awanted_rel inv.tm hw) hrun hrest
    | make f cs e k hw hn hg hv hm h =>
      rw [← hwant] at hw
      have hm' := hm
      rw [← amake_congr haev] at hm'
      obtain ⟨u, us, inf, hrun, hvs, hinf, hle, hvr⟩ := amake_makes (w0 := w0) hm' m H w a hrel inv.tm
      have hk := h st H hlo hhi hH
      have hmk := inv.gh i k hg hSi hlo
      have hkl : k < m.length := (List.getElem?_eq_some_iff.1 hmk).1
      have hrel' := hrel.fill hk hmk hvs hinf hle
      have hset : (m.set k (some ⟨w.heap.size, 0, 0⟩))[k]? = some (some ⟨w.heap.size, 0, 0⟩) := by simp [hkl]
      have hrest := ih _ st _ _ (a.put o.dst u) hL' ⟨hdown, notact hn, inv.le, ⟨_, hH, hrel'⟩, by rw [← tmix_put ok.len ho hv]; exact aput_rel (inv.tm.wext (set_wext hmk _)) o.dst (hvr _ k hset),
        fun j k' hj hS hl => by
          simp only [Bool.or_eq_false_iff, beq_eq_false_iff_ne] at hS
          have hne : k ≠ k' := fun e => hS.2 (ok.gdist j i k' hj (by rw [hg, e]))
          rw [List.getElem?_set, if_neg hne]
          exact inv.gh j k' hj hS.1 hl,
        fun j q hj => by
          have hjl : j < m0.length := (List.getElem?_eq_some_iff.1 hj).1
          have := ok.gbase i k hg
          rw [List.getElem?_set, if_neg (by omega)]
          exact inv.ext j q hj, (put_defers _ _ _).trans inv.df, inv.kp.trans (Kept.alloc _ _)⟩
      exact wpOps_vals ho (awanted_rel inv.tm hw) (.inl hrun) hrest
    | actSkip H' gs hw hg hi hv hH' hK hgs =>
      rw [← hwant] at hw
      obtain ⟨rfl, after⟩ := turn aundef H' gs hi hv hK hgs
      rw [hH] at hH'; simp at hH'; subst hH'
      exact wpOps_skip ho (awanted_rel inv.tm hw) (after m undef w (Ext.refl _) hrel (.undef m) (Kept.refl w))
    | act v H' K gs hw hg hi hv hH' hK hgs h =>
      rw [← hwant] at hw
      obtain ⟨rfl, after⟩ := turn v K gs hi hv hK hgs
      rw [hH] at hH'; simp at hH'; subst hH'
      rcases h with hop | ⟨c, g, args, hcall, htgt, hbody, hsc⟩
      · rw [← aop_congr haev] at hop
        obtain ⟨v', A', m', u, w', hmem, hrun, hext, hrel', hvr, hkp⟩ := aop_vals (w0 := w0) hX hop m w a hrel inv.tm
        simp at hmem; obtain ⟨rfl, rfl⟩ := hmem
        exact wpOps_vals ho (awanted_rel inv.tm hw) hrun (after m' u w' hext hrel' hvr hkp)
      · have hcong : acallTarget P (tmix ops S t0 pl.tn) c = acallTarget P (pl.tv i) c := acallTarget_congr fun x hx => haev x (by rw [hcall]; exact hx)
        rw [← hcong] at htgt
        obtain ⟨us, hrun, hus⟩ := acall_enter (w0 := w0) hcall htgt hbody m w a hrel inv.tm
        refine wpOps_enter ho (awanted_rel inv.tm hw) hrun ((hsc m w us hrel hus).mono ?_)
        rintro e w' ⟨u, v', A', m', rfl, hvr, hext, hrel', ⟨rfl, rfl⟩, hkp⟩
        exact ⟨u, rfl, after m' u w' hext hrel' hvr hkp⟩

/-- The region, in every order. -/
theorem SCode.plan {rd : Bool} (hX : ExtOk P X) (hmix : P.follows .mixedOrders = true) (ok : PlanOk P X w0 ops t0 A0 pl) {id : Nat} {K : AK} (h : ∀ (H : List AO), pl.hs[pl.acts.length]? = some H → K .normal pl.tn H) : SCode P w0 rd (.region id ops true) t0 A0 K := by
  intro ro m w a B hro hr ht hd hB
  refine wpIn_region_draw fun s => ?_
  rw [hmix]
  obtain ⟨gs, hgs, hgl⟩ := ok.start
  have hr' := (hr.drew P w0).ghosts gs
  refine plan_run hX ok (m0 := m) (w1 := w) (ds := a.defers) hr.len (fun H m' a' w' hH hext hrel hvs hdf hkp => ⟨pl.tn, H, m', h H hH, hext, hrel, hvs, marks_eq (hd.kept hkp) hdf, hkp⟩) _ _ 0 _ _ a (schedule_lin ok.back s) ⟨?_, ?_, Nat.zero_le _, ⟨_, hgs, hr'⟩, ?_, ?_, Ext.append _ _, rfl, Kept.drew w⟩
  · intro i o ho hi
    have := (Array.getElem?_eq_some_iff.1 ho).1
    simp at hi; omega
  · intro j b hb
    have := (ok.act_ok j b hb).2.2
    simp; omega
  · have e : tmix ops (fun i => decide (ops.size ≤ i)) t0 pl.tn = t0 := by
      apply List.ext_getElem?
      intro d
      rw [tmix_get _ ok.len]
      cases hh : hasDst ops (fun i => decide (ops.size ≤ i)) d with
      | false => rfl
      | true =>
        obtain ⟨j, h1, h2, _⟩ := hasDst_true.1 hh
        simp at h2; omega
    rw [e]
    exact ht.ext (Ext.append _ _)
  · intro i k hi _ hl
    have h1 := ok.gbase i k hi
    have h2 := hgl i k hi (by omega)
    have := hr.len
    rw [List.getElem?_append_right (by omega), List.getElem?_replicate, if_pos (by omega)]
end
end Go.Am
