/- A part of the proof: Am2. -/
import Derived.Test.YthipnddfplbamaaDoorAm1
import Derived.LoopNIn
import Derived.RangeFuncLeaves
import Derived.RangeFuncIn
import Derived.RangeFuncRecord
set_option linter.unusedVariables false
set_option linter.unusedSimpArgs false
namespace Go.Am
open Go.RowKit

section
variable (P : Program) (w0 : World)

abbrev AK := Exit → List AV → List AO → Prop

/-- Nothing of the machine's own objects has turned. -/
structure Kept (w w' : World) : Prop where
  size : w.heap.size ≤ w'.heap.size
  defd : ∀ (b : Nat) (c : Option (List Deferred)), w.heap[b]? = some (.deferred c) → w'.heap[b]? = some (.deferred c)
theorem Kept.refl (w : World) : Kept w w := ⟨Nat.le_refl _, fun _ _ h => h⟩
theorem Kept.trans {a b c : World} (h : Kept a b) (k : Kept b c) : Kept a c := ⟨Nat.le_trans h.size k.size, fun i d hd => k.defd i d (h.defd i d hd)⟩
theorem Kept.below {w w' : World} (h : Below w.heap.size w w') : Kept w w' := ⟨h.size, fun b c hb => (h.block b (Array.getElem?_eq_some_iff.1 hb).1).trans hb⟩
theorem Kept.grown {w w' : World} {r : Nat} (h : w.grownBy w' (some r)) (hr : ∀ c, w.heap[r]? ≠ some (.deferred c)) : Kept w w' :=
  ⟨h.size, fun b c hb => (h.block b (Array.getElem?_eq_some_iff.1 hb).1 (fun e => hr c (by simp at e; rw [← e]; exact hb))).trans hb⟩

/-- The marks among a frame's deferred calls. -/
def Marks (B : Nat) (w : World) (ds : List Deferred) : Prop :=
  ∃ rs : List Nat, rs.Nodup ∧ ds.map (·.target) = rs.map .collected ∧ ∀ r ∈ rs, B ≤ r ∧ w.heap[r]? = some (.deferred (some []))
theorem Marks.nil (B : Nat) (w : World) : Marks B w [] := ⟨[], List.nodup_nil, rfl, fun r h => by cases h⟩
theorem Marks.kept {B : Nat} {w w' : World} {ds : List Deferred} (h : Marks B w ds) (k : Kept w w') : Marks B w' ds := by
  obtain ⟨rs, h1, h2, h3⟩ := h
  exact ⟨rs, h1, h2, fun r hr => ⟨(h3 r hr).1, k.defd r _ (h3 r hr).2⟩⟩

/-- Frames of functions, or of rounds of a range over a function. -/
def Fw (ro : Option Nat) : Fence := { Fence.wide with round := ro }
theorem Fw.fn (ro : Option Nat) (f : FuncId) : (Fw ro).fn f := trivial
theorem Fw.room (ro : Option Nat) (n : Nat) : (Fw ro).room n := fun _ h => by simp [Fw, Fence.wide] at h
theorem calls_wide {ro : Option Nat} {n : Nat} {f : FuncId} {args : Array Value} {w : World} {R : Ending → World → Prop} : CallsIn (Fw ro) n P f args w R ↔ Calls P f args w R :=
  callsIn_wide (n := n)

def Post (m : List (Option Pl)) (B : Nat) (w0' : World) (K : AK) : Exit → Act → World → Prop := fun e a w =>
  ∃ t A m', K e t A ∧ Ext m m' ∧ Rel P w0 m' A w ∧ VsRel m' t a.tmps ∧ Marks B w a.defers ∧ Kept w0' w

/-- Code: from slots t and blocks A every way ends so that K holds. -/
def SCode (rd : Bool) (c : Code) (t : List AV) (A : List AO) (K : AK) : Prop :=
  ∀ (ro : Option Nat) (m : List (Option Pl)) (w : World) (a : Act) (B : Nat), ro.isSome = rd → Rel P w0 m A w → VsRel m t a.tmps → Marks B w a.defers → B ≤ w.heap.size → c.wpIn (Fw ro) 0 P (Post P w0 m B w K) a w

/-- Operations, in an order. -/
def SOps (ops : Array Oper) (l : List Nat) (t : List AV) (A : List AO) (K : List AV → List AO → Prop) : Prop :=
  ∀ (ro : Option Nat) (m : List (Option Pl)) (w : World) (a : Act) (Q : Exit → Act → World → Prop), Rel P w0 m A w → VsRel m t a.tmps →
    (∀ t' A' m' a' w', K t' A' → Ext m m' → Rel P w0 m' A' w' → VsRel m' t' a'.tmps → a'.defers = a.defers → Kept w w' → Q .normal a' w') → wpOpsIn (Fw ro) 0 P ops Q l a w

/-- A call. -/
def SCall (f : FuncId) (args : List AV) (A : List AO) (R : AV → List AO → Prop) : Prop :=
  ∀ (m : List (Option Pl)) (w : World) (us : Array Value), Rel P w0 m A w → VsRel m args us →
    Calls P f us w fun e w' => ∃ u v A' m', e = .returned u ∧ VRel m' v u ∧ Ext m m' ∧ Rel P w0 m' A' w' ∧ R v A' ∧ Kept w w'

variable {P w0} {rd : Bool}

theorem Post.mono {m : List (Option Pl)} {B : Nat} {w1 : World} {K K' : AK} (h : ∀ e t A, K e t A → K' e t A) (e : Exit) (a : Act) (w : World) (hp : Post P w0 m B w1 K e a w) : Post P w0 m B w1 K' e a w := by
  obtain ⟨t, A, m', hk, r⟩ := hp
  exact ⟨t, A, m', h _ _ _ hk, r⟩
theorem Post.ext {m m1 : List (Option Pl)} {B : Nat} {w1 w2 : World} {K : AK} (h : Ext m m1) (hk : Kept w1 w2) (e : Exit) (a : Act) (w : World) (hp : Post P w0 m1 B w2 K e a w) : Post P w0 m B w1 K e a w := by
  obtain ⟨t, A, m', hK, he, hr, ht, hm, hq⟩ := hp
  exact ⟨t, A, m', hK, h.trans he, hr, ht, hm, hk.trans hq⟩

theorem SCode.mono {c : Code} {t : List AV} {A : List AO} {K K' : AK} (h : SCode P w0 rd c t A K) (hk : ∀ e t A, K e t A → K' e t A) : SCode P w0 rd c t A K' :=
  fun ro m w a B hro hr ht hd hB => wpIn_mono (h ro m w a B hro hr ht hd hB) (Post.mono hk)
theorem SCall.mono {f : FuncId} {args : List AV} {A : List AO} {R R' : AV → List AO → Prop} (h : SCall P w0 f args A R) (hr : ∀ v A, R v A → R' v A) : SCall P w0 f args A R' :=
  fun m w us h1 h2 => (h m w us h1 h2).mono fun e w' ⟨u, v, A', m', a, b, c, d, k, q⟩ => ⟨u, v, A', m', a, b, c, d, hr _ _ k, q⟩
theorem SOps.mono {ops : Array Oper} {l : List Nat} {t : List AV} {A : List AO} {K K' : List AV → List AO → Prop} (h : SOps P w0 ops l t A K) (hk : ∀ t A, K t A → K' t A) : SOps P w0 ops l t A K' :=
  fun ro m w a Q h1 h2 h4 => h ro m w a Q h1 h2 fun t' A' m' a' w' k => h4 t' A' m' a' w' (hk _ _ k)

variable {t : List AV} {A : List AO} {K : AK}

theorem SCode.skip (h : K .normal t A) : SCode P w0 rd .skip t A K :=
  fun ro m w a B hro hr ht hd hB => wpIn_skip ⟨t, A, m, h, Ext.refl _, hr, ht, hd, Kept.refl w⟩
theorem SCode.label {l : Nat} (h : K .normal t A) : SCode P w0 rd (.label l) t A K :=
  fun ro m w a B hro hr ht hd hB => wpIn_label ⟨t, A, m, h, Ext.refl _, hr, ht, hd, Kept.refl w⟩
theorem SCode.ret (h : K .ret t A) : SCode P w0 rd .ret t A K :=
  fun ro m w a B hro hr ht hd hB => wpIn_ret ⟨t, A, m, h, Ext.refl _, hr, ht, hd, Kept.refl w⟩
theorem SCode.exit {i : Nat} (h : K (.exit i) t A) : SCode P w0 rd (.exit i) t A K :=
  fun ro m w a B hro hr ht hd hB => wpIn_exit ⟨t, A, m, h, Ext.refl _, hr, ht, hd, Kept.refl w⟩

def AThen (next : List AV → List AO → Prop) (K : AK) : AK
  | .normal, t, A => next t A
  | e, t, A => K e t A

theorem Post.then {ro : Option Nat} {m : List (Option Pl)} {B : Nat} {w1 : World} (hro : ro.isSome = rd) (hB : B ≤ w1.heap.size) {next : List AV → List AO → Prop} {y : Code} (hy : ∀ t A, next t A → SCode P w0 rd y t A K) (e : Exit) (a : Act) (w : World)
    (h : Post P w0 m B w1 (AThen next K) e a w) : Exit.then (y.wpIn (Fw ro) 0 P (Post P w0 m B w1 K)) (Post P w0 m B w1 K) e a w := by
  obtain ⟨t, A, m', hk, he, hr, ht, hd, hq⟩ := h
  cases e with
  | normal => exact wpIn_mono (hy t A hk ro m' w a B hro hr ht hd (Nat.le_trans hB hq.size)) (Post.ext he hq)
  | _ => exact ⟨t, A, m', hk, he, hr, ht, hd, hq⟩

theorem SCode.seq {x y : Code} (next : List AV → List AO → Prop) (h : SCode P w0 rd x t A (AThen next K)) (hy : ∀ t A, next t A → SCode P w0 rd y t A K) : SCode P w0 rd (.seq x y) t A K :=
  fun ro m w a B hro hr ht hd hB => wpIn_seq (wpIn_mono (h ro m w a B hro hr ht hd hB) (Post.then hro hB hy))

/-- The constant as an abstract value. -/
def ofCell : Value → Option AV
  | .bool b => some (.bool b)
  | .int k n => some (.int k n)
  | .string s => some (.str s.data.toList)
  | .pointer none => some (.ptr none)
  | .slice none l c => some (.slc none l c true)
  | .map none => some (.map none)
  | .nilFunc => some .nilFunc
  | .nilIface => some .nilIface
  | .func fn f c => if f.size = 0 ∧ c.size = 0 then some (.func fn [] []) else none
  | _ => none
def ofCells : List Value → Option (List AV)
  | [] => some []
  | v :: r => match ofCell v, ofCells r with
    | some x, some l => some (x :: l)
    | _, _ => none
def ofVal : Value → Option AV
  | .agg cs => (ofCells cs.toList).map .agg
  | .tuple cs => (ofCells cs.toList).map .tuple
  | .iface t v => (ofCell v).map (.iface t)
  | v => ofCell v

theorem ofCell_rel (m : List (Option Pl)) {v : Value} {x : AV} (h : ofCell v = some x) : VRel m x v := by
  unfold ofCell at h
  split at h <;> first
    | (simp only [Option.some.injEq] at h; subst h; first | constructor | (rename_i s; exact VRel.str (m := m) s.data.toList))
    | skip
  · split at h
    · rename_i fn f c hs
      simp only [Option.some.injEq] at h; subst h
      exact .func fn (by simp [hs.1]) (fun i x u hx _ => by simp at hx) (by simp [hs.2]) (fun i x u hx _ => by simp at hx)
    · cases h
  · cases h

theorem ofCells_rel (m : List (Option Pl)) : ∀ {l : List Value} {xs : List AV}, ofCells l = some xs → xs.length = l.length ∧ ∀ (i : Nat) (x : AV) (u : Value), xs[i]? = some x → l[i]? = some u → VRel m x u := by
  intro l
  induction l with
  | nil => intro xs h; simp [ofCells] at h; subst h; exact ⟨rfl, fun i x u hx _ => by simp at hx⟩
  | cons v r ih =>
    intro xs h
    simp only [ofCells] at h
    split at h
    · rename_i x l hv hl
      simp at h; subst h
      obtain ⟨h1, h2⟩ := ih hl
      refine ⟨by simp [h1], fun i y u hy hu => ?_⟩
      cases i with
      | zero => simp at hy hu; subst hy hu; exact ofCell_rel m hv
      | succ i => simp at hy hu; exact h2 i y u hy hu
    · cases h

theorem ofVal_rel (m : List (Option Pl)) {v : Value} {x : AV} (h : ofVal v = some x) : VRel m x v := by
  unfold ofVal at h
  split at h
  · obtain ⟨l, hl, rfl⟩ := Option.map_eq_some_iff.1 h
    obtain ⟨h1, h2⟩ := ofCells_rel m hl
    exact .agg (by simpa using h1) (fun i x u hx hu => h2 i x u hx (by simpa using hu))
  · obtain ⟨l, hl, rfl⟩ := Option.map_eq_some_iff.1 h
    obtain ⟨h1, h2⟩ := ofCells_rel m hl
    exact .tuple (by simpa using h1) (fun i x u hx hu => h2 i x u hx (by simpa using hu))
  · obtain ⟨y, hy, rfl⟩ := Option.map_eq_some_iff.1 h
    exact .iface _ (ofCell_rel m hy)
  · exact ofCell_rel m h

def aev (t : List AV) : Operand → Option AV
  | .tmp i => t[i]?
  | .const v => ofVal v
  | .global _ => none
  | .func f => some (.func (.func f) [] [])

theorem aev_rel {m : List (Option Pl)} {a : Act} (ht : VsRel m t a.tmps) {x : Operand} {v : AV} (h : aev t x = some v) : VRel m v (a.eval x) := by
  cases x with
  | tmp i =>
    obtain ⟨u, hu, hr⟩ := ht.get h
    have : a.eval (.tmp i) = u := by simp [Act.eval, Array.getD_eq_getD_getElem?, hu]
    rw [this]; exact hr
  | const v' => exact ofVal_rel m h
  | «global» g => simp [aev] at h
  | func f =>
    simp [aev] at h; subst h
    exact .func _ rfl (fun i x u hx _ => by simp at hx) rfl (fun i x u hx _ => by simp at hx)

def aevs (t : List AV) : List Operand → Option (List AV)
  | [] => some []
  | x :: r => match aev t x, aevs t r with
    | some v, some l => some (v :: l)
    | _, _ => none

theorem aevs_rel {m : List (Option Pl)} {a : Act} (ht : VsRel m t a.tmps) : ∀ {xs : List Operand} {vs : List AV}, aevs t xs = some vs → VsRel m vs (xs.toArray.map a.eval) := by
  intro xs
  induction xs with
  | nil => intro vs h; simp [aevs] at h; subst h; exact ⟨by simp, fun i x u hx _ => by simp at hx⟩
  | cons x r ih =>
    intro vs h
    simp only [aevs] at h
    split at h
    · rename_i v l hv hl
      simp at h; subst h
      obtain ⟨h1, h2⟩ := ih hl
      refine ⟨by simpa using h1, fun i y u hy hu => ?_⟩
      cases i with
      | zero => simp at hy hu; subst hy hu; exact aev_rel ht hv
      | succ i => simp at hy hu; exact h2 i y u hy (by simpa using hu)
    · cases h

theorem SCode.cond {c : Operand} {x y : Code} (b : Bool) (hc : aev t c = some (.bool b)) (h : SCode P w0 rd (if b then x else y) t A K) : SCode P w0 rd (.cond c x y) t A K := by
  intro ro m w a B hro hr ht hd hB
  have hb : a.eval c = .bool b := by
    have := aev_rel ht hc
    generalize a.eval c = u at this
    cases this; rfl
  exact wpIn_cond hb (h ro m w a B hro hr ht hd hB)

def AInBlock (id : Nat) (K : AK) : AK
  | .exit i, t, A => if i = id then K .normal t A else K (.exit i) t A
  | e, t, A => K e t A

theorem SCode.block {id : Nat} {c : Code} (h : SCode P w0 rd c t A (AInBlock id K)) : SCode P w0 rd (.block id c) t A K := by
  intro ro m w a B hro hr ht hd hB
  refine wpIn_block (wpIn_mono (h ro m w a B hro hr ht hd hB) ?_)
  rintro e a w ⟨t, A, m', hk, r⟩
  cases e with
  | exit i =>
    simp only [AInBlock, Exit.inBlock] at hk ⊢
    split
    · rename_i he; rw [if_pos he] at hk; exact ⟨t, A, m', hk, r⟩
    · rename_i he; rw [if_neg he] at hk; exact ⟨t, A, m', hk, r⟩
  | _ => exact ⟨t, A, m', hk, r⟩

/-- A loop, round by round: n bounds the rounds. -/
def SRounds (rd : Bool) (c : Code) (K : AK) : Nat → List AV → List AO → Prop
  | 0, _, _ => False
  | n + 1, t, A => SCode P w0 rd c t A (AThen (SRounds rd c K n) K)

theorem rounds_of {c : Code} : ∀ (n : Nat) (t : List AV) (A : List AO), SRounds (P := P) (w0 := w0) rd c K n t A → ∀ (ro : Option Nat) (m m1 : List (Option Pl)) (w1 w : World) (a : Act) (B : Nat), ro.isSome = rd → Ext m m1 → Kept w1 w → Rel P w0 m1 A w → VsRel m1 t a.tmps → Marks B w a.defers → B ≤ w1.heap.size →
    Code.roundsIn (Fw ro) 0 P c (Post P w0 m B w1 K) n a w := by
  intro n
  induction n with
  | zero => intro t A h; exact h.elim
  | succ n ih =>
    intro t A h ro m m1 w1 w a B hro he hq hr ht hd hB
    rw [roundsIn_succ]
    refine wpIn_mono (h ro m1 w a B hro hr ht hd (Nat.le_trans hB hq.size)) ?_
    rintro e a' w' ⟨t', A', m', hk, he', hr', ht', hd', hq'⟩
    cases e with
    | normal => exact ih t' A' hk ro m m' w1 w' a' B hro (he.trans he') (hq.trans hq') hr' ht' hd' hB
    | _ => exact ⟨t', A', m', hk, he.trans he', hr', ht', hd', hq.trans hq'⟩

theorem SCode.loop {c : Code} (n : Nat) (h : SRounds (P := P) (w0 := w0) rd c K n t A) : SCode P w0 rd (.loop c) t A K :=
  fun ro m w a B hro hr ht hd hB => wpIn_loop_rounds n (rounds_of n t A h ro m m w w a B hro (Ext.refl _) (Kept.refl w) hr ht hd hB)

/-- A loop by what holds at each round's head, and a number that falls. -/
theorem SRounds.of_inv {c : Code} (I : Nat → List AV → List AO → Prop) (round : ∀ n t A, I n t A → SCode P w0 rd c t A (AThen (fun t' A' => ∃ n', n' < n ∧ I n' t' A') K)) :
    ∀ (n : Nat) (t : List AV) (A : List AO), I n t A → ∃ k, SRounds (P := P) (w0 := w0) rd c K k t A := by
  intro n t A h
  refine ⟨n + 1, ?_⟩
  have key : ∀ n t A, I n t A → ∀ k, n < k → SRounds (P := P) (w0 := w0) rd c K k t A := by
    intro n
    induction n using Nat.strongRecOn with
    | _ n ih =>
      intro t A h k hk
      obtain ⟨k, rfl⟩ : ∃ j, k = j + 1 := ⟨k - 1, by omega⟩
      refine (round n t A h).mono ?_
      intro e t' A' hx
      cases e with
      | normal =>
        obtain ⟨n', hlt, hi⟩ := hx
        exact ih n' hlt t' A' hi k (by omega)
      | _ => exact hx
  exact key n t A h (n + 1) (by omega)

theorem SCode.loop_inv {c : Code} (I : Nat → List AV → List AO → Prop) (n : Nat) (h0 : I n t A) (round : ∀ n t A, I n t A → SCode P w0 rd c t A (AThen (fun t' A' => ∃ n', n' < n ∧ I n' t' A') K)) : SCode P w0 rd (.loop c) t A K :=
  let ⟨k, hk⟩ := SRounds.of_inv I round n t A h0
  SCode.loop k hk

theorem marks_eq {B : Nat} {w : World} {a a' : Act} (h : Marks B w a.defers) (e : a'.defers = a.defers) : Marks B w a'.defers := by rw [e]; exact h

/-- Regions. -/
theorem SCode.region {id : Nat} {ops : Array Oper} (h : SOps P w0 ops (List.range ops.size) t A (K .normal)) : SCode P w0 rd (.region id ops false) t A K :=
  fun ro m w a B hro hr ht hd hB => wpIn_region (h ro m w a _ hr ht fun t' A' m' a' w' hk he hr' ht' hd' hq => ⟨t', A', m', hk, he, hr', ht', marks_eq (hd.kept hq) hd', hq⟩)

theorem SOps.nil {ops : Array Oper} {K : List AV → List AO → Prop} (h : K t A) : SOps P w0 ops [] t A K :=
  fun ro m w a Q hr ht hq => hq t A m a w h (Ext.refl _) hr ht rfl (Kept.refl w)

def aput (t : List AV) (dst : Option Tmp) (v : AV) : List AV :=
  match dst with
  | some d => t.set d v
  | none => t
theorem aput_rel {m : List (Option Pl)} {a : Act} (ht : VsRel m t a.tmps) (dst : Option Tmp) {v : AV} {u : Value} (h : VRel m v u) : VsRel m (aput t dst v) (a.put dst u).tmps := by
  cases dst with
  | none => exact ht
  | some d => exact ht.set d h
theorem put_defers (a : Act) (dst : Option Tmp) (u : Value) : (a.put dst u).defers = a.defers := by cases dst <;> rfl

/-- Is the operation wanted? -/
def awanted (ops : Array Oper) (t : List AV) (o : Oper) : Option Bool :=
  match o.guard with
  | none => some true
  | some (j, want) => match ((ops[j]?).bind (·.dst)).bind (t[·]?) with
    | some (.bool b) => some (b == want)
    | some (.tuple []) => some false
    | _ => none

theorem awanted_rel {m : List (Option Pl)} {a : Act} (ht : VsRel m t a.tmps) {ops : Array Oper} {o : Oper} {b : Bool} (h : awanted ops t o = some b) : Region.wanted o (yielded ops a.tmps) = b := by
  unfold awanted at h
  unfold Region.wanted
  cases hg : o.guard with
  | none => rw [hg] at h; simpa using h
  | some g =>
    obtain ⟨j, want⟩ := g
    rw [hg] at h
    simp only at h ⊢
    cases hd : (ops[j]?).bind (·.dst) with
    | none => simp [hd] at h
    | some d =>
      simp only [hd, Option.bind_some] at h
      split at h
      · rename_i c hc
        obtain ⟨u, hu, hr⟩ := ht.get hc
        cases hr
        simp at h
        simp [yielded, hd, hu, h]
      · rename_i hc
        obtain ⟨u, hu, hr⟩ := ht.get hc
        cases hr with
        | tuple h1 h2 =>
          simp at h
          simp [yielded, hd, hu, ← h]
      · cases h

/-- An operation that gives a value: one of a list of outcomes. -/
def OpVals (ρ : List AV) (A : List AO) (o : Oper) (L : List (AV × List AO)) : Prop :=
  ∀ (m : List (Option Pl)) (w : World) (a : Act), Rel P w0 m A w → VsRel m ρ a.tmps →
    ∃ v A' m' u w', (v, A') ∈ L ∧ ((execOp a.eval o).run P w = .ok (.value u) w' ∨ ((execOp a.eval o).run P w = .ok .skip w' ∧ u = undef)) ∧ Ext m m' ∧ Rel P w0 m' A' w' ∧ VRel m' v u ∧ Kept w w'

/-- What the machine runs here is the operation itself. -/
theorem semAt_run {ro : Option Nat} {o : Oper} {a : Act} {w w' : World} {x : Next} (h : (execOp a.eval o).run P w = .ok x w') (hx : ∀ d, x ≠ .defer d) : (o.semAt ro a.eval).run P w = .ok x w' := by
  rw [Oper.semAt_eq]
  · exact h
  · intro c hc
    simp only [execOp, hc, Sem.run_bind] at h
    cases hr : (resolve a.eval c o.type).run P w with
    | ok d w1 => rw [hr] at h; simp at h; exact hx d h.1.symm
    | halt hh w1 => rw [hr] at h; simp at h

theorem wpOps_cons {ro : Option Nat} {ops : Array Oper} {i : Nat} {l : List Nat} {o : Oper} {a : Act} {w : World} {Q : Exit → Act → World → Prop} (ho : ops[i]? = some o) (hw : Region.wanted o (yielded ops a.tmps) = true)
    (h : o.uponIn (Fw ro) 0 P a (wpOpsIn (Fw ro) 0 P ops Q l) Q ((o.semAt ro a.eval).run P w)) : wpOpsIn (Fw ro) 0 P ops Q (i :: l) a w := by
  simp only [wpOpsIn, ho, hw, if_true]
  exact ⟨fun _ _ => trivial, h⟩

theorem wpOps_vals {ro : Option Nat} {ops : Array Oper} {i : Nat} {l : List Nat} {o : Oper} {a : Act} {w w' : World} {Q : Exit → Act → World → Prop} {u : Value} (ho : ops[i]? = some o) (hw : Region.wanted o (yielded ops a.tmps) = true)
    (hrun : (execOp a.eval o).run P w = .ok (.value u) w' ∨ ((execOp a.eval o).run P w = .ok .skip w' ∧ u = undef)) (hrest : wpOpsIn (Fw ro) 0 P ops Q l (a.put o.dst u) w') : wpOpsIn (Fw ro) 0 P ops Q (i :: l) a w := by
  refine wpOps_cons ho hw ?_
  rcases hrun with hrun | ⟨hrun, rfl⟩
  · rw [semAt_run hrun (fun d h => by cases h)]; exact hrest
  · rw [semAt_run hrun (fun d h => by cases h)]; exact hrest

theorem wpOps_enter {ro : Option Nat} {ops : Array Oper} {i : Nat} {l : List Nat} {o : Oper} {a : Act} {w w' : World} {Q : Exit → Act → World → Prop} {f : FuncId} {us : Array Value} (ho : ops[i]? = some o) (hw : Region.wanted o (yielded ops a.tmps) = true)
    (hrun : (execOp a.eval o).run P w = .ok (.enter f us) w') (h : Calls P f us w' fun e w'' => ∃ v, e = .returned v ∧ wpOpsIn (Fw ro) 0 P ops Q l (a.put o.dst v) w'') : wpOpsIn (Fw ro) 0 P ops Q (i :: l) a w := by
  refine wpOps_cons ho hw ?_
  rw [semAt_run hrun (fun d h => by cases h), Oper.uponIn_enter]
  exact ⟨fun h => by simp [Fw, Fence.wide] at h, (calls_wide P).2 (h.mono fun e w'' ⟨v, he, hq⟩ => by subst he; exact hq)⟩

theorem wpOps_skip {ro : Option Nat} {ops : Array Oper} {i : Nat} {l : List Nat} {o : Oper} {a : Act} {w : World} {Q : Exit → Act → World → Prop} (ho : ops[i]? = some o) (hw : Region.wanted o (yielded ops a.tmps) = false)
    (h : wpOpsIn (Fw ro) 0 P ops Q l (a.put o.dst undef) w) : wpOpsIn (Fw ro) 0 P ops Q (i :: l) a w := by
  simp only [wpOpsIn, ho, hw]
  exact ⟨fun _ _ => trivial, h⟩

theorem SOps.vals {ops : Array Oper} {i : Nat} {l : List Nat} {o : Oper} {K : List AV → List AO → Prop} (L : List (AV × List AO)) (ho : ops[i]? = some o) (hw : awanted ops t o = some true)
    (hv : OpVals (P := P) (w0 := w0) t A o L) (h : ∀ v A', (v, A') ∈ L → SOps P w0 ops l (aput t o.dst v) A' K) : SOps P w0 ops (i :: l) t A K := by
  intro ro m w a Q hr ht hq
  obtain ⟨v, A', m', u, w', hm, hrun, he, hr', hv', hkp⟩ := hv m w a hr ht
  exact wpOps_vals ho (awanted_rel ht hw) hrun (h v A' hm ro m' w' (a.put o.dst u) Q hr' (aput_rel (ht.ext he) o.dst hv')
    fun t'' A'' m'' a'' w'' hk he' hr'' ht'' hd'' hq'' => hq t'' A'' m'' a'' w'' hk (he.trans he') hr'' ht'' (hd''.trans (put_defers _ _ _)) (hkp.trans hq''))

theorem SOps.skip {ops : Array Oper} {i : Nat} {l : List Nat} {o : Oper} {K : List AV → List AO → Prop} (ho : ops[i]? = some o) (hw : awanted ops t o = some false)
    (h : SOps P w0 ops l (aput t o.dst aundef) A K) : SOps P w0 ops (i :: l) t A K := by
  intro ro m w a Q hr ht hq
  exact wpOps_skip ho (awanted_rel ht hw) (h ro m w (a.put o.dst undef) Q hr (aput_rel ht o.dst (.undef m)) fun t'' A'' m'' a'' w'' hk he' hr'' ht'' hd'' => hq t'' A'' m'' a'' w'' hk he' hr'' ht'' (hd''.trans (put_defers _ _ _)))

/-- An operation that enters a function. -/
def OpEnter (ρ : List AV) (A : List AO) (o : Oper) (f : FuncId) (args : List AV) : Prop :=
  ∀ (m : List (Option Pl)) (w : World) (a : Act), Rel P w0 m A w → VsRel m ρ a.tmps → ∃ us, (execOp a.eval o).run P w = .ok (.enter f us) w ∧ VsRel m args us

theorem SOps.enter {ops : Array Oper} {i : Nat} {l : List Nat} {o : Oper} {K : List AV → List AO → Prop} {f : FuncId} {args : List AV} (R : AV → List AO → Prop) (ho : ops[i]? = some o) (hw : awanted ops t o = some true)
    (he : OpEnter (P := P) (w0 := w0) t A o f args) (hc : SCall P w0 f args A R) (h : ∀ v A', R v A' → SOps P w0 ops l (aput t o.dst v) A' K) : SOps P w0 ops (i :: l) t A K := by
  intro ro m w a Q hr ht hq
  obtain ⟨us, hrun, hus⟩ := he m w a hr ht
  refine wpOps_enter ho (awanted_rel ht hw) hrun ((hc m w us hr hus).mono ?_)
  rintro e w' ⟨u, v, A', m', rfl, hv, he', hr', hR, hkp⟩
  exact ⟨u, rfl, h v A' hR ro m' w' (a.put o.dst u) Q hr' (aput_rel (ht.ext he') o.dst hv)
    fun t'' A'' m'' a'' w'' hk he'' hr'' ht'' hd'' hq'' => hq t'' A'' m'' a'' w'' hk (he'.trans he'') hr'' ht'' (hd''.trans (put_defers _ _ _)) (hkp.trans hq'')⟩

/-- The results of a body. -/
def ResRel (fn : Func) (t : List AV) (A : List AO) (v : AV) : Prop :=
  ∀ (m : List (Option Pl)) (w : World) (a : Act), Rel P w0 m A w → VsRel m t a.tmps → ∃ u, (results fn a.tmps).run P w = .ok u w ∧ VRel m v u

/-- A block that the machine keeps for itself is no row's. -/
theorem Rel.own {m : List (Option Pl)} {w w' : World} {A : List AO} (h : Rel P w0 m A w) {r : Nat} {c : Option (List Deferred)} (hr : w.heap[r]? = some (.deferred c)) (hb : w0.heap.size ≤ r) (hg : w.grownBy w' (some r)) : Rel P w0 m A w' := by
  refine ⟨h.len, h.below.grown hg h.below.size (fun q hq => by simp at hq; omega), fun k o p hk hp => ?_, h.inj⟩
  have ho := h.obj k o p hk hp
  cases hl : o.live with
  | false => cases o <;> first | trivial | simp [AO.live] at hl
  | true =>
    refine ho.same P w0 (hg.block _ (ho.lt P w0 hl) fun e => ?_)
    simp at e
    rw [← e] at hr
    cases o with
    | row cs e' wr => obtain ⟨cc, fr, h1, _⟩ := ho; rw [h1] at hr; simp at hr
    | dead => simp [AO.live] at hl
    | map es bs ck => obtain ⟨_, ces, h1, _⟩ := ho; rw [h1] at hr; simp at hr
    | iter s pos => rw [ho.2.2] at hr; simp at hr
    | miter mp since seen last => obtain ⟨_, _, mv, _, h3⟩ := ho; rw [h3] at hr; simp at hr
    | loop st pend t ps asg body => obtain ⟨_, f, tm, D, _, h2⟩ := ho; rw [h2] at hr; simp at hr

theorem take_run {w : World} {r : Nat} (h : w.heap[r]? = some (.deferred (some []))) : ∃ w', (Instr.takeDeferred r).run P w = .ok [] w' ∧ w.grownBy w' (some r) := by
  refine ⟨{ w with heap := w.heap.setIfInBounds r (.deferred none) }, ?_, rfl, rfl, rfl, by simp, fun k hk hne => ?_⟩
  · simp [Instr.takeDeferred, getObj, setObj, Sem.run, h]
  · simp only [Array.getElem?_setIfInBounds]
    rw [if_neg (fun e => hne (by simp [e]))]

theorem leaves_marks {fn : Func} {R : AV → List AO → Prop} {t : List AV} {A : List AO} {v : AV} (hres : ResRel (P := P) (w0 := w0) fn t A v) (hR : R v A) {m0 m : List (Option Pl)} (he : Ext m0 m) {w1 : World} {a : Act} (ht : VsRel m t a.tmps) (hb0 : w0.heap.size ≤ w1.heap.size) :
    ∀ (ds : List Deferred) (w : World), Rel P w0 m A w → Marks w1.heap.size w ds → Kept w1 w →
      LeavesInM (Fw none) 0 P fn a.tmps (fun e w' => ∃ u v A' m', e = .returned u ∧ VRel m' v u ∧ Ext m0 m' ∧ Rel P w0 m' A' w' ∧ R v A' ∧ Kept w1 w') ds .returning w := by
  intro ds
  induction ds with
  | nil =>
    intro w hr hm hq
    obtain ⟨u, hu, hv⟩ := hres m w a hr ht
    exact ⟨u, hu, u, v, A, m, rfl, hv, he, hr, hR, hq⟩
  | cons d ds ih =>
    intro w hr hm hq
    obtain ⟨rs, h1, h2, h3⟩ := hm
    cases rs with
    | nil => simp at h2
    | cons r rs =>
      simp only [List.map_cons, List.cons.injEq] at h2
      obtain ⟨ht1, ht2⟩ := h2
      obtain ⟨g1, g2⟩ := h3 r (by simp)
      obtain ⟨w', htake, hg⟩ := take_run (P := P) g2
      refine ⟨by simp, .inl ⟨r, w', ht1, htake, ih w' (hr.own g2 (by omega) hg) ⟨rs, (List.nodup_cons.1 h1).2, ht2, fun q hq' => ?_⟩ ?_⟩⟩
      · obtain ⟨q1, q2⟩ := h3 q (by simp [hq'])
        refine ⟨q1, (hg.block q (Array.getElem?_eq_some_iff.1 q2).1 fun e => ?_).trans q2⟩
        simp at e; subst e
        exact (List.nodup_cons.1 h1).1 hq'
      · refine ⟨Nat.le_trans hq.size hg.size, fun b c hb => ?_⟩
        have hlt : b < w1.heap.size := (Array.getElem?_eq_some_iff.1 hb).1
        have hb' := hq.defd b c hb
        exact (hg.block b (Array.getElem?_eq_some_iff.1 hb').1 (fun e => by simp at e; omega)).trans hb'

theorem SCall.body {f : FuncId} {fn : Func} {c : Code} {args : List AV} {R : AV → List AO → Prop} (hf : P.funcs[f]? = some fn) (hb : fn.body = some c)
    (h : SCode P w0 false c (args ++ List.replicate (fn.ntmps - args.length) aundef) A fun e t A' => (e = .normal ∨ e = .ret) ∧ ∃ v, ResRel (P := P) (w0 := w0) fn t A' v ∧ R v A') : SCall P w0 f args A R := by
  intro m w us hr hus
  refine (calls_wide P (ro := none) (n := 0)).1 (callsIn_of_wp_marks hf hb trivial (wpIn_mono (h none m w _ w.heap.size rfl hr ?_ (Marks.nil _ _) (Nat.le_refl _)) ?_))
  · rw [hus.1]; exact hus.append (VsRel.replicate m (.undef m) _)
  · rintro e a' w' ⟨t, A', m', ⟨he, v, hres, hR⟩, hext, hr', ht', hd', hq⟩
    rcases he with rfl | rfl <;> exact leaves_marks hres hR hext ht' hr.below.size _ w' hr' hd' hq
end
end Go.Am
