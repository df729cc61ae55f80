/- A part of the proof: Am1. -/
import Derived.Tactics
import Derived.LoopN
import Derived.Below
import Derived.WalkKit
set_option linter.unusedVariables false
set_option linter.unusedSimpArgs false
namespace Go.Am
open Go.RowKit

inductive AV where
  | bool (b : Bool)
  | int (k : IntKind) (n : Int)
  | str (s : List UInt8)
  | ptr (a : Option (Nat × Nat))
  | slc (a : Option (Nat × Nat)) (len cap : Nat) (exact : Bool)
  | map (r : Option Nat)
  | func (fn : Fn) (first captured : List AV)
  | nilFunc
  | yld (k : Nat)
  | iface (t : TypeId) (v : AV)
  | nilIface
  | agg (cs : List AV)
  | tuple (vs : List AV)
  | any

instance : Inhabited AV := ⟨.tuple []⟩

/-- Where an abstract block lies: block, first cell, spare elements behind it. -/
structure Pl where
  b : Nat
  o : Nat
  x : Nat

def Ext (m m' : List (Option Pl)) : Prop := ∀ (k : Nat) (p : Option Pl), m[k]? = some p → m'[k]? = some p
/-- The same of what has a place alone. -/
def WExt (m m' : List (Option Pl)) : Prop := ∀ (k : Nat) (p : Pl), m[k]? = some (some p) → m'[k]? = some (some p)
theorem Ext.weak {m m' : List (Option Pl)} (h : Ext m m') : WExt m m' := fun k p hp => h k _ hp
theorem Ext.refl (m : List (Option Pl)) : Ext m m := fun _ _ h => h
theorem Ext.trans {a b c : List (Option Pl)} (h : Ext a b) (k : Ext b c) : Ext a c := fun i p hp => k i p (h i p hp)
theorem Ext.append (m l : List (Option Pl)) : Ext m (m ++ l) := fun k p h => by
  have : k < m.length := (List.getElem?_eq_some_iff.1 h).1
  rw [List.getElem?_append_left this]; exact h

inductive VRel (m : List (Option Pl)) : AV → Value → Prop where
  | bool (b : Bool) : VRel m (.bool b) (.bool b)
  | int (k : IntKind) (n : Int) : VRel m (.int k n) (.int k n)
  | str (s : List UInt8) : VRel m (.str s) (.string ⟨s.toArray⟩)
  | ptrNil : VRel m (.ptr none) (.pointer none)
  | ptr {k o : Nat} {p : Pl} (h : m[k]? = some (some p)) : VRel m (.ptr (some (k, o))) (.pointer (some ⟨p.b, p.o + o, none⟩))
  | slcNil (n c : Nat) (e : Bool) : VRel m (.slc none n c e) (.slice none n c)
  | slc {k o : Nat} {p : Pl} (n c : Nat) (e : Bool) (h : m[k]? = some (some p)) : VRel m (.slc (some (k, o)) n c e) (.slice (some ⟨p.b, p.o + o, none⟩) n (if e then c else c + p.x))
  | slcEmpty (k o : Nat) (e : Bool) (ad : Option Addr) : VRel m (.slc (some (k, o)) 0 0 e) (.slice ad 0 0)
  | mapNil : VRel m (.map none) (.map none)
  | map {k : Nat} {p : Pl} (h : m[k]? = some (some p)) : VRel m (.map (some k)) (.map (some p.b))
  | func (fn : Fn) {xs ys : List AV} {us vs : Array Value} (h1 : xs.length = us.size) (h2 : ∀ (i : Nat) (x : AV) (u : Value), xs[i]? = some x → us[i]? = some u → VRel m x u)
      (h3 : ys.length = vs.size) (h4 : ∀ (i : Nat) (x : AV) (u : Value), ys[i]? = some x → vs[i]? = some u → VRel m x u) : VRel m (.func fn xs ys) (.func fn us vs)
  | nilFunc : VRel m .nilFunc .nilFunc
  | yld {k : Nat} {p : Pl} (h : m[k]? = some (some p)) : VRel m (.yld k) (.func (.yield p.b) #[] #[])
  | iface (t : TypeId) {v : AV} {u : Value} (h : VRel m v u) : VRel m (.iface t v) (.iface t u)
  | nilIface : VRel m .nilIface .nilIface
  | agg {xs : List AV} {us : Array Value} (h1 : xs.length = us.size) (h2 : ∀ (i : Nat) (x : AV) (u : Value), xs[i]? = some x → us[i]? = some u → VRel m x u) : VRel m (.agg xs) (.agg us)
  | tuple {xs : List AV} {us : Array Value} (h1 : xs.length = us.size) (h2 : ∀ (i : Nat) (x : AV) (u : Value), xs[i]? = some x → us[i]? = some u → VRel m x u) : VRel m (.tuple xs) (.tuple us)
  | any {u : Value} : VRel m .any u

theorem VRel.wext {m m' : List (Option Pl)} (he : WExt m m') {v : AV} {u : Value} (h : VRel m v u) : VRel m' v u := by
  induction h with
  | bool b => exact .bool b
  | int k n => exact .int k n
  | str s => exact .str s
  | ptrNil => exact .ptrNil
  | ptr h => exact .ptr (he _ _ h)
  | slcNil n c e => exact .slcNil n c e
  | slc n c e h => exact .slc n c e (he _ _ h)
  | slcEmpty k o e ad => exact .slcEmpty k o e ad
  | mapNil => exact .mapNil
  | map h => exact .map (he _ _ h)
  | func fn h1 h2 h3 h4 i2 i4 => exact .func fn h1 i2 h3 i4
  | nilFunc => exact .nilFunc
  | yld h => exact .yld (he _ _ h)
  | iface t h ih => exact .iface t ih
  | nilIface => exact .nilIface
  | agg h1 h2 i2 => exact .agg h1 i2
  | tuple h1 h2 i2 => exact .tuple h1 i2
  | any => exact .any

theorem VRel.ext {m m' : List (Option Pl)} (he : Ext m m') {v : AV} {u : Value} (h : VRel m v u) : VRel m' v u := h.wext he.weak

/-- Lists of values, and a frame's slots. -/
def VsRel (m : List (Option Pl)) (xs : List AV) (us : Array Value) : Prop :=
  xs.length = us.size ∧ ∀ (i : Nat) (x : AV) (u : Value), xs[i]? = some x → us[i]? = some u → VRel m x u

theorem VsRel.ext {m m' : List (Option Pl)} (he : Ext m m') {xs : List AV} {us : Array Value} (h : VsRel m xs us) : VsRel m' xs us :=
  ⟨h.1, fun i x u hx hu => (h.2 i x u hx hu).ext he⟩
theorem VsRel.wext {m m' : List (Option Pl)} (he : WExt m m') {xs : List AV} {us : Array Value} (h : VsRel m xs us) : VsRel m' xs us :=
  ⟨h.1, fun i x u hx hu => (h.2 i x u hx hu).wext he⟩
theorem VsRel.nil (m : List (Option Pl)) : VsRel m [] #[] := ⟨rfl, fun i x u hx hu => by simp at hx⟩
theorem VsRel.get {m : List (Option Pl)} {xs : List AV} {us : Array Value} (h : VsRel m xs us) {i : Nat} {x : AV} (hx : xs[i]? = some x) : ∃ u, us[i]? = some u ∧ VRel m x u := by
  have hi : i < xs.length := (List.getElem?_eq_some_iff.1 hx).1
  have hu : i < us.size := h.1 ▸ hi
  exact ⟨us[i], by simp [hu], h.2 i x _ hx (by simp [hu])⟩
theorem VsRel.push {m : List (Option Pl)} {xs : List AV} {us : Array Value} (h : VsRel m xs us) {x : AV} {u : Value} (hx : VRel m x u) : VsRel m (xs ++ [x]) (us.push u) := by
  refine ⟨by simp [h.1], fun i y v hy hv => ?_⟩
  rw [Array.getElem?_push] at hv
  by_cases hi : i < xs.length
  · rw [List.getElem?_append_left hi] at hy
    rw [if_neg (by have := h.1; omega)] at hv
    exact h.2 i y v hy hv
  · rw [List.getElem?_append_right (by omega)] at hy
    have : i - xs.length = 0 := by
      rcases Nat.eq_zero_or_pos (i - xs.length) with h0 | h0
      · exact h0
      · rw [List.getElem?_eq_none (by simp; omega)] at hy; cases hy
    have hi' : i = us.size := by have := h.1; omega
    rw [if_pos hi'] at hv
    rw [this] at hy
    simp at hy hv
    subst hy hv
    exact hx
theorem VsRel.append {m : List (Option Pl)} {xs ys : List AV} {us vs : Array Value} (h : VsRel m xs us) (k : VsRel m ys vs) : VsRel m (xs ++ ys) (us ++ vs) := by
  refine ⟨by simp [h.1, k.1], fun i y v hy hv => ?_⟩
  have hl := h.1
  by_cases hi : i < xs.length
  · rw [List.getElem?_append_left hi] at hy
    rw [Array.getElem?_append_left (by omega)] at hv
    exact h.2 i y v hy hv
  · rw [List.getElem?_append_right (by omega)] at hy
    rw [Array.getElem?_append_right (by omega)] at hv
    rw [← hl] at hv
    exact k.2 _ y v hy hv
theorem VsRel.set {m : List (Option Pl)} {xs : List AV} {us : Array Value} (h : VsRel m xs us) (d : Nat) {x : AV} {u : Value} (hx : VRel m x u) : VsRel m (xs.set d x) (us.setIfInBounds d u) := by
  refine ⟨by simp [h.1], fun i y v hy hv => ?_⟩
  rw [List.getElem?_set] at hy
  rw [Array.getElem?_setIfInBounds] at hv
  have hl := h.1
  by_cases hd : d = i
  · subst hd
    by_cases hlt : d < xs.length
    · rw [if_pos rfl, if_pos hlt] at hy
      rw [if_pos rfl, if_pos (by omega)] at hv
      simp at hy hv; subst hy hv; exact hx
    · rw [if_pos rfl, if_neg hlt] at hy; cases hy
  · rw [if_neg hd] at hy hv
    exact h.2 i y v hy hv
theorem VsRel.replicate (m : List (Option Pl)) {x : AV} {u : Value} (hx : VRel m x u) (n : Nat) : VsRel m (List.replicate n x) (Array.replicate n u) := by
  refine ⟨by simp, fun i y v hy hv => ?_⟩
  rw [List.getElem?_replicate] at hy
  rw [Array.getElem?_replicate] at hv
  split at hy
  · simp at hy
    split at hv
    · simp at hv; subst hy hv; exact hx
    · omega
  · cases hy

def aundef : AV := .tuple []
theorem VRel.undef (m : List (Option Pl)) : VRel m aundef undef := .tuple rfl (fun i x u hx hu => by simp at hx)

/-- An abstract block. -/
inductive AO where
  | row (cs : List AV) (e : TypeId) (wr : Bool)
  | dead
  | map (es : List (AV × AV)) (bs : List Nat) (ck : Nat)
  | iter (s : List UInt8) (pos : Nat)
  | miter (mp : AV) (since : Nat) (seen : List Nat) (last : Nat)
  | loop (st : LoopState) (pend : Option Code) (t : List AV) (ps : Array Tmp) (asg body : Code)

def AO.mut : AO → Bool
  | .row _ _ wr => wr
  | .dead => false
  | _ => true

def AO.live : AO → Bool
  | .dead => false
  | _ => true

section
variable (P : Program) (w0 : World)

def ORel (m : List (Option Pl)) (w : World) (p : Pl) : AO → Prop
  | .row cs e wr => ∃ cc fr, w.heap[p.b]? = some (.cells cc e fr) ∧ (∀ (i : Nat) (v : AV), cs[i]? = some v → ∃ u, cc[p.o + i]? = some u ∧ VRel m v u) ∧
      (wr = true → w0.heap.size ≤ p.b ∧ (∀ i, i < cc.size → (decide (fr.1 ≤ i) && decide (i < fr.2)) = false) ∧ ∃ i, P.info? e = some i ∧ cc.size = p.o + cs.length + p.x * i.size ∧ cs.length + p.x * i.size ≤ maxLen * i.size ∧ p.o % i.size = 0)
  | .dead => True
  | .map es bs ck => w0.heap.size ≤ p.b ∧ ∃ ces, w.heap[p.b]? = some (.map ces ck) ∧ es.length = ces.size ∧
      (∀ (i : Nat) (x : AV × AV) (c : MapEntry), es[i]? = some x → ces[i]? = some c → VRel m x.1 c.key ∧ VRel m x.2 c.val) ∧ ces.toList.map (·.born) = bs
  | .iter s pos => w0.heap.size ≤ p.b ∧ p.o = 0 ∧ w.heap[p.b]? = some (.stringIter ⟨s.toArray⟩ pos)
  | .miter mp since seen last => w0.heap.size ≤ p.b ∧ p.o = 0 ∧ ∃ mv, VRel m mp (.map mv) ∧ w.heap[p.b]? = some (.mapIter mv since seen.toArray last)
  | .loop st pend t ps asg body => w0.heap.size ≤ p.b ∧ ∃ (f : FuncId) (tm : Array Value) (D : Nat), VsRel m t tm ∧ w.heap[p.b]? = some (.loop { state := st, pending := pend, fn := f, tmps := tm, params := ps, assign := asg, body := body, defers := D })

structure Rel (m : List (Option Pl)) (A : List AO) (w : World) : Prop where
  len : m.length = A.length
  below : Below w0.heap.size w0 w
  obj : ∀ (k : Nat) (o : AO) (p : Pl), A[k]? = some o → m[k]? = some (some p) → ORel P w0 m w p o
  inj : ∀ (k k' : Nat) (o o' : AO) (p p' : Pl), k ≠ k' → A[k]? = some o → A[k']? = some o' → o.mut = true → o'.live = true → m[k]? = some (some p) → m[k']? = some (some p') → p.b ≠ p'.b

theorem Rel.base {m : List (Option Pl)} {A : List AO} {w : World} (h : Rel P w0 m A w) : w0.heap.size ≤ w.heap.size := h.below.size

theorem Rel.nil : Rel P w0 [] [] w0 := ⟨rfl, Below.refl _ _, fun k o p h => by simp at h, fun k k' o o' p p' _ h => by simp at h⟩

theorem ORel.ext {m m' : List (Option Pl)} (he : WExt m m') {w : World} {p : Pl} {o : AO} (h : ORel P w0 m w p o) : ORel P w0 m' w p o := by
  cases o with
  | row cs e wr =>
    obtain ⟨cc, fr, h1, h2, h3⟩ := h
    exact ⟨cc, fr, h1, fun i v hv => let ⟨u, hu, hr⟩ := h2 i v hv; ⟨u, hu, hr.wext he⟩, h3⟩
  | dead => trivial
  | map es bs ck =>
    obtain ⟨h0, ces, h1, h2, h3, h4⟩ := h
    exact ⟨h0, ces, h1, h2, fun i x c hx hc => ⟨(h3 i x c hx hc).1.wext he, (h3 i x c hx hc).2.wext he⟩, h4⟩
  | iter s pos => exact h
  | miter mp since seen last => obtain ⟨h0, h1, mv, h2, h3⟩ := h; exact ⟨h0, h1, mv, h2.wext he, h3⟩
  | loop st pend t ps asg body => obtain ⟨h0, f, tm, D, h1, h2⟩ := h; exact ⟨h0, f, tm, D, h1.wext he, h2⟩

/-- The block's object is as it was: so is what is told of it. -/
theorem ORel.same {m : List (Option Pl)} {w w' : World} {p : Pl} {o : AO} (h : ORel P w0 m w p o) (hb : w'.heap[p.b]? = w.heap[p.b]?) : ORel P w0 m w' p o := by
  cases o with
  | row cs e wr => obtain ⟨cc, fr, h1, h2, h3⟩ := h; exact ⟨cc, fr, hb ▸ h1, h2, h3⟩
  | dead => trivial
  | map es bs ck => obtain ⟨h0, ces, h1, h2⟩ := h; exact ⟨h0, ces, hb ▸ h1, h2⟩
  | iter s pos => exact ⟨h.1, h.2.1, hb ▸ h.2.2⟩
  | miter mp since seen last => obtain ⟨h0, h1, mv, h2, h3⟩ := h; exact ⟨h0, h1, mv, h2, hb ▸ h3⟩
  | loop st pend t ps asg body => obtain ⟨h0, f, tm, D, h1, h2⟩ := h; exact ⟨h0, f, tm, D, h1, hb ▸ h2⟩

theorem ORel.lt {m : List (Option Pl)} {w : World} {p : Pl} {o : AO} (h : ORel P w0 m w p o) (hl : o.live = true) : p.b < w.heap.size := by
  have key : ∀ x, w.heap[p.b]? = some x → p.b < w.heap.size := fun x hx => (Array.getElem?_eq_some_iff.1 hx).1
  cases o with
  | row cs e wr => obtain ⟨cc, fr, h1, _⟩ := h; exact key _ h1
  | dead => simp [AO.live] at hl
  | map es bs ck => obtain ⟨_, ces, h1, _⟩ := h; exact key _ h1
  | iter s pos => exact key _ h.2.2
  | miter mp since seen last => obtain ⟨_, _, mv, _, h3⟩ := h; exact key _ h3
  | loop st pend t ps asg body => obtain ⟨_, f, tm, D, _, h2⟩ := h; exact key _ h2

/-- A world that keeps every block: draws, and new blocks. -/
theorem Rel.grow {m : List (Option Pl)} {A : List AO} {w w' : World} (h : Rel P w0 m A w) (hb : Below w.heap.size w w') : Rel P w0 m A w' := by
  refine ⟨h.len, h.below.trans (hb.mono h.below.size), fun k o p hk hp => ?_, h.inj⟩
  have ho := h.obj k o p hk hp
  cases hl : o.live with
  | true => exact ho.same P w0 (hb.block _ (ho.lt P w0 hl))
  | false => cases o <;> first | trivial | simp [AO.live] at hl

theorem Rel.drew {m : List (Option Pl)} {A : List AO} {w : World} (h : Rel P w0 m A w) : Rel P w0 m A w.drew :=
  h.grow P w0 (Below.refl _ _).drew

/-- A new block. -/
theorem Rel.push {m : List (Option Pl)} {A : List AO} {w w' : World} (h : Rel P w0 m A w) (hb : Below w.heap.size w w') (p : Pl) (o : AO) (hp : w.heap.size ≤ p.b)
    (ho : ORel P w0 (m ++ [some p]) w' p o) : Rel P w0 (m ++ [some p]) (A ++ [o]) w' := by
  have hg := h.grow P w0 hb
  have hl := h.len
  refine ⟨by simp [hl], hg.below, fun k o' p' hk hp' => ?_, fun k k' o1 o2 p1 p2 hne h1 h2 hm hlv hp1 hp2 => ?_⟩
  · by_cases hlt : k < A.length
    · rw [List.getElem?_append_left hlt] at hk
      rw [List.getElem?_append_left (by omega)] at hp'
      exact (hg.obj k o' p' hk hp').ext P w0 (Ext.append _ _).weak
    · have hk0 : k = A.length := by
        have := (List.getElem?_eq_some_iff.1 hk).1; simp at this; omega
      subst hk0
      simp at hk
      rw [← hl] at hp'; simp at hp'
      subst hk hp'; exact ho
  · have get : ∀ {k : Nat} {o1 : AO} {p1 : Pl}, (A ++ [o])[k]? = some o1 → (m ++ [some p])[k]? = some (some p1) → (k < A.length ∧ A[k]? = some o1 ∧ m[k]? = some (some p1)) ∨ (k = A.length ∧ o1 = o ∧ p1 = p) := by
      intro k o1 p1 h1 h2
      by_cases hlt : k < A.length
      · rw [List.getElem?_append_left hlt] at h1
        rw [List.getElem?_append_left (by omega)] at h2
        exact .inl ⟨hlt, h1, h2⟩
      · have hk0 : k = A.length := by
          have := (List.getElem?_eq_some_iff.1 h1).1; simp at this; omega
        subst hk0
        simp at h1
        rw [← hl] at h2; simp at h2
        exact .inr ⟨rfl, h1.symm, h2.symm⟩
    rcases get h1 hp1 with ⟨l1, a1, b1⟩ | ⟨e1, rfl, rfl⟩
    · rcases get h2 hp2 with ⟨l2, a2, b2⟩ | ⟨e2, rfl, rfl⟩
      · exact h.inj k k' o1 o2 p1 p2 hne a1 a2 hm hlv b1 b2
      · have hlive : o1.live = true := by cases o1 <;> simp_all [AO.mut, AO.live]
        have := (h.obj k o1 p1 a1 b1).lt P w0 hlive
        omega
    · rcases get h2 hp2 with ⟨l2, a2, b2⟩ | ⟨e2, rfl, rfl⟩
      · have := (h.obj k' o2 p2 a2 b2).lt P w0 hlv
        omega
      · exact absurd (e1.trans e2.symm) hne
end
end Go.Am
