/- A part of the proof: Am5. -/
import Derived.Test.YthipnddfplbamaaDoorAm4
import Derived.Laws.Strings
set_option linter.unusedVariables false
set_option linter.unusedSimpArgs false
namespace Go.Am
open Go.RowKit

section
variable {P : Program} {w0 : World} {m : List (Option Pl)} {A : List AO} {w : World} {t : List AV} {a : Act}

/-- Sem code that only computes. -/
def seval {α : Type} (P : Program) : Sem α → Option α
  | .pure a => some a
  | .program k => seval P (k P)
  | .mark _ k => seval P k
  | _ => none
theorem seval_run {α : Type} {s : Sem α} {v : α} (h : seval P s = some v) : s.run P w = .ok v w := by
  induction s with
  | pure a => simp [seval] at h; subst h; rfl
  | program k ih => simp only [seval] at h; simp only [Sem.run]; exact ih _ h
  | mark mk k ih => simp only [seval] at h; simp only [Sem.run]; exact ih h
  | _ => simp [seval] at h

def toBytes (l : List UInt8) : ByteArray := ⟨l.toArray⟩

def astr (op : BinOp) (x y : List UInt8) : Option AV :=
  match op with
  | .add => if x.length + y.length ≤ 9223372036854775807 then some (.str (x ++ y)) else none
  | .eql => some (.bool (x == y))
  | .neq => some (.bool (!(x == y)))
  | .lss => some (.bool (Op.bytesLess x y))
  | .leq => some (.bool (Op.bytesLess x y || x == y))
  | .gtr => some (.bool (!(Op.bytesLess x y || x == y)))
  | .geq => some (.bool (!(Op.bytesLess x y)))
  | _ => none

def aint (op : BinOp) (k : IntKind) (x y : Int) : Option AV :=
  match op with
  | .add => some (.int k (k.wrap (x + y)))
  | .sub => some (.int k (k.wrap (x - y)))
  | .mul => some (.int k (k.wrap (x * y)))
  | .quo => if y = 0 then none else some (.int k (k.wrap (x.tdiv y)))
  | .rem => if y = 0 then none else some (.int k (x.tmod y))
  | .and => some (.int k (k.wrap (BitVec.ofInt k.bits x &&& BitVec.ofInt k.bits y).toNat))
  | .or => some (.int k (k.wrap (BitVec.ofInt k.bits x ||| BitVec.ofInt k.bits y).toNat))
  | .xor => some (.int k (k.wrap (BitVec.ofInt k.bits x ^^^ BitVec.ofInt k.bits y).toNat))
  | .andNot => some (.int k (k.wrap (BitVec.ofInt k.bits x &&& ~~~ (BitVec.ofInt k.bits y)).toNat))
  | .eql => some (.bool (x == y))
  | .neq => some (.bool (x != y))
  | .lss => some (.bool (x < y))
  | .leq => some (.bool (x ≤ y))
  | .gtr => some (.bool (x > y))
  | .geq => some (.bool (x ≥ y))
  | _ => none

def ashift (op : BinOp) (k : IntKind) (x y : Int) : Option AV :=
  if y < 0 then none else
  match op with
  | .shl => some (.int k (k.wrap (x * 2 ^ (min y.toNat k.bits))))
  | .shr => some (.int k (x.fdiv (2 ^ (min y.toNat k.bits))))
  | _ => none

def isConstOp : Operand → Bool
  | .const _ => true
  | _ => false

def aguard (P : Program) (ty : TypeId) (cx cy : Bool) (x y : AV) : Bool :=
  match x, y with
  | .nilIface, .nilIface => cx || cy
  | .agg _, .agg _ => !(P.eqGuardType P.depth ty)
  | .any, _ => false
  | _, .any => false
  | _, _ => true

def abin (P : Program) (op : BinOp) (ty : TypeId) (cx cy : Bool) (x y : AV) : Option AV :=
  match x, y with
  | .int k a, .int k' b =>
    match op with
    | .shl | .shr => ashift op k a b
    | _ => if k = k' then aint op k a b else none
  | .str a, .str b => astr op a b
  | x, y =>
    match op with
    | .eql => if aguard P ty cx cy x y then (aeqIn P 64 ty x y).map .bool else none
    | .neq => if aguard P ty cx cy x y then (aeqIn P 64 ty x y).map fun b => .bool (!b) else none
    | _ => none

theorem toList_bytes (l : List UInt8) : (⟨l.toArray⟩ : ByteArray).toList = l := by
  rw [Go.ByteArray.toList_eq]

theorem abin_rel {op : BinOp} {ty yt : TypeId} {ox oy : Operand} {x y v : AV} (h : abin P op ty (isConstOp ox) (isConstOp oy) x y = some v) {u u' : Value} (hx : VRel m x u) (hy : VRel m y u') :
    ∃ r, (do eqGuard op ty ox oy u u'; binOp op ty u u' : Sem Value).run P w = .ok r w ∧ VRel m v r := by
  have gint : ∀ k n k' n', (eqGuard op ty ox oy (.int k n) (.int k' n')).run P w = .ok () w := fun k n k' n' => by cases op <;> simp [eqGuard]
  have gstr : ∀ s s', (eqGuard op ty ox oy (.string s) (.string s')).run P w = .ok () w := fun s s' => by cases op <;> simp [eqGuard]
  have geql : ∀ x y, (op = .eql ∨ op = .neq) → aguard P ty (isConstOp ox) (isConstOp oy) x y = true → VRel m x u → VRel m y u' → (eqGuard op ty ox oy u u').run P w = .ok () w := by
    intro x y ho hg h1 h2
    have hc : ∀ o : Operand, isConstOp o = (o matches .const _) := fun o => by cases o <;> rfl
    rcases ho with rfl | rfl <;> cases h1 <;> cases h2 <;> simp [aguard] at hg <;> first
      | (simp [eqGuard, hg]; done)
      | (cases ox <;> cases oy <;> simp_all [eqGuard, isConstOp])
  unfold abin at h
  split at h
  · cases hx; cases hy
    rename_i k a k' b
    simp only [Sem.run_bind, gint, Result.andThen_ok]
    split at h
    · unfold ashift at h
      split at h
      · cases h
      · rename_i hlt
        simp at h; subst h
        exact ⟨_, by simp [binOp, Op.shift, hlt], .int _ _⟩
    · unfold ashift at h
      split at h
      · cases h
      · rename_i hlt
        simp at h; subst h
        exact ⟨_, by simp [binOp, Op.shift, hlt], .int _ _⟩
    · rename_i n1 n2
      split at h
      · rename_i hk
        subst hk
        cases op <;> simp only [aint] at h <;> first
          | (cases h; done)
          | (exact absurd rfl n1)
          | (exact absurd rfl n2)
          | (simp only [Option.some.injEq] at h; subst h; refine ⟨_, ?_, by constructor⟩; simp [binOp, Op.intArith, Op.intDiv, Op.intBits, Op.intCmp]; done)
          | (split at h
             · cases h
             · rename_i hz; simp only [Option.some.injEq] at h; subst h; refine ⟨_, ?_, by constructor⟩; simp [binOp, Op.intDiv, hz]; done)
      · cases h
  · cases hx; cases hy
    rename_i a b
    simp only [Sem.run_bind, gstr, Result.andThen_ok]
    have ht := toList_bytes a
    have ht' := toList_bytes b
    cases op <;> simp only [astr] at h <;> first
      | (cases h; done)
      | (simp only [Option.some.injEq] at h; subst h; exact ⟨_, by simp only [binOp, Op.stringOp, ht, ht']; rfl, by first | constructor | (simp only [Bool.or_comm]; constructor)⟩)
      | (split at h
         · rename_i hz
           simp only [Option.some.injEq] at h; subst h
           refine ⟨.string ⟨(a ++ b).toArray⟩, ?_, .str _⟩
           have e1 : (⟨a.toArray⟩ : ByteArray) ++ ⟨b.toArray⟩ = ⟨(a ++ b).toArray⟩ := by
             apply ByteArray.ext; simp
           have e2 : ¬ (((⟨a.toArray⟩ : ByteArray).size + (⟨b.toArray⟩ : ByteArray).size : Nat) : Int) > IntKind.i64.max := by
             show ¬ ((a.toArray.size + b.toArray.size : Nat) : Int) > 9223372036854775807
             simp; omega
           simp only [binOp, Op.stringOp, e2, if_false, e1]; rfl
         · cases h)
  · split at h
    · split at h
      · rename_i hg
        obtain ⟨b, hb, rfl⟩ := Option.map_eq_some_iff.1 h
        have he := aeqIn_run (P := P) (w := w) (m := m) (fun _ => trivial) 64 10000 (by omega) ty _ _ _ _ b hb hx hy
        refine ⟨.bool b, ?_, .bool b⟩
        simp only [Sem.run_bind, geql _ _ (.inl rfl) hg hx hy, Result.andThen_ok]
        have hbin : binOp .eql ty u u' = (do pure (.bool (← Op.equal ty u u')) : Sem Value) := by
          cases hx <;> cases hy <;> first | rfl | (simp [aguard] at hg; done) | (rename_i q1 q2 _ _ ; exact (q1 _ _ _ _ rfl rfl).elim) | (rename_i q1 q2; exact (q1 _ _ _ _ rfl rfl).elim) | (rename_i q1 q2; exact (q2 _ _ rfl rfl).elim)
        rw [hbin]
        simp [Op.equal, Op.maxDepth, he]
      · cases h
    · split at h
      · rename_i hg
        obtain ⟨b, hb, rfl⟩ := Option.map_eq_some_iff.1 h
        have he := aeqIn_run (P := P) (w := w) (m := m) (fun _ => trivial) 64 10000 (by omega) ty _ _ _ _ b hb hx hy
        refine ⟨.bool (!b), ?_, .bool (!b)⟩
        simp only [Sem.run_bind, geql _ _ (.inr rfl) hg hx hy, Result.andThen_ok]
        have hbin : binOp .neq ty u u' = (do pure (.bool (!(← Op.equal ty u u'))) : Sem Value) := by
          cases hx <;> cases hy <;> first | rfl | (simp [aguard] at hg; done) | (rename_i q1 q2 _ _ ; exact (q1 _ _ _ _ rfl rfl).elim) | (rename_i q1 q2; exact (q1 _ _ _ _ rfl rfl).elim) | (rename_i q1 q2; exact (q2 _ _ rfl rfl).elim)
        rw [hbin]
        simp [Op.equal, Op.maxDepth, he]
      · cases h
    · cases h
end
end Go.Am
