/- A part of the proof: Am4. -/
import Derived.Test.YthipnddfplbamaaDoorAm3
import Derived.LaidEql
import Derived.ChangeKeysEq
import Derived.MapKept
import Derived.Laws.StructEq
set_option linter.unusedVariables false
set_option linter.unusedSimpArgs false
namespace Go.Am
open Go.RowKit

section
variable {P : Program} {w0 : World} {m : List (Option Pl)} {A : List AO} {w : World} {t : List AV} {a : Act}

/-! ### Parts of values -/
def apart (P : Program) (ty : TypeId) (cs : List AV) (off : Nat) : Option AV :=
  match aisAgg P ty with
  | some true => match asize P ty with
    | some n => if off + n ≤ cs.length then some (.agg ((cs.drop off).take n)) else none
    | none => none
  | some false => cs[off]?
  | none => none

theorem VsRel.slice {xs : List AV} {us : Array Value} (h : VsRel m xs us) (o n : Nat) : VsRel m ((xs.drop o).take n) (us.extract o (o + n)) := by
  refine ⟨by simp [← h.1]; omega, fun i x u hx hu => ?_⟩
  rw [List.getElem?_take] at hx
  split at hx
  · rename_i hi
    rw [List.getElem?_drop] at hx
    rw [Array.getElem?_extract] at hu
    split at hu
    · exact h.2 _ x u hx hu
    · cases hu
  · cases hx

theorem apart_rel {ty : TypeId} {cs : List AV} {us : Array Value} (h : VsRel m cs us) {off : Nat} {v : AV} (hv : apart P ty cs off = some v) : ∃ u, (part ty us off).run P w = .ok u w ∧ VRel m v u := by
  unfold apart at hv
  split at hv
  · rename_i hagg
    split at hv
    · rename_i n hn
      split at hv
      · rename_i hle
        simp at hv; subst hv
        refine ⟨.agg (us.extract off (off + n)), ?_, ?_⟩
        · simp [part, aisAgg_run hagg, asize_run hn]
        · exact .agg (h.slice off n).1 (h.slice off n).2
      · cases hv
    · cases hv
  · rename_i hagg
    obtain ⟨u, hu, hr⟩ := h.get hv
    exact ⟨u, by simp [part, aisAgg_run hagg, hu], hr⟩
  · cases hv

/-! ### Equality of plain values -/
def aeqFields (P : Program) (f : TypeId → AV → AV → Option Bool) : List Field → List AV → List AV → Option Bool
  | [], _, _ => some true
  | g :: r, xs, ys => if g.name ≠ "_" then
      match apart P g.type xs g.offset, apart P g.type ys g.offset with
      | some x, some y => match f g.type x y with
        | some true => aeqFields P f r xs ys
        | some false => some false
        | none => none
      | _, _ => none
    else aeqFields P f r xs ys
def aeqItems (P : Program) (f : TypeId → AV → AV → Option Bool) (e : TypeId) (n : Nat) : List Nat → List AV → List AV → Option Bool
  | [], _, _ => some true
  | i :: r, xs, ys =>
      match apart P e xs (i * n), apart P e ys (i * n) with
      | some x, some y => match f e x y with
        | some true => aeqItems P f e n r xs ys
        | some false => some false
        | none => none
      | _, _ => none
def aeqIn (P : Program) : Nat → TypeId → AV → AV → Option Bool
  | 0, _, _, _ => none
  | d + 1, t, x, y =>
    match P.underlying t, x, y with
    | some .bool, .bool a, .bool b => some (a == b)
    | some (.int _), .int k a, .int k' b => if k = k' then some (a == b) else none
    | some .string, .str a, .str b => some (a == b)
    | some (.struct fs), .agg xs, .agg ys => if P.stoodInHeld t then none else aeqFields P (aeqIn P d) fs.toList xs ys
    | some (.array len e), .agg xs, .agg ys => match P.info? e with
      | some i => aeqItems P (aeqIn P d) e i.size (List.range len) xs ys
      | none => none
    | some (.pointer _), .ptr none, .ptr b => some b.isNone
    | some (.pointer e), .ptr (some (k, o)), .ptr (some (k', o')) => if k = k' ∧ o = o' ∧ asize P e ≠ some 0 ∧ (asize P e).isSome = true then some true else none
    | some (.pointer _), .ptr (some _), .ptr none => some false
    | some (.slice _), .slc none _ _ _, .slc none _ _ _ => some true
    | some (.slice _), .slc none _ _ _, .slc (some _) _ c _ => if c = 0 then none else some false
    | some (.slice _), .slc (some _) _ c _, .slc none _ _ _ => if c = 0 then none else some false
    | some (.map _ _), .map none, .map b => some b.isNone
    | some (.map _ _), .map (some _), .map none => some false
    | some (.func _ _ _), .nilFunc, .nilFunc => some true
    | some (.func _ _ _), .nilFunc, .func _ _ _ => some false
    | some (.func _ _ _), .func _ _ _, .nilFunc => some false
    | some (.interface _), .nilIface, .nilIface => some true
    | some (.interface _), .nilIface, .iface _ _ => some false
    | some (.interface _), .iface _ _, .nilIface => some false
    | _, _, _ => none

theorem bytes_eq (a b : List UInt8) : ((⟨a.toArray⟩ : ByteArray) == ⟨b.toArray⟩) = (a == b) := by
  show ((a.toArray : Array UInt8) == b.toArray) = (a == b)
  rw [Bool.eq_iff_iff]
  simp

theorem aeqFields_run {f : TypeId → AV → AV → Option Bool} {d : Nat} (ih : ∀ t x y u v b, f t x y = some b → VRel m x u → VRel m y v → (Op.equalIn d t u v).run P w = .ok b w) :
    ∀ (fs : List Field) (xs ys : List AV) (us vs : Array Value) (b : Bool), VsRel m xs us → VsRel m ys vs → aeqFields P f fs xs ys = some b → (Op.eqFields d us vs fs).run P w = .ok b w := by
  intro fs
  induction fs with
  | nil => intro xs ys us vs b _ _ h; simp [aeqFields] at h; subst h; simp [Op.eqFields]
  | cons g r ihr =>
    intro xs ys us vs b hx hy h
    simp only [aeqFields] at h
    simp only [Op.eqFields]
    split at h
    · rename_i hne
      split at h
      · rename_i x y px py
        obtain ⟨u, hu, hxu⟩ := apart_rel (P := P) (w := w) hx px
        obtain ⟨v, hv, hyv⟩ := apart_rel (P := P) (w := w) hy py
        split at h <;> rename_i hf
        · have := ih _ _ _ _ _ _ hf hxu hyv
          simp [hne, hu, hv, this, ihr _ _ _ _ _ hx hy h]
        · have := ih _ _ _ _ _ _ hf hxu hyv
          simp at h; subst h
          simp [hne, hu, hv, this]
        · cases h
      · cases h
    · rename_i hne
      simp [hne, ihr _ _ _ _ _ hx hy h]

theorem aeqItems_run {f : TypeId → AV → AV → Option Bool} {d : Nat} (ih : ∀ t x y u v b, f t x y = some b → VRel m x u → VRel m y v → (Op.equalIn d t u v).run P w = .ok b w) (e : TypeId) (n : Nat) :
    ∀ (is : List Nat) (xs ys : List AV) (us vs : Array Value) (b : Bool), VsRel m xs us → VsRel m ys vs → aeqItems P f e n is xs ys = some b → (Op.eqItems d e n us vs is).run P w = .ok b w := by
  intro is
  induction is with
  | nil => intro xs ys us vs b _ _ h; simp [aeqItems] at h; subst h; simp [Op.eqItems]
  | cons g r ihr =>
    intro xs ys us vs b hx hy h
    simp only [aeqItems] at h
    simp only [Op.eqItems]
    split at h
    · rename_i x y px py
      obtain ⟨u, hu, hxu⟩ := apart_rel (P := P) (w := w) hx px
      obtain ⟨v, hv, hyv⟩ := apart_rel (P := P) (w := w) hy py
      split at h <;> rename_i hf
      · have := ih _ _ _ _ _ _ hf hxu hyv
        simp [hu, hv, this, ihr _ _ _ _ _ hx hy h]
      · have := ih _ _ _ _ _ _ hf hxu hyv
        simp at h; subst h
        simp [hu, hv, this]
      · cases h
    · cases h

theorem fieldsOf_eq {t : TypeId} {fs : Array Field} (h : P.underlying t = some (.struct fs)) : P.fieldsOf t = fs := by
  simp [Program.fieldsOf, h]

set_option maxHeartbeats 2000000 in
theorem aeqIn_run (hg : ∀ f : Field, True := fun _ => trivial) : ∀ (d D : Nat), d ≤ D → ∀ (t : TypeId) (x y : AV) (u v : Value) (b : Bool), aeqIn P d t x y = some b → VRel m x u → VRel m y v → (Op.equalIn D t u v).run P w = .ok b w := by
  intro d
  induction d with
  | zero => intro D _ t x y u v b h; simp [aeqIn] at h
  | succ d ih =>
    intro D hD t x y u v b h hx hy
    obtain ⟨D, rfl⟩ : ∃ j, D = j + 1 := ⟨D - 1, by omega⟩
    unfold aeqIn at h
    split at h
    all_goals rename_i hu
    · cases hx; cases hy; simp at h; subst h; simp [Op.equalIn, run_underlying hu]
    · split at h
      · cases hx; cases hy; rename_i hk; simp at h; subst h; simp [Op.equalIn, run_underlying hu, hk]
      · cases h
    · cases hx; cases hy; simp only [Option.some.injEq] at h; subst h; simp only [Op.equalIn, Sem.run_bind, run_underlying hu, Result.andThen_ok, Sem.run_pure, bytes_eq]
    · split at h
      · cases h
      · rename_i hs
        cases hx with
        | agg h1 h2 =>
          cases hy with
          | agg h3 h4 =>
            rw [run_equalIn_struct w D t _ _ (by rw [fieldsOf_eq hu]; exact hu) (by simpa using hs), fieldsOf_eq hu]
            exact aeqFields_run (ih D (by omega)) _ _ _ _ _ _ ⟨h1, h2⟩ ⟨h3, h4⟩ h
    · rename_i e' _ _
      split at h
      · rename_i i hi
        cases hx with
        | agg h1 h2 =>
          cases hy with
          | agg h3 h4 =>
            rw [run_equalIn_array w D _ _ hu hi]
            have hc : P.cellsOf e' = i.size := by simp only [Program.cellsOf, hi]; rfl
            rw [hc]
            exact aeqItems_run (ih D (by omega)) _ _ _ _ _ _ _ _ ⟨h1, h2⟩ ⟨h3, h4⟩ h
      · cases h
    · cases hx; simp at h; subst h; cases hy <;> simp [Op.equalIn, run_underlying hu]
    · rename_i e' k o k' o'
      split at h
      · rename_i hc
        obtain ⟨rfl, rfl, hc1, hc2⟩ := hc
        obtain ⟨n, hn⟩ := Option.isSome_iff_exists.1 hc2
        simp at h; subst h
        cases hx with
        | ptr hp =>
          cases hy with
          | ptr hq =>
            obtain rfl := Option.some.inj (Option.some.inj (hp.symm.trans hq))
            have hn0 : n ≠ 0 := fun e => hc1 (by rw [hn, e])
            simp [Op.equalIn, run_underlying hu, asize_run hn, hn0, run_sameAddr_same]
      · cases h
    · simp at h; subst h; cases hx; cases hy; simp [Op.equalIn, run_underlying hu]
    · simp at h; subst h; cases hx; cases hy; simp [Op.equalIn, run_underlying hu]
    · split at h
      · cases h
      · rename_i hc
        simp at h; subst h
        cases hx
        cases hy with
        | slc _ _ _ hp => simp [Op.equalIn, run_underlying hu]
        | slcEmpty => exact absurd rfl hc
    · split at h
      · cases h
      · rename_i hc
        simp at h; subst h
        cases hy
        cases hx with
        | slc _ _ _ hp => simp [Op.equalIn, run_underlying hu]
        | slcEmpty => exact absurd rfl hc
    · cases hx; simp at h; subst h; cases hy <;> simp [Op.equalIn, run_underlying hu]
    · simp at h; subst h; cases hx; cases hy; simp [Op.equalIn, run_underlying hu]
    · simp at h; subst h; cases hx; cases hy; simp [Op.equalIn, run_underlying hu]
    · simp at h; subst h; cases hx; cases hy; simp [Op.equalIn, run_underlying hu]
    · simp at h; subst h; cases hx; cases hy; simp [Op.equalIn, run_underlying hu]
    · simp at h; subst h; cases hx; cases hy; simp [Op.equalIn, run_underlying hu]
    · simp at h; subst h; cases hx; cases hy; simp [Op.equalIn, run_underlying hu]
    · simp at h; subst h; cases hx; cases hy; simp [Op.equalIn, run_underlying hu]
    · cases h
end
end Go.Am
