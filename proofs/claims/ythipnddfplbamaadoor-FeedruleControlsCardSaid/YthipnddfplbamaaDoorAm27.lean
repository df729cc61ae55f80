/- A part of the proof: Am27. -/
import Derived.Test.YthipnddfplbamaaDoorAm26
set_option linter.unusedVariables false
set_option linter.unusedSimpArgs false
namespace Go.Am
open Go.RowKit

/-! ### Forgetting -/
def fgt (_ : AV) : AV := .any
theorem VRel.fgt {m : List (Option Pl)} {v : AV} {u : Value} (h : VRel m v u) : VRel m (fgt v) u := .any

/-- t tells no more than t2 does. -/
def lessOf (t2 t : List AV) : Prop := t2.length = t.length ∧ ∀ (i : Nat) (x y : AV), t2[i]? = some x → t[i]? = some y → y = x ∨ y = fgt x
theorem lessOf.vs {m : List (Option Pl)} {t2 t : List AV} {us : Array Value} (h : lessOf t2 t) (hv : VsRel m t2 us) : VsRel m t us := by
  refine ⟨h.1 ▸ hv.1, fun i y u hy hu => ?_⟩
  have hi : i < t2.length := by rw [h.1]; exact (List.getElem?_eq_some_iff.1 hy).1
  have hx : t2[i]? = some t2[i] := List.getElem?_eq_getElem hi
  have hr := hv.2 i _ u hx hu
  rcases h.2 i _ y hx hy with rfl | rfl
  · exact hr
  · exact hr.fgt

mutual
/-- No block from n on is named. -/
def low (n : Nat) : AV → Bool
  | .ptr (some (k, _)) => decide (k < n)
  | .slc (some (k, _)) _ _ _ => decide (k < n)
  | .map (some k) => decide (k < n)
  | .func _ xs ys => lowL n xs && lowL n ys
  | .yld k => decide (k < n)
  | .iface _ v => low n v
  | .agg xs => lowL n xs
  | .tuple xs => lowL n xs
  | _ => true
def lowL (n : Nat) : List AV → Bool
  | [] => true
  | x :: r => low n x && lowL n r
end
theorem lowL_get {n : Nat} : ∀ {l : List AV}, lowL n l = true → ∀ (i : Nat) (x : AV), l[i]? = some x → low n x = true := by
  intro l
  induction l with
  | nil => intro _ i x h; simp at h
  | cons y r ih =>
    intro h i x hx
    simp only [lowL, Bool.and_eq_true] at h
    cases i with
    | zero => simp at hx; subst hx; exact h.1
    | succ i => exact ih h.2 i x (by simpa using hx)

theorem take_get {m : List (Option Pl)} {n k : Nat} {p : Option Pl} (h : m[k]? = some p) (hk : k < n) : (m.take n)[k]? = some p := by
  rw [List.getElem?_take, if_pos hk]; exact h

theorem VRel.low {m : List (Option Pl)} {n : Nat} {v : AV} {u : Value} (h : VRel m v u) : low n v = true → VRel (m.take n) v u := by
  induction h with
  | bool b => intro _; exact .bool b
  | int k n => intro _; exact .int k n
  | str s => intro _; exact .str s
  | ptrNil => intro _; exact .ptrNil
  | ptr h => intro hl; simp [Go.Am.low] at hl; exact .ptr (take_get h hl)
  | slcNil n c e => intro _; exact .slcNil n c e
  | slc n c e h => intro hl; simp [Go.Am.low] at hl; exact .slc n c e (take_get h hl)
  | slcEmpty k o e ad => intro _; exact .slcEmpty k o e ad
  | mapNil => intro _; exact .mapNil
  | map h => intro hl; simp [Go.Am.low] at hl; exact .map (take_get h hl)
  | func fn h1 h2 h3 h4 i2 i4 =>
    intro hl
    simp only [Go.Am.low, Bool.and_eq_true] at hl
    exact .func fn h1 (fun i x u hx hu => i2 i x u hx hu (lowL_get hl.1 i x hx)) h3 (fun i x u hx hu => i4 i x u hx hu (lowL_get hl.2 i x hx))
  | nilFunc => intro _; exact .nilFunc
  | yld h => intro hl; simp [Go.Am.low] at hl; exact .yld (take_get h hl)
  | iface t h ih => intro hl; simp only [Go.Am.low] at hl; exact .iface t (ih hl)
  | nilIface => intro _; exact .nilIface
  | agg h1 h2 i2 => intro hl; simp only [Go.Am.low] at hl; exact .agg h1 (fun i x u hx hu => i2 i x u hx hu (lowL_get hl i x hx))
  | tuple h1 h2 i2 => intro hl; simp only [Go.Am.low] at hl; exact .tuple h1 (fun i x u hx hu => i2 i x u hx hu (lowL_get hl i x hx))
  | any => intro _; exact .any

def lowO (n : Nat) : AO → Bool
  | .row cs _ _ => lowL n cs
  | .map es _ _ => lowL n (es.map (·.1)) && lowL n (es.map (·.2))
  | .miter mp _ _ _ => low n mp
  | .loop _ _ t _ _ _ => lowL n t
  | _ => true

theorem VsRel.low {m : List (Option Pl)} {n : Nat} {t : List AV} {us : Array Value} (h : VsRel m t us) (hl : lowL n t = true) : VsRel (m.take n) t us :=
  ⟨h.1, fun i x u hx hu => (h.2 i x u hx hu).low (lowL_get hl i x hx)⟩

theorem ORel.low {P : Program} {w0 : World} {m : List (Option Pl)} {n : Nat} {w : World} {p : Pl} {o : AO} (h : ORel P w0 m w p o) (hl : lowO n o = true) : ORel P w0 (m.take n) w p o := by
  cases o with
  | row cs e wr =>
    obtain ⟨cc, fr, h1, h2, h3⟩ := h
    exact ⟨cc, fr, h1, fun i v hv => let ⟨u, hu, hr⟩ := h2 i v hv; ⟨u, hu, hr.low (lowL_get hl i v hv)⟩, h3⟩
  | dead => trivial
  | miter mp since seen last => obtain ⟨h0, h1, mv, h2, h3⟩ := h; exact ⟨h0, h1, mv, h2.low hl, h3⟩
  | map es bs ck =>
    obtain ⟨h0, ces, h1, h2, h3, h4⟩ := h
    simp only [lowO, Bool.and_eq_true] at hl
    exact ⟨h0, ces, h1, h2, fun i x c hx hc => ⟨(h3 i x c hx hc).1.low (lowL_get hl.1 i _ (by simp [hx])), (h3 i x c hx hc).2.low (lowL_get hl.2 i _ (by simp [hx]))⟩, h4⟩
  | iter s pos => exact h
  | loop st pend t ps asg body => obtain ⟨h0, f, tm, D, h1, h2⟩ := h; exact ⟨h0, f, tm, D, h1.low hl, h2⟩

theorem Rel.trim {P : Program} {w0 : World} {m : List (Option Pl)} {A : List AO} {w : World} (h : Rel P w0 m A w) {n : Nat} (hl : (A.take n).all (lowO n) = true) : Rel P w0 (m.take n) (A.take n) w := by
  have get : ∀ {k : Nat} {o : AO}, (A.take n)[k]? = some o → k < n ∧ A[k]? = some o := by
    intro k o hk
    rw [List.getElem?_take] at hk
    split at hk
    · exact ⟨by assumption, hk⟩
    · cases hk
  have getm : ∀ {k : Nat} {p : Option Pl}, (m.take n)[k]? = some p → m[k]? = some p := by
    intro k p hk
    rw [List.getElem?_take] at hk
    split at hk
    · exact hk
    · cases hk
  refine ⟨by simp [h.len], h.below, fun k o p hk hp => ?_, fun k k' o o' p p' hne hk hk' hm hv hp hp' => h.inj k k' o o' p p' hne (get hk).2 (get hk').2 hm hv (getm hp) (getm hp')⟩
  exact (h.obj k o p (get hk).2 (getm hp)).low (List.all_eq_true.1 hl o (List.mem_of_getElem? hk))

/-- What code leaves may be told by less: slots forgotten, blocks of its own dropped. -/
theorem SCode.less {P : Program} {w0 : World} {rd : Bool} {c : Code} {t : List AV} {A : List AO} {K K' : AK} (h : SCode P w0 rd c t A K')
    (hk : ∀ e t2 A2, K' e t2 A2 → ∃ t3 n, lessOf t2 t3 ∧ A.length ≤ n ∧ lowL n t3 = true ∧ (A2.take n).all (lowO n) = true ∧ K e t3 (A2.take n)) : SCode P w0 rd c t A K := by
  intro ro m w a B hro hr ht hd hB
  refine wpIn_mono (h ro m w a B hro hr ht hd hB) ?_
  rintro e a' w' ⟨t2, A2, m2, hK, hext, hr2, ht2, hd2, hq⟩
  obtain ⟨t3, n, h1, h2, h3, h4, h5⟩ := hk e t2 A2 hK
  refine ⟨t3, A2.take n, m2.take n, h5, fun k p hp => ?_, hr2.trim h4, (h1.vs ht2).low h3, hd2, hq⟩
  have hkl : k < m.length := (List.getElem?_eq_some_iff.1 hp).1
  exact take_get (hext k p hp) (by have := hr.len; omega)
end Go.Am
