/- A part of the proof: Am44. -/
import Derived.Test.YthipnddfplbamaaDoorAm36
import Derived.Test.YthipnddfplbamaaDoorAm38
set_option linter.unusedVariables false
set_option linter.unusedSimpArgs false
/-! What is left may be told by less; loops by what holds at each round's head, in one lemma. -/
namespace Go.Am
open Go.RowKit

/-- the first region in code -/
def firstReg : Code → Option Nat
  | .region i _ _ => some i
  | .seq a b => match firstReg a with | some i => some i | none => firstReg b
  | .cond _ a b => match firstReg a with | some i => some i | none => firstReg b
  | .block _ b => firstReg b
  | .loop b => firstReg b
  | .scope b => firstReg b
  | _ => none
/-- The loop whose first region is k: its body. -/
def loopBy (k : Nat) : Code → Option Code
  | .seq a b => match loopBy k a with | some c => some c | none => loopBy k b
  | .block _ c => loopBy k c
  | .scope c => loopBy k c
  | .cond _ a b => match loopBy k a with | some c => some c | none => loopBy k b
  | .loop c => match firstReg c with
    | some i => if Nat.beq i k then some c else loopBy k c
    | none => loopBy k c
  | .rangeFunc _ _ a b => match loopBy k a with | some c => some c | none => loopBy k b
  | _ => none

/-! ### Values told by less, deep -/
inductive LessV : AV → AV → Prop where
  | refl (x : AV) : LessV x x
  | any (x : AV) : LessV x .any
  | agg {xs ys : List AV} (h1 : xs.length = ys.length) (h2 : ∀ (i : Nat) (x y : AV), xs[i]? = some x → ys[i]? = some y → LessV x y) : LessV (.agg xs) (.agg ys)
  | tuple {xs ys : List AV} (h1 : xs.length = ys.length) (h2 : ∀ (i : Nat) (x y : AV), xs[i]? = some x → ys[i]? = some y → LessV x y) : LessV (.tuple xs) (.tuple ys)
  | iface {t : TypeId} {x y : AV} (h : LessV x y) : LessV (.iface t x) (.iface t y)
  | nil0 (e e' : Bool) (k o : Nat) : LessV (.slc none 0 0 e) (.slc (some (k, o)) 0 0 e')
  | emp0 (a : Option (Nat × Nat)) (e' : Bool) (k o : Nat) : LessV (.slc a 0 0 true) (.slc (some (k, o)) 0 0 e')
def LessL (xs ys : List AV) : Prop := xs.length = ys.length ∧ ∀ (i : Nat) (x y : AV), xs[i]? = some x → ys[i]? = some y → LessV x y
theorem LessL.nil : LessL [] [] := ⟨rfl, fun i x y h => by simp at h⟩
theorem LessL.refl (l : List AV) : LessL l l := ⟨rfl, fun i x y h1 h2 => by rw [h1] at h2; cases h2; exact .refl _⟩
theorem LessL.cons {x y : AV} {xs ys : List AV} (h : LessV x y) (k : LessL xs ys) : LessL (x :: xs) (y :: ys) := by
  refine ⟨by simp [k.1], fun i a b ha hb => ?_⟩
  cases i with
  | zero => simp at ha hb; subst ha hb; exact h
  | succ i => exact k.2 i a b (by simpa using ha) (by simpa using hb)
theorem LessV.rel {m : List (Option Pl)} {x y : AV} (h : LessV x y) : ∀ {u : Value}, VRel m x u → VRel m y u := by
  have lst : ∀ {xs ys : List AV} {us : Array Value}, xs.length = ys.length → (∀ (i : Nat) (x y : AV), xs[i]? = some x → ys[i]? = some y → ∀ {u : Value}, VRel m x u → VRel m y u) → (∀ (i : Nat) (x : AV) (u : Value), xs[i]? = some x → us[i]? = some u → VRel m x u) → ∀ (i : Nat) (y : AV) (u : Value), ys[i]? = some y → us[i]? = some u → VRel m y u := by
    intro xs ys us h1 h2 h3 i y u hy hu
    have hi : i < xs.length := by rw [h1]; exact (List.getElem?_eq_some_iff.1 hy).1
    exact h2 i _ y (List.getElem?_eq_getElem hi) hy (h3 i _ u (List.getElem?_eq_getElem hi) hu)
  induction h with
  | refl x => exact fun h => h
  | any x => exact fun _ => .any
  | agg h1 h2 ih => intro u hv; cases hv with | agg k1 k2 => exact .agg (by rw [← h1]; exact k1) (lst h1 ih k2)
  | tuple h1 h2 ih => intro u hv; cases hv with | tuple k1 k2 => exact .tuple (by rw [← h1]; exact k1) (lst h1 ih k2)
  | iface h ih => intro u hv; cases hv with | iface _ k => exact .iface _ (ih k)
  | nil0 e e' k o => intro u hv; cases hv; exact .slcEmpty _ _ _ _
  | emp0 a e' k o => intro u hv; cases hv <;> exact .slcEmpty _ _ _ _
theorem LessL.vs {m : List (Option Pl)} {xs ys : List AV} {us : Array Value} (h : LessL xs ys) (hv : VsRel m xs us) : VsRel m ys us := by
  refine ⟨by rw [← h.1]; exact hv.1, fun i y u hy hu => ?_⟩
  have hi : i < xs.length := by rw [h.1]; exact (List.getElem?_eq_some_iff.1 hy).1
  exact (h.2 i _ y (List.getElem?_eq_getElem hi) hy).rel (hv.2 i _ u (List.getElem?_eq_getElem hi) hu)
/-! ### Less -/
/-- A block told by less. -/
def lessO (o o3 : AO) : Prop := o3 = o ∨ o3 = .dead ∨ ∃ cs cs3 e wr, o = .row cs e wr ∧ o3 = .row cs3 e wr ∧ LessL cs cs3
def lessA (A A3 : List AO) : Prop := A3.length = A.length ∧ ∀ (k : Nat) (o o3 : AO), A[k]? = some o → A3[k]? = some o3 → lessO o o3
theorem lessO.refl (o : AO) : lessO o o := .inl rfl
theorem lessA.nil : lessA [] [] := ⟨rfl, fun k o o3 h => by simp at h⟩
theorem lessA.cons {o o3 : AO} {A A3 : List AO} (ho : lessO o o3) (h : lessA A A3) : lessA (o :: A) (o3 :: A3) := by
  refine ⟨by simp [h.1], fun k p p3 hp hp3 => ?_⟩
  cases k with
  | zero => simp at hp hp3; subst hp hp3; exact ho
  | succ k => exact h.2 k p p3 (by simpa using hp) (by simpa using hp3)
theorem lessA.refl (A : List AO) : lessA A A := ⟨rfl, fun k o o3 h h3 => by rw [h] at h3; cases h3; exact .inl rfl⟩
theorem lessO.row {cs cs3 : List AV} {e : TypeId} {wr : Bool} (h : LessL cs cs3) : lessO (.row cs e wr) (.row cs3 e wr) := .inr (.inr ⟨_, _, _, _, rfl, rfl, h⟩)
theorem lessOf.refl (t : List AV) : lessOf t t := ⟨rfl, fun i x y hx hy => by rw [hx] at hy; cases hy; exact .inl rfl⟩
theorem lessOf.nil : lessOf [] [] := lessOf.refl []
theorem lessOf.cons {x y : AV} {t t3 : List AV} (hx : y = x ∨ y = .any) (h : lessOf t t3) : lessOf (x :: t) (y :: t3) := by
  refine ⟨by simp [h.1], fun i a b ha hb => ?_⟩
  cases i with
  | zero => simp at ha hb; subst ha hb; exact hx
  | succ i => exact h.2 i a b (by simpa using ha) (by simpa using hb)
section
variable {P : Program} {w0 : World}
theorem ORel.lessO {m : List (Option Pl)} {w : World} {p : Pl} {o o3 : AO} (h : ORel P w0 m w p o) (hl : lessO o o3) : ORel P w0 m w p o3 := by
  rcases hl with rfl | rfl | ⟨cs, cs3, e, wr, rfl, rfl, hl⟩
  · exact h
  · trivial
  · obtain ⟨cc, fr, h1, h2, h3⟩ := h
    refine ⟨cc, fr, h1, fun i v hv => ?_, fun hw => ?_⟩
    · have hi : i < cs.length := by rw [hl.1]; exact (List.getElem?_eq_some_iff.1 hv).1
      obtain ⟨u, hu, hr⟩ := h2 i _ (List.getElem?_eq_getElem hi)
      exact ⟨u, hu, (hl.2 i _ v (List.getElem?_eq_getElem hi) hv).rel hr⟩
    · rw [← hl.1]; exact h3 hw
theorem Rel.lessA {m : List (Option Pl)} {A A3 : List AO} {w : World} (h : Rel P w0 m A w) (hl : lessA A A3) : Rel P w0 m A3 w := by
  have get : ∀ {k : Nat} {o3 : AO}, A3[k]? = some o3 → ∃ o, A[k]? = some o ∧ Go.Am.lessO o o3 := by
    intro k o3 h3
    have hk : k < A.length := by rw [← hl.1]; exact (List.getElem?_eq_some_iff.1 h3).1
    exact ⟨_, List.getElem?_eq_getElem hk, hl.2 k _ o3 (List.getElem?_eq_getElem hk) h3⟩
  refine ⟨h.len.trans hl.1.symm, h.below, fun k o3 p hk hp => ?_, fun k k' o o' p p' hne hk hk' hm hv hp hp' => ?_⟩
  · obtain ⟨o, ho, hoo⟩ := get hk
    exact (h.obj k o p ho hp).lessO hoo
  · obtain ⟨q, hq, hqq⟩ := get hk
    obtain ⟨q', hq', hqq'⟩ := get hk'
    refine h.inj k k' q q' p p' hne hq hq' ?_ ?_ hp hp'
    · rcases hqq with rfl | rfl | ⟨cs, cs3, e, wr, rfl, rfl, _⟩
      · exact hm
      · simp [AO.mut] at hm
      · exact hm
    · rcases hqq' with rfl | rfl | ⟨cs, cs3, e, wr, rfl, rfl, _⟩
      · exact hv
      · simp [AO.live] at hv
      · rfl
end

theorem rel_ghost0 {P : Program} {w0 : World} {m : List (Option Pl)} {A : List AO} {w' : World} (hr : Rel P w0 m A w') (o : AO) : Rel P w0 (m ++ [none]) (A ++ [o]) w' := by
  have := hr.ghosts [o]
  simpa using this
/-- Values and blocks come to others that tell the same or less; the first nb blocks keep their places. -/
def Fits (nb : Nat) (vs : List AV) (A : List AO) (vs3 : List AV) (A3 : List AO) : Prop :=
  ∀ (P : Program) (w0 : World) (m : List (Option Pl)) (w : World) (us : Array Value), Rel P w0 m A w → VsRel m vs us → ∃ m3, ExtN nb m m3 ∧ Rel P w0 m3 A3 w ∧ VsRel m3 vs3 us
theorem Fits.refl {nb : Nat} (vs : List AV) (A : List AO) : Fits nb vs A vs A := fun P w0 m w us h1 h2 => ⟨m, fun _ _ _ h => h, h1, h2⟩
theorem Fits.trans {nb : Nat} {vs vs2 vs3 : List AV} {A A2 A3 : List AO} (h : Fits nb vs A vs2 A2) (k : Fits nb vs2 A2 vs3 A3) : Fits nb vs A vs3 A3 := fun P w0 m w us h1 h2 => by
  obtain ⟨m2, a1, a2, a3⟩ := h P w0 m w us h1 h2
  obtain ⟨m3, b1, b2, b3⟩ := k P w0 m2 w us a2 a3
  exact ⟨m3, a1.trans b1, b2, b3⟩
theorem Fits.less {nb : Nat} {vs vs3 : List AV} (h : lessOf vs vs3) (A : List AO) : Fits nb vs A vs3 A := fun P w0 m w us h1 h2 => ⟨m, fun _ _ _ h => h, h1, h.vs h2⟩
theorem Fits.lessA {nb : Nat} (vs : List AV) {A A3 : List AO} (h : lessA A A3) : Fits nb vs A vs A3 := fun P w0 m w us h1 h2 => ⟨m, fun _ _ _ h => h, h1.lessA h, h2⟩
theorem Fits.pick {nb : Nat} {vs3 : List AV} {A A3 : List AO} {f : Nat → Nat} (h : Pick nb A A3 f) : Fits nb (renL f vs3) A vs3 A3 := fun P w0 m w us h1 h2 => by
  obtain ⟨m3, g1, g2, g3⟩ := h1.pick h
  refine ⟨m3, fun k p hk hp => ?_, g3, h2.unren g1⟩
  rw [g2 k (Nat.lt_of_lt_of_le hk h.n), h.base k hk]
  exact hp
theorem Fits.trim {nb n : Nat} {vs : List AV} {A : List AO} (hn : nb ≤ n) (hv : lowL n vs = true) (hA : (A.take n).all (lowO n) = true) : Fits nb vs A vs (A.take n) := fun P w0 m w us h1 h2 =>
  ⟨m.take n, fun k p hk hp => take_get hp (by omega), h1.trim hA, h2.low hv⟩

theorem Fits.deep {nb : Nat} {vs vs3 : List AV} (h : LessL vs vs3) (A : List AO) : Fits nb vs A vs3 A := fun P w0 m w us h1 h2 => ⟨m, fun _ _ _ h => h, h1, h.vs h2⟩
theorem Fits.one {nb : Nat} {v v3 : AV} (h : LessV v v3) (A : List AO) : Fits nb [v] A [v3] A := .deep (LessL.cons h .nil) A
/-- A place of which nothing is known. -/
theorem Fits.ghost {nb : Nat} (vs : List AV) (A : List AO) (o : AO) : Fits nb vs A vs (A ++ [o]) := fun P w0 m w us h1 h2 =>
  ⟨m ++ [none], fun k p _ hp => Ext.append _ _ _ _ hp, rel_ghost0 h1 o, h2.ext (Ext.append _ _)⟩
/-- Blocks of one's own that nothing names go. -/
theorem Fits.drop {nb : Nat} {vs : List AV} {A N : List AO} (hn : nb ≤ A.length) (hv : lowL A.length vs = true) (hA : A.all (lowO A.length) = true) : Fits nb vs (A ++ N) vs A := by
  have := Fits.trim (vs := vs) (A := A ++ N) hn hv (by simpa using hA)
  simpa using this

/-! ### Slots -/
def slotsOk (f : Nat → Nat) (ps : List (Nat × AV)) : List (Nat × AV) → Prop
  | [] => True
  | x :: r => slotOf ps x.1 = ren f x.2 ∧ slotsOk f ps r
theorem slotsOk_get {f : Nat → Nat} {ps : List (Nat × AV)} (i : Nat) : ∀ {ps3 : List (Nat × AV)}, slotsOk f ps ps3 → slotOf ps i = ren f (slotOf ps3 i) ∨ slotOf ps3 i = .any
  | [], _ => .inr rfl
  | (j, v) :: r, h => by
    simp only [slotOf]
    split
    · rename_i hb
      obtain rfl := Nat.eq_of_beq_eq_true hb
      exact .inl h.1
    · exact slotsOk_get i h.2
theorem slotsOk_less {f : Nat → Nat} {ps ps3 : List (Nat × AV)} (h : slotsOk f ps ps3) (N : Nat) : lessOf (lay N ps) (renL f (lay N ps3)) := by
  refine ⟨by simp [renL_eq, lay], fun i x y hx hy => ?_⟩
  rw [renL_eq] at hy
  simp only [lay, List.map_map, List.getElem?_map, Option.map_eq_some_iff] at hx hy
  obtain ⟨a, ha, rfl⟩ := hx
  obtain ⟨b, hb, rfl⟩ := hy
  rw [ha] at hb; cases hb
  rcases slotsOk_get a h with e | e
  · left; simp [e]
  · right; simp [e, ren, fgt]
mutual
theorem ren_id : (x : AV) → ren (fun k => k) x = x
  | .bool b => by simp only [ren]
  | .int k n => by simp only [ren]
  | .str s => by simp only [ren]
  | .ptr none => by simp only [ren]
  | .ptr (some (k, o)) => by simp only [ren]
  | .slc none n c e => by simp only [ren]
  | .slc (some (k, o)) n c e => by simp only [ren]
  | .map none => by simp only [ren]
  | .map (some k) => by simp only [ren]
  | .func fn xs ys => by simp only [ren, renL_id xs, renL_id ys]
  | .nilFunc => by simp only [ren]
  | .yld k => by simp only [ren]
  | .iface t v => by simp only [ren, ren_id v]
  | .nilIface => by simp only [ren]
  | .agg xs => by simp only [ren, renL_id xs]
  | .tuple xs => by simp only [ren, renL_id xs]
  | .any => by simp only [ren]
theorem renL_id : (l : List AV) → renL (fun k => k) l = l
  | [] => rfl
  | x :: r => by simp only [renL, ren_id x, renL_id r]
end
/-- The same slots, said without renaming. -/
def slotsAt (ps : List (Nat × AV)) : List (Nat × AV) → Prop
  | [] => True
  | x :: r => slotOf ps x.1 = x.2 ∧ slotsAt ps r
theorem slotsAt_ok {ps : List (Nat × AV)} : ∀ {ps3 : List (Nat × AV)}, slotsAt ps ps3 → slotsOk (fun k => k) ps ps3
  | [], _ => trivial
  | (j, v) :: r, h => ⟨by rw [ren_id]; exact h.1, slotsAt_ok h.2⟩
theorem slotsAt_less {ps ps3 : List (Nat × AV)} (h : slotsAt ps ps3) (N : Nat) : lessOf (lay N ps) (lay N ps3) := by
  have := slotsOk_less (slotsAt_ok h) N
  rwa [renL_id] at this
theorem Fits.slots {nb N : Nat} {ps ps3 : List (Nat × AV)} {A A3 : List AO} (h : slotsAt ps ps3) (hA : A = A3) : Fits nb (lay N ps) A (lay N ps3) A3 := hA ▸ Fits.less (slotsAt_less h N) A
theorem Fits.slotsP {nb N : Nat} {ps ps3 : List (Nat × AV)} {A A3 : List AO} {f : Nat → Nat} (hp : Pick nb A A3 f) (h : slotsOk f ps ps3) : Fits nb (lay N ps) A (lay N ps3) A3 := (Fits.less (slotsOk_less h N) A).trans (.pick hp)

/-! ### A loop -/
section
variable {P : Program} {X : AExt} {R : ARes} {w0 : World}
inductive LoopK {S : Type} (nb N : Nat) (I : S → Prop) (μ : S → Nat) (ps : S → List (Nat × AV)) (AA : S → List AO) (q : AK) (s : S) : Exit → List (Nat × AV) → List AO → Prop where
  | next {ps' : List (Nat × AV)} {A' : List AO} (s' : S) (hI : I s') (hm : μ s' < μ s) (hf : Fits nb (lay N ps') A' (lay N (ps s')) (AA s')) : LoopK nb N I μ ps AA q s .normal ps' A'
  | out {e : Exit} {ps' : List (Nat × AV)} {A' : List AO} (ps3 : List (Nat × AV)) (A3 : List AO) (he : e ≠ .normal) (hf : Fits nb (lay N ps') A' (lay N ps3) A3) (hq : q e (lay N ps3) A3) : LoopK nb N I μ ps AA q s e ps' A'
theorem vloop (hX : ExtOk P X) (hR : ResOk P w0 R) (hmix : P.follows .mixedOrders = true) {nb N : Nat} {rd : Bool} {c : Code} {S : Type} (I : S → Prop) (μ : S → Nat) (ps : S → List (Nat × AV)) (AA : S → List AO) {q : AK}
    (round : ∀ s, I s → ∀ K : Exit → List (Nat × AV) → List AO → Prop, (∀ (s' : S) {ps' : List (Nat × AV)} {A' : List AO}, I s' → μ s' < μ s → Fits nb (lay N ps') A' (lay N (ps s')) (AA s') → K .normal ps' A') →
      (∀ {e : Exit} {ps' : List (Nat × AV)} {A' : List AO} (ps3 : List (Nat × AV)) (A3 : List AO), e ≠ .normal → Fits nb (lay N ps') A' (lay N ps3) A3 → q e (lay N ps3) A3 → K e ps' A') →
      ∃ n fo ls is qs, vexec P w0 X R n fo rd ls c (lay N (ps s)) (AA s) qs (leaf N is K)) (s : S) (hs : I s) : ∃ k, SRoundsB P w0 nb rd c q k (lay N (ps s)) (AA s) := by
  refine rounds_inv I μ (fun s => lay N (ps s)) AA (fun s hs => ?_) s hs
  obtain ⟨n, fo, ls, is, qs, h⟩ := round s hs (LoopK nb N I μ ps AA q s) (fun s' _ _ h1 h2 h3 => .next s' h1 h2 h3) (fun ps3 A3 h1 h2 h3 => .out ps3 A3 h1 h2 h3)
  intro ro m w a B hro hr ht hd hB
  refine wpIn_mono ((vexec_both hX hR hmix n).1 _ _ _ _ _ _ _ _ h ro m w a B hro hr ht hd hB) ?_
  rintro e a' w' ⟨t2, A2, m2, ⟨q', hq⟩, hext, hr2, ht2, hd2, hkp⟩
  obtain ⟨h1, h2⟩ := leaf_ok hq
  cases h2 with
  | next s' hI hm hf =>
    obtain ⟨m3, g1, g2, g3⟩ := hf P w0 m2 w' _ hr2 (h1.vs ht2)
    exact ⟨_, _, m3, ⟨s', hI, hm, rfl, rfl⟩, (ExtN.of hext).trans g1, g2, g3, hd2, hkp⟩
  | out ps3 A3 he hf hq =>
    obtain ⟨m3, g1, g2, g3⟩ := hf P w0 m2 w' _ hr2 (h1.vs ht2)
    refine ⟨_, _, m3, ?_, (ExtN.of hext).trans g1, g2, g3, hd2, hkp⟩
    cases e <;> first | exact (he rfl).elim | exact hq
theorem SRoundsB.fits {nb : Nat} {rd : Bool} {c : Code} {K : AK} {k : Nat} {t t3 : List AV} {A A3 : List AO} (hf : Fits nb t A t3 A3) (h : SRoundsB P w0 nb rd c K k t3 A3) : SRoundsB P w0 nb rd c K k t A := by
  cases k with
  | zero => exact h.elim
  | succ k =>
    intro ro m w a B hro hr ht hd hB
    obtain ⟨m3, g1, g2, g3⟩ := hf P w0 m w _ hr ht
    refine wpIn_mono ((show SCodeB P w0 nb rd c t3 A3 _ from h) ro m3 w a B hro g2 g3 hd hB) ?_
    rintro e a' w' ⟨t2, A2, m2, hK, hext, r⟩
    exact ⟨t2, A2, m2, hK, g1.trans hext, r⟩
theorem vloopF (hX : ExtOk P X) (hR : ResOk P w0 R) (hmix : P.follows .mixedOrders = true) {nb N : Nat} {rd : Bool} {c : Code} {S : Type} (I : S → Prop) (μ : S → Nat) (ps : S → List (Nat × AV)) (AA : S → List AO) {q : AK}
    (round : ∀ s, I s → ∀ K : Exit → List (Nat × AV) → List AO → Prop, (∀ (s' : S) {ps' : List (Nat × AV)} {A' : List AO}, I s' → μ s' < μ s → Fits nb (lay N ps') A' (lay N (ps s')) (AA s') → K .normal ps' A') →
      (∀ {e : Exit} {ps' : List (Nat × AV)} {A' : List AO} (ps3 : List (Nat × AV)) (A3 : List AO), e ≠ .normal → Fits nb (lay N ps') A' (lay N ps3) A3 → q e (lay N ps3) A3 → K e ps' A') →
      ∃ n fo ls is qs, vexec P w0 X R n fo rd ls c (lay N (ps s)) (AA s) qs (leaf N is K)) (s : S) (hs : I s) {ps0 : List (Nat × AV)} {A0 : List AO} (h0 : Fits nb (lay N ps0) A0 (lay N (ps s)) (AA s)) : ∃ k, SRoundsB P w0 nb rd c q k (lay N ps0) A0 :=
  let ⟨k, hk⟩ := vloop hX hR hmix I μ ps AA round s hs
  ⟨k, hk.fits h0⟩
/-! ### A call's end -/
theorem SCall.fits {g : FuncId} {args : List AV} {A : List AO} {Q Q' : AV → List AO → Prop} (h : SCall P w0 g args A Q')
    (hk : ∀ v A2, Q' v A2 → ∃ v3 A3, Fits A.length [v] A2 [v3] A3 ∧ Q v3 A3) : SCall P w0 g args A Q := by
  intro m w us hr hu
  refine (h m w us hr hu).mono ?_
  rintro e w' ⟨u, v, A2, m2, he, hv, hext, hr2, hq, hkp⟩
  obtain ⟨v3, A3, h1, h2⟩ := hk v A2 hq
  obtain ⟨m3, g1, g2, g3⟩ := h1 P w0 m2 w' #[u] hr2 ((VsRel.nil m2).push hv)
  refine ⟨u, v3, A3, m3, he, g3.2 0 v3 u rfl rfl, fun k p hk => ?_, g2, h2, hkp⟩
  refine g1 k p ?_ (hext k p hk)
  have := (List.getElem?_eq_some_iff.1 hk).1
  have := hr.len
  omega
/-- vcall, then less. -/
theorem vcall_fits (hX : ExtOk P X) (hR : ResOk P w0 R) (hmix : P.follows .mixedOrders = true) {n : Nat} {g : FuncId} {args : List AV} {A : List AO} {q : Scr} {Q : AV → List AO → Prop} (h : vcall P w0 X R n g args A q fun v A2 => ∃ v3 A3, Fits A.length [v] A2 [v3] A3 ∧ Q v3 A3) : SCall P w0 g args A Q :=
  (vcall_ok hX hR hmix h).fits fun v A2 h => h
end
/-! ### A call that answers a bool, on which the way depends -/
def boolCl (id i : Nat) (b : Bool) (A : List AO) : Scr := .cl id i Unit (fun _ => b = true) (fun _ => .bool true) (fun _ => A) (fun _ => .nil) (.cl id i Unit (fun _ => b = false) (fun _ => .bool false) (fun _ => A) (fun _ => .nil) .nil)
theorem SCall.boolCl {P : Program} {w0 : World} {g : FuncId} {args : List AV} {A A3 : List AO} {b : Bool} (h : SCall P w0 g args A fun v A' => v = .bool b ∧ A' = A3) :
    SCall P w0 g args A fun v' A' => (∃ x : Unit, (fun _ => b = true) x ∧ v' = (fun _ => .bool true) x ∧ A' = (fun _ => A3) x) ∨ (∃ x : Unit, (fun _ => b = false) x ∧ v' = (fun _ => .bool false) x ∧ A' = (fun _ => A3) x) ∨ False :=
  h.mono fun v A' ⟨h1, h2⟩ => by
    cases b with
    | true => exact .inl ⟨(), rfl, h1, h2⟩
    | false => exact .inr (.inl ⟨(), rfl, h1, h2⟩)
end Go.Am
