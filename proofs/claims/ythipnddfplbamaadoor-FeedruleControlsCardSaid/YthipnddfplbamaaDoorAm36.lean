/- A part of the proof: Am36. -/
import Derived.Test.YthipnddfplbamaaDoorAm34
set_option linter.unusedVariables false
set_option linter.unusedSimpArgs false
namespace Go.Am
open Go.RowKit

/-! ### Blocks numbered anew -/
def renO (f : Nat → Nat) : AO → AO
  | .row cs e wr => .row (renL f cs) e wr
  | .dead => .dead
  | .map es bs ck => .map (es.map fun p => (ren f p.1, ren f p.2)) bs ck
  | .miter mp since seen last => .miter (ren f mp) since seen last
  | .iter s p => .iter s p
  | .loop st pend t ps a b => .loop st pend (renL f t) ps a b
theorem renO_mut (f : Nat → Nat) (o : AO) : (renO f o).mut = o.mut := by cases o <;> rfl
theorem renO_live (f : Nat → Nat) (o : AO) : (renO f o).live = o.live := by cases o <;> rfl
theorem renL_get {f : Nat → Nat} {l : List AV} {i : Nat} {x : AV} (h : l[i]? = some x) : (renL f l)[i]? = some (ren f x) := by
  rw [renL_eq]; simp [h]
theorem rel_ren {m m2 : List (Option Pl)} {f : Nat → Nat} (hm : ∀ (k : Nat) (p : Pl), m[k]? = some (some p) → m2[f k]? = some (some p)) {x : AV} {u : Value} (h : VRel m x u) : VRel m2 (ren f x) u := by
  have lst : ∀ {xs : List AV} {us : Array Value}, (∀ (i : Nat) (x : AV) (u : Value), xs[i]? = some x → us[i]? = some u → VRel m2 (ren f x) u) → ∀ (i : Nat) (x : AV) (u : Value), (renL f xs)[i]? = some x → us[i]? = some u → VRel m2 x u := by
    intro xs us h i x u hx hu
    rw [renL_eq] at hx
    simp only [List.getElem?_map, Option.map_eq_some_iff] at hx
    obtain ⟨y, hy, rfl⟩ := hx
    exact h i y u hy hu
  have len : ∀ (xs : List AV), (renL f xs).length = xs.length := fun xs => by rw [renL_eq]; simp
  induction h with
  | bool b => exact .bool b
  | int k n => exact .int k n
  | str s => exact .str s
  | ptrNil => exact .ptrNil
  | ptr h => exact .ptr (hm _ _ h)
  | slcNil n c e => exact .slcNil n c e
  | slc n c e h => exact .slc n c e (hm _ _ h)
  | slcEmpty k o e ad => exact .slcEmpty _ _ _ _
  | mapNil => exact .mapNil
  | map h => exact .map (hm _ _ h)
  | func fn h1 h2 h3 h4 i2 i4 => exact .func fn (by rw [len]; exact h1) (lst i2) (by rw [len]; exact h3) (lst i4)
  | nilFunc => exact .nilFunc
  | yld h => exact .yld (hm _ _ h)
  | iface t h ih => exact .iface t ih
  | nilIface => exact .nilIface
  | agg h1 h2 i2 => exact .agg (by rw [len]; exact h1) (lst i2)
  | tuple h1 h2 i2 => exact .tuple (by rw [len]; exact h1) (lst i2)
  | any => exact .any
section
variable {P : Program} {w0 : World}
theorem ORel.unren {m mB : List (Option Pl)} {f : Nat → Nat} (hm : ∀ (k : Nat) (p : Pl), m[f k]? = some (some p) → mB[k]? = some (some p)) {w : World} {p : Pl} {o : AO} (h : ORel P w0 m w p (renO f o)) : ORel P w0 mB w p o := by
  cases o with
  | row cs e wr =>
    obtain ⟨cc, fr, h1, h2, h3⟩ := h
    refine ⟨cc, fr, h1, fun i v hv => ?_, fun hw => ?_⟩
    · obtain ⟨u, hu, hr⟩ := h2 i _ (renL_get hv)
      exact ⟨u, hu, ren_rel hm v u hr⟩
    · have := h3 hw
      rwa [show (renL f cs).length = cs.length by rw [renL_eq]; simp] at this
  | dead => trivial
  | miter mp since seen last => obtain ⟨h0, h1, mv, h2, h3⟩ := h; exact ⟨h0, h1, mv, ren_rel hm _ _ h2, h3⟩
  | map es bs ck =>
    obtain ⟨h0, ces, h1, h2, h3, h4⟩ := h
    refine ⟨h0, ces, h1, by simpa using h2, fun i x c hx hc => ?_, h4⟩
    have := h3 i (ren f x.1, ren f x.2) c (by simp [hx]) hc
    exact ⟨ren_rel hm _ _ this.1, ren_rel hm _ _ this.2⟩
  | iter s pos => exact h
  | loop st pend t ps asg body =>
    obtain ⟨h0, g, tm, D, h1, h2⟩ := h
    exact ⟨h0, g, tm, D, ⟨by rw [← h1.1, renL_eq]; simp, fun i x u hx hu => ren_rel hm x u (h1.2 i _ u (renL_get hx) hu)⟩, h2⟩
/-- How the kept blocks lie among the old ones. -/
structure Pick (n0 : Nat) (A A3 : List AO) (f : Nat → Nat) : Prop where
  base : ∀ k, k < n0 → f k = k
  n : n0 ≤ A3.length
  inj : ∀ k k', k < A3.length → k' < A3.length → f k = f k' → k = k'
  out : ∀ k, A3.length ≤ k → A.length ≤ f k
  get : ∀ k o, A3[k]? = some o → A[f k]? = some (renO f o)
theorem Rel.pick {m : List (Option Pl)} {A A3 : List AO} {w : World} {f : Nat → Nat} {n0 : Nat} (h : Rel P w0 m A w) (hp : Pick n0 A A3 f) : ∃ m3 : List (Option Pl), (∀ (k : Nat) (p : Pl), m[f k]? = some (some p) → m3[k]? = some (some p)) ∧ (∀ k, k < A3.length → m3[k]? = m[f k]?) ∧ Rel P w0 m3 A3 w := by
  have hlt : ∀ k, k < A3.length → f k < m.length := fun k hk => by
    have := hp.get k _ (List.getElem?_eq_getElem hk)
    rw [h.len]
    exact (List.getElem?_eq_some_iff.1 this).1
  have hget : ∀ k, k < A3.length → ((List.range A3.length).map fun k => (m[f k]?).join)[k]? = m[f k]? := by
    intro k hk
    simp only [List.getElem?_map]
    rw [List.getElem?_range hk]
    simp only [Option.map_some]
    rw [List.getElem?_eq_getElem (hlt k hk)]
    rfl
  have hm : ∀ (k : Nat) (p : Pl), m[f k]? = some (some p) → ((List.range A3.length).map fun k => (m[f k]?).join)[k]? = some (some p) := by
    intro k p hk
    by_cases hlt : k < A3.length
    · rw [hget k hlt, hk]
    · have := hp.out k (by omega)
      have h2 := (List.getElem?_eq_some_iff.1 hk).1
      have := h.len
      omega
  refine ⟨_, hm, hget, ⟨by simp, h.below, fun k o p hk hpk => ?_, fun k k' o o' p p' hne hk hk' hmut hlive hpk hpk' => ?_⟩⟩
  · have hkl := (List.getElem?_eq_some_iff.1 hk).1
    rw [hget k hkl] at hpk
    exact (h.obj (f k) _ p (hp.get k o hk) hpk).unren hm
  · have hkl := (List.getElem?_eq_some_iff.1 hk).1
    have hkl' := (List.getElem?_eq_some_iff.1 hk').1
    rw [hget k hkl] at hpk
    rw [hget k' hkl'] at hpk'
    exact h.inj (f k) (f k') _ _ p p' (fun e => hne (hp.inj k k' hkl hkl' e)) (hp.get k o hk) (hp.get k' o' hk') (by rw [renO_mut]; exact hmut) (by rw [renO_live]; exact hlive) hpk hpk'
theorem VsRel.unren {m mB : List (Option Pl)} {f : Nat → Nat} (hm : ∀ (k : Nat) (p : Pl), m[f k]? = some (some p) → mB[k]? = some (some p)) {t : List AV} {us : Array Value} (h : VsRel m (renL f t) us) : VsRel mB t us :=
  ⟨by rw [← h.1, renL_eq]; simp, fun i x u hx hu => ren_rel hm x u (h.2 i _ u (renL_get hx) hu)⟩
theorem Ext.pick {m0 m2 m3 : List (Option Pl)} {A2 A3 : List AO} {f : Nat → Nat} {n0 : Nat} (he : Ext m0 m2) (hn : m0.length = n0) (hp : Pick n0 A2 A3 f) (hg : ∀ k, k < A3.length → m3[k]? = m2[f k]?) : Ext m0 m3 := by
  intro k p hk
  have hk0 : k < n0 := by rw [← hn]; exact (List.getElem?_eq_some_iff.1 hk).1
  rw [hg k (Nat.lt_of_lt_of_le hk0 hp.n), hp.base k hk0]
  exact he k p hk
/-- What code leaves, its blocks numbered anew, what is not named any more let go. -/
theorem SCode.gc {rd : Bool} {c : Code} {t : List AV} {A : List AO} {K K' : AK} (h : SCode P w0 rd c t A K')
    (hk : ∀ e t2 A2, K' e t2 A2 → ∃ t3 A3 f, Pick A.length A2 A3 f ∧ lessOf t2 (renL f t3) ∧ K e t3 A3) : SCode P w0 rd c t A K := by
  intro ro m w a B hro hr ht hd hB
  refine wpIn_mono (h ro m w a B hro hr ht hd hB) ?_
  rintro e a' w' ⟨t2, A2, m2, hK, hext, hr2, ht2, hd2, hq⟩
  obtain ⟨t3, A3, f, h1, h2, h3⟩ := hk e t2 A2 hK
  obtain ⟨m3, g1, g2, g3⟩ := hr2.pick h1
  exact ⟨t3, A3, m3, h3, hext.pick hr.len h1 g2, g3, (h2.vs ht2).unren g1, hd2, hq⟩
theorem SCodeB.gc {nb : Nat} {rd : Bool} {c : Code} {t : List AV} {A : List AO} {K K' : AK} (h : SCodeB P w0 nb rd c t A K')
    (hk : ∀ e t2 A2, K' e t2 A2 → ∃ t3 A3 f, Pick nb A2 A3 f ∧ lessOf t2 (renL f t3) ∧ K e t3 A3) : SCodeB P w0 nb rd c t A K := by
  intro ro m w a B hro hr ht hd hB
  refine wpIn_mono (h ro m w a B hro hr ht hd hB) ?_
  rintro e a' w' ⟨t2, A2, m2, hK, hext, hr2, ht2, hd2, hq⟩
  obtain ⟨t3, A3, f, h1, h2, h3⟩ := hk e t2 A2 hK
  obtain ⟨m3, g1, g2, g3⟩ := hr2.pick h1
  refine ⟨t3, A3, m3, h3, fun k p hk hp => ?_, g3, (h2.vs ht2).unren g1, hd2, hq⟩
  rw [g2 k (Nat.lt_of_lt_of_le hk h1.n), h1.base k hk]
  exact hext k p hk hp
theorem SCall.gc {g : FuncId} {args : List AV} {A : List AO} {Q Q' : AV → List AO → Prop} (h : SCall P w0 g args A Q')
    (hk : ∀ v A2, Q' v A2 → ∃ v3 A3 f, Pick A.length A2 A3 f ∧ v = ren f v3 ∧ Q v3 A3) : SCall P w0 g args A Q := by
  intro m w us hr hu
  refine (h m w us hr hu).mono ?_
  rintro e w' ⟨u, v, A2, m2, he, hv, hext, hr2, hq, hkp⟩
  obtain ⟨v3, A3, f, h1, h2, h3⟩ := hk v A2 hq
  obtain ⟨m3, g1, g2, g3⟩ := hr2.pick h1
  subst h2
  exact ⟨u, v3, A3, m3, he, ren_rel g1 _ _ hv, hext.pick hr.len h1 g2, g3, h3, hkp⟩

/-! ### A call told on the blocks that it reads: new blocks behind those that stand -/
theorem fresh_call {g : FuncId} {qargs : List AV} {B N : List AO} {qv : AV} (hq : ∀ w0 : World, SCall P w0 g qargs B fun v A => v = qv ∧ A = B ++ N) {f : Nat → Nat} {args : List AV} {A : List AO}
    (hB : ∀ k o, B[k]? = some o → o = .dead ∨ ∃ cs e wr, o = .row cs e false ∧ A[f k]? = some (.row (renL f cs) e wr)) (hf : ∀ k, B.length ≤ k → f k = A.length + (k - B.length)) (ha : args = renL f qargs)
    (hN : ∀ o ∈ N, ∃ cs e, o = .row cs e true) : SCall P w0 g args A fun v A' => v = ren f qv ∧ A' = A ++ N.map (renO f) := by
  intro m w us hr hus
  subst ha
  obtain ⟨mB, hmB⟩ : ∃ mB : List (Option Pl), mB = (List.range B.length).map fun k => (m[f k]?).join := ⟨_, rfl⟩
  have hget : ∀ k p, mB[k]? = some (some p) → m[f k]? = some (some p) ∧ k < B.length := by
    intro k p hk
    rw [hmB] at hk
    simp only [List.getElem?_map] at hk
    by_cases hlt : k < B.length
    · rw [List.getElem?_range hlt] at hk
      simp only [Option.map_some, Option.some.injEq] at hk
      exact ⟨Option.join_eq_some_iff.1 hk, hlt⟩
    · rw [List.getElem?_eq_none (by simp; omega)] at hk; cases hk
  have hput : ∀ k p, m[f k]? = some (some p) → mB[k]? = some (some p) := by
    intro k p hk
    by_cases hlt : k < B.length
    · rw [hmB]
      simp only [List.getElem?_map]
      rw [List.getElem?_range hlt]
      simp [hk]
    · have h1 := hf k (by omega)
      have h2 := (List.getElem?_eq_some_iff.1 hk).1
      rw [hr.len] at h2
      omega
  have hrel : Rel P w mB B w := by
    refine ⟨by simp [hmB], Below.refl _ _, fun k o p hk hp => ?_, fun k k' o o' p p' hne hk hk' hmut hlive hp hp' => ?_⟩
    · obtain ⟨hmp, _⟩ := hget k p hp
      rcases hB k o hk with rfl | ⟨cs, e, wr, rfl, hA⟩
      · trivial
      · obtain ⟨cc, fr, c1, c2, _⟩ := hr.obj (f k) _ p hA hmp
        refine ⟨cc, fr, c1, fun i x hx => ?_, fun h => by cases h⟩
        obtain ⟨u, hu, hru⟩ := c2 i _ (renL_get hx)
        exact ⟨u, hu, ren_rel hput x u hru⟩
    · rcases hB k o hk with rfl | ⟨cs, e, wr, rfl, hA⟩ <;> simp [AO.mut] at hmut
  refine (hq w mB w us hrel (VsRel.unren hput hus)).mono ?_
  rintro e w' ⟨u, v, A', m', rfl, hv, hext, hrel', ⟨rfl, rfl⟩, hk⟩
  have hgr := hr.grow P w0 hrel'.below
  have hlm : m'.length = B.length + N.length := by rw [hrel'.len]; simp
  have hm2 : ∀ k p, m'[k]? = some (some p) → (m ++ m'.drop B.length)[f k]? = some (some p) := by
    intro k p hkp
    by_cases hlt : k < B.length
    · have h1 : mB[k]? = some mB[k]?.get! := by
        rw [List.getElem?_eq_getElem (by simp [hmB]; exact hlt)]; rfl
      have h2 : ∃ q, mB[k]? = some q := ⟨_, List.getElem?_eq_getElem (by simp [hmB]; exact hlt)⟩
      obtain ⟨q, hq2⟩ := h2
      have h3 := hext k q hq2
      rw [hkp] at h3
      cases h3
      have h4 := (hget k p hq2).1
      rw [List.getElem?_append_left (List.getElem?_eq_some_iff.1 h4).1]
      exact h4
    · rw [hf k (by omega), ← hr.len, List.getElem?_append_right (by omega)]
      simp only [Nat.add_sub_cancel_left, List.getElem?_drop]
      rw [← hkp]; congr 1; omega
  have hnew : ∀ (j : Nat) (o : AO), (N.map (renO f))[j]? = some o → ∃ cs e, N[j]? = some (.row cs e true) ∧ o = .row (renL f cs) e true := by
    intro j o hj
    simp only [List.getElem?_map, Option.map_eq_some_iff] at hj
    obtain ⟨o0, h0, rfl⟩ := hj
    obtain ⟨cs, e, rfl⟩ := hN o0 (List.mem_of_getElem? h0)
    exact ⟨cs, e, h0, rfl⟩
  have hB' : ∀ (j : Nat) (o : AO), N[j]? = some o → (B ++ N)[B.length + j]? = some o := by
    intro j o hj
    rw [List.getElem?_append_right (by omega)]
    simpa using hj
  have part : ∀ {k : Nat} {o : AO}, (A ++ N.map (renO f))[k]? = some o → (k < A.length ∧ A[k]? = some o) ∨ ∃ j, k = A.length + j ∧ (N.map (renO f))[j]? = some o := by
    intro k o hk
    by_cases hlt : k < A.length
    · rw [List.getElem?_append_left hlt] at hk; exact .inl ⟨hlt, hk⟩
    · rw [List.getElem?_append_right (by omega)] at hk; exact .inr ⟨k - A.length, by omega, hk⟩
  have oldm : ∀ {k : Nat} {p : Pl}, k < A.length → (m ++ m'.drop B.length)[k]? = some (some p) → m[k]? = some (some p) := by
    intro k p hlt hk
    rwa [List.getElem?_append_left (by rw [hr.len]; exact hlt)] at hk
  have newm : ∀ {j : Nat} {p : Pl}, (m ++ m'.drop B.length)[A.length + j]? = some (some p) → m'[B.length + j]? = some (some p) := by
    intro j p hk
    rw [← hr.len, List.getElem?_append_right (by omega)] at hk
    simpa [List.getElem?_drop] using hk
  have hi : ∀ {j : Nat} {cs : List AV} {e : TypeId} {p : Pl}, N[j]? = some (.row cs e true) → m'[B.length + j]? = some (some p) → w.heap.size ≤ p.b := by
    intro j cs e p h1 h2
    obtain ⟨cc, fr, _, _, h3⟩ := hrel'.obj _ _ p (hB' j _ h1) h2
    exact (h3 rfl).1
  have hold : ∀ {k : Nat} {o : AO} {p : Pl}, A[k]? = some o → o.live = true → m[k]? = some (some p) → p.b < w.heap.size := fun h1 h2 h3 => (hr.obj _ _ _ h1 h3).lt P w0 h2
  have live_of : ∀ o : AO, o.mut = true → o.live = true := fun o ho => by cases o <;> simp_all [AO.mut, AO.live]
  refine ⟨u, ren f v, A ++ N.map (renO f), m ++ m'.drop B.length, rfl, rel_ren hm2 hv, Ext.append _ _, ⟨by simp [hr.len, hlm], hgr.below, fun k o p hko hkp => ?_, fun k k' o o' p p' hne hko hko' hmut hlive hkp hkp' => ?_⟩, ⟨rfl, rfl⟩, hk⟩
  · rcases part hko with ⟨hlt, h1⟩ | ⟨j, rfl, h1⟩
    · exact (hgr.obj k o p h1 (oldm hlt hkp)).ext P w0 (Ext.weak (Ext.append _ _))
    · obtain ⟨cs, e, h2, rfl⟩ := hnew j o h1
      have h3 := newm hkp
      obtain ⟨cc, fr, c1, c2, c3⟩ := hrel'.obj _ _ p (hB' j _ h2) h3
      refine ⟨cc, fr, c1, fun i v hv => ?_, fun _ => ?_⟩
      · rw [renL_eq] at hv
        simp only [List.getElem?_map, Option.map_eq_some_iff] at hv
        obtain ⟨y, hy, rfl⟩ := hv
        obtain ⟨u2, hu2, hr2⟩ := c2 i y hy
        exact ⟨u2, hu2, rel_ren hm2 hr2⟩
      · obtain ⟨d1, d2, d3⟩ := c3 rfl
        exact ⟨Nat.le_trans hr.base d1, d2, by rw [show (renL f cs).length = cs.length by rw [renL_eq]; simp]; exact d3⟩
  · rcases part hko with ⟨hlt, h1⟩ | ⟨j, rfl, h1⟩
    · rcases part hko' with ⟨hlt', h1'⟩ | ⟨j', rfl, h1'⟩
      · exact hr.inj k k' o o' p p' hne h1 h1' hmut hlive (oldm hlt hkp) (oldm hlt' hkp')
      · obtain ⟨cs, e, h2, rfl⟩ := hnew j' o' h1'
        have := hi h2 (newm hkp')
        have := hold h1 (live_of o hmut) (oldm hlt hkp)
        omega
    · obtain ⟨cs, e, h2, rfl⟩ := hnew j o h1
      have h3 := newm hkp
      rcases part hko' with ⟨hlt', h1'⟩ | ⟨j', rfl, h1'⟩
      · have := hi h2 h3
        have := hold h1' hlive (oldm hlt' hkp')
        omega
      · obtain ⟨cs', e', h2', rfl⟩ := hnew j' o' h1'
        exact hrel'.inj _ _ _ _ p p' (by omega) (hB' j _ h2) (hB' j' _ h2') rfl rfl h3 (newm hkp')
/-- A round, its blocks numbered anew at its end. -/
theorem vroundG {X : AExt} {R : ARes} (hX : ExtOk P X) (hR : ResOk P w0 R) (hmix : P.follows .mixedOrders = true) {nb n fo N : Nat} {rd ls : Bool} {c : Code} {ps : List (Nat × AV)} {A : List AO} {q : Scr} {is : List Nat} {K' : Exit → List (Nat × AV) → List AO → Prop} {K : AK}
    (h : vexec P w0 X R n fo rd ls c (lay N ps) A q (leaf N is K'))
    (hk : ∀ e ps' A2, K' e ps' A2 → ∃ ps3 A3 f, Pick nb A2 A3 f ∧ lay N ps' = renL f (lay N ps3) ∧ K e (lay N ps3) A3) : SCodeB P w0 nb rd c (lay N ps) A K := by
  refine SCodeB.gc ((vexec_both hX hR hmix n).1 _ _ _ _ _ _ _ _ h).toB fun e t2 A2 ⟨q', hq⟩ => ?_
  obtain ⟨h1, h2⟩ := leaf_ok hq
  obtain ⟨ps3, A3, f, g1, g2, g3⟩ := hk _ _ _ h2
  exact ⟨_, A3, f, g1, g2 ▸ h1, g3⟩
/-- A round at whose end nothing is numbered anew. -/
theorem vroundE {X : AExt} {R : ARes} (hX : ExtOk P X) (hR : ResOk P w0 R) (hmix : P.follows .mixedOrders = true) {nb n fo N : Nat} {rd ls : Bool} {c : Code} {ps : List (Nat × AV)} {A : List AO} {q : Scr} {is : List Nat} {K : AK}
    (h : vexec P w0 X R n fo rd ls c (lay N ps) A q (leaf N is fun e ps' A' => K e (lay N ps') A')) : SCodeB P w0 nb rd c (lay N ps) A K :=
  SCode.toB fun ro m w a B hro hr ht hd hB => wpIn_mono ((vexec_both hX hR hmix n).1 _ _ _ _ _ _ _ _ h ro m w a B hro hr ht hd hB) fun e a' w' ⟨t2, A2, m2, ⟨q', hq⟩, r1, r2, r3, r4⟩ => by
    obtain ⟨h1, h2⟩ := leaf_ok hq
    exact ⟨_, A2, m2, h2, r1, r2, h1.vs r3, r4⟩
/-- A round at whose end slots are forgotten and blocks of one's own let go. -/
theorem vroundL {X : AExt} {R : ARes} (hX : ExtOk P X) (hR : ResOk P w0 R) (hmix : P.follows .mixedOrders = true) {nb n fo N : Nat} {rd ls : Bool} {c : Code} {ps : List (Nat × AV)} {A : List AO} {q : Scr} {is : List Nat} {K' : Exit → List (Nat × AV) → List AO → Prop} {K : AK}
    (h : vexec P w0 X R n fo rd ls c (lay N ps) A q (leaf N is K'))
    (hk : ∀ e ps' A2, K' e ps' A2 → ∃ ps3 A3, nb ≤ A3.length ∧ A2.take A3.length = A3 ∧ lessOf (lay N ps') (lay N ps3) ∧ lowL A3.length (lay N ps3) = true ∧ A3.all (lowO A3.length) = true ∧ K e (lay N ps3) A3) : SCodeB P w0 nb rd c (lay N ps) A K := by
  intro ro m w a B hro hr ht hd hB
  refine wpIn_mono ((vexec_both hX hR hmix n).1 _ _ _ _ _ _ _ _ h ro m w a B hro hr ht hd hB) ?_
  rintro e a' w' ⟨t2, A2, m2, ⟨q', hq⟩, hext, hr2, ht2, hd2, hkp⟩
  obtain ⟨h1, h2⟩ := leaf_ok hq
  obtain ⟨ps3, A3, g1, g2, g3, g4, g5, g6⟩ := hk _ _ _ h2
  refine ⟨lay N ps3, A3, m2.take A3.length, g6, fun k p hk hp => take_get (hext k p hp) (by omega), ?_, (g3.vs (h1.vs ht2)).low g4, hd2, hkp⟩
  have := hr2.trim (n := A3.length) (by rw [g2]; exact g5)
  rwa [g2] at this
/-- Renumbering by a list: block k is the list's k-th; what lies behind goes out. -/
def pickF (js : List Nat) (n : Nat) (k : Nat) : Nat :=
  match js[k]? with
  | some j => j
  | none => k + n
theorem pick_list {A A3 : List AO} {js : List Nat} {n0 : Nat} (hb : (List.range n0).all (fun k => js[k]? == some k) = true) (hl : js.length = A3.length) (hn : n0 ≤ A3.length) (hd : js.Nodup) (ho : ∀ j ∈ js, j < A.length)
    (hg : ∀ k o, A3[k]? = some o → A[pickF js A.length k]? = some (renO (pickF js A.length) o)) : Pick n0 A A3 (pickF js A.length) := by
  refine ⟨fun k hk => ?_, hn, fun k k' h1 h2 h => ?_, fun k hk => ?_, hg⟩
  · have := List.all_eq_true.1 hb k (by simpa using hk)
    simp only [beq_iff_eq] at this
    simp only [pickF, this]
  · rw [← hl] at h1 h2
    simp only [pickF, List.getElem?_eq_getElem h1, List.getElem?_eq_getElem h2] at h
    exact (List.getElem_inj hd).1 h
  · simp only [pickF, List.getElem?_eq_none (show js.length ≤ k by omega)]
    omega
theorem pick_map {A A3 : List AO} {js : List Nat} {n0 : Nat} (hb : (List.range n0).all (fun k => js[k]? == some k) = true) (hn : n0 ≤ A3.length) (hd : js.Nodup)
    (hg : js.map (fun j => A[j]?) = A3.map fun o => some (renO (pickF js A.length) o)) : Pick n0 A A3 (pickF js A.length) := by
  have hl : js.length = A3.length := by have := congrArg List.length hg; simpa using this
  have hgk : ∀ k o, A3[k]? = some o → A[pickF js A.length k]? = some (renO (pickF js A.length) o) := by
    intro k o hk
    have h1 := congrArg (fun l => l[k]?) hg
    simp only [List.getElem?_map, hk, Option.map_some] at h1
    cases hj : js[k]? with
    | none => rw [hj] at h1; simp at h1
    | some j =>
      rw [hj] at h1
      simp only [Option.map_some, Option.some.injEq] at h1
      simp only [pickF, hj]
      exact h1
  refine pick_list hb hl hn hd (fun j hj => ?_) hgk
  obtain ⟨k, hk, hkj⟩ := List.getElem_of_mem hj
  have hk3 : k < A3.length := by omega
  have := hgk k _ (List.getElem?_eq_getElem hk3)
  simp only [pickF, List.getElem?_eq_getElem hk, hkj] at this
  exact (List.getElem?_eq_some_iff.1 this).1
/-- An append that outgrows a slice of one's own. -/
theorem aappend_grow {A : List AO} {ty xt e k l cnt : Nat} {i : TypeInfo} {z x : AV} {cs news : List AV} (hu : P.underlying ty = some (.slice e)) (hn : notInt P xt = true) (hi : P.info? e = some i) (hz : azero P e = some z) (hzl : (acells z).length = i.size) (hpos : i.size ≠ 0)
    (hnews : anews A i.size x = some (cnt, news)) (hone : news.all aone = true) (hcnt : cnt ≠ 0) (hk : A[k]? = some (.row cs e true)) (hlen : l * i.size = cs.length) (hb : (l + cnt) * i.bytes ≤ 140737488355328) (hm : l + cnt ≤ 9223372036854775807) :
    aappend P A ty xt (.slc (some (k, 0)) l l false) x = some (.slc (some (A.length, 0)) (l + cnt) (l + cnt) false, A.set k .dead ++ [.row (cs ++ news) e true]) := by
  unfold aappend
  simp only [hu, hn, hi, hz]
  rw [if_neg (by simp only [hzl, not_or, ne_eq, not_true_eq_false, not_false_eq_true, true_and]; exact hpos)]
  simp only [hnews, hone, if_true, if_neg hcnt, arow, hk]
  rw [if_neg (by omega), if_pos ⟨hb, hm, by omega, Nat.le_refl _⟩]
  simp only [Bool.false_eq_true, if_false, true_and, and_true, Nat.zero_mod]
  rw [if_pos (by omega)]
  simp only [List.drop_zero, hlen, List.take_length]
end
end Go.Am
