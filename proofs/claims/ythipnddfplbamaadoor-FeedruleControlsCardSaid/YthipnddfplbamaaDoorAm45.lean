/- A part of the proof: Am45. -/
import Derived.Test.YthipnddfplbamaaDoorAm44
import Derived.Test.YthipnddfplbamaaDoorAm28
import Derived.Test.YthipnddfplbamaaDoorPw
set_option linter.unusedVariables false
set_option linter.unusedSimpArgs false
/-! Small lemmas on numbers, rows and told values. -/
namespace Go.Am
open Go.RowKit
theorem wr {x y : Int} (h : -9223372036854775808 ≤ x ∧ x ≤ 9223372036854775807 ∧ x = y) : IntKind.i64.wrap x = y := by
  rw [wrap64_of (by omega)]; exact h.2.2
theorem some_wr {x y : Int} {A : List AO} (h : -9223372036854775808 ≤ x ∧ x ≤ 9223372036854775807 ∧ x = y) : (some (AV.int .i64 (IntKind.i64.wrap x), A) : Option (AV × List AO)) = some (.int .i64 y, A) := by rw [wr h]
theorem some_int {k : IntKind} {x y : Int} {A : List AO} (h : x = y) : (some (AV.int k x, A) : Option (AV × List AO)) = some (.int k y, A) := by rw [h]
theorem some_str {x y : List UInt8} {A : List AO} (h : x = y) : (some (AV.str x, A) : Option (AV × List AO)) = some (.str y, A) := by rw [h]
/-- A row of n cells, cell by cell. -/
def rowF (f : Nat → AV) (n : Nat) : List AV := (List.range n).map f
theorem rowF_length (f : Nat → AV) (n : Nat) : (rowF f n).length = n := by simp [rowF]
theorem rowF_get (f : Nat → AV) {n j : Nat} (h : j < n) : (rowF f n)[j]? = some (f j) := by simp [rowF, h]
theorem rowF_none (f : Nat → AV) {n j : Nat} (h : n ≤ j) : (rowF f n)[j]? = none := by simp [rowF, h]
theorem rowF_eq {f : Nat → AV} {n : Nat} {l : List AV} (hl : l.length = n) (h : ∀ j, j < n → l[j]? = some (f j)) : rowF f n = l := by
  apply List.ext_getElem?
  intro j
  by_cases hj : j < n
  · rw [rowF_get f hj, h j hj]
  · rw [rowF_none f (by omega), List.getElem?_eq_none (by omega)]
theorem rowF_congr {f g : Nat → AV} {n : Nat} (h : ∀ j, j < n → f j = g j) : rowF f n = rowF g n :=
  rowF_eq (rowF_length g n) fun j hj => by rw [rowF_get g hj, h j hj]
theorem rowF_set {f : Nat → AV} {n k : Nat} {v : AV} (hk : k < n) : asplice (rowF f n) k [v] = rowF (fun j => if j = k then v else f j) n := by
  symm
  refine rowF_eq (by rw [asplice_length _ _ _ (by simp [rowF_length]; omega), rowF_length]) fun j hj => ?_
  rw [asplice_get _ _ _ (by simp [rowF_length]; omega)]
  by_cases h : j = k
  · subst h; simp
  · rw [if_neg (by simp; omega), rowF_get f hj, if_neg h]
theorem rowF_snoc (f : Nat → AV) (n : Nat) : rowF f n ++ [f n] = rowF f (n + 1) := by simp [rowF, List.range_succ]
theorem areps_rowF (n : Nat) (v : AV) : areps n [v] = rowF (fun _ => v) n := by
  symm
  refine rowF_eq (by simp [areps_length]) fun j hj => ?_
  unfold areps
  rw [reps_get _ _ _ (by simpa using hj)]
  simp [Nat.mod_one]
theorem map_rowF {α : Type} (l : List α) (d : α) (g : α → AV) : l.map g = rowF (fun j => g (l.getD j d)) l.length := by
  symm
  refine rowF_eq (by simp) fun j hj => ?_
  simp [hj]
theorem lowL_rowF {f : Nat → AV} {n : Nat} (k : Nat) (h : ∀ j, low k (f j) = true) : lowL k (rowF f n) = true := by
  unfold rowF
  generalize List.range n = l
  induction l with
  | nil => rfl
  | cons a r ih => simp only [List.map_cons, lowL, h, ih, Bool.and_self]
theorem renL_rowF {f : Nat → AV} {n : Nat} (g : Nat → Nat) (h : ∀ j, ren g (f j) = f j) : renL g (rowF f n) = rowF f n := by
  rw [renL_eq, rowF, List.map_map]
  exact List.map_congr_left fun j _ => h j
theorem lowL_map {α : Type} {l : List α} {f : α → AV} (k : Nat) (h : ∀ x, low k (f x) = true) : lowL k (l.map f) = true := by
  induction l with
  | nil => rfl
  | cons a r ih => simp only [List.map_cons, lowL, h, ih, Bool.and_self]
theorem renL_map {α : Type} {l : List α} {f : α → AV} (g : Nat → Nat) (h : ∀ x, ren g (f x) = f x) : renL g (l.map f) = l.map f := by
  rw [renL_eq, List.map_map]
  exact List.map_congr_left fun j _ => h j
/-- The byte of a small number. -/
theorem encode_small : ∀ c : UInt8, c.toNat < 128 → (Utf8.encode (c.toNat : Int)).data.toList = [c] := by
  intro c
  have h : ∀ n : Fin 128, (Utf8.encode (n.val : Int)).data.toList = [UInt8.ofNat n.val] := by decide +kernel
  intro hc
  have := h ⟨c.toNat, hc⟩
  simpa using this
theorem named_small {n : Nat} (h : named8 n = true) : n < 128 := by
  unfold named8 low8 dig8 at h
  simp only [Bool.or_eq_true, Bool.and_eq_true, decide_eq_true_eq, beq_iff_eq] at h
  omega
/-! ### A call told with nothing read: in any heap -/
theorem SCall.anyheap {P : Program} {w0 : World} {g : FuncId} {args : List AV} {v : AV} {N : List AO} (h : ∀ w0, SCall P w0 g args [] fun v' A' => v' = v ∧ A' = [] ++ N) (ha : ∀ f, renL f args = args) (hN : ∀ o ∈ N, ∃ cs e, o = .row cs e true) (A : List AO) :
    SCall P w0 g args A fun v' A' => v' = ren (fun k => A.length + k) v ∧ A' = A ++ N.map (renO fun k => A.length + k) :=
  (fresh_call (f := fun k => A.length + k) (B := []) (A := A) (args := args) h (fun k o hk => by simp at hk) (fun k _ => by simp) (ha _).symm hN).mono fun v' A' h => h
theorem SCall.pureheap {P : Program} {w0 : World} {g : FuncId} {args : List AV} {v : AV} (h : ∀ w0, SCall P w0 g args [] fun v' A' => v' = v ∧ A' = []) (ha : ∀ f, renL f args = args) (hv : ∀ f, ren f v = v) (A : List AO) :
    SCall P w0 g args A fun v' A' => v' = v ∧ A' = A :=
  (SCall.anyheap (N := []) (fun w0 => (h w0).mono fun v' A' h => h) ha (by simp) A).mono fun v' A' h => by
    simp only [List.map_nil, List.append_nil] at h
    rw [hv] at h; exact h
section
variable {P : Program} {w0 : World}
/-- The same where several answers may come. -/
theorem fresh_callR {g : FuncId} {qargs : List AV} {B : List AO} {Rq : AV → List AO → Prop} (hq : ∀ w0 : World, SCall P w0 g qargs B Rq) (hRN : ∀ v A, Rq v A → ∃ N, A = B ++ N ∧ ∀ o ∈ N, ∃ cs e, o = .row cs e true) {f : Nat → Nat} {args : List AV} {A : List AO}
    (hB : ∀ k o, B[k]? = some o → o = .dead ∨ ∃ cs e wr, o = .row cs e false ∧ A[f k]? = some (.row (renL f cs) e wr)) (hf : ∀ k, B.length ≤ k → f k = A.length + (k - B.length)) (ha : args = renL f qargs) :
    SCall P w0 g args A fun v A' => ∃ v0 N, Rq v0 (B ++ N) ∧ v = ren f v0 ∧ A' = A ++ N.map (renO f) := by
  intro m w us hr hus
  subst ha
  obtain ⟨mB, hmB⟩ : ∃ mB : List (Option Pl), mB = (List.range B.length).map fun k => (m[f k]?).join := ⟨_, rfl⟩
  have hget : ∀ k p, mB[k]? = some (some p) → m[f k]? = some (some p) ∧ k < B.length := by
    intro k p hk
    rw [hmB] at hk
    simp only [List.getElem?_map] at hk
    by_cases hlt : k < B.length
    · rw [List.getElem?_range hlt] at hk
      simp only [Option.map_some, Option.some.injEq] at hk
      exact ⟨Option.join_eq_some_iff.1 hk, hlt⟩
    · rw [List.getElem?_eq_none (by simp; omega)] at hk; cases hk
  have hput : ∀ k p, m[f k]? = some (some p) → mB[k]? = some (some p) := by
    intro k p hk
    by_cases hlt : k < B.length
    · rw [hmB]
      simp only [List.getElem?_map]
      rw [List.getElem?_range hlt]
      simp [hk]
    · have h1 := hf k (by omega)
      have h2 := (List.getElem?_eq_some_iff.1 hk).1
      rw [hr.len] at h2
      omega
  have hrel : Rel P w mB B w := by
    refine ⟨by simp [hmB], Below.refl _ _, fun k o p hk hp => ?_, fun k k' o o' p p' hne hk hk' hmut hlive hp hp' => ?_⟩
    · obtain ⟨hmp, _⟩ := hget k p hp
      rcases hB k o hk with rfl | ⟨cs, e, wr, rfl, hA⟩
      · trivial
      · obtain ⟨cc, fr, c1, c2, _⟩ := hr.obj (f k) _ p hA hmp
        refine ⟨cc, fr, c1, fun i x hx => ?_, fun h => by cases h⟩
        obtain ⟨u, hu, hru⟩ := c2 i _ (renL_get hx)
        exact ⟨u, hu, ren_rel hput x u hru⟩
    · rcases hB k o hk with rfl | ⟨cs, e, wr, rfl, hA⟩ <;> simp [AO.mut] at hmut
  refine (hq w mB w us hrel (VsRel.unren hput hus)).mono ?_
  rintro e w' ⟨u, v, A', m', rfl, hv, hext, hrel', hRq, hk⟩
  obtain ⟨N, rfl, hN⟩ := hRN v A' hRq
  have hgr := hr.grow P w0 hrel'.below
  have hlm : m'.length = B.length + N.length := by rw [hrel'.len]; simp
  have hm2 : ∀ k p, m'[k]? = some (some p) → (m ++ m'.drop B.length)[f k]? = some (some p) := by
    intro k p hkp
    by_cases hlt : k < B.length
    · have h1 : mB[k]? = some mB[k]?.get! := by
        rw [List.getElem?_eq_getElem (by simp [hmB]; exact hlt)]; rfl
      have h2 : ∃ q, mB[k]? = some q := ⟨_, List.getElem?_eq_getElem (by simp [hmB]; exact hlt)⟩
      obtain ⟨q, hq2⟩ := h2
      have h3 := hext k q hq2
      rw [hkp] at h3
      cases h3
      have h4 := (hget k p hq2).1
      rw [List.getElem?_append_left (List.getElem?_eq_some_iff.1 h4).1]
      exact h4
    · rw [hf k (by omega), ← hr.len, List.getElem?_append_right (by omega)]
      simp only [Nat.add_sub_cancel_left, List.getElem?_drop]
      rw [← hkp]; congr 1; omega
  have hnew : ∀ (j : Nat) (o : AO), (N.map (renO f))[j]? = some o → ∃ cs e, N[j]? = some (.row cs e true) ∧ o = .row (renL f cs) e true := by
    intro j o hj
    simp only [List.getElem?_map, Option.map_eq_some_iff] at hj
    obtain ⟨o0, h0, rfl⟩ := hj
    obtain ⟨cs, e, rfl⟩ := hN o0 (List.mem_of_getElem? h0)
    exact ⟨cs, e, h0, rfl⟩
  have hB' : ∀ (j : Nat) (o : AO), N[j]? = some o → (B ++ N)[B.length + j]? = some o := by
    intro j o hj
    rw [List.getElem?_append_right (by omega)]
    simpa using hj
  have part : ∀ {k : Nat} {o : AO}, (A ++ N.map (renO f))[k]? = some o → (k < A.length ∧ A[k]? = some o) ∨ ∃ j, k = A.length + j ∧ (N.map (renO f))[j]? = some o := by
    intro k o hk
    by_cases hlt : k < A.length
    · rw [List.getElem?_append_left hlt] at hk; exact .inl ⟨hlt, hk⟩
    · rw [List.getElem?_append_right (by omega)] at hk; exact .inr ⟨k - A.length, by omega, hk⟩
  have oldm : ∀ {k : Nat} {p : Pl}, k < A.length → (m ++ m'.drop B.length)[k]? = some (some p) → m[k]? = some (some p) := by
    intro k p hlt hk
    rwa [List.getElem?_append_left (by rw [hr.len]; exact hlt)] at hk
  have newm : ∀ {j : Nat} {p : Pl}, (m ++ m'.drop B.length)[A.length + j]? = some (some p) → m'[B.length + j]? = some (some p) := by
    intro j p hk
    rw [← hr.len, List.getElem?_append_right (by omega)] at hk
    simpa [List.getElem?_drop] using hk
  have hi : ∀ {j : Nat} {cs : List AV} {e : TypeId} {p : Pl}, N[j]? = some (.row cs e true) → m'[B.length + j]? = some (some p) → w.heap.size ≤ p.b := by
    intro j cs e p h1 h2
    obtain ⟨cc, fr, _, _, h3⟩ := hrel'.obj _ _ p (hB' j _ h1) h2
    exact (h3 rfl).1
  have hold : ∀ {k : Nat} {o : AO} {p : Pl}, A[k]? = some o → o.live = true → m[k]? = some (some p) → p.b < w.heap.size := fun h1 h2 h3 => (hr.obj _ _ _ h1 h3).lt P w0 h2
  have live_of : ∀ o : AO, o.mut = true → o.live = true := fun o ho => by cases o <;> simp_all [AO.mut, AO.live]
  refine ⟨u, ren f v, A ++ N.map (renO f), m ++ m'.drop B.length, rfl, rel_ren hm2 hv, Ext.append _ _, ⟨by simp [hr.len, hlm], hgr.below, fun k o p hko hkp => ?_, fun k k' o o' p p' hne hko hko' hmut hlive hkp hkp' => ?_⟩, ⟨v, N, hRq, rfl, rfl⟩, hk⟩
  · rcases part hko with ⟨hlt, h1⟩ | ⟨j, rfl, h1⟩
    · exact (hgr.obj k o p h1 (oldm hlt hkp)).ext P w0 (Ext.weak (Ext.append _ _))
    · obtain ⟨cs, e, h2, rfl⟩ := hnew j o h1
      have h3 := newm hkp
      obtain ⟨cc, fr, c1, c2, c3⟩ := hrel'.obj _ _ p (hB' j _ h2) h3
      refine ⟨cc, fr, c1, fun i v hv => ?_, fun _ => ?_⟩
      · rw [renL_eq] at hv
        simp only [List.getElem?_map, Option.map_eq_some_iff] at hv
        obtain ⟨y, hy, rfl⟩ := hv
        obtain ⟨u2, hu2, hr2⟩ := c2 i y hy
        exact ⟨u2, hu2, rel_ren hm2 hr2⟩
      · obtain ⟨d1, d2, d3⟩ := c3 rfl
        exact ⟨Nat.le_trans hr.base d1, d2, by rw [show (renL f cs).length = cs.length by rw [renL_eq]; simp]; exact d3⟩
  · rcases part hko with ⟨hlt, h1⟩ | ⟨j, rfl, h1⟩
    · rcases part hko' with ⟨hlt', h1'⟩ | ⟨j', rfl, h1'⟩
      · exact hr.inj k k' o o' p p' hne h1 h1' hmut hlive (oldm hlt hkp) (oldm hlt' hkp')
      · obtain ⟨cs, e, h2, rfl⟩ := hnew j' o' h1'
        have := hi h2 (newm hkp')
        have := hold h1 (live_of o hmut) (oldm hlt hkp)
        omega
    · obtain ⟨cs, e, h2, rfl⟩ := hnew j o h1
      have h3 := newm hkp
      rcases part hko' with ⟨hlt', h1'⟩ | ⟨j', rfl, h1'⟩
      · have := hi h2 h3
        have := hold h1' hlive (oldm hlt' hkp')
        omega
      · obtain ⟨cs', e', h2', rfl⟩ := hnew j' o' h1'
        exact hrel'.inj _ _ _ _ p p' (by omega) (hB' j _ h2) (hB' j' _ h2') rfl rfl h3 (newm hkp')
theorem SCall.pureheapR {g : FuncId} {args : List AV} {R : AV → Prop} (h : ∀ w0, SCall P w0 g args [] fun v' A' => R v' ∧ A' = []) (ha : ∀ f, renL f args = args) (hv : ∀ v f, R v → ren f v = v) (A : List AO) :
    SCall P w0 g args A fun v' A' => R v' ∧ A' = A :=
  (fresh_callR (f := fun k => A.length + k) (B := []) (A := A) (args := args) h (fun v A' h => ⟨[], h.2, by simp⟩) (fun k o hk => by simp at hk) (fun k _ => by simp) (ha _).symm).mono fun v' A' ⟨v0, N, h1, h2, h3⟩ => by
    obtain ⟨h4, h5⟩ := h1
    simp only [List.nil_append] at h5
    subst h5
    rw [hv _ _ h4] at h2
    exact ⟨h2 ▸ h4, by simpa using h3⟩
end
/-- Ends on nothing. -/
theorem Fits.clear {v : AV} {A : List AO} (hv : low 0 v = true) : Fits 0 [v] A [v] [] := by
  have := Fits.drop (nb := 0) (vs := [v]) (A := []) (N := A) (Nat.le_refl _) (by simp [lowL, hv]) (by simp)
  simpa using this
end Go.Am
