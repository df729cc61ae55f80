/- A part of the proof: Am3. -/
import Derived.Test.YthipnddfplbamaaDoorAm2
import Derived.Laws.AppendOwn
import Derived.Laws.OwnMore
import Derived.Laws.Rows
import Derived.Laws.IdiomAt
set_option linter.unusedVariables false
set_option linter.unusedSimpArgs false
namespace Go.Am
open Go.RowKit

section
variable {P : Program} {w0 : World} {m : List (Option Pl)} {A : List AO} {w : World} {t : List AV} {a : Act}

theorem add_at (b o j : Nat) : (⟨b, o, none⟩ : Addr).add j = ⟨b, o + j, none⟩ := by unfold Addr.add; split <;> simp_all

/-! ### Reading -/
theorem cell_at {cc : Array Value} {e : TypeId} {fr : Nat × Nat} {b : Nat} (h : w.heap[b]? = some (.cells cc e fr)) (i : Nat) : w.cell? ⟨b, i, none⟩ = cc[i]? := by
  simp [World.cell?, h]
theorem frozen_at {cc : Array Value} {e : TypeId} {fr : Nat × Nat} {b : Nat} (h : w.heap[b]? = some (.cells cc e fr)) (i : Nat) : w.frozen? ⟨b, i, none⟩ = (decide (fr.1 ≤ i) && decide (i < fr.2)) := by
  obtain ⟨lo, hi⟩ := fr
  simp [World.frozen?, h]

theorem run_cells_list (b o : Nat) : ∀ (us : List Value) (i : Nat) (acc : Array Value), (∀ j u, us[j]? = some u → w.cell? ⟨b, o + i + j, none⟩ = some u) →
    (loadCellsFrom ⟨b, o, none⟩ i us.length acc).run P w = .ok (acc ++ us.toArray) w := by
  intro us
  induction us with
  | nil => intro i acc _; simp [loadCellsFrom]
  | cons v r ih =>
    intro i acc h
    have h0 := h 0 v rfl
    simp only [Nat.add_zero] at h0
    simp only [List.length_cons, loadCellsFrom, Sem.run_bind, add_at, run_load, h0, Result.andThen_ok]
    rw [ih (i + 1) (acc.push v) (fun j u hj => by have := h (j + 1) u (by simpa using hj); rwa [show o + i + (j + 1) = o + (i + 1) + j by omega] at this)]
    simp [Array.push_append]

/-- The cells of a row, as the memory holds them. -/
theorem row_cells {k : Nat} {cs : List AV} {e : TypeId} {wr : Bool} {p : Pl} (h : Rel P w0 m A w) (hk : A[k]? = some (.row cs e wr)) (hp : m[k]? = some (some p)) (o n : Nat) (hn : o + n ≤ cs.length) :
    ∃ us : List Value, us.length = n ∧ VsRel m ((cs.drop o).take n) us.toArray ∧ ∀ j u, us[j]? = some u → w.cell? ⟨p.b, p.o + o + j, none⟩ = some u := by
  obtain ⟨cc, fr, h1, h2, _⟩ := h.obj k _ p hk hp
  have get : ∀ j, j < n → ∃ u, cc[p.o + (o + j)]? = some u ∧ VRel m (cs[o + j]?.getD aundef) u := fun j hj => by
    obtain ⟨u, hu, hr⟩ := h2 (o + j) (cs[o + j]'(by omega)) (by simp)
    exact ⟨u, hu, by simpa [show o + j < cs.length by omega] using hr⟩
  refine ⟨(List.range n).map fun j => (cc[p.o + (o + j)]?).getD undef, by simp, ⟨by simp; omega, fun j x u hx hu => ?_⟩, fun j u hu => ?_⟩
  · have hj : j < n := by
      have := (List.getElem?_eq_some_iff.1 hx).1
      simp at this; omega
    obtain ⟨u', hu', hr⟩ := get j hj
    simp [hj, hu'] at hu
    subst hu
    rw [List.getElem?_take, if_pos hj, List.getElem?_drop] at hx
    simpa [hx] using hr
  · have hj : j < n := by
      have := (List.getElem?_eq_some_iff.1 hu).1
      simpa using this
    obtain ⟨u', hu', hr⟩ := get j hj
    simp [hj, hu'] at hu
    subst hu
    rw [cell_at h1, Nat.add_assoc, hu']

def aisAgg (P : Program) (t : TypeId) : Option Bool :=
  match P.underlying t with
  | some (.struct _) | some (.array _ _) => some true
  | some _ => some false
  | none => none
theorem aisAgg_run {t : TypeId} {b : Bool} (h : aisAgg P t = some b) : (isAgg t).run P w = .ok b w := by
  unfold aisAgg at h
  unfold isAgg
  split at h <;> rename_i hu <;> first
    | (cases h; done)
    | (simp only [Option.some.injEq] at h; subst h; simp [underlying, hu])
    | (rename_i d hn1 hn2; simp only [Option.some.injEq] at h; subst h; simp only [Sem.run_bind, underlying, run_program, Result.andThen_ok, hu, Sem.run_pure]
       cases d <;> first | rfl | exact absurd hu (hn1 _) | exact absurd hu (hn2 _ _))
def asize (P : Program) (t : TypeId) : Option Nat := (P.info? t).map (·.size)
theorem asize_run {t : TypeId} {n : Nat} (h : asize P t = some n) : (sizeOf t).run P w = .ok n w := by
  unfold asize at h
  obtain ⟨i, hi, rfl⟩ := Option.map_eq_some_iff.1 h
  simp [sizeOf, typeInfo, hi]

/-- A variable of type ty at cell o of row k. -/
def arow (A : List AO) (k : Nat) : Option (List AV × TypeId × Bool) :=
  match A[k]? with
  | some (.row cs e wr) => some (cs, e, wr)
  | _ => none
theorem arow_some {k : Nat} {cs : List AV} {e : TypeId} {wr : Bool} (h : arow A k = some (cs, e, wr)) : A[k]? = some (.row cs e wr) := by
  unfold arow at h
  split at h
  · rename_i h'; simp at h; obtain ⟨rfl, rfl, rfl⟩ := h; exact h'
  · cases h
def aloadVar (P : Program) (A : List AO) (ty : TypeId) (k o : Nat) : Option AV :=
  match arow A k, aisAgg P ty with
  | some (cs, _, _), some true => match asize P ty with
    | some n => if o + n ≤ cs.length then some (.agg ((cs.drop o).take n)) else none
    | none => none
  | some (cs, _, _), some false => cs[o]?
  | _, _ => none

theorem aloadVar_rel (h : Rel P w0 m A w) {ty : TypeId} {k o : Nat} {v : AV} (hv : aloadVar P A ty k o = some v) {p : Pl} (hp : m[k]? = some (some p)) :
    ∃ u, (loadVar ty ⟨p.b, p.o + o, none⟩).run P w = .ok u w ∧ VRel m v u := by
  unfold aloadVar at hv
  split at hv
  · rename_i cs e wr hrow hagg
    split at hv
    · rename_i n hn
      split at hv
      · rename_i hle
        simp at hv; subst hv
        obtain ⟨us, hl, hrel, hc⟩ := row_cells h (arow_some hrow) hp o n hle
        have hr := run_cells_list (P := P) (w := w) p.b (p.o + o) us 0 #[] (fun j u hj => by simpa using hc j u hj)
        refine ⟨.agg us.toArray, ?_, .agg hrel.1 hrel.2⟩
        unfold loadVar
        simp only [Sem.run_bind, aisAgg_run hagg, Result.andThen_ok, if_true, asize_run hn, loadCells, Sem.run_pure]
        rw [← hl, hr]
        simp
      · cases hv
    · cases hv
  · rename_i cs e wr hrow hagg
    obtain ⟨cc, fr, h1, h2, _⟩ := h.obj k _ p (arow_some hrow) hp
    obtain ⟨u, hu, hr⟩ := h2 o v hv
    refine ⟨u, ?_, hr⟩
    unfold loadVar
    simp [aisAgg_run hagg, cell_at h1, hu]
  · cases hv

/-! ### New rows -/
def aone : AV → Bool
  | .agg _ | .tuple _ | .any => false
  | _ => true
def acells : AV → List AV
  | .agg cs => cs
  | v => [v]
def notAny : AV → Bool
  | .any => false
  | _ => true
theorem notAny_of_one {v : AV} (h : (acells v).all aone = true) : notAny v = true := by
  cases v <;> first | rfl | simp [acells, aone] at h
theorem acells_rel {v : AV} {u : Value} (h : VRel m v u) (hna : notAny v = true) : VsRel m (acells v) u.cells := by
  have one : ∀ {v : AV} {u : Value}, VRel m v u → VsRel m [v] #[u] := fun {v u} h => by
    have := (VsRel.nil m).push h
    simpa using this
  cases h with
  | agg h1 h2 => exact ⟨h1, h2⟩
  | bool b => exact one (.bool b)
  | int k n => exact one (.int k n)
  | str s => exact one (.str s)
  | ptrNil => exact one .ptrNil
  | ptr h => exact one (.ptr h)
  | slcNil n c e => exact one (.slcNil n c e)
  | slc n c e h => exact one (.slc n c e h)
  | slcEmpty k o e ad => exact one (.slcEmpty k o e ad)
  | mapNil => exact one .mapNil
  | map h => exact one (.map h)
  | func fn h1 h2 h3 h4 => exact one (.func fn h1 h2 h3 h4)
  | nilFunc => exact one .nilFunc
  | yld h => exact one (.yld h)
  | iface t h => exact one (.iface t h)
  | nilIface => exact one .nilIface
  | tuple h1 h2 => exact one (.tuple h1 h2)
  | any => cases hna

theorem Kept.alloc (w : World) (o : Obj) : Kept w (w.alloc o) := Kept.below ((Below.refl _ _).alloc (Nat.le_refl _) _)
theorem Kept.drew (w : World) : Kept w w.drew := Kept.below (Below.refl _ _).drew

theorem new_block (w : World) (o : Obj) : (w.alloc o).heap[w.heap.size]? = some o := heap_alloc_new w o

/-- A new row of whole elements. -/
theorem Rel.newRow (h : Rel P w0 m A w) {cs : List AV} {us : Array Value} (hv : VsRel m cs us) {e : TypeId} {n : Nat} (hi : asize P e = some n) (hle : cs.length ≤ maxLen * n) :
    Rel P w0 (m ++ [some ⟨w.heap.size, 0, 0⟩]) (A ++ [.row cs e true]) (w.alloc (.cells us e)) := by
  obtain ⟨i, hi', hin⟩ := Option.map_eq_some_iff.1 (show (P.info? e).map (·.size) = some n from hi)
  refine h.push P w0 ((Below.refl _ _).alloc (Nat.le_refl _) _) _ _ (Nat.le_refl _) ⟨us, (0, 0), new_block _ _, fun j v hj => ?_, fun _ => ⟨h.below.size, fun j _ => by simp, i, hi', ?_, ?_⟩⟩
  · obtain ⟨u, hu, hr⟩ := hv.get hj
    exact ⟨u, by simpa using hu, hr.ext (Ext.append _ _)⟩
  · simp [← hv.1]
  · rw [hin]; simpa using hle
theorem Rel.newLast (h : Rel P w0 m A w) (p : Pl) : (m ++ [some p])[A.length]? = some (some p) := by
  rw [← h.len]; simp
theorem newRow_run (us : Array Value) (e : TypeId) : (newRow e us).run P w = .ok ⟨w.heap.size, 0, none⟩ (w.alloc (.cells us e)) := by
  simp [newRow]

/-! ### Storing -/
theorem aone_rel {v : AV} {u : Value} (h : VRel m v u) (h1 : aone v = true) : u.oneCell' = true := by
  cases h <;> first | rfl | simp [aone] at h1

theorem store_cells (b o : Nat) (e : TypeId) (fr : Nat × Nat) : ∀ (vs : List Value) (i : Nat) (cc : Array Value) (w : World), w.heap[b]? = some (.cells cc e fr) → o + i + vs.length ≤ cc.size →
    (∀ j, j < cc.size → (decide (fr.1 ≤ j) && decide (j < fr.2)) = false) → (∀ v ∈ vs, v.oneCell' = true) →
    ∃ w' cc', (storeCells ⟨b, o, none⟩ vs i).run P w = .ok () w' ∧ w'.heap[b]? = some (.cells cc' e fr) ∧ cc'.size = cc.size ∧
      (∀ j, cc'[j]? = if o + i ≤ j ∧ j < o + i + vs.length then vs[j - (o + i)]? else cc[j]?) ∧ w.grownBy w' (some b) := by
  intro vs
  induction vs with
  | nil =>
    intro i cc w hb _ _ _
    refine ⟨w, cc, by simp [storeCells], hb, rfl, fun j => ?_, rfl, rfl, rfl, Nat.le_refl _, fun _ _ _ => rfl⟩
    rw [if_neg (by simp only [List.length_nil]; omega)]
  | cons v r ih =>
    intro i cc w hb hle hfr h1
    simp only [List.length_cons] at hle
    have hlt : o + i < cc.size := by omega
    have hcell : w.cell? ⟨b, o + i, none⟩ = some cc[o + i] := by rw [cell_at hb]; simp [hlt]
    have hset : (w.setCell ⟨b, o + i, none⟩ v).heap[b]? = some (.cells (cc.setIfInBounds (o + i) v) e fr) := by
      simp [World.setCell, Array.getElem?_modify, hb]
    obtain ⟨w', cc', hr, hb', hs', hc', hg⟩ := ih (i + 1) (cc.setIfInBounds (o + i) v) (w.setCell ⟨b, o + i, none⟩ v) hset (by simp; omega) (by simpa using hfr) (fun u hu => h1 u (by simp [hu]))
    refine ⟨w', cc', ?_, hb', by simpa using hs', fun j => ?_, ?_⟩
    · simp only [storeCells, Sem.run_bind, add_at, run_store P w _ v .plain (h1 v (by simp)), hcell, frozen_at hb, hfr _ hlt, Bool.false_eq_true, if_false, Result.andThen_ok]
      exact hr
    · rw [hc' j, Array.getElem?_setIfInBounds]
      by_cases hj : o + i = j
      · subst hj
        rw [if_neg (by omega), if_pos rfl, if_pos hlt, if_pos (by simp)]
        simp
      · by_cases hin : o + (i + 1) ≤ j ∧ j < o + (i + 1) + r.length
        · rw [if_pos hin, if_pos (by simp; omega)]
          obtain ⟨q, rfl⟩ : ∃ q, j = o + i + (q + 1) := ⟨j - (o + i) - 1, by omega⟩
          rw [show o + i + (q + 1) - (o + (i + 1)) = q by omega, show o + i + (q + 1) - (o + i) = q + 1 by omega]
          simp
        · rw [if_neg hin, if_neg hj, if_neg (by simp; omega)]
    · refine ⟨hg.os, hg.tape, hg.output, by simpa [World.setCell] using hg.size, fun q hq hne => ?_⟩
      rw [hg.block q (by simpa [World.setCell] using hq) hne]
      exact Below.heap_setCell _ _ _ _ (by intro e; exact hne (by simp [e]))

/-- A row whose cells turn. -/
theorem Rel.setRow (h : Rel P w0 m A w) {k : Nat} {cs cs' : List AV} {e : TypeId} (hk : A[k]? = some (.row cs e true)) {p : Pl} (hp : m[k]? = some (some p)) (hlen : cs'.length = cs.length)
    {w' : World} {cc' : Array Value} {fr : Nat × Nat} {cc : Array Value} (hb : w.heap[p.b]? = some (.cells cc e fr)) (hb' : w'.heap[p.b]? = some (.cells cc' e fr)) (hs : cc'.size = cc.size) (hg : w.grownBy w' (some p.b))
    (hc : ∀ (i : Nat) (v : AV), cs'[i]? = some v → ∃ u, cc'[p.o + i]? = some u ∧ VRel m v u) : Rel P w0 m (A.set k (.row cs' e true)) w' := by
  have hkl : k < A.length := (List.getElem?_eq_some_iff.1 hk).1
  obtain ⟨cc0, fr0, q1, q2, q3⟩ := h.obj k _ p hk hp
  rw [hb] at q1
  simp at q1
  obtain ⟨rfl, rfl⟩ := q1
  obtain ⟨r1, r2, i, r3, r4, r5⟩ := q3 rfl
  refine ⟨by simp [h.len], h.below.grown hg h.below.size (fun q hq => by simp at hq; omega), fun j o p' hj hp' => ?_, fun j j' o1 o2 p1 p2 hne h1 h2 hm hl hp1 hp2 => ?_⟩
  · rw [List.getElem?_set] at hj
    by_cases hjk : k = j
    · subst hjk
      rw [if_pos rfl, if_pos hkl] at hj
      simp at hj; subst hj
      rw [hp] at hp'; simp at hp'; subst hp'
      exact ⟨cc', fr, hb', hc, fun _ => ⟨r1, by rw [hs]; exact r2, i, r3, by rw [hs, hlen]; exact r4, by rw [hlen]; exact r5⟩⟩
    · rw [if_neg hjk] at hj
      have ho := h.obj j o p' hj hp'
      cases hl : o.live with
      | false => cases o <;> first | trivial | simp [AO.live] at hl
      | true => exact ho.same P w0 (hg.block _ (ho.lt P w0 hl) (fun e' => h.inj k j _ o p p' hjk hk hj rfl hl hp hp' (by simpa using e'.symm)))
  · have back : ∀ {j : Nat} {o : AO}, (A.set k (.row cs' e true))[j]? = some o → ∃ o', A[j]? = some o' ∧ o'.mut = o.mut ∧ o'.live = o.live := by
      intro j o hj
      rw [List.getElem?_set] at hj
      by_cases hjk : k = j
      · subst hjk
        rw [if_pos rfl, if_pos hkl] at hj
        simp at hj; subst hj
        exact ⟨_, hk, rfl, rfl⟩
      · rw [if_neg hjk] at hj
        exact ⟨o, hj, rfl, rfl⟩
    obtain ⟨o1', a1, a2, a3⟩ := back h1
    obtain ⟨o2', b1, b2, b3⟩ := back h2
    exact h.inj j j' o1' o2' p1 p2 hne a1 b1 (a2 ▸ hm) (b3 ▸ hl) hp1 hp2

def asplice (cs : List AV) (o : Nat) (vs : List AV) : List AV := cs.take o ++ vs ++ cs.drop (o + vs.length)
theorem asplice_length (cs : List AV) (o : Nat) (vs : List AV) (h : o + vs.length ≤ cs.length) : (asplice cs o vs).length = cs.length := by
  simp [asplice]; omega
theorem asplice_get (cs : List AV) (o : Nat) (vs : List AV) (h : o + vs.length ≤ cs.length) (j : Nat) : (asplice cs o vs)[j]? = if o ≤ j ∧ j < o + vs.length then vs[j - o]? else cs[j]? := by
  unfold asplice
  have h1 : (List.take o cs).length = o := by simp; omega
  by_cases a : j < o
  · rw [if_neg (by omega), List.append_assoc, List.getElem?_append_left (by omega), List.getElem?_take, if_pos a]
  · rw [List.append_assoc, List.getElem?_append_right (by omega), h1]
    by_cases b : j < o + vs.length
    · rw [if_pos (by omega), List.getElem?_append_left (by omega)]
    · rw [if_neg (by omega), List.getElem?_append_right (by omega), List.getElem?_drop]
      congr 1; omega

/-- Storing cells into a row. -/
theorem store_row (h : Rel P w0 m A w) {k : Nat} {cs : List AV} {e : TypeId} (hk : A[k]? = some (.row cs e true)) {p : Pl} (hp : m[k]? = some (some p)) (o : Nat) {vs : List AV} {us : List Value} (hv : VsRel m vs us.toArray)
    (h1 : vs.all aone = true) (hle : o + vs.length ≤ cs.length) :
    ∃ w', (storeCells ⟨p.b, p.o + o, none⟩ us 0).run P w = .ok () w' ∧ Rel P w0 m (A.set k (.row (asplice cs o vs) e true)) w' ∧ Kept w w' := by
  obtain ⟨cc, fr, q1, q2, q3⟩ := h.obj k _ p hk hp
  obtain ⟨r1, r2, i, r3, r4, _⟩ := q3 rfl
  have hl : vs.length = us.length := by simpa using hv.1
  have hone : ∀ v ∈ us, v.oneCell' = true := fun u hu => by
    obtain ⟨j, hj⟩ := List.mem_iff_getElem?.1 hu
    have hlt : j < us.length := (List.getElem?_eq_some_iff.1 hj).1
    refine aone_rel (hv.2 j (vs[j]'(by omega)) u (by simp) (by simpa using hj)) ?_
    exact List.all_eq_true.1 h1 _ (List.getElem_mem _)
  obtain ⟨w', cc', hr, hb', hs', hc', hg⟩ := store_cells (P := P) p.b (p.o + o) e fr us 0 cc w q1 (by omega) r2 hone
  refine ⟨w', hr, h.setRow hk hp (asplice_length cs o vs hle) q1 hb' hs' hg fun j v hj => ?_, Kept.grown hg (fun c => by rw [q1]; simp)⟩
  rw [asplice_get cs o vs hle] at hj
  rw [hc']
  split at hj
  · rename_i hin
    obtain ⟨u, hu, hr⟩ := hv.get hj
    refine ⟨u, ?_, hr⟩
    rw [if_pos (by omega)]
    simpa [show p.o + j - (p.o + o) = j - o by omega] using hu
  · rename_i hin
    obtain ⟨u, hu, hr⟩ := q2 j v hj
    refine ⟨u, ?_, hr⟩
    rw [if_neg (by omega)]
    exact hu
end
end Go.Am
