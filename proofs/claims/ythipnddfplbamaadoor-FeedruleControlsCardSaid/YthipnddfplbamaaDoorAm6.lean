/- A part of the proof: Am6. -/
import Derived.Test.YthipnddfplbamaaDoorAm5
set_option linter.unusedVariables false
set_option linter.unusedSimpArgs false
namespace Go.Am
open Go.RowKit

section
variable {P : Program} {w0 : World} {m : List (Option Pl)} {A : List AO} {w : World} {t : List AV} {a : Act}

/-- A computation of the model that gives what is told: one value, a new heap. -/
def Gives (P : Program) (w0 : World) (m : List (Option Pl)) (A : List AO) (w : World) (s : Sem Value) (v : AV) (A' : List AO) : Prop :=
  ∃ u w' m', s.run P w = .ok u w' ∧ Ext m m' ∧ Rel P w0 m' A' w' ∧ VRel m' v u ∧ Kept w w'

theorem Gives.pure (h : Rel P w0 m A w) {v : AV} {u : Value} (hv : VRel m v u) : Gives P w0 m A w (pure u) v A :=
  ⟨u, w, m, rfl, Ext.refl _, h, hv, Kept.refl w⟩
theorem Gives.here (h : Rel P w0 m A w) {s : Sem Value} {v : AV} {u : Value} (hs : s.run P w = .ok u w) (hv : VRel m v u) : Gives P w0 m A w s v A :=
  ⟨u, w, m, hs, Ext.refl _, h, hv, Kept.refl w⟩

def azero (P : Program) (ty : TypeId) : Option AV :=
  match P.info? ty with
  | some i => match i.zero with
    | some z => ofVal z
    | none => none
  | none => none
theorem azero_run {ty : TypeId} {z : AV} (h : azero P ty = some z) : ∃ u, (zeroValue ty).run P w = .ok u w ∧ ∀ m, VRel m z u := by
  unfold azero at h
  split at h
  · rename_i i hi
    split at h
    · rename_i u hu
      exact ⟨u, by simp [zeroValue, typeInfo, hi, hu], fun m => ofVal_rel m h⟩
    · cases h
  · cases h

theorem ofVal_na {u : Value} {z : AV} (h : ofVal u = some z) : notAny z = true := by
  have hc : ∀ {u : Value} {z : AV}, ofCell u = some z → notAny z = true := fun {u z} h => by
    unfold ofCell at h
    split at h <;> first | (cases h; rfl) | (split at h <;> first | (cases h; rfl) | cases h) | cases h
  unfold ofVal at h
  split at h
  · obtain ⟨x, _, rfl⟩ := Option.map_eq_some_iff.1 h; rfl
  · obtain ⟨x, _, rfl⟩ := Option.map_eq_some_iff.1 h; rfl
  · obtain ⟨x, _, rfl⟩ := Option.map_eq_some_iff.1 h; rfl
  · exact hc h
theorem azero_na {ty : TypeId} {z : AV} (h : azero P ty = some z) : notAny z = true := by
  unfold azero at h
  split at h
  · split at h
    · exact ofVal_na h
    · cases h
  · cases h

/-! ### A new variable -/
def abox (P : Program) (A : List AO) (e : TypeId) (v : AV) : Option (AV × List AO) :=
  match asize P e with
  | some n => if notAny v = true ∧ (acells v).length ≤ maxLen * n then some (.ptr (some (A.length, 0)), A ++ [.row (acells v) e true]) else none
  | none => none
theorem abox_rel (h : Rel P w0 m A w) {e : TypeId} {v v' : AV} {A' : List AO} {u : Value} (hv : VRel m v u) (hb : abox P A e v = some (v', A')) : Gives P w0 m A w (do pure (.pointer (some (← newVar e u)))) v' A' := by
  unfold abox at hb
  split at hb
  · rename_i n hn
    split at hb
    · rename_i hle
      obtain ⟨hna, hle⟩ := hle
      simp at hb; obtain ⟨rfl, rfl⟩ := hb
      have hr := h.newRow (acells_rel hv hna) hn hle
      have hp := VRel.ptr (o := 0) (h.newLast ⟨w.heap.size, 0, 0⟩)
      exact ⟨.pointer (some ⟨w.heap.size, 0, none⟩), _, _, by simp [newVar, newRow_run], Ext.append _ _, hr, hp, Kept.alloc _ _⟩
    · cases hb
  · cases hb

/-! ### Building -/
def afill (place : Nat → Option (Nat × Nat)) : List AV → List (Nat × AV) → Option (List AV)
  | cs, [] => some cs
  | cs, (i, v) :: rest => match place i with
    | none => none
    | some (off, size) => if notAny v = true ∧ (acells v).length = size ∧ off + (acells v).length ≤ cs.length then afill place (asplice cs off (acells v)) rest else none

theorem foldl_set (off : Nat) : ∀ (l : List Value) (k : Nat) (cs : Array Value), off + k + l.length ≤ cs.size →
    ((l.zipIdx k).foldl (fun cs (x : Value × Nat) => cs.setIfInBounds (off + x.2) x.1) cs).size = cs.size ∧
    ∀ j : Nat, ((l.zipIdx k).foldl (fun cs (x : Value × Nat) => cs.setIfInBounds (off + x.2) x.1) cs)[j]? = if off + k ≤ j ∧ j < off + k + l.length then l[j - (off + k)]? else cs[j]? := by
  intro l
  induction l with
  | nil => intro k cs _; refine ⟨rfl, fun j => ?_⟩; simp only [List.zipIdx_nil, List.foldl_nil, List.length_nil]; rw [if_neg (by omega)]
  | cons v r ih =>
    intro k cs hle
    simp only [List.length_cons] at hle
    simp only [List.zipIdx_cons, List.foldl_cons]
    obtain ⟨h1, h2⟩ := ih (k + 1) (cs.setIfInBounds (off + k) v) (by simp; omega)
    refine ⟨by rw [h1]; simp, fun j => ?_⟩
    rw [h2, Array.getElem?_setIfInBounds]
    by_cases hj : off + k = j
    · subst hj
      rw [if_neg (by omega), if_pos rfl, if_pos (by omega), if_pos (by simp)]
      simp
    · by_cases hin : off + (k + 1) ≤ j ∧ j < off + (k + 1) + r.length
      · rw [if_pos hin, if_pos (by simp; omega)]
        obtain ⟨q, rfl⟩ : ∃ q, j = off + k + (q + 1) := ⟨j - (off + k) - 1, by omega⟩
        rw [show off + k + (q + 1) - (off + (k + 1)) = q by omega, show off + k + (q + 1) - (off + k) = q + 1 by omega]
        simp
      · rw [if_neg hin, if_neg hj, if_neg (by simp; omega)]

theorem VsRel.splice {cs vs : List AV} {us ws : Array Value} (h : VsRel m cs us) (k : VsRel m vs ws) (off : Nat) (hle : off + vs.length ≤ cs.length) :
    VsRel m (asplice cs off vs) (ws.zipIdx.foldl (fun cs (x : Value × Nat) => cs.setIfInBounds (off + x.2) x.1) us) := by
  have hl := h.1
  have kl := k.1
  have hf := foldl_set off ws.toList 0 us (by simp; omega)
  rw [← Array.foldl_toList, Array.toList_zipIdx]
  refine ⟨by rw [asplice_length cs off vs hle, hf.1, hl], fun i x u hx hu => ?_⟩
  rw [asplice_get cs off vs hle] at hx
  rw [hf.2] at hu
  split at hx
  · rw [if_pos (by simp; omega)] at hu
    simp only [Nat.add_zero] at hu
    exact k.2 _ x u hx (by simpa using hu)
  · rw [if_neg (by simp; omega)] at hu
    exact h.2 i x u hx hu

theorem afill_rel {place : Nat → Option (Nat × Nat)} : ∀ {parts : List (Nat × AV)} {us : List (Nat × Value)} {cs cs' : List AV} {cc : Array Value}, VsRel m cs cc → parts.length = us.length →
    (∀ (i : Nat) (x : Nat × AV) (u : Nat × Value), parts[i]? = some x → us[i]? = some u → x.1 = u.1 ∧ VRel m x.2 u.2) → afill place cs parts = some cs' → ∃ cc', Instr.fill place cc us = some cc' ∧ VsRel m cs' cc' := by
  intro parts
  induction parts with
  | nil =>
    intro us cs cs' cc h hl _ hf
    cases us with
    | nil => simp [afill] at hf; subst hf; exact ⟨cc, rfl, h⟩
    | cons u r => simp at hl
  | cons x r ih =>
    intro us cs cs' cc h hl hr hf
    cases us with
    | nil => simp at hl
    | cons u us =>
      obtain ⟨i, v⟩ := x
      obtain ⟨j, u⟩ := u
      obtain ⟨e, hv⟩ := hr 0 _ _ rfl rfl
      simp only at e hv
      subst e
      simp only [afill] at hf
      split at hf
      · cases hf
      · rename_i off size hp
        split at hf
        · rename_i hc
          obtain ⟨hna, hc1, hc2⟩ := hc
          have hcr := acells_rel hv hna
          have hsz : u.cells.size = size := by rw [← hcr.1]; exact hc1
          have hle : off + u.cells.size ≤ cc.size := by rw [← hcr.1, ← h.1]; exact hc2
          obtain ⟨cc', h1, h2⟩ := ih (h.splice hcr off hc2) (by simpa using hl) (fun q x y hx hy => hr (q + 1) x y (by simpa using hx) (by simpa using hy)) hf
          refine ⟨cc', ?_, h2⟩
          simp only [Instr.fill, hp]
          rw [if_neg (by simp [hsz]; omega)]
          exact h1
        · cases hf

def aparts (t : List AV) : List (Nat × Operand) → Option (List (Nat × AV))
  | [] => some []
  | (i, x) :: r => match aev t x, aparts t r with
    | some v, some l => some ((i, v) :: l)
    | _, _ => none
theorem aparts_rel (ht : VsRel m t a.tmps) : ∀ {ps : List (Nat × Operand)} {vs : List (Nat × AV)}, aparts t ps = some vs → vs.length = ps.length ∧
    ∀ (i : Nat) (x : Nat × AV) (u : Nat × Value), vs[i]? = some x → (ps.map fun y => (y.1, a.eval y.2))[i]? = some u → x.1 = u.1 ∧ VRel m x.2 u.2 := by
  intro ps
  induction ps with
  | nil => intro vs h; simp [aparts] at h; subst h; exact ⟨rfl, fun i x u hx _ => by simp at hx⟩
  | cons y r ih =>
    intro vs h
    obtain ⟨i, x⟩ := y
    simp only [aparts] at h
    split at h
    · rename_i v l hv hl
      simp at h; subst h
      obtain ⟨h1, h2⟩ := ih hl
      refine ⟨by simp [h1], fun q y u hy hu => ?_⟩
      cases q with
      | zero => simp at hy hu; subst hy hu; exact ⟨rfl, aev_rel ht hv⟩
      | succ q => exact h2 q y u (by simpa using hy) (by simpa using hu)
    · cases h

def aplaces (P : Program) : List Field → Option (List (Nat × Nat))
  | [] => some []
  | f :: r => match asize P f.type, aplaces P r with
    | some n, some l => some ((f.offset, n) :: l)
    | _, _ => none
theorem aplaces_run : ∀ {fs : List Field} {l : List (Nat × Nat)}, aplaces P fs = some l → (fs.mapM (m := Sem) fun f => do pure (f.offset, ← sizeOf f.type)).run P w = .ok l w := by
  intro fs
  induction fs with
  | nil => intro l h; simp [aplaces] at h; subst h; simp
  | cons f r ih =>
    intro l h
    simp only [aplaces] at h
    split at h
    · rename_i n l' hn hl
      simp at h; subst h
      simp only [List.mapM_cons, Sem.run_bind, asize_run hn, Result.andThen_ok, Sem.run_pure, ih hl]
    · cases h

def abuild (P : Program) (ty : TypeId) (parts : List (Nat × AV)) : Option AV :=
  match azero P ty, P.underlying ty with
  | some z, some (.struct fs) => match aplaces P fs.toList with
    | some l => (afill (l[·]?) (acells z) parts).map .agg
    | none => none
  | some z, some (.array _ e) => match asize P e with
    | some n => (afill (fun i => some (i * n, n)) (acells z) parts).map .agg
    | none => none
  | _, _ => none
theorem abuild_rel {ty : TypeId} {parts : List (Nat × AV)} {us : Array (Nat × Value)} (hl : parts.length = us.size) (hr : ∀ (i : Nat) (x : Nat × AV) (u : Nat × Value), parts[i]? = some x → us[i]? = some u → x.1 = u.1 ∧ VRel m x.2 u.2)
    {v : AV} (h : abuild P ty parts = some v) : ∃ u, (Instr.build ty us).run P w = .ok u w ∧ VRel m v u := by
  unfold abuild at h
  split at h
  · rename_i z fs hz hu
    obtain ⟨uz, hrun, hzr⟩ := azero_run (P := P) (w := w) hz
    split at h
    · rename_i l hpl
      obtain ⟨cs, hf, rfl⟩ := Option.map_eq_some_iff.1 h
      obtain ⟨cc', h1, h2⟩ := afill_rel (acells_rel (hzr m) (azero_na hz)) (by rw [Array.length_toList]; exact hl) (fun i x u hx hy => hr i x u hx (by simpa using hy)) hf
      refine ⟨.agg cc', ?_, .agg h2.1 h2.2⟩
      have hm := aplaces_run (P := P) (w := w) hpl
      unfold Instr.build
      simp only [Sem.run_bind, hrun, Result.andThen_ok, run_underlying hu]
      have e : (fs.mapM (m := Sem) fun f => do pure (f.offset, ← sizeOf f.type)).run P w = .ok l.toArray w := by
        rw [← Array.toArray_toList (xs := fs), List.mapM_toArray, Sem.run_map, hm]; rfl
      simp only [e, Result.andThen_ok]
      have hf' : Instr.fill (fun x => l.toArray[x]?) uz.cells us.toList = some cc' := by simpa using h1
      rw [hf']
      rfl
    · cases h
  · rename_i z n e hz hu
    obtain ⟨uz, hrun, hzr⟩ := azero_run (P := P) (w := w) hz
    split at h
    · rename_i k hk
      obtain ⟨cs, hf, rfl⟩ := Option.map_eq_some_iff.1 h
      obtain ⟨cc', h1, h2⟩ := afill_rel (acells_rel (hzr m) (azero_na hz)) (by rw [Array.length_toList]; exact hl) (fun i x u hx hy => hr i x u hx (by simpa using hy)) hf
      refine ⟨.agg cc', ?_, .agg h2.1 h2.2⟩
      unfold Instr.build
      simp only [Sem.run_bind, hrun, Result.andThen_ok, run_underlying hu, asize_run hk, h1, Sem.run_pure]
    · cases h
  · cases h

def areps (n : Nat) (zc : List AV) : List AV := (List.replicate n zc).flatten
theorem areps_length (n : Nat) (zc : List AV) : (areps n zc).length = n * zc.length := by simp [areps]
theorem reps_get {α : Type} (zc : List α) : ∀ (n i : Nat), i < n * zc.length → ((List.replicate n zc).flatten)[i]? = zc[i % zc.length]? := by
  intro n
  induction n with
  | zero => intro i h; omega
  | succ n ih =>
    intro i h
    rw [List.replicate_succ, List.flatten_cons]
    by_cases hi : i < zc.length
    · rw [List.getElem?_append_left hi, Nat.mod_eq_of_lt hi]
    · rw [List.getElem?_append_right (by omega), ih _ (by rw [Nat.add_mul] at h; omega)]
      congr 1
      exact (Nat.mod_eq_sub_mod (by omega)).symm
theorem areps_rel (n : Nat) {zc : List AV} {uz : Array Value} (h : VsRel m zc uz) : VsRel m (areps n zc) ((Array.range (n * uz.size)).map (uz[· % uz.size]!)) := by
  refine ⟨by simp [areps_length, h.1], fun i x u hx hu => ?_⟩
  have hi : i < n * zc.length := by
    have := (List.getElem?_eq_some_iff.1 hx).1
    rwa [areps_length] at this
  rw [areps, reps_get zc n i hi] at hx
  have hs : i < n * uz.size := by rw [← h.1]; exact hi
  simp [hs] at hu
  have hpos : 0 < uz.size := by
    rcases Nat.eq_zero_or_pos uz.size with h0 | h0
    · rw [h0] at hs; omega
    · exact h0
  have hlt := Nat.mod_lt i hpos
  rw [getElem!_pos uz _ hlt] at hu
  refine h.2 (i % uz.size) x u (by rw [← h.1]; exact hx) (by simp [hlt, hu])

def abuildSlice (P : Program) (A : List AO) (ty : TypeId) (len : Nat) (parts : List (Nat × AV)) : Option (AV × List AO) :=
  match P.underlying ty with
  | some (.slice e) => match asize P e, azero P e with
    | some n, some z => if len * n ≤ 16777216 ∧ (acells z).length = n ∧ 0 < n then
        match afill (fun i => some (i * n, n)) (areps len (acells z)) parts with
        | some cs => if cs.length = len * n then some (.slc (some (A.length, 0)) len len true, A ++ [.row cs e true]) else none
        | none => none
      else none
    | _, _ => none
  | _ => none
theorem abuildSlice_rel (h : Rel P w0 m A w) {ty : TypeId} {len : Nat} {parts : List (Nat × AV)} {us : Array (Nat × Value)} (hl : parts.length = us.size) (hr : ∀ (i : Nat) (x : Nat × AV) (u : Nat × Value), parts[i]? = some x → us[i]? = some u → x.1 = u.1 ∧ VRel m x.2 u.2)
    {v : AV} {A' : List AO} (hb : abuildSlice P A ty len parts = some (v, A')) : Gives P w0 m A w (Instr.buildSlice ty len us) v A' := by
  unfold abuildSlice at hb
  split at hb
  · rename_i e hu
    split at hb
    · rename_i n z hn hz
      split at hb
      · rename_i hc
        obtain ⟨hc1, hc2, hc3⟩ := hc
        split at hb
        · rename_i cs hf
          split at hb
          · rename_i hcl
            simp at hb; obtain ⟨rfl, rfl⟩ := hb
            obtain ⟨uz, hrun, hzr⟩ := azero_run (P := P) (w := w) hz
            have hzc := acells_rel (hzr m) (azero_na hz)
            have hus : uz.cells.size = n := by rw [← hzc.1]; exact hc2
            obtain ⟨cc', h1, h2⟩ := afill_rel (areps_rel len hzc) (by rw [Array.length_toList]; exact hl) (fun i x u hx hy => hr i x u hx (by simpa using hy)) hf
            rw [hus] at h1
            have hnr := h.newRow h2 hn (by rw [hcl]; exact Nat.mul_le_mul_right _ (by simp only [maxLen]; have := Nat.le_trans (Nat.le_mul_of_pos_right len hc3) hc1; omega))
            have hp := VRel.slc (o := 0) len len true (h.newLast ⟨w.heap.size, 0, 0⟩)
            refine ⟨_, _, _, ?_, Ext.append _ _, hnr, hp, Kept.alloc _ _⟩
            unfold Instr.buildSlice
            simp only [Sem.run_bind, run_underlying hu, Result.andThen_ok, asize_run hn, Sem.run_ite]
            rw [if_neg (by have : (2:Nat) ^ 24 = 16777216 := rfl; omega)]
            by_cases h0 : len * n = 0
            · have hcc : (Array.range (len * n)).map (fun x => uz.cells[x % n]!) = (Array.range (len * n)).map (fun x => (#[] : Array Value)[x % (#[] : Array Value).size]!) := by
                rw [h0]; simp
              rw [hcc] at h1
              simp only [Sem.run_pure, Result.andThen_ok, if_pos h0]
              have h1' : Instr.fill (fun i => some (i * n, n)) ((Array.range (len * n)).map (fun x => (#[] : Array Value)[x % (#[] : Array Value).size]!)) us.toList = some cc' := h1
              simp only [h1', Sem.run_bind, newRow_run, Result.andThen_ok, Sem.run_pure]
              rfl
            · simp only [if_neg h0, Sem.run_bind, hrun, Result.andThen_ok, Sem.run_pure, hus, h1, newRow_run]
              rfl
          · cases hb
        · cases hb
      · cases hb
    · cases hb
  · cases hb
end
end Go.Am
