/- A part of the proof: Am40. -/
import Derived.Test.YthipnddfplbamaaDoorAm13
set_option linter.unusedVariables false
set_option linter.unusedSimpArgs false
/-! Ranges over strings and maps. -/
namespace Go.Am
open Go.RowKit
section
variable {P : Program} {w0 : World} {m : List (Option Pl)} {A : List AO} {w : World}

theorem getObj_any {r : Nat} {o : Obj} (h : w.heap[r]? = some o) (hc : ∀ c e f, o ≠ .cells c e f) : (getObj r).run P w = .ok o w := by
  cases o <;> first | exact absurd rfl (hc _ _ _) | simp [getObj, Sem.run, h]
theorem setObj_any {r : Nat} {o0 : Obj} (h : w.heap[r]? = some o0) (hc : ∀ c e f, o0 ≠ .cells c e f) (o : Obj) : (setObj r o).run P w = .ok () { w with heap := w.heap.setIfInBounds r o } ∧
    w.grownBy { w with heap := w.heap.setIfInBounds r o } (some r) ∧ (w.heap.setIfInBounds r o)[r]? = some o := by
  have hlt : r < w.heap.size := (Array.getElem?_eq_some_iff.1 h).1
  refine ⟨?_, ⟨rfl, rfl, rfl, by simp, fun k hk hne => ?_⟩, ?_⟩
  · cases o0 <;> first | exact absurd rfl (hc _ _ _) | simp [setObj, Sem.run, h]
  · simp only [Array.getElem?_setIfInBounds]
    rw [if_neg (fun e => hne (by simp [e]))]
  · simp [Array.getElem?_setIfInBounds, hlt]

def arange (P : Program) (A : List AO) (ty : TypeId) (x : AV) : Option (AV × List AO) :=
  match P.underlying ty, x with
  | some .string, .str s => some (.ptr (some (A.length, 0)), A ++ [.iter s 0])
  | some (.map _ _), .map none => some (.ptr (some (A.length, 0)), A ++ [.miter (.map none) 0 [] 0])
  | some (.map _ _), .map (some r) => match amapOf A r with
    | some (_, _, ck) => some (.ptr (some (A.length, 0)), A ++ [.miter (.map (some r)) ck [] ck])
    | none => none
  | _, _ => none
theorem arange_rel (h : Rel P w0 m A w) {ty : TypeId} {x v : AV} {u : Value} (hx : VRel m x u) {A' : List AO} (ha : arange P A ty x = some (v, A')) : Gives P w0 m A w (Instr.range ty u) v A' := by
  have mk : ∀ (o : Obj) (ao : AO), (∀ w', w'.heap[w.heap.size]? = some o → ORel P w0 (m ++ [some ⟨w.heap.size, 0, 0⟩]) w' ⟨w.heap.size, 0, 0⟩ ao) → Gives P w0 m A w (do pure (.pointer (some ⟨← newObj o, 0, none⟩))) (.ptr (some (A.length, 0))) (A ++ [ao]) := by
    intro o ao ho
    refine ⟨.pointer (some ⟨w.heap.size, 0, none⟩), w.alloc o, m ++ [some ⟨w.heap.size, 0, 0⟩], by simp [newObj, Sem.run], Ext.append _ _, ?_, ?_, Kept.below ((Below.refl _ _).alloc (Nat.le_refl _) _)⟩
    · exact h.push P w0 ((Below.refl _ _).alloc (Nat.le_refl _) _) _ _ (Nat.le_refl _) (ho _ (new_block w _))
    · exact VRel.ptr (o := 0) (h.newLast ⟨w.heap.size, 0, 0⟩)
  unfold arange at ha
  split at ha
  · rename_i s hu
    cases hx
    simp at ha; obtain ⟨rfl, rfl⟩ := ha
    obtain ⟨u', w', m', h1, h2⟩ := mk (.stringIter ⟨s.toArray⟩ 0) (.iter s 0) fun w' hw => ⟨h.base, rfl, hw⟩
    exact ⟨u', w', m', by simpa [Instr.range, run_underlying hu] using h1, h2⟩
  · rename_i k e hu
    cases hx
    simp at ha; obtain ⟨rfl, rfl⟩ := ha
    obtain ⟨u', w', m', h1, h2⟩ := mk (.mapIter none 0 #[] 0) (.miter (.map none) 0 [] 0) fun w' hw => ⟨h.base, rfl, none, .mapNil, hw⟩
    exact ⟨u', w', m', by simpa [Instr.range, run_underlying hu] using h1, h2⟩
  · rename_i k e r hu
    cases hx
    rename_i p hp
    split at ha
    · rename_i es bs ck hes
      simp at ha; obtain ⟨rfl, rfl⟩ := ha
      obtain ⟨ces, q1, q2, q3, q4⟩ := map_obj h (amapOf_some hes) hp
      obtain ⟨u', w', m', h1, h2⟩ := mk (.mapIter (some p.b) ck #[] ck) (.miter (.map (some r)) ck [] ck) fun w' hw => ⟨h.base, rfl, some p.b, .map (by rw [List.getElem?_append_left (List.getElem?_eq_some_iff.1 hp).1]; exact hp), hw⟩
      exact ⟨u', w', m', by simpa [Instr.range, run_underlying hu, getObj_map q1] using h1, h2⟩
    · cases ha
  · cases ha

def amiter (A : List AO) (k : Nat) : Option (AV × Nat × List Nat × Nat) :=
  match A[k]? with
  | some (.miter mp s n l) => some (mp, s, n, l)
  | _ => none
theorem amiter_some {k : Nat} {mp : AV} {s l : Nat} {n : List Nat} (h : amiter A k = some (mp, s, n, l)) : A[k]? = some (.miter mp s n l) := by
  unfold amiter at h
  split at h
  · simp at h; obtain ⟨rfl, rfl, rfl, rfl⟩ := h; assumption
  · cases h
theorem aiter_some {k : Nat} {s : List UInt8} {p : Nat} (h : aiter A k = some (s, p)) : A[k]? = some (.iter s p) := by
  unfold aiter at h
  split at h
  · simp at h; obtain ⟨rfl, rfl⟩ := h; assumption
  · cases h
def mcands (es : List ((AV × AV) × Nat)) (since : Nat) (seen : List Nat) : List ((AV × AV) × Nat) :=
  let left := es.filter fun e => !seen.contains e.2
  (left.filter fun e => decide (e.2 < since)) ++ left.filter fun e => decide (e.2 ≥ since)
def mover (es : List ((AV × AV) × Nat)) (since : Nat) (seen : List Nat) : Bool :=
  ((es.filter fun e => !seen.contains e.2).filter fun e => decide (e.2 < since)).isEmpty
/-- What a step over a map may give. -/
def anextMap (A : List AO) (x : AV) : List (AV × List AO) :=
  match x with
  | .ptr (some (k, 0)) => match amiter A k with
    | some (.map none, _, _, _) => [(.tuple [.bool false], A)]
    | some (.map (some r), since, seen, last) => match amapOf A r with
      | some (es, bs, ck) =>
        if !seen.isEmpty && !bs.isEmpty && bs.all (fun b => decide (b ≥ last)) then [] else
        (if mover (es.zip bs) since seen then [(.tuple [.bool false], A)] else []) ++
          (mcands (es.zip bs) since seen).map fun e => (.tuple [.bool true, e.1.1, e.1.2], A.set k (.miter (.map (some r)) since (seen ++ [e.2]) ck))
      | none => []
    | _ => []
  | _ => []

theorem choose_map (P : Program) (w : World) {n : Nat} (hn : 0 < n) : ∃ i w', i < n ∧ (choose (.mapNext n)).run P w = .ok i w' ∧ (w' = w ∨ w' = w.drew) := by
  by_cases h1 : n ≤ 1
  · refine ⟨0, w, hn, ?_, .inl rfl⟩
    simp [choose, Sem.run, Question.forced, h1]
  · refine ⟨w.tape w.drawn (.mapNext n) % n, w.drew, Nat.mod_lt _ hn, ?_, .inr rfl⟩
    have hf : (Question.mapNext n).forced = false := by simp [Question.forced, h1]
    unfold choose
    rw [Sem.run]
    rw [if_neg (by rw [hf]; decide)]
    rfl

/-- Two lists, pair by pair. -/
inductive F2 {α β : Type} (R : α → β → Prop) : List α → List β → Prop where
  | nil : F2 R [] []
  | cons {a : α} {b : β} {l : List α} {l' : List β} : R a b → F2 R l l' → F2 R (a :: l) (b :: l')
theorem F2.filter {α β : Type} {R : α → β → Prop} {p : α → Bool} {q : β → Bool} (hpq : ∀ a b, R a b → p a = q b) {l : List α} {l' : List β} (h : F2 R l l') : F2 R (l.filter p) (l'.filter q) := by
  induction h with
  | nil => exact .nil
  | cons hr _ ih =>
    simp only [List.filter_cons, hpq _ _ hr]
    split
    · exact .cons hr ih
    · exact ih
theorem F2.append {α β : Type} {R : α → β → Prop} {l k : List α} {l' k' : List β} (h : F2 R l l') (h' : F2 R k k') : F2 R (l ++ k) (l' ++ k') := by
  induction h with
  | nil => exact h'
  | cons hr _ ih => exact .cons hr ih
theorem F2.get {α β : Type} {R : α → β → Prop} {l : List α} {l' : List β} (h : F2 R l l') {i : Nat} {b : β} (hb : l'[i]? = some b) : ∃ a, l[i]? = some a ∧ R a b := by
  induction h generalizing i with
  | nil => simp at hb
  | cons hr _ ih =>
    cases i with
    | zero => simp at hb; subst hb; exact ⟨_, rfl, hr⟩
    | succ i => exact ih (by simpa using hb)
theorem F2.empty {α β : Type} {R : α → β → Prop} {l : List α} {l' : List β} (h : F2 R l l') : l.isEmpty = l'.isEmpty := by cases h <;> rfl
theorem F2.mk' {α β : Type} {R : α → β → Prop} : ∀ {l : List α} {l' : List β}, l.length = l'.length → (∀ (i : Nat) (a : α) (b : β), l[i]? = some a → l'[i]? = some b → R a b) → F2 R l l' := by
  intro l
  induction l with
  | nil => intro l' hl _; cases l' with
    | nil => exact .nil
    | cons => simp at hl
  | cons a l ih =>
    intro l' hl hr
    cases l' with
    | nil => simp at hl
    | cons b l' => exact .cons (hr 0 a b rfl rfl) (ih (by simpa using hl) fun i x y hx hy => hr (i + 1) x y (by simpa using hx) (by simpa using hy))
def REnt (m : List (Option Pl)) (z : (AV × AV) × Nat) (c : MapEntry) : Prop := z.2 = c.born ∧ VRel m z.1.1 c.key ∧ VRel m z.1.2 c.val
theorem ents {es : List (AV × AV)} {bs : List Nat} {ces : Array MapEntry} (h1 : es.length = ces.size) (h2 : ∀ (i : Nat) (x : AV × AV) (c : MapEntry), es[i]? = some x → ces[i]? = some c → VRel m x.1 c.key ∧ VRel m x.2 c.val) (h3 : ces.toList.map (·.born) = bs) :
    F2 (REnt m) (es.zip bs) ces.toList := by
  subst h3
  refine F2.mk' (by simp [h1]) fun i z c hz hc => ?_
  rw [List.getElem?_zip_eq_some] at hz
  obtain ⟨a, b⟩ := hz
  simp only [List.getElem?_map, hc, Option.map_some, Option.some.injEq] at b
  have := h2 i z.1 c a (by simpa using hc)
  exact ⟨b.symm, this⟩
theorem mcands_rel {es : List ((AV × AV) × Nat)} {ces : List MapEntry} (h : F2 (REnt m) es ces) (since : Nat) (seen : List Nat) :
    F2 (REnt m) (mcands es since seen) (((ces.filter fun e => !seen.contains e.born).filter fun e => decide (e.born < since)) ++ (ces.filter fun e => !seen.contains e.born).filter fun e => decide (e.born ≥ since)) ∧
    mover es since seen = ((ces.filter fun e => !seen.contains e.born).filter fun e => decide (e.born < since)).isEmpty := by
  have h0 : F2 (REnt m) (es.filter fun e => !seen.contains e.2) (ces.filter fun e => !seen.contains e.born) := h.filter fun a b hab => by rw [hab.1]
  have h1 := h0.filter (p := fun e => decide (e.2 < since)) (q := fun e => decide (e.born < since)) fun a b hab => by rw [hab.1]
  have h2 := h0.filter (p := fun e => decide (e.2 ≥ since)) (q := fun e => decide (e.born ≥ since)) fun a b hab => by rw [hab.1]
  exact ⟨h1.append h2, h1.empty⟩

theorem VsRel.one {x : AV} {u : Value} (hx : VRel m x u) : VRel m (.tuple [x]) (.tuple #[u]) := by
  refine .tuple rfl fun i y v hy hv => ?_
  rcases i with _ | i
  · simp at hy hv; subst hy hv; exact hx
  · simp at hy
theorem VsRel.three {x y z : AV} {u v q : Value} (hx : VRel m x u) (hy : VRel m y v) (hz : VRel m z q) : VRel m (.tuple [x, y, z]) (.tuple #[u, v, q]) := by
  refine .tuple rfl fun i a b ha hb => ?_
  rcases i with _ | _ | _ | i
  · simp at ha hb; subst ha hb; exact hx
  · simp at ha hb; subst ha hb; exact hy
  · simp at ha hb; subst ha hb; exact hz
  · simp at ha
theorem anextMap_rel (h : Rel P w0 m A w) {ty : TypeId} {x : AV} {u : Value} (hx : VRel m x u) (hne : anextMap A x ≠ []) :
    ∃ v A', (v, A') ∈ anextMap A x ∧ Gives P w0 m A w (Instr.next u false ty) v A' := by
  unfold anextMap at hne ⊢
  split at hne
  case h_2 => exact absurd rfl hne
  rename_i k
  split at hne
  case h_3 => exact absurd rfl hne
  · rename_i since seen last hk
    cases hx
    rename_i p hp
    obtain ⟨hb, h0, mv, h1, h2⟩ := h.obj k _ p (amiter_some hk) hp
    cases h1
    refine ⟨_, _, List.mem_singleton.2 rfl, Gives.here h (u := .tuple #[.bool false]) ?_ (VsRel.one (.bool false))⟩
    rw [h0]
    simp [Instr.next, getObj_any h2]
  · rename_i r since seen last hk
    split at hne
    case h_2 => exact absurd rfl hne
    rename_i es bs ck hes
    cases hx
    rename_i p hp
    obtain ⟨hb, h0, mv, h1, h2⟩ := h.obj k _ p (amiter_some hk) hp
    cases h1
    rename_i q hq
    obtain ⟨ces, q1, q2, q3, q4⟩ := map_obj h (amapOf_some hes) hq
    split at hne
    · exact absurd rfl hne
    rename_i hchk
    rw [if_neg hchk]
    have hF := ents q2 q3 q4
    obtain ⟨c1, c2⟩ := mcands_rel hF since seen
    have hchk' : (!seen.toArray.isEmpty && !ces.isEmpty && ces.all (fun e => decide (e.born ≥ last))) = false := by
      have e1 : bs.isEmpty = ces.isEmpty := by rw [← q4]; cases ces; simp
      have e2 : (bs.all fun b => decide (b ≥ last)) = ces.all (fun e => decide (e.born ≥ last)) := by rw [← q4, List.all_map, ← Array.all_toList]; rfl
      have e3 : seen.toArray.isEmpty = seen.isEmpty := by simp
      rw [e3, ← e1, ← e2]; simpa using hchk
    have hOL : ((ces.toList.filter fun e => !seen.contains e.born).filter fun e => decide (e.born < since)).isEmpty = false → (((ces.toList.filter fun e => !seen.contains e.born).filter fun e => decide (e.born < since)) ++ (ces.toList.filter fun e => !seen.contains e.born).filter fun e => decide (e.born ≥ since)) ≠ [] := by
      intro h1 h2
      rw [List.append_eq_nil_iff] at h2
      rw [h2.1] at h1; cases h1
    generalize hL : (((ces.toList.filter fun e => !seen.contains e.born).filter fun e => decide (e.born < since)) ++ (ces.toList.filter fun e => !seen.contains e.born).filter fun e => decide (e.born ≥ since)) = L at c1 hOL
    generalize hO : ((ces.toList.filter fun e => !seen.contains e.born).filter fun e => decide (e.born < since)).isEmpty = O at c2 hOL
    have hcand : ∀ (i : Nat), (((if ((ces.filter fun e => !seen.toArray.contains e.born).filter (·.born < since)).isEmpty then #[none] else #[]) ++ (((ces.filter fun e => !seen.toArray.contains e.born).filter (·.born < since)) ++ ((ces.filter fun e => !seen.toArray.contains e.born).filter (·.born ≥ since))).map some) : Array (Option MapEntry)).toList = (if O then [none] else []) ++ L.map some := by
      intro _
      have e0 : ((ces.filter fun e => !seen.toArray.contains e.born).filter (·.born < since)).isEmpty = O := by
        rw [← hO, ← Array.isEmpty_toList]; simp
      rw [e0, ← hL]
      cases O <;> simp
    generalize hC : (((if ((ces.filter fun e => !seen.toArray.contains e.born).filter (·.born < since)).isEmpty then #[none] else #[]) ++ (((ces.filter fun e => !seen.toArray.contains e.born).filter (·.born < since)) ++ ((ces.filter fun e => !seen.toArray.contains e.born).filter (·.born ≥ since))).map some) : Array (Option MapEntry)) = C at hcand
    replace hcand := hcand 0
    have hn : 0 < C.size := by
      rw [← Array.length_toList, hcand]
      cases O with
      | true => simp
      | false =>
        have := hOL rfl
        cases L with
        | nil => exact absurd rfl this
        | cons => simp
    obtain ⟨i, w', hi, hrun, hw⟩ := choose_map P w hn
    have hh : w'.heap = w.heap := by rcases hw with rfl | rfl <;> rfl
    have h' : Rel P w0 m A w' := by
      rcases hw with rfl | rfl
      · exact h
      · exact h.drew
    have hkp : Kept w w' := by
      rcases hw with rfl | rfl
      · exact Kept.refl _
      · exact Kept.below (Below.refl _ _).drew
    have run0 : (Instr.next (.pointer (some ⟨p.b, 0, none⟩)) false ty).run P w = ((do match C[← choose (.mapNext C.size)]? with | some (some e) => do (setObj p.b (.mapIter (some q.b) since (seen.toArray.push e.born) ck)); pure (.tuple #[.bool true, e.key, e.val]) | some none => pure (.tuple #[.bool false]) | none => stuck "Next: no such candidate") : Sem Value).run P w := by
      unfold Instr.next
      simp only [Sem.run_bind, getObj_any h2 (by simp), getObj_map q1, Result.andThen_ok, hchk', hC]
      rw [if_neg (by decide), Sem.run_bind]
      rfl
    rw [h0]
    have hget : C[i]? = some C[i] := by simp [hi]
    have hmem : ((if O then [none] else []) ++ L.map some)[i]? = some C[i] := by rw [← hcand]; simp [hi]
    generalize C[i] = ce at hget hmem
    cases ce with
    | none =>
      have hOt : O = true := by
        cases O with
        | true => rfl
        | false =>
          simp only [Bool.false_eq_true, if_false, List.nil_append, List.getElem?_map] at hmem
          cases hx : L[i]? <;> rw [hx] at hmem <;> simp at hmem
      refine ⟨.tuple [.bool false], A, ?_, .tuple #[.bool false], w', m, ?_, Ext.refl _, h', VsRel.one (.bool false), hkp⟩
      · rw [c2, hOt]; simp
      · rw [run0]
        simp only [Sem.run_bind, hrun, Result.andThen_ok, hget, Sem.run_pure]
    | some e =>
      have hLe : ∃ j : Nat, L[j]? = some e := by
        cases O with
        | true =>
          cases i with
          | zero => simp at hmem
          | succ i => simp at hmem; exact ⟨i, by simpa using hmem⟩
        | false => simp at hmem; exact ⟨i, by simpa using hmem⟩
      obtain ⟨j, hj⟩ := hLe
      obtain ⟨z, hz, r1, r2, r3⟩ := c1.get hj
      obtain ⟨s1, s2, s3⟩ := setObj_any (P := P) (w := w') (by rw [hh]; exact h2) (by simp) (.mapIter (some q.b) since (seen.toArray.push e.born) ck)
      refine ⟨.tuple [.bool true, z.1.1, z.1.2], A.set k (.miter (.map (some r)) since (seen ++ [z.2]) ck), ?_, .tuple #[.bool true, e.key, e.val], _, m, ?_, Ext.refl _, ?_, VsRel.three (.bool true) r2 r3, hkp.trans (Kept.grown s2 (fun c => by rw [hh, h2]; simp))⟩
      · refine List.mem_append_right _ (List.mem_map.2 ⟨z, List.mem_of_getElem? hz, rfl⟩)
      · rw [run0]
        simp only [Sem.run_bind, hrun, Result.andThen_ok, hget, s1, Sem.run_pure]
      · refine h'.setAny (amiter_some hk) hp rfl rfl s2 hb ⟨hb, h0, _, .map hq, ?_⟩
        rw [s3, r1]; simp
theorem anextStr_rel (h : Rel P w0 m A w) {ty : TypeId} {x v : AV} {u : Value} {A' : List AO} (hx : VRel m x u) (hn : anextStr A x = some (v, A')) : Gives P w0 m A w (Instr.next u true ty) v A' := by
  unfold anextStr at hn
  split at hn
  case h_2 => cases hn
  rename_i k
  split at hn
  case h_2 => cases hn
  rename_i s pos hk
  cases hx
  rename_i p hp
  obtain ⟨hb, h0, h1⟩ := h.obj k _ p (aiter_some hk) hp
  have hsz : (⟨s.toArray⟩ : ByteArray).size = s.length := by simp [ByteArray.size]
  rw [h0]
  split at hn
  · rename_i hlt
    simp at hn; obtain ⟨rfl, rfl⟩ := hn
    obtain ⟨s1, s2, s3⟩ := setObj_any (P := P) h1 (by simp) (.stringIter ⟨s.toArray⟩ (pos + (Utf8.decode ⟨s.toArray⟩ pos).2))
    refine ⟨.tuple #[.bool true, goInt pos, .int .i32 (Utf8.decode ⟨s.toArray⟩ pos).1], _, m, ?_, Ext.refl _, h.setAny (aiter_some hk) hp rfl rfl s2 hb ⟨hb, h0, s3⟩, VsRel.three (.bool true) (.int _ _) (.int _ _), Kept.grown s2 (fun c => by rw [h1]; simp)⟩
    unfold Instr.next
    simp only [Sem.run_bind, getObj_any h1 (by simp), Result.andThen_ok]
    rw [if_pos (by rw [hsz]; exact hlt)]
    simp only [Sem.run_bind, s1, Result.andThen_ok, Sem.run_pure]
  · rename_i hlt
    simp at hn; obtain ⟨rfl, rfl⟩ := hn
    refine Gives.here h (u := .tuple #[.bool false]) ?_ (VsRel.one (.bool false))
    unfold Instr.next
    simp only [Sem.run_bind, getObj_any h1 (by simp), Result.andThen_ok]
    rw [if_neg (by rw [hsz]; exact hlt)]
    rfl
def aentry (A : List AO) (x : AV) : Option AV :=
  match x with
  | .ptr (some (k, 0)) => match amiter A k with
    | some (.map (some r), _, seen, last) => match seen.getLast?, amapOf A r with
      | some s, some (es, bs, ck) => if ck = last then ((es.zip bs).find? fun e => e.2 == s).map fun e => .tuple [e.1.1, e.1.2] else none
      | _, _ => none
    | _ => none
  | _ => none
theorem F2.find {α β : Type} {R : α → β → Prop} {p : α → Bool} {q : β → Bool} (hpq : ∀ a b, R a b → p a = q b) {l : List α} {l' : List β} (h : F2 R l l') {a : α} (ha : l.find? p = some a) : ∃ b, l'.find? q = some b ∧ R a b := by
  induction h with
  | nil => simp at ha
  | cons hr _ ih =>
    simp only [List.find?_cons] at ha ⊢
    rw [← hpq _ _ hr]
    split at ha
    · simp at ha; subst ha; exact ⟨_, rfl, hr⟩
    · exact ih ha
theorem aentry_rel (h : Rel P w0 m A w) {x v : AV} {u : Value} (hx : VRel m x u) (he : aentry A x = some v) : Gives P w0 m A w (Instr.entry u) v A := by
  unfold aentry at he
  split at he
  case h_2 => cases he
  rename_i k
  split at he
  case h_2 => cases he
  rename_i r since seen last hk
  split at he
  case h_2 => cases he
  rename_i s es bs ck hs hes
  split at he
  case isFalse => cases he
  rename_i hck
  subst hck
  obtain ⟨z, hz, rfl⟩ := Option.map_eq_some_iff.1 he
  cases hx
  rename_i p hp
  obtain ⟨hb, h0, mv, h1, h2⟩ := h.obj k _ p (amiter_some hk) hp
  cases h1
  rename_i q hq
  obtain ⟨ces, q1, q2, q3, q4⟩ := map_obj h (amapOf_some hes) hq
  obtain ⟨c, hc, r1, r2, r3⟩ := (ents q2 q3 q4).find (q := fun e => e.born == s) (fun a b hab => by rw [hab.1]) hz
  rw [h0]
  refine Gives.here h (u := .tuple #[c.key, c.val]) ?_ (VsRel.two r2 r3)
  have hback : seen.toArray.back? = some s := by simpa using hs
  have hfind : ces.find? (fun e => e.born == s) = some c := by rw [← Array.find?_toList]; exact hc
  unfold Instr.entry
  simp only [Sem.run_bind, getObj_any h2 (by simp), Result.andThen_ok, hback, getObj_map q1]
  simp [hfind]
end
end Go.Am
