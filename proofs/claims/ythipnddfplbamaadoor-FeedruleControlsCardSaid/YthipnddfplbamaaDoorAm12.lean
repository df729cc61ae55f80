/- A part of the proof: Am12. -/
import Derived.Test.YthipnddfplbamaaDoorAm11
set_option linter.unusedVariables false
set_option linter.unusedSimpArgs false
namespace Go.Am
open Go.RowKit

section
variable {P : Program} {w0 : World} {m : List (Option Pl)} {A : List AO} {w : World} {t : List AV} {a : Act}

/-! ### Maps -/
theorem Rel.setAny' (h : Rel P w0 m A w) {k : Nat} {o o' : AO} (hk : A[k]? = some o) {p : Pl} (hp : m[k]? = some (some p)) (hmut : o.mut = true) {w' : World} (hg : w.grownBy w' (some p.b)) (hbase : w0.heap.size ≤ p.b)
    (ho : ORel P w0 m w' p o') : Rel P w0 m (A.set k o') w' := by
  have hkl : k < A.length := (List.getElem?_eq_some_iff.1 hk).1
  have live_of : ∀ o : AO, o.mut = true → o.live = true := fun o ho => by cases o <;> simp_all [AO.mut, AO.live]
  refine ⟨by simp [h.len], h.below.grown hg h.below.size (fun q hq => by simp at hq; omega), fun j o1 p' hj hp' => ?_, fun j j' o1 o2 p1 p2 hne h1 h2 hm1 hl hp1 hp2 => ?_⟩
  · rw [List.getElem?_set] at hj
    by_cases hjk : k = j
    · subst hjk
      rw [if_pos rfl, if_pos hkl] at hj
      simp at hj; subst hj
      rw [hp] at hp'; simp at hp'; subst hp'
      exact ho
    · rw [if_neg hjk] at hj
      have ho1 := h.obj j o1 p' hj hp'
      cases hl : o1.live with
      | false => cases o1 <;> first | trivial | simp [AO.live] at hl
      | true => exact ho1.same P w0 (hg.block _ (ho1.lt P w0 hl) (fun e' => h.inj k j _ o1 p p' hjk hk hj hmut hl hp hp' (by simpa using e'.symm)))
  · have back : ∀ {j : Nat} {q : AO}, (A.set k o')[j]? = some q → ∃ q', A[j]? = some q' ∧ (q.mut = true → q'.mut = true) ∧ (q.live = true → q'.live = true) := by
      intro j q hj
      rw [List.getElem?_set] at hj
      by_cases hjk : k = j
      · subst hjk
        rw [if_pos rfl, if_pos hkl] at hj
        simp at hj; subst hj
        exact ⟨_, hk, fun _ => hmut, fun _ => live_of _ hmut⟩
      · rw [if_neg hjk] at hj
        exact ⟨q, hj, id, id⟩
    obtain ⟨o1', a1, a2, a3⟩ := back h1
    obtain ⟨o2', b1, b2, b3⟩ := back h2
    exact h.inj j j' o1' o2' p1 p2 hne a1 b1 (a2 hm1) (b3 hl) hp1 hp2

theorem Rel.setAny (h : Rel P w0 m A w) {k : Nat} {o o' : AO} (hk : A[k]? = some o) {p : Pl} (hp : m[k]? = some (some p)) (hmut : o.mut = true) (hm : o'.mut = true) {w' : World} (hg : w.grownBy w' (some p.b)) (hbase : w0.heap.size ≤ p.b)
    (ho : ORel P w0 m w' p o') : Rel P w0 m (A.set k o') w' := h.setAny' hk hp hmut hg hbase ho
theorem setObj_map {r : Nat} {es : Array MapEntry} {c : Nat} (h : w.heap[r]? = some (.map es c)) (o : Obj) : (setObj r o).run P w = .ok () { w with heap := w.heap.setIfInBounds r o } ∧
    w.grownBy { w with heap := w.heap.setIfInBounds r o } (some r) ∧ (w.heap.setIfInBounds r o)[r]? = some o := by
  have hlt : r < w.heap.size := (Array.getElem?_eq_some_iff.1 h).1
  refine ⟨by simp [setObj, Sem.run, h], ⟨rfl, rfl, rfl, by simp, fun k hk hne => ?_⟩, ?_⟩
  · simp only [Array.getElem?_setIfInBounds]
    rw [if_neg (fun e => hne (by simp [e]))]
  · simp [Array.getElem?_setIfInBounds, hlt]

def amapOf (A : List AO) (r : Nat) : Option (List (AV × AV) × List Nat × Nat) :=
  match A[r]? with
  | some (.map es bs ck) => some (es, bs, ck)
  | _ => none
theorem amapOf_some {r : Nat} {es : List (AV × AV)} {bs : List Nat} {ck : Nat} (h : amapOf A r = some (es, bs, ck)) : A[r]? = some (.map es bs ck) := by
  unfold amapOf at h
  split at h
  · simp at h; obtain ⟨rfl, rfl, rfl⟩ := h; assumption
  · cases h

def amapUpdate (P : Program) (A : List AO) (ty : TypeId) (mp k v : AV) : Option (List AO) :=
  match P.underlying ty, mp with
  | some (.map kt _), .map (some r) => match amapOf A r, acheckKey P 64 kt k with
    | some (es, bs, ck), true => match afind P kt k es 0 with
      | some (some i) => match es[i]? with
        | some e => if flatEq e.1 k then some (A.set r (.map (es.set i (k, v)) bs ck)) else none
        | none => none
      | some none => some (A.set r (.map (es ++ [(k, v)]) (bs ++ [ck]) (ck + 1)))
      | none => none
    | _, _ => none
  | _, _ => none

theorem amapUpdate_rel (h : Rel P w0 m A w) {ty : TypeId} {mp k v : AV} {ump uk uv : Value} (hmp : VRel m mp ump) (hk : VRel m k uk) (hv : VRel m v uv) {A' : List AO} (hs : amapUpdate P A ty mp k v = some A') :
    ∃ w', (Instr.mapUpdate ty ump uk uv).run P w = .ok () w' ∧ Rel P w0 m A' w' ∧ Kept w w' := by
  unfold amapUpdate at hs
  split at hs
  · rename_i kt et r hu
    cases hmp
    rename_i p hp
    split at hs
    · rename_i es bs clock hes hck
      have hA := amapOf_some hes
      obtain ⟨hbase, ces, q1, q2, q3, q4⟩ := h.obj r _ p hA hp
      have hchk := acheckKey_run (P := P) (w := w) (m := m) false 64 10000 (by omega) kt k uk hck hk
      have hkd : ∃ kd, P.underlying kt = some kd := by
        unfold acheckKey at hck
        cases hq : P.underlying kt with
        | none => rw [hq] at hck; simp at hck
        | some kd => exact ⟨kd, rfl⟩
      split at hs
      · rename_i i hfi
        split at hs
        · rename_i e he
          split at hs
          · rename_i hflat
            simp at hs; subst hs
            have hfk := findKey_run (P := P) (w := w) hk (es := es) (ces := ces.toList) (by simpa using q2) (fun j x c hx hc => (q3 j x c hx (by simpa using hc)).1) hkd hfi
            have hlt : i < ces.size := by have := (List.getElem?_eq_some_iff.1 he).1; omega
            have hce : ces[i]? = some ces[i] := by simp [hlt]
            have hsame := flatEq_same (m := m) hflat (q3 i e _ he hce).1 hk 9999
            obtain ⟨s1, s2, s3⟩ := setObj_map (P := P) q1 (.map (ces.modify i fun e => { e with key := uk, val := uv }) clock)
            refine ⟨_, ?_, h.setAny hA hp rfl rfl s2 hbase ⟨hbase, _, s3, by simp [q2], fun j x c hx hc => ?_, ?_⟩, Kept.grown s2 (fun c => by rw [q1]; simp)⟩
            · simp only [Instr.mapUpdate, Sem.run_bind, run_underlying hu, Result.andThen_ok, getObj_map q1, hchk, hfk, foundOf]
              have hget : ces.toList[i - 0]? = some ces[i] := by simp [hlt]
              simp only [hget, Option.map_some, Sem.run_bind, Instr.keyThatStays, hce, Option.getD_some]
              simp only [show Instr.sameBits 10000 ces[i].key uk = true from hsame, if_true, Sem.run_pure, Result.andThen_ok, s1]
            · rw [List.getElem?_set] at hx
              rw [Array.getElem?_modify] at hc
              by_cases hij : i = j
              · subst hij
                rw [if_pos rfl, if_pos (by omega)] at hx
                rw [if_pos rfl, hce] at hc
                simp at hx hc; subst hx hc
                exact ⟨hk, hv⟩
              · rw [if_neg hij] at hx hc
                exact q3 j x c hx hc
            · rw [← q4]
              apply List.ext_getElem?
              intro j
              simp only [List.getElem?_map, Array.getElem?_toList, Array.getElem?_modify]
              by_cases hij : i = j
              · subst hij
                rw [if_pos rfl, hce]; rfl
              · rw [if_neg hij]
          · cases hs
        · cases hs
      · rename_i hfi
        simp at hs; subst hs
        have hfk := findKey_run (P := P) (w := w) hk (es := es) (ces := ces.toList) (by simpa using q2) (fun j x c hx hc => (q3 j x c hx (by simpa using hc)).1) hkd hfi
        obtain ⟨s1, s2, s3⟩ := setObj_map (P := P) q1 (.map (ces.push { key := uk, val := uv, born := clock }) (clock + 1))
        have get : ∀ {j : Nat} {c : MapEntry}, (ces.push { key := uk, val := uv, born := clock })[j]? = some c → (j < ces.size ∧ ces[j]? = some c) ∨ (j = ces.size ∧ c = { key := uk, val := uv, born := clock }) := by
          intro j c hc
          rw [Array.getElem?_push] at hc
          split at hc
          · rename_i e; simp at hc; exact .inr ⟨e, hc.symm⟩
          · exact .inl ⟨(Array.getElem?_eq_some_iff.1 hc).1, hc⟩
        refine ⟨_, ?_, h.setAny hA hp rfl rfl s2 hbase ⟨hbase, _, s3, by simp [q2], fun j x c hx hc => ?_, by simp [← q4]⟩, Kept.grown s2 (fun c => by rw [q1]; simp)⟩
        · simp only [Instr.mapUpdate, Sem.run_bind, run_underlying hu, Result.andThen_ok, getObj_map q1, hchk, hfk, foundOf, s1]
        · rcases get hc with ⟨l1, c1⟩ | ⟨e1, rfl⟩
          · rw [List.getElem?_append_left (by omega)] at hx
            exact q3 j x c hx c1
          · subst e1
            rw [← q2] at hx; simp at hx; subst hx
            exact ⟨hk, hv⟩
      · cases hs
    · cases hs
  · cases hs

def alookup (P : Program) (A : List AO) (ty : TypeId) (x k : AV) (ok : Bool) : Option AV :=
  match P.underlying ty with
  | some (.map kt et) =>
    match (match x with | .map none => some [] | .map (some r) => (amapOf A r).map (·.1) | _ => none), acheckKey P 64 kt k with
    | some es, true => match afind P kt k es 0 with
      | some (some i) => match es[i]? with
        | some e => some (if ok then .tuple [e.2, .bool true] else e.2)
        | none => none
      | some none => (azero P et).map fun z => if ok then .tuple [z, .bool false] else z
      | none => none
    | _, _ => none
  | _ => none

theorem alookup_rel (h : Rel P w0 m A w) {ty : TypeId} {x k v : AV} {ux uk : Value} {ok : Bool} (hx : VRel m x ux) (hk : VRel m k uk) (hl : alookup P A ty x k ok = some v) : Gives P w0 m A w (Instr.lookup ty ux uk ok) v A := by
  unfold alookup at hl
  split at hl
  case h_2 => cases hl
  rename_i kt et hu
  split at hl
  case h_2 => cases hl
  rename_i es hes hck
  have hkd : ∃ kd, P.underlying kt = some kd := by
    unfold acheckKey at hck
    cases hq : P.underlying kt with
    | none => rw [hq] at hck; simp at hck
    | some kd => exact ⟨kd, rfl⟩
  have ent : ∃ ces : Array MapEntry, es.length = ces.size ∧ (∀ (i : Nat) (x : AV × AV) (c : MapEntry), es[i]? = some x → ces[i]? = some c → VRel m x.1 c.key ∧ VRel m x.2 c.val) ∧
      ((ux = .map none ∧ ces = #[]) ∨ ∃ b clock, ux = .map (some b) ∧ w.heap[b]? = some (.map ces clock)) := by
    cases hx <;> simp only at hes <;> try (cases hes; done)
    · simp at hes; subst hes
      exact ⟨#[], rfl, fun i x c hx => by simp at hx, .inl ⟨rfl, rfl⟩⟩
    · rename_i r p hp
      obtain ⟨⟨es', bs, clock⟩, hes', rfl⟩ := Option.map_eq_some_iff.1 hes
      obtain ⟨ces, q1, q2, q3, _⟩ := map_obj h (amapOf_some hes') hp
      exact ⟨ces, q2, q3, .inr ⟨_, clock, rfl, q1⟩⟩
  obtain ⟨ces, e2, e3, e1⟩ := ent
  have hchk := acheckKey_run (P := P) (w := w) (m := m) ces.isEmpty 64 10000 (by omega) kt k uk hck hk
  have run : ∀ r, afind P kt k es 0 = some r → (Instr.lookup ty ux uk ok).run P w = ((match foundOf ces.toList 0 r with | some (_, v) => (pure (v, true) : Sem (Value × Bool)) | none => do pure (← zeroValue et, false)).run P w).andThen fun x w' => .ok (if ok then .tuple #[x.1, .bool x.2] else x.1) w' := by
    intro r hr
    have hfk := findKey_run (P := P) (w := w) hk (es := es) (ces := ces.toList) (by simpa using e2) (fun j x c hx hc => (e3 j x c hx (by simpa using hc)).1) hkd hr
    rcases e1 with ⟨rfl, rfl⟩ | ⟨b, clock, rfl, hb⟩
    · simp only [Instr.lookup, Sem.run_bind, run_underlying hu, Result.andThen_ok, Sem.run_pure, hchk, hfk]
      generalize foundOf _ 0 r = f
      cases f with
      | none => simp only [Sem.run_bind]; cases (zeroValue et).run P w <;> rfl
      | some q => rfl
    · simp only [Instr.lookup, Sem.run_bind, run_underlying hu, Result.andThen_ok, Sem.run_pure, getObj_map hb, hchk, hfk]
      generalize foundOf _ 0 r = f
      cases f with
      | none => simp only [Sem.run_bind]; cases (zeroValue et).run P w <;> rfl
      | some q => rfl
  split at hl
  · rename_i i hfi
    split at hl
    · rename_i e he
      simp at hl; subst hl
      have hlt : i < ces.size := by have := (List.getElem?_eq_some_iff.1 he).1; omega
      have hce : ces[i]? = some ces[i] := by simp [hlt]
      have hv := (e3 i e _ he hce).2
      refine Gives.here h (u := if ok then .tuple #[ces[i].val, .bool true] else ces[i].val) ?_ ?_
      · rw [run _ hfi]
        have hget : ces.toList[i - 0]? = some ces[i] := by simp [hlt]
        simp only [foundOf, hget, Option.map_some, Sem.run_pure, Result.andThen_ok]
      · cases ok
        · exact hv
        · exact VsRel.two hv (.bool true)
    · cases hl
  · rename_i hfi
    obtain ⟨z, hz, rfl⟩ := Option.map_eq_some_iff.1 hl
    obtain ⟨uz, hrun, hzr⟩ := azero_run (P := P) (w := w) hz
    refine Gives.here h (u := if ok then .tuple #[uz, .bool false] else uz) ?_ ?_
    · rw [run _ hfi]
      simp only [foundOf, Sem.run_bind, hrun, Result.andThen_ok, Sem.run_pure]
    · cases ok
      · exact hzr m
      · exact VsRel.two (hzr m) (.bool false)
  · cases hl
end
end Go.Am
