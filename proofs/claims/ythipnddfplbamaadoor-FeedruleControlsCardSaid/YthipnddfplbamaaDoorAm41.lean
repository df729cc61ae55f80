/- A part of the proof: Am41. -/
import Derived.Test.YthipnddfplbamaaDoorAm40
import Derived.Laws.Externs
import Derived.KernelRfl
set_option linter.unusedVariables false
set_option linter.unusedSimpArgs false
/-! Pointers seen as unsafe ones, a row of bytes taken as a string, a map's copy. -/
namespace Go.Am
open Go.RowKit
section
variable {P : Program} {w0 : World} {m : List (Option Pl)} {A : List AO} {w : World}

theorem run_shape {r : Nat} {c : Array Value} {e : TypeId} {f : Nat × Nat} (h : w.heap[r]? = some (.cells c e f)) : (shape r).run P w = .ok (some (e, c.size)) w := by
  simp [shape, Sem.run, World.shape?, h]
theorem run_seenAt {a : Addr} {c : Array Value} {e : TypeId} {f : Nat × Nat} (h : w.heap[a.block]? = some (.cells c e f)) : (Conv.seenAt a).run P w = .ok a w := by
  unfold Conv.seenAt viewAt
  simp [run_shape h]
theorem run_cellsIn {r : Nat} {c : Array Value} {e : TypeId} {f : Nat × Nat} (h : w.heap[r]? = some (.cells c e f)) : (cellsIn r).run P w = .ok (some c.size) w := by
  unfold cellsIn
  simp [run_shape h]
theorem liesAt_ok {e u : TypeId} {count off n : Nat} (h0 : P.cellsOf e ≠ 0) (h1 : off % P.cellsOf e = 0) (h2 : off / P.cellsOf e + n ≤ count) (he : e = u) : liesAt P P.depth e count off u n = true := by
  subst he
  have hd : ∃ d, P.depth = d + 1 := ⟨2 * (P.types.size + Made.depth) + 1, rfl⟩
  obtain ⟨d, hd⟩ := hd
  have hs : sameLayout P P.depth e e = true := by rw [hd]; simp [sameLayout]
  rw [hd]
  unfold liesAt
  rw [hd] at hs ⊢
  have : rowAt P (fun x => sameLayout P (d + 1) x e) (d + 1) e count off n = true := by
    unfold rowAt
    simp [h0, h1, h2, hs]
  simp [this]
theorem variables_ok {a : Addr} {u : TypeId} {n : Nat} {c : Array Value} {f : Nat × Nat} (h : w.heap[a.block]? = some (.cells c u f)) (h0 : P.cellsOf u ≠ 0) (h1 : a.off % P.cellsOf u = 0) (h2 : a.off / P.cellsOf u + n ≤ c.size / P.cellsOf u) :
    (variablesAt a u n).run P w = .ok true w := by
  unfold variablesAt
  simp only [Sem.run_bind, run_program, run_shape h, Result.andThen_ok, Sem.run_pure, liesAt_ok h0 h1 h2 rfl]

/-- A pointer as an unsafe one, and back. -/
def aptrConv (P : Program) (A : List AO) (s d : TypeId) (x : AV) : Option AV :=
  match P.underlying s, P.underlying d, x with
  | some (.pointer _), some .unsafePointer, .ptr none => some (.ptr none)
  | some (.pointer t), some .unsafePointer, .ptr (some (k, o)) => match arow A k, P.info? t with
    | some (cs, _, _), some i => if o < cs.length ∧ i.size ≠ 0 then some (.ptr (some (k, o))) else none
    | _, _ => none
  | some .unsafePointer, some (.pointer _), .ptr none => some (.ptr none)
  | some .unsafePointer, some (.pointer u), .ptr (some (k, 0)) => match arow A k, P.info? u with
    | some (cs, e, true), some i => if e = u ∧ i.size ≠ 0 ∧ i.size ≤ cs.length then some (.ptr (some (k, 0))) else none
    | _, _ => none
  | _, _, _ => none
theorem aptrConv_rel (h : Rel P w0 m A w) {s d : TypeId} {x v : AV} {u : Value} (hx : VRel m x u) (hc : aptrConv P A s d x = some v) : Gives P w0 m A w (convert s d u) v A := by
  unfold aptrConv at hc
  split at hc
  · rename_i t hs hd
    simp at hc; subst hc
    cases hx
    exact Gives.here h (u := .pointer none) (by simp [convert, run_underlying hs, run_underlying hd, Conv.unsafePointer]) .ptrNil
  · rename_i t k o hs hd
    split at hc
    case h_2 => cases hc
    rename_i cs e wr i hk hi
    split at hc
    case isFalse => cases hc
    rename_i hh
    simp at hc; subst hc
    cases hx
    rename_i p hp
    have hA := arow_some hk
    obtain ⟨cc, fr, q1, q2, q3⟩ := h.obj k _ p hA hp
    obtain ⟨uu, hu, _⟩ := q2 o cs[o] (by simp [hh.1])
    have hlt : p.o + o < cc.size := (Array.getElem?_eq_some_iff.1 hu).1
    refine Gives.here h (u := .pointer (some ⟨p.b, p.o + o, none⟩)) ?_ (.ptr hp)
    have hsz := run_sizeOf (P := P) w hi
    have hcz : P.cellsOf t ≠ 0 := by simp [Program.cellsOf, hi]; exact hh.2
    unfold convert
    simp only [Sem.run_bind, run_underlying hs, run_underlying hd, Result.andThen_ok]
    unfold Conv.unsafePointer
    simp only [Sem.run_bind, run_underlying hs, run_underlying hd, Result.andThen_ok]
    rw [run_seenAt (a := ⟨p.b, p.o + o, none⟩) q1]
    simp only [Result.andThen_ok, run_cellsIn q1, Sem.run_bind, hsz, Sem.run_pure]
    simp [hcz, Nat.not_le.2 hlt]
  · rename_i t hs hd
    simp at hc; subst hc
    cases hx
    exact Gives.here h (u := .pointer none) (by simp [convert, run_underlying hs, run_underlying hd, Conv.unsafePointer]) .ptrNil
  · rename_i t k hs hd
    split at hc
    case h_2 => cases hc
    rename_i cs e i hk hi
    split at hc
    case isFalse => cases hc
    rename_i hh
    obtain ⟨rfl, h2, h3⟩ := hh
    simp at hc; subst hc
    cases hx
    rename_i p hp
    have hA := arow_some hk
    obtain ⟨cc, fr, q1, q2, q3⟩ := h.obj k _ p hA hp
    obtain ⟨_, _, i', r1, r2, r3, r4⟩ := q3 rfl
    rw [hi] at r1; simp at r1; subst r1
    have hcz : P.cellsOf e = i.size := by simp [Program.cellsOf, hi]
    refine Gives.here h (u := .pointer (some ⟨p.b, p.o + 0, none⟩)) ?_ (.ptr hp)
    have hv := variables_ok (P := P) (a := ⟨p.b, p.o + 0, none⟩) (n := 1) q1 (by rw [hcz]; exact h2) (by rw [hcz]; exact r4) (by
      rw [hcz, r2]
      show p.o / i.size + 1 ≤ _
      have hpos : 0 < i.size := by omega
      obtain ⟨j, hj⟩ : ∃ j, p.o = i.size * j := ⟨p.o / i.size, by have := Nat.div_add_mod p.o i.size; omega⟩
      rw [hj, Nat.mul_div_cancel_left _ hpos, Nat.add_assoc, Nat.mul_add_div hpos]
      have : 1 ≤ (cs.length + p.x * i.size) / i.size := (Nat.le_div_iff_mul_le hpos).2 (by omega)
      omega)
    have hsz := run_sizeOf (P := P) w hi
    unfold convert
    simp only [Sem.run_bind, run_underlying hs, run_underlying hd, Result.andThen_ok]
    unfold Conv.unsafePointer
    simp only [Sem.run_bind, run_underlying hs, run_underlying hd, Result.andThen_ok]
    rw [run_seenAt (a := ⟨p.b, p.o + 0, none⟩) q1]
    simp only [Result.andThen_ok, Sem.run_bind, hsz, hv]
    simp
  · cases hc

/-! ### A row of bytes as a string -/
theorem loadBytes_run {b : Nat} {c : Array Value} {e : TypeId} {f : Nat × Nat} (h : w.heap[b]? = some (.cells c e f)) : ∀ (s : List UInt8) (o : Nat) (acc : ByteArray), (∀ (i : Nat) (x : UInt8), s[i]? = some x → c[o + i]? = some (.int .u8 x.toNat)) →
    (loadBytes ⟨b, o, none⟩ acc s.length).run P w = .ok ⟨acc.data ++ s.toArray⟩ w := by
  intro s
  induction s with
  | nil => intro o acc _; simp [loadBytes]
  | cons x r ih =>
    intro o acc hs
    have h0 := hs 0 x rfl
    simp only [Nat.add_zero] at h0
    have hl : (load ⟨b, o, none⟩).run P w = .ok (.int .u8 x.toNat) w := by
      simp [load, Sem.run, World.cell?, h, h0]
    simp only [List.length_cons, loadBytes, Sem.run_bind, hl, Result.andThen_ok]
    have := ih (o + 1) (acc.push (Int.toNat (x.toNat : Int)).toUInt8) (fun i y hy => by rw [show o + 1 + i = o + (i + 1) by omega]; exact hs (i + 1) y (by simpa using hy))
    rw [show (Addr.add ⟨b, o, none⟩ 1) = ⟨b, o + 1, none⟩ from rfl, this]
    simp [ByteArray.push]
theorem bytes_get : ∀ {cs : List AV} {s : List UInt8}, bytesOfCells cs = some s → s.length = cs.length ∧ ∀ (i : Nat) (x : UInt8), s[i]? = some x → cs[i]? = some (.int .u8 x.toNat) := by
  intro cs
  induction cs with
  | nil => intro s h; simp [bytesOfCells] at h; subst h; exact ⟨rfl, fun i x hx => by simp at hx⟩
  | cons y r ih =>
    intro s h
    unfold bytesOfCells at h
    split at h
    · rename_i heq; cases heq
    · rename_i n r' heq
      simp at heq; obtain ⟨rfl, rfl⟩ := heq
      split at h
      · rename_i hn
        obtain ⟨s', hs', rfl⟩ := Option.map_eq_some_iff.1 h
        obtain ⟨h1, h2⟩ := ih hs'
        refine ⟨by simp [h1], fun i x hx => ?_⟩
        cases i with
        | zero =>
          simp at hx; subst hx
          have : ((UInt8.ofNat n.toNat).toNat : Int) = n := by
            rw [UInt8.toNat_ofNat']; omega
          rw [this]; rfl
        | succ i => simpa using h2 i x (by simpa using hx)
      · cases h
    · cases h
/-- A row of bytes of one's own that was made a string is written no more. -/
def astring (P : Program) (A : List AO) (pt : TypeId) (x n : AV) : Option (AV × List AO) :=
  match P.underlying pt, x, n with
  | some (.pointer _), .ptr none, .int .i64 n => if n = 0 then some (.str [], A) else none
  | some (.pointer u), .ptr (some (k, o)), .int .i64 n => if n = 0 then some (.str [], A) else if 0 < n ∧ n ≤ 9223372036854775807 then
      match arow A k, P.info? u with
      | some (cs, e, true), some i => if e = u ∧ i.size = 1 ∧ o + n.toNat ≤ cs.length then
          (bytesOfCells ((cs.drop o).take n.toNat)).map fun s => (.str s, A.set k (.row cs e false)) else none
      | _, _ => none
      else none
  | _, _, _ => none
theorem run_freeze {b o n : Nat} {c : Array Value} {e : TypeId} {f : Nat × Nat} (h : w.heap[b]? = some (.cells c e f)) : ∃ w' f', (freeze ⟨b, o, none⟩ n).run P w = .ok () w' ∧ w.grownBy w' (some b) ∧ w'.heap[b]? = some (.cells c e f') := by
  have hlt : b < w.heap.size := (Array.getElem?_eq_some_iff.1 h).1
  refine ⟨w.freeze ⟨b, o, none⟩ n, ?_⟩
  by_cases hn : n = 0
  · refine ⟨f, by simp [freeze, Sem.run], ?_, ?_⟩
    · simp only [World.freeze, hn, if_true]; exact ⟨rfl, rfl, rfl, Nat.le_refl _, fun k hk hne => rfl⟩
    · simp only [World.freeze, hn, if_true]; exact h
  · refine ⟨(if f.1 == f.2 then (o, o + n) else (min f.1 o, max f.2 (o + n))), by simp [freeze, Sem.run], ?_, ?_⟩
    · simp only [World.freeze, if_neg hn]
      refine ⟨rfl, rfl, rfl, by simp, fun k hk hne => ?_⟩
      simp only [Array.getElem?_modify]
      rw [if_neg (fun e => hne (by simp [e]))]
    · simp only [World.freeze, if_neg hn, Array.getElem?_modify, if_true, h, Option.map_some]
theorem unsafeString_eq (pt xt rt : TypeId) (p : Option Addr) (l : Value) : Builtin.unsafeString_ #[pt, xt] rt #[.pointer p, l] = (do
    let n ← asInt l
    if n < 0 then runtimePanic (.error "unsafe.String: len out of range")
    if n > IntKind.i64.max then unsupported (.unsafePointer "String: a length above the largest int")
    match p with
    | none =>
      if n = 0 then pure (.string .empty)
      else runtimePanic (.error "unsafe.String: ptr is nil and len is not zero")
    | some a =>
      if n = 0 then pure (.string .empty)
      else if ← variablesAt a (← elemOf pt) n.toNat then do
        let s ← loadBytes a .empty n.toNat
        freeze a n.toNat
        pure (.string s)
      else unsupported (.unsafePointer "String: not so many bytes at ptr")) := rfl
theorem sliceDataNil_eq (xt rt : TypeId) (n c : Nat) : Builtin.unsafeSliceData_ #[xt] rt #[.slice none n c] = pure (.pointer none) := rfl
theorem sliceData_eq (xt rt : TypeId) (a : Addr) (n c : Nat) : Builtin.unsafeSliceData_ #[xt] rt #[.slice (some a) n c] = (do
    if c ≠ 0 then pure (.pointer (some a))
    else if (← viewAt a.block).isSome then pure (.pointer (some a))
    else pure (.pointer (some ⟨← newObj (.view a (← elemOf rt)), 0, none⟩))) := rfl
theorem clone_eq (t : TypeId) (r : Nat) : Extern.MapsClone.clone #[.iface t (.map (some r))] = (do
    let .map entries clock ← getObj r | stuck "maps.clone: a map expected"
    pure (.iface t (.map (some (← newObj (.map entries clock)))))) := rfl
theorem asInt_run (n : Int) : (asInt (.int .i64 n)).run P w = .ok n w := by simp [asInt, asIntOf]
theorem astring_rel (h : Rel P w0 m A w) {pt xt rt : TypeId} {x n v : AV} {u un : Value} {A' : List AO} (hx : VRel m x u) (hn : VRel m n un) (hs : astring P A pt x n = some (v, A')) : Gives P w0 m A w (Builtin.unsafeString_ #[pt, xt] rt #[u, un]) v A' := by
  unfold astring at hs
  split at hs
  · rename_i t n hp
    split at hs
    case isFalse => cases hs
    rename_i h0
    simp at hs; obtain ⟨rfl, rfl⟩ := hs
    cases hx; cases hn
    refine Gives.here h (u := .string .empty) ?_ (.str [])
    rw [unsafeString_eq]
    subst h0
    simp only [Sem.run_bind, asInt_run, Result.andThen_ok]
    rfl
  · rename_i t k o n hp
    split at hs
    · rename_i h0
      simp at hs; obtain ⟨rfl, rfl⟩ := hs
      cases hx; cases hn
      refine Gives.here h (u := .string .empty) ?_ (.str [])
      rw [unsafeString_eq]
      subst h0
      simp only [Sem.run_bind, asInt_run, Result.andThen_ok]
      rfl
    · rename_i h0
      split at hs
      case isFalse => cases hs
      rename_i hn1
      split at hs
      case h_2 => cases hs
      rename_i cs e i hk hi
      split at hs
      case isFalse => cases hs
      rename_i hh
      obtain ⟨rfl, h2, h3⟩ := hh
      obtain ⟨s, hs', he⟩ := Option.map_eq_some_iff.1 hs
      simp at he; obtain ⟨rfl, rfl⟩ := he
      cases hx; cases hn
      rename_i p hp'
      have hA := arow_some hk
      obtain ⟨cc, fr, q1, q2, q3⟩ := h.obj k _ p hA hp'
      obtain ⟨hb, _, i', r1, r2, r3, r4⟩ := q3 rfl
      have hcz : P.cellsOf e = 1 := by simp [Program.cellsOf, hi, h2]
      have hv := variables_ok (P := P) (a := ⟨p.b, p.o + o, none⟩) (n := n.toNat) q1 (by rw [hcz]; decide) (by rw [hcz]; exact Nat.mod_one _) (by
        rw [hcz, Nat.div_one, Nat.div_one, r2]
        show p.o + o + n.toNat ≤ _
        omega)
      obtain ⟨b1, b2⟩ := bytes_get hs'
      have hlen : s.length = n.toNat := by rw [b1]; simp; omega
      have hload := loadBytes_run (P := P) q1 s (p.o + o) .empty (fun i x hx => by
        have h1 := b2 i x hx
        have hi' : i < n.toNat := by have := (List.getElem?_eq_some_iff.1 hx).1; omega
        rw [List.getElem?_take, if_pos hi', List.getElem?_drop] at h1
        obtain ⟨uu, hu, hr⟩ := q2 _ _ h1
        cases hr
        rw [show p.o + o + i = p.o + (o + i) by omega]; exact hu)
      rw [hlen] at hload
      obtain ⟨w', f', f1, f2, f3⟩ := run_freeze (P := P) (o := p.o + o) (n := n.toNat) q1
      refine ⟨.string ⟨s.toArray⟩, w', m, ?_, Ext.refl _, ?_, .str s, Kept.grown f2 (fun c => by rw [q1]; simp)⟩
      · have hle : ¬ (n < 0) := by omega
        have hle2 : ¬ (n > IntKind.i64.max) := by
          have : IntKind.i64.max = 9223372036854775807 := by decide
          rw [this]; omega
        rw [unsafeString_eq]
        simp only [Sem.run_bind, asInt_run, Result.andThen_ok]
        rw [if_neg hle, if_neg hle2]
        simp only [if_neg h0]
        have f1' : w.freeze ⟨p.b, p.o + o, none⟩ n.toNat = w' := by simpa [freeze, Sem.run] using f1
        simp [elemOf, run_underlying hp, hv, hload, f1']
      · refine h.setAny' hA hp' rfl f2 hb ⟨cc, f', f3, q2, fun h => by cases h⟩
  · cases hs
def asliceData (x : AV) : Option AV :=
  match x with
  | .slc none _ _ _ => some (.ptr none)
  | .slc (some (k, o)) _ c _ => if c = 0 then none else some (.ptr (some (k, o)))
  | _ => none
theorem asliceData_rel (h : Rel P w0 m A w) {xt rt : TypeId} {x v : AV} {u : Value} (hx : VRel m x u) (hs : asliceData x = some v) : Gives P w0 m A w (Builtin.unsafeSliceData_ #[xt] rt #[u]) v A := by
  unfold asliceData at hs
  split at hs
  · simp at hs; subst hs
    cases hx
    exact Gives.here h (u := .pointer none) (by rw [sliceDataNil_eq]; rfl) .ptrNil
  · split at hs
    · cases hs
    rename_i hc
    simp at hs; subst hs
    cases hx
    · rename_i k o l c ex p hp
      refine Gives.here h (u := .pointer (some ⟨p.b, p.o + o, none⟩)) ?_ (.ptr hp)
      have : (if ex then c else c + p.x) ≠ 0 := by split <;> omega
      rw [sliceData_eq, if_pos this]; rfl
    · exact absurd rfl hc
  · cases hs

/-! ### A map's copy -/
def isClone (P : Program) (g : FuncId) : Bool := match P.funcs[g]? with
  | some fn => fn.body.isNone && fn.name == "maps.clone" && fn.origin == ""
  | none => false
def aclone (A : List AO) : List AV → Option (AV × List AO)
  | [.iface t (.map (some k))] => match amapOf A k with
    | some (es, bs, ck) => some (.iface t (.map (some A.length)), A ++ [.map es bs ck])
    | none => none
  | _ => none
theorem aclone_rel (h : Rel P w0 m A w) {g : FuncId} (hg : isClone P g = true) {args : List AV} {us : Array Value} (hu : VsRel m args us) {v : AV} {A' : List AO} (hc : aclone A args = some (v, A')) :
    ∃ u w' m', (callFunc g us).run P w = .ok (.value u) w' ∧ Ext m m' ∧ Rel P w0 m' A' w' ∧ VRel m' v u ∧ Kept w w' := by
  unfold isClone at hg
  split at hg
  case h_2 => cases hg
  rename_i fn hfn
  simp only [Bool.and_eq_true, beq_iff_eq] at hg
  obtain ⟨⟨hb, hname⟩, horg⟩ := hg
  unfold aclone at hc
  split at hc
  case h_2 => cases hc
  rename_i t k
  split at hc
  case h_2 => cases hc
  rename_i es bs ck hes
  simp at hc; obtain ⟨rfl, rfl⟩ := hc
  obtain ⟨u0, hu0, hr0⟩ := hu.get (i := 0) rfl
  have hus : us = #[u0] := by
    have := hu.1
    apply Array.ext
    · simpa using this.symm
    · intro i h1 h2
      have hi : i = 0 := by simpa using h2
      subst hi
      exact (Array.getElem?_eq_some_iff.1 hu0).2
  subst hus
  cases hr0
  rename_i u1 hr1
  cases hr1
  rename_i p hp
  obtain ⟨ces, q1, q2, q3, q4⟩ := map_obj h (amapOf_some hes) hp
  have hrun : (callFunc g #[.iface t (.map (some p.b))]).run P w = ((Extern.MapsClone.clone #[.iface t (.map (some p.b))]).run P w).andThen fun v w' => .ok (.value v) w' := by
    refine run_callFunc_extern hfn (by rw [hname]; decide) (by simpa using hb) ?_ ?_ _ w
    · unfold Extern.findNext
      rw [hname, horg]
      kernel_rfl
    · unfold Extern.find
      rw [hname, horg]
      simp only [show Extern.allGenericRows.lookup "maps.clone" = none by kernel_rfl, show Extern.allTypedRows.lookup "maps.clone" = none by kernel_rfl, show Extern.allRows.lookup "maps.clone" = some Extern.MapsClone.clone by kernel_rfl]
      rfl
  refine ⟨.iface t (.map (some w.heap.size)), w.alloc (.map ces ck), m ++ [some ⟨w.heap.size, 0, 0⟩], ?_, Ext.append _ _, ?_, .iface t (.map (h.newLast ⟨w.heap.size, 0, 0⟩)), Kept.below ((Below.refl _ _).alloc (Nat.le_refl _) _)⟩
  · rw [hrun]
    rw [clone_eq]
    simp [getObj_map q1, newObj, Sem.run]
  · refine h.push P w0 ((Below.refl _ _).alloc (Nat.le_refl _) _) _ _ (Nat.le_refl _) ⟨h.base, ces, new_block w _, q2, fun i x c hx hc => ?_, q4⟩
    have := q3 i x c hx hc
    exact ⟨this.1.ext (Ext.append _ _), this.2.ext (Ext.append _ _)⟩
end
end Go.Am
