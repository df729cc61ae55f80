/- A part of the proof: Am9. -/
import Derived.Test.YthipnddfplbamaaDoorAm8
import Derived.Laws.BytesString
import Derived.IntWalk
set_option linter.unusedVariables false
set_option linter.unusedSimpArgs false
namespace Go.Am
open Go.RowKit

section
variable {P : Program} {w0 : World} {m : List (Option Pl)} {A : List AO} {w : World} {t : List AV} {a : Act}

/-! ### make -/
theorem wrap64_of {n : Int} (h : -9223372036854775808 ≤ n ∧ n ≤ 9223372036854775807) : IntKind.i64.wrap n = n := IntWalk.i64_in n h

def amakeSlice (P : Program) (A : List AO) (ty : TypeId) (l c : AV) : Option (AV × List AO) :=
  match P.underlying ty, l, c with
  | some (.slice e), .int _ n, .int _ q => match P.info? e, azero P e with
    | some i, some z => if 0 ≤ n ∧ n ≤ q ∧ q ≤ 9223372036854775807 ∧ i.bytes * q ≤ 281474976710656 ∧ (acells z).length = i.size then
        some (.slc (some (A.length, 0)) n.toNat q.toNat true, A ++ [.row (areps q.toNat (acells z)) e true]) else none
    | _, _ => none
  | _, _, _ => none
theorem amakeSlice_rel (h : Rel P w0 m A w) {ty : TypeId} {l c v : AV} {ul uc : Value} (hl : VRel m l ul) (hc : VRel m c uc) {A' : List AO} (hm : amakeSlice P A ty l c = some (v, A')) : Gives P w0 m A w (Instr.makeSlice ty ul uc) v A' := by
  unfold amakeSlice at hm
  split at hm
  · rename_i e k1 n k2 q hu
    cases hl; cases hc
    split at hm
    · rename_i i z hi hz
      split at hm
      · rename_i hh
        obtain ⟨h1, h2, h3, h4, h5⟩ := hh
        simp at hm; obtain ⟨rfl, rfl⟩ := hm
        obtain ⟨uz, hrun, hzr⟩ := azero_run (P := P) (w := w) hz
        have hzc := acells_rel (hzr m) (azero_na hz)
        have hus : uz.cells.size = i.size := by rw [← hzc.1]; exact h5
        have hw1 : IntKind.i64.wrap n = n := wrap64_of (by omega)
        have hw2 : IntKind.i64.wrap q = q := wrap64_of (by omega)
        have hcs := areps_rel q.toNat hzc
        rw [hus] at hcs
        have hn : asize P e = some i.size := by simp [asize, hi]
        have hnr := h.newRow hcs hn (by rw [areps_length, h5]; exact Nat.mul_le_mul_right _ (by simp only [maxLen]; omega))
        have hp := VRel.slc (o := 0) n.toNat q.toNat true (h.newLast ⟨w.heap.size, 0, 0⟩)
        refine ⟨_, _, _, ?_, Ext.append _ _, hnr, hp, Kept.alloc _ _⟩
        have hb1 : ¬ (281474976710656 < (i.bytes : Int) * q) := by omega
        have hb2 : (decide (q < 0) || decide ((i.bytes : Int) * q > 281474976710656)) = false := by simp; omega
        have hb3 : (decide (n < 0)) = false := by simp; omega
        have hb4 : (decide (n > q)) = false := by simp; omega
        unfold Instr.makeSlice
        simp only [Sem.run_bind, run_underlying hu, Result.andThen_ok, asInt, asIntOf, Sem.run_pure, typeInfo, run_program, hi, hw1, hw2]
        have hcond : (decide (q < 0) || decide ((i.bytes : Int) * q > 2 ^ 48) || decide (n < 0) || decide (n > q)) = false := by
          have : (2 : Int) ^ 48 = 281474976710656 := rfl
          rw [this]; simp; omega
        simp only [hcond, Bool.false_eq_true, if_false, Sem.run_pure, Result.andThen_ok, run_askRoom, Sem.run_bind, asize_run hn]
        by_cases h0 : q.toNat * i.size = 0
        · simp only [h0, if_true, Sem.run_pure, Result.andThen_ok]
          have e0 : ∀ f : Nat → Value, (Array.range 0).map f = #[] := fun f => by simp
          simp only [e0]
          simp [newRow]
        · simp only [h0, if_false, Sem.run_bind, hrun, Result.andThen_ok, Sem.run_pure, newRow_run, hus]
          simp
      · cases hm
    · cases hm
  · cases hm

/-! ### Conversions, interfaces, functions -/
def bytesOfCells : List AV → Option (List UInt8)
  | [] => some []
  | .int .u8 n :: r => if 0 ≤ n ∧ n < 256 then (bytesOfCells r).map (UInt8.ofNat n.toNat :: ·) else none
  | _ => none

def aconvert (P : Program) (A : List AO) (src dst : TypeId) (x : AV) : Option (AV × List AO) :=
  match P.underlying src, P.underlying dst, x with
  | some _, some (.int k), .int _ n => some (.int k (k.wrap n), A)
  | some _, some .string, .str s => some (.str s, A)
  | some _, some .string, .int _ n => some (.str (Utf8.encode n).data.toList, A)
  | some _, some (.slice e), .str s => match P.underlying e, P.info? e with
    | some (.int .u8), some i => if i.size = 1 ∧ s.length ≤ 9223372036854775807 then some (.slc (some (A.length, 0)) s.length s.length false, A ++ [.row (abytes s) e true]) else none
    | _, _ => none
  | some (.slice e), some .string, .slc b len _ _ => match P.underlying e with
    | some (.int .u8) => match b with
      | none => some (.str [], A)
      | some (k, o) => if len = 0 then some (.str [], A) else match arow A k with
        | some (cs, _, _) => if o + len ≤ cs.length then (bytesOfCells ((cs.drop o).take len)).map fun s => (.str s, A) else none
        | none => none
    | _ => none
  | _, _, _ => none

theorem bytes_nums : ∀ (cs : List AV) (us : List Value) (s : List UInt8), (cs.length = us.length) → (∀ (i : Nat) (x : AV) (u : Value), cs[i]? = some x → us[i]? = some u → VRel m x u) → bytesOfCells cs = some s →
    us = (s.map fun b => (b.toNat : Int)).map (Value.int .u8) := by
  intro cs
  induction cs with
  | nil =>
    intro us s hl _ h
    cases us with
    | nil => simp [bytesOfCells] at h; subst h; rfl
    | cons => simp at hl
  | cons x r ih =>
    intro us s hl hr h
    cases us with
    | nil => simp at hl
    | cons u us =>
      have h0 := hr 0 x u rfl rfl
      unfold bytesOfCells at h
      split at h
      · rename_i heq; cases heq
      · rename_i n r' heq
        simp at heq; obtain ⟨rfl, rfl⟩ := heq
        cases h0
        split at h
        · rename_i hn
          obtain ⟨s', hs', rfl⟩ := Option.map_eq_some_iff.1 h
          have := ih us s' (by simpa using hl) (fun i x u hx hu => hr (i + 1) x u (by simpa using hx) (by simpa using hu)) hs'
          simp only [List.map_cons, this]
          congr 2
          have : (UInt8.ofNat n.toNat).toNat = n.toNat := by simp; omega
          rw [this]; omega
        · cases h
      · cases h

theorem foldl_bytes : ∀ (s : List UInt8) (acc : ByteArray), (s.map fun b => (b.toNat : Int)).foldl (fun (r : ByteArray) (n : Int) => r.push (UInt8.ofNat n.toNat)) acc = ⟨acc.data ++ s.toArray⟩ := by
  intro s
  induction s with
  | nil => intro acc; simp
  | cons b r ih => intro acc; simp only [List.map_cons, List.foldl_cons, ih]; simp [ByteArray.push]

theorem aconvert_rel (h : Rel P w0 m A w) {src dst : TypeId} {x v : AV} {u : Value} (hx : VRel m x u) {A' : List AO} (hc : aconvert P A src dst x = some (v, A')) : Gives P w0 m A w (convert src dst u) v A' := by
  unfold aconvert at hc
  split at hc
  · rename_i d k k' n hs hd
    cases hx
    simp at hc; obtain ⟨rfl, rfl⟩ := hc
    exact Gives.here h (by simp [convert, run_underlying hs, run_underlying hd, Conv.intToInt]) (.int _ _)
  · rename_i d s hs hd
    cases hx
    simp at hc; obtain ⟨rfl, rfl⟩ := hc
    exact Gives.here h (by simp [convert, run_underlying hs, run_underlying hd]) (.str _)
  · rename_i d k n hs hd
    cases hx
    simp at hc; obtain ⟨rfl, rfl⟩ := hc
    have e : Utf8.encode n = ⟨(Utf8.encode n).data.toList.toArray⟩ := by simp
    refine Gives.here h (u := .string (Utf8.encode n)) (by simp [convert, run_underlying hs, run_underlying hd, Conv.intToString]) ?_
    have := VRel.str (m := m) (Utf8.encode n).data.toList
    rwa [← e] at this
  · rename_i d e s hs hd
    split at hc
    · rename_i i he hi
      split at hc
      · rename_i hh
        obtain ⟨h1, h2⟩ := hh
        simp at hc; obtain ⟨rfl, rfl⟩ := hc
        cases hx
        have hsz : (⟨s.toArray⟩ : ByteArray).size = s.length := by simp [ByteArray.size]
        have hge := grownCap_ge w s.length 0 e
        have hcm : grownCap w s.length 0 e ≤ maxLen := grownCap_le_maxLen w s.length 0 e (by simp only [maxLen]; omega)
        have hfo : Question.forced (.appendCap s.length 0 e) = false := rfl
        let us : Array Value := (s.toArray.map fun b => Value.int .u8 b.toNat) ++ Array.replicate (grownCap w s.length 0 e - s.length) (.int .u8 0)
        have hussz : us.size = grownCap w s.length 0 e := by simp [us]; omega
        let w1 := w.drew.alloc (.cells us e)
        have hnb : w1.heap[w.heap.size]? = some (.cells us e (0, 0)) := new_block w.drew _
        let w2 := w1.freeze ⟨w.heap.size, us.size, none⟩ 1
        have hw2 : w2.heap[w.heap.size]? = some (.cells us e (us.size, us.size + 1)) := by
          simp only [w2, World.freeze]
          rw [if_neg (by omega)]
          simp [Array.getElem?_modify, hnb]
        have hbel : Below w.heap.size w w2 := by
          have hb1 : Below w.heap.size w w1 := ((Below.refl _ _).drew).alloc (Nat.le_refl _) _
          refine ⟨hb1.os, hb1.tape, hb1.output, ?_, fun k hk => ?_⟩
          · simp [w2, World.freeze]; exact hb1.size
          · rw [← hb1.block k hk]
            simp only [w2, World.freeze]
            rw [if_neg (by omega)]
            simp only [Array.getElem?_modify]
            rw [if_neg (by omega)]
        have habs := abytes_rel (m := m) s
        refine ⟨.slice (some ⟨w.heap.size, 0, none⟩) s.length (grownCap w s.length 0 e), w2, m ++ [some ⟨w.heap.size, 0, grownCap w s.length 0 e - s.length⟩], ?_, Ext.append _ _, ?_, ?_, Kept.below hbel⟩
        · have hshape : w1.shape? w.heap.size = some (e, us.size) := by simp [World.shape?, hnb]
          simp only [convert, Sem.run_bind, run_underlying hs, run_underlying hd, Result.andThen_ok, run_underlying he, Conv.stringToBytes, hsz, run_choose, hfo, Bool.false_eq_true, if_false, newRow_run]
          show ((markStringish ⟨w.heap.size, 0, none⟩).run P w1).andThen _ = _
          simp only [markStringish, Sem.run_bind, run_shape, hshape, Result.andThen_ok, run_freeze]
          rfl
        · refine h.push P w0 hbel _ _ (Nat.le_refl _) ⟨us, _, hw2, fun j y hj => ?_, fun _ => ⟨h.below.size, fun j hj => by simp; omega, i, hi, ?_, ?_⟩⟩
          · obtain ⟨q, hq, hqr⟩ := habs.get hj
            refine ⟨q, ?_, hqr.ext (Ext.append _ _)⟩
            have hlt : j < (s.toArray.map fun b => Value.int .u8 b.toNat).size := (Array.getElem?_eq_some_iff.1 hq).1
            simp only [Nat.zero_add, us]
            rw [Array.getElem?_append_left hlt]; exact hq
          · rw [hussz]; simp [abytes, h1]; omega
          · simp [abytes, h1]; simp only [maxLen] at hcm ⊢; omega
        · have := VRel.slc (o := 0) s.length s.length false (h.newLast ⟨w.heap.size, 0, grownCap w s.length 0 e - s.length⟩)
          simp only [Bool.false_eq_true, if_false, Nat.add_zero] at this
          rwa [show s.length + (grownCap w s.length 0 e - s.length) = grownCap w s.length 0 e by omega] at this
      · cases hc
    · cases hc
  · rename_i e b len c ex hs hd
    split at hc
    · rename_i he
      split at hc
      · simp at hc; obtain ⟨rfl, rfl⟩ := hc
        cases hx
        refine Gives.here h (u := .string .empty) ?_ (.str [])
        simp [convert, run_underlying hs, run_underlying hd, run_underlying he, Conv.bytesToString]
      · rename_i k o
        have main : ∀ (ad : Addr) (us : List Value) (cs : List AV) (s : List UInt8) (c' : Nat), u = .slice (some ad) len c' → us.length = len → (loadCells ad len).run P w = .ok us.toArray w → VsRel m cs us.toArray → bytesOfCells cs = some s →
            Gives P w0 m A w (convert src dst u) (.str s) A := by
          rintro ad us cs s c' rfl hl hrun hrel hb
          refine Gives.here h (u := .string ⟨s.toArray⟩) ?_ (.str s)
          have hu := bytes_nums (m := m) cs us s (by simpa using hrel.1) (fun i x u hx hu => hrel.2 i x u hx (by simpa using hu)) hb
          have hrun' := run_bytesToString (P := P) w ad len c' _ (hu ▸ hrun)
          rw [foldl_bytes] at hrun'
          have e0 : (ByteArray.empty.data ++ s.toArray) = s.toArray := by show (#[] : Array UInt8) ++ s.toArray = s.toArray; simp
          rw [e0] at hrun'
          simp only [convert, Sem.run_bind, run_underlying hs, run_underlying hd, Result.andThen_ok, run_underlying he, hrun']
        split at hc
        · rename_i h0
          subst h0
          simp at hc; obtain ⟨rfl, rfl⟩ := hc
          cases hx with
          | slcEmpty _ _ _ ad =>
            cases ad with
            | some ad => exact main _ [] [] [] _ rfl rfl (by simp [loadCells, loadCellsFrom]) (VsRel.nil m) rfl
            | none =>
              refine Gives.here h (u := .string .empty) ?_ (.str [])
              simp [convert, run_underlying hs, run_underlying hd, run_underlying he, Conv.bytesToString]
          | slc => exact main _ [] [] [] _ rfl rfl (by simp [loadCells, loadCellsFrom]) (VsRel.nil m) rfl
        · rename_i h0
          split at hc
          · rename_i cs e2 wr hrow
            split at hc
            · rename_i hle
              obtain ⟨s, hb, hsv⟩ := Option.map_eq_some_iff.1 hc
              simp at hsv; obtain ⟨rfl, rfl⟩ := hsv
              cases hx with
              | slcEmpty => exact absurd rfl h0
              | slc _ _ _ hp =>
                rename_i p
                obtain ⟨us, hl, hrel, hcell⟩ := row_cells h (arow_some hrow) hp o len hle
                have := run_cells_list (P := P) (w := w) p.b (p.o + o) us 0 #[] (fun j q hj => by simpa using hcell j q hj)
                refine main _ us _ s _ rfl hl ?_ hrel hb
                simp only [loadCells, ← hl]
                rw [this]; simp
            · cases hc
          · cases hc
    · cases hc
  · cases hc
end
end Go.Am
