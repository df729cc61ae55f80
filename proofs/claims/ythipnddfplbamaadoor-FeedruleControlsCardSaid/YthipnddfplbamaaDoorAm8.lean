/- A part of the proof: Am8. -/
import Derived.Test.YthipnddfplbamaaDoorAm7
set_option linter.unusedVariables false
set_option linter.unusedSimpArgs false
namespace Go.Am
open Go.RowKit

section
variable {P : Program} {w0 : World} {m : List (Option Pl)} {A : List AO} {w : World} {t : List AV} {a : Act}

/-- A new abstract block at a place where nothing live lies. -/
theorem Rel.place (h : Rel P w0 m A w) {w' : World} (hb : Below w0.heap.size w0 w') {q : Pl} {o' : AO}
    (hsame : ∀ (k : Nat) (o : AO) (p : Pl), A[k]? = some o → o.live = true → m[k]? = some (some p) → w'.heap[p.b]? = w.heap[p.b]? ∧ p.b ≠ q.b)
    (ho : ORel P w0 (m ++ [some q]) w' q o') : Rel P w0 (m ++ [some q]) (A ++ [o']) w' := by
  have hl := h.len
  have get : ∀ {k : Nat} {o1 : AO} {p1 : Pl}, (A ++ [o'])[k]? = some o1 → (m ++ [some q])[k]? = some (some p1) → (k < A.length ∧ A[k]? = some o1 ∧ m[k]? = some (some p1)) ∨ (k = A.length ∧ o1 = o' ∧ p1 = q) := by
    intro k o1 p1 h1 h2
    by_cases hlt : k < A.length
    · rw [List.getElem?_append_left hlt] at h1
      rw [List.getElem?_append_left (by omega)] at h2
      exact .inl ⟨hlt, h1, h2⟩
    · have hk0 : k = A.length := by
        have := (List.getElem?_eq_some_iff.1 h1).1; simp at this; omega
      subst hk0
      simp at h1
      rw [← hl] at h2; simp at h2
      exact .inr ⟨rfl, h1.symm, h2.symm⟩
  refine ⟨by simp [hl], hb, fun k o p hk hp => ?_, fun k k' o1 o2 p1 p2 hne h1 h2 hm hlv hp1 hp2 => ?_⟩
  · rcases get hk hp with ⟨l1, a1, b1⟩ | ⟨e1, rfl, rfl⟩
    · cases hlive : o.live with
      | false => cases o <;> first | trivial | simp [AO.live] at hlive
      | true => exact ((h.obj k o p a1 b1).same P w0 (hsame k o p a1 hlive b1).1).ext P w0 (Ext.append _ _).weak
    · exact ho
  · have live_of : ∀ o : AO, o.mut = true → o.live = true := fun o ho => by cases o <;> simp_all [AO.mut, AO.live]
    rcases get h1 hp1 with ⟨l1, a1, b1⟩ | ⟨e1, rfl, rfl⟩
    · rcases get h2 hp2 with ⟨l2, a2, b2⟩ | ⟨e2, rfl, rfl⟩
      · exact h.inj k k' o1 o2 p1 p2 hne a1 a2 hm hlv b1 b2
      · exact (hsame k o1 p1 a1 (live_of _ hm) b1).2
    · rcases get h2 hp2 with ⟨l2, a2, b2⟩ | ⟨e2, rfl, rfl⟩
      · exact ((hsame k' o2 p2 a2 hlv b2).2).symm
      · exact absurd (e1.trans e2.symm) hne

theorem Rel.kill (h : Rel P w0 m A w) (k : Nat) : Rel P w0 m (A.set k .dead) w := by
  have back : ∀ {j : Nat} {o : AO}, (A.set k .dead)[j]? = some o → o = .dead ∨ (j ≠ k ∧ A[j]? = some o) := by
    intro j o hj
    rw [List.getElem?_set] at hj
    by_cases hjk : k = j
    · subst hjk
      rw [if_pos rfl] at hj
      split at hj
      · simp at hj; exact .inl hj.symm
      · cases hj
    · rw [if_neg hjk] at hj
      exact .inr ⟨fun e => hjk e.symm, hj⟩
  refine ⟨by simp [h.len], h.below, fun j o p hj hp => ?_, fun j j' o1 o2 p1 p2 hne h1 h2 hm hl hp1 hp2 => ?_⟩
  · rcases back hj with rfl | ⟨_, hj⟩
    · trivial
    · exact h.obj j o p hj hp
  · rcases back h1 with rfl | ⟨_, a1⟩
    · simp [AO.mut] at hm
    · rcases back h2 with rfl | ⟨_, a2⟩
      · simp [AO.live] at hl
      · exact h.inj j j' o1 o2 p1 p2 hne a1 a2 hm hl hp1 hp2

/-! ### What is appended -/
def abytes (s : List UInt8) : List AV := s.map fun b => .int .u8 b.toNat
def anews (A : List AO) (n : Nat) (x : AV) : Option (Nat × List AV) :=
  match x with
  | .slc none l _ _ => if l = 0 then some (0, []) else none
  | .slc (some (k, o)) l _ _ => if l = 0 then some (0, []) else match arow A k with
    | some (cs, _, _) => if o + l * n ≤ cs.length then some (l, (cs.drop o).take (l * n)) else none
    | none => none
  | .str s => if n = 1 then some (s.length, abytes s) else none
  | _ => none

theorem abytes_rel (s : List UInt8) : VsRel m (abytes s) (s.toArray.map fun b => Value.int .u8 b.toNat) := by
  refine ⟨by simp [abytes], fun i x u hx hu => ?_⟩
  simp only [abytes, List.getElem?_map] at hx
  simp at hu
  cases hs : s[i]? with
  | none => simp [hs] at hx
  | some b => simp [hs] at hx hu; subst hx hu; exact .int _ _

theorem anews_rel (h : Rel P w0 m A w) {n : Nat} {x : AV} {u : Value} (hx : VRel m x u) {cnt : Nat} {news : List AV} (hn : anews A n x = some (cnt, news)) :
    (∀ w1, (Builtin.lenOf u).run P w1 = .ok cnt w1) ∧ news.length = cnt * n ∧ ∃ us, VsRel m news us ∧ ∀ w1, Below w.heap.size w w1 → (Builtin.firstCells n cnt u).run P w1 = .ok us w1 := by
  unfold anews at hn
  split at hn
  · split at hn
    · rename_i h0
      simp at hn; obtain ⟨rfl, rfl⟩ := hn
      subst h0
      cases hx
      exact ⟨fun w1 => by simp [Builtin.lenOf], by simp, #[], VsRel.nil m, fun w1 _ => by simp [Builtin.firstCells]⟩
    · cases hn
  · split at hn
    · rename_i h0
      simp at hn; obtain ⟨rfl, rfl⟩ := hn
      subst h0
      cases hx with
      | slc => exact ⟨fun w1 => by simp [Builtin.lenOf], by simp, #[], VsRel.nil m, fun w1 _ => by simp [Builtin.firstCells, loadCells, loadCellsFrom]⟩
      | slcEmpty _ _ _ ad => exact ⟨fun w1 => by simp [Builtin.lenOf], by simp, #[], VsRel.nil m, fun w1 _ => by cases ad <;> simp [Builtin.firstCells, loadCells, loadCellsFrom]⟩
    · rename_i h0
      split at hn
      · rename_i cs e wr hrow
        split at hn
        · rename_i hle
          simp at hn; obtain ⟨rfl, rfl⟩ := hn
          cases hx with
          | slcEmpty => exact absurd rfl h0
          | slc _ _ _ hp =>
            rename_i p
            obtain ⟨us, hl, hrel, hc⟩ := row_cells h (arow_some hrow) hp _ _ hle
            refine ⟨fun w1 => by simp [Builtin.lenOf], by simp; omega, us.toArray, hrel, fun w1 hb => ?_⟩
            have hc' : ∀ j u, us[j]? = some u → w1.cell? ⟨p.b, p.o + _ + 0 + j, none⟩ = some u := fun j u hj => by
              have := hc j u hj
              have hlt := World.block_lt_of_cell? w _ this
              rw [Nat.add_zero, hb.cell hlt]; exact this
            have := run_cells_list (P := P) (w := w1) p.b (p.o + _) us 0 #[] hc'
            simp only [Builtin.firstCells, loadCells, ← hl]
            rw [this]; simp
        · cases hn
      · cases hn
  · rename_i s
    split at hn
    · rename_i h1
      simp at hn; obtain ⟨rfl, rfl⟩ := hn
      subst h1
      cases hx
      have hsz : (⟨s.toArray⟩ : ByteArray).size = s.length := by simp [ByteArray.size]
      refine ⟨fun w1 => by simp [Builtin.lenOf, hsz], by simp [abytes], _, abytes_rel s, fun w1 _ => ?_⟩
      have e : ((⟨s.toArray⟩ : ByteArray).extract 0 s.length).data = s.toArray := by
        rw [ByteArray.data_extract]; simp [List.extract_eq_take_drop]
      simp only [Builtin.firstCells, Sem.run_pure, e]
    · cases hn
  · cases hn

def notInt (P : Program) (t : TypeId) : Bool :=
  match P.underlying t with
  | some (.slice _) | some .string => true
  | _ => false

section
variable {ty xt rt e : TypeId} {i : TypeInfo} {u : Value} {cnt : Nat} {us : Array Value}

theorem append_room (hu : P.underlying ty = some (.slice e)) (hn : notInt P xt = true) (hi : P.info? e = some i) {base : Option Addr} {l c : Nat} (hl : (Builtin.lenOf u).run P w = .ok cnt w)
    (hf : (Builtin.firstCells i.size cnt u).run P w = .ok us w) (hc : l + cnt ≤ c) : (Builtin.append_ #[ty, xt] rt #[.slice base l c, u]).run P w =
      match base with
      | some ad => ((storeCells (ad.add (l * i.size)) us.toList).run P w).andThen fun _ w' => .ok (.slice base (l + cnt) c) w'
      | none => .ok (.slice base (l + cnt) c) w := by
  unfold notInt at hn
  split at hn <;> rename_i hd
  · cases base <;> simp [Builtin.append_, run_underlying hu, run_underlying hd, sizeOf, typeInfo, hi, hl, hc, hf]
  · cases base <;> simp [Builtin.append_, run_underlying hu, run_underlying hd, sizeOf, typeInfo, hi, hl, hc, hf]
  · cases hn

theorem append_grow (hu : P.underlying ty = some (.slice e)) (hn : notInt P xt = true) (hi : P.info? e = some i) {z : Value} (hz : i.zero = some z) {base : Option Addr} {l c : Nat} (hl : (Builtin.lenOf u).run P w = .ok cnt w)
    (hf : (Builtin.firstCells i.size cnt u).run P w.drew = .ok us w.drew) {olds : Array Value} (ho : (Builtin.firstCells i.size l (.slice base l c)).run P w.drew = .ok olds w.drew)
    (hc : ¬ l + cnt ≤ c) (hb : (l + cnt) * i.bytes ≤ 140737488355328) (h63 : l + cnt ≤ 9223372036854775807) : (Builtin.append_ #[ty, xt] rt #[.slice base l c, u]).run P w =
      .ok (.slice (some ⟨w.heap.size, 0, none⟩) (l + cnt) (grownCap w (l + cnt) c e)) (w.drew.alloc (.cells (olds ++ us ++ Builtin.zeroCells z.cells (grownCap w (l + cnt) c e - (l + cnt))) e)) := by
  have hfit : ¬ Builtin.nextslicecap (l + cnt) c * i.bytes > 2 ^ 48 := by
    have := growslice_fits (need := l + cnt) (old := c) (bytes := i.bytes) (by omega) hb
    omega
  have h63' : ¬ (((l + cnt : Nat) : Int) > IntKind.i64.max) := by
    show ¬ (((l + cnt : Nat) : Int) > 9223372036854775807)
    omega
  have hfo : Question.forced (.appendCap (l + cnt) c e) = false := rfl
  have h63'' : ¬ ((9223372036854775807 : Int) < (l : Int) + (cnt : Int)) := by omega
  have hfit' : ¬ (281474976710656 < Builtin.nextslicecap (l + cnt) c * i.bytes) := by omega
  unfold notInt at hn
  split at hn <;> rename_i hd
  · simp only [Builtin.append_, Sem.run_bind, run_underlying hu, run_underlying hd, Result.andThen_ok, sizeOf, typeInfo, run_program, hi, Sem.run_pure, List.getElem?_toArray, List.getElem?_cons_zero, List.getElem?_cons_succ]
    simp [hl, hc, h63'', hfit', hfo, ho, hf, zeroValue, typeInfo, hi, hz, newRow, grownCap]
  · simp only [Builtin.append_, Sem.run_bind, run_underlying hu, run_underlying hd, Result.andThen_ok, sizeOf, typeInfo, run_program, hi, Sem.run_pure, List.getElem?_toArray, List.getElem?_cons_zero, List.getElem?_cons_succ]
    simp [hl, hc, h63'', hfit', hfo, ho, hf, zeroValue, typeInfo, hi, hz, newRow, grownCap]
  · cases hn
end

def aappend (P : Program) (A : List AO) (ty xt : TypeId) (s x : AV) : Option (AV × List AO) :=
  match P.underlying ty, notInt P xt with
  | some (.slice e), true => match P.info? e, azero P e with
    | some i, some z => if (acells z).length ≠ i.size ∨ i.size = 0 then none else match anews A i.size x with
      | some (cnt, news) => if news.all aone then match s with
        | .slc none l c ex => if l ≠ 0 ∨ c ≠ 0 then none else if cnt = 0 then some (.slc none 0 0 ex, A) else
            if cnt * i.bytes ≤ 140737488355328 ∧ cnt ≤ 9223372036854775807 then some (.slc (some (A.length, 0)) cnt cnt false, A ++ [.row news e true]) else none
        | .slc (some (k, o)) l c ex =>
          if cnt = 0 then (if l ≤ c then some (.slc (some (k, o)) l c ex, A) else none) else
          match arow A k with
          | some (cs, e', wr) =>
            if l + cnt ≤ c then
              (if wr = true ∧ o + l * i.size + news.length ≤ cs.length then some (.slc (some (k, o)) (l + cnt) c ex, A.set k (.row (asplice cs (o + l * i.size) news) e' true)) else none)
            else if (l + cnt) * i.bytes ≤ 140737488355328 ∧ l + cnt ≤ 9223372036854775807 ∧ o + l * i.size ≤ cs.length ∧ l ≤ c then
              (if ex then some (.slc (some (A.length, 0)) (l + cnt) (l + cnt) false, A ++ [.row ((cs.drop o).take (l * i.size) ++ news) e true])
               else if wr = true ∧ o + c * i.size = cs.length ∧ e' = e ∧ o % i.size = 0 then some (.slc (some (A.length, 0)) (l + cnt) (l + cnt) false, A.set k .dead ++ [.row ((cs.drop o).take (l * i.size) ++ news) e true])
               else none)
            else none
          | none => none
        | _ => none
        else none
      | none => none
    | _, _ => none
  | _, _ => none

theorem newLast' (h : Rel P w0 m A w) (k : Nat) (p : Pl) : (m ++ [some p])[(A.set k .dead).length]? = some (some p) := by
  simp [← h.len]

theorem aappend_rel (h : Rel P w0 m A w) {ty xt rt : TypeId} {s x v : AV} {us ux : Value} (hs : VRel m s us) (hx : VRel m x ux) {A' : List AO} (ha : aappend P A ty xt s x = some (v, A')) :
    Gives P w0 m A w (Builtin.append_ #[ty, xt] rt #[us, ux]) v A' := by
  unfold aappend at ha
  split at ha
  case h_2 => cases ha
  rename_i e hu hnot
  split at ha
  case h_2 => cases ha
  rename_i i z hi hz
  split at ha
  · cases ha
  rename_i hsz
  have hsz1 : (acells z).length = i.size := by omega
  have hsz2 : 0 < i.size := by omega
  split at ha
  case h_2 => cases ha
  rename_i cnt news hnews
  obtain ⟨hlen, hnl, ns, hnr, hfc⟩ := anews_rel h hx hnews
  split at ha
  case isFalse => cases ha
  rename_i hone
  obtain ⟨zv, hzv, hzc⟩ : ∃ zv, i.zero = some zv ∧ zv.cells.size = i.size := by
    unfold azero at hz
    rw [hi] at hz
    simp only at hz
    split at hz
    · rename_i u hu0
      exact ⟨u, hu0, by rw [← (acells_rel (ofVal_rel m hz) (ofVal_na hz)).1]; exact hsz1⟩
    · cases hz
  have hdrew : Below w.heap.size w w.drew := (Below.refl _ _).drew
  split at ha
  · rename_i l c ex
    split at ha
    · cases ha
    rename_i hlc
    have hl0 : l = 0 := by omega
    have hc0 : c = 0 := by omega
    subst hl0 hc0
    cases hs
    split at ha
    · rename_i h0
      simp at ha; obtain ⟨rfl, rfl⟩ := ha
      refine Gives.here h ?_ (.slcNil 0 0 ex)
      rw [append_room hu hnot hi (hlen w) (hfc w (Below.refl _ _)) (by omega), h0]
    · rename_i h0
      split at ha
      · rename_i hb
        simp at ha; obtain ⟨rfl, rfl⟩ := ha
        have hr := append_grow (P := P) (w := w) (rt := rt) (base := none) (l := 0) (c := 0) (olds := #[]) hu hnot hi hzv (hlen w) (hfc _ hdrew) (by simp [Builtin.firstCells]) (by omega) (by simpa using hb.1) (by omega)
        simp only [Nat.zero_add] at hr
        have hge := grownCap_ge w cnt 0 e
        have hcm : grownCap w cnt 0 e ≤ maxLen := grownCap_le_maxLen w cnt 0 e (by simp only [maxLen]; omega)
        refine ⟨_, _, m ++ [some ⟨w.heap.size, 0, grownCap w cnt 0 e - cnt⟩], hr, Ext.append _ _, ?_, ?_, Kept.below (hdrew.alloc (Nat.le_refl _) _)⟩
        · refine h.push P w0 (hdrew.alloc (Nat.le_refl _) _) _ _ (Nat.le_refl _) ⟨_, (0, 0), new_block w.drew _, fun j y hj => ?_, fun _ => ⟨h.below.size, fun j _ => by simp, i, hi, ?_, ?_⟩⟩
          · obtain ⟨q, hq, hqr⟩ := hnr.get hj
            refine ⟨q, ?_, hqr.ext (Ext.append _ _)⟩
            have hlt : j < ns.size := (Array.getElem?_eq_some_iff.1 hq).1
            simp only [Nat.zero_add, Array.empty_append]
            rw [Array.getElem?_append_left hlt]; exact hq
          · simp [size_zeroCells, hzc, hnl, ← hnr.1]
          · rw [hnl, ← Nat.add_mul]; exact ⟨Nat.mul_le_mul_right _ (by simp only; omega), by simp⟩
        · have := VRel.slc (o := 0) cnt cnt false (h.newLast ⟨w.heap.size, 0, grownCap w cnt 0 e - cnt⟩)
          simp only [Bool.false_eq_true, if_false, Nat.add_zero] at this
          rwa [show cnt + (grownCap w cnt 0 e - cnt) = grownCap w cnt 0 e by omega] at this
      · cases ha
  · rename_i k o l c ex
    split at ha
    · rename_i h0
      subst h0
      split at ha
      · rename_i hlc
        simp at ha; obtain ⟨rfl, rfl⟩ := ha
        have hns : ns.toList = [] := by
          have : ns.size = 0 := by rw [← hnr.1, hnl]; simp
          simpa using this
        cases hs with
        | slcEmpty _ _ _ ad =>
          refine Gives.here h ?_ (.slcEmpty k o ex ad)
          rw [append_room hu hnot hi (hlen w) (hfc w (Below.refl _ _)) (by omega)]
          cases ad <;> simp [hns, storeCells]
        | slc _ _ _ hp =>
          rename_i p
          refine Gives.here h ?_ (.slc l c ex hp)
          rw [append_room hu hnot hi (hlen w) (hfc w (Below.refl _ _)) (by cases ex <;> simp <;> omega)]
          simp [hns, storeCells]
      · cases ha
    · rename_i h0
      split at ha
      case h_2 => cases ha
      rename_i cs e' wr hrow
      have hk := arow_some hrow
      split at ha
      · rename_i hroom
        split at ha
        · rename_i hc
          obtain ⟨rfl, hc2⟩ := hc
          simp at ha; obtain ⟨rfl, rfl⟩ := ha
          cases hs with
          | slcEmpty => omega
          | slc _ _ _ hp =>
            rename_i p
            obtain ⟨w', hr, hrel, hkp⟩ := store_row (P := P) h hk hp (o + l * i.size) (us := ns.toList) (by simpa using hnr) hone hc2
            refine ⟨_, w', m, ?_, Ext.refl _, hrel, .slc (l + cnt) c ex hp, hkp⟩
            rw [append_room hu hnot hi (hlen w) (hfc w (Below.refl _ _)) (by cases ex <;> simp <;> omega)]
            simp only [add_at, Nat.add_assoc]
            rw [show p.o + (o + l * i.size) = p.o + (o + l * i.size) from rfl] at hr
            rw [hr]; rfl
        · cases ha
      · rename_i hroom
        split at ha
        case isFalse => cases ha
        rename_i hc
        obtain ⟨hc1, hc2, hc3, hc4⟩ := hc
        -- what stands in the slice
        have olds : ∃ os : Array Value, VsRel m ((cs.drop o).take (l * i.size)) os ∧ os.size = l * i.size ∧ ∀ w1, Below w.heap.size w w1 → (Builtin.firstCells i.size l us).run P w1 = .ok os w1 := by
          cases hs with
          | slcEmpty _ _ _ ad => exact ⟨#[], by simpa using VsRel.nil m, by simp, fun w1 _ => by cases ad <;> simp [Builtin.firstCells, loadCells, loadCellsFrom]⟩
          | slc _ _ _ hp =>
            rename_i p
            obtain ⟨vs, hl, hrel, hcell⟩ := row_cells h hk hp o (l * i.size) hc3
            refine ⟨vs.toArray, hrel, by simpa using hl, fun w1 hb => ?_⟩
            have hc' : ∀ j q, vs[j]? = some q → w1.cell? ⟨p.b, p.o + o + 0 + j, none⟩ = some q := fun j q hj => by
              have := hcell j q hj
              have hlt := World.block_lt_of_cell? w _ this
              rw [Nat.add_zero, hb.cell hlt]; exact this
            have := run_cells_list (P := P) (w := w1) p.b (p.o + o) vs 0 #[] hc'
            simp only [Builtin.firstCells, loadCells, ← hl]
            rw [this]; simp
        obtain ⟨os, hor, hos, hof⟩ := olds
        have hcells := hor.append hnr
        -- a new row
        have grow : ∀ (base : Option Addr) (C : Nat), us = .slice base l C → ¬ l + cnt ≤ C → ∀ (B : List AO), Rel P w0 m B w → B.length = A.length →
            Gives P w0 m A w (Builtin.append_ #[ty, xt] rt #[us, ux]) (.slc (some (A.length, 0)) (l + cnt) (l + cnt) false) (B ++ [.row ((cs.drop o).take (l * i.size) ++ news) e true]) := by
          rintro base C rfl hC B hB hBl
          have hr := append_grow (P := P) (w := w) (rt := rt) (base := base) (l := l) (c := C) (olds := os) hu hnot hi hzv (hlen w) (hfc _ hdrew) (hof _ hdrew) hC hc1 hc2
          have hge := grownCap_ge w (l + cnt) C e
          have hcm : grownCap w (l + cnt) C e ≤ maxLen := grownCap_le_maxLen w (l + cnt) C e (by simp only [maxLen]; omega)
          refine ⟨_, _, m ++ [some ⟨w.heap.size, 0, grownCap w (l + cnt) C e - (l + cnt)⟩], hr, Ext.append _ _, ?_, ?_, Kept.below (hdrew.alloc (Nat.le_refl _) _)⟩
          · refine hB.push P w0 (hdrew.alloc (Nat.le_refl _) _) _ _ (Nat.le_refl _) ⟨_, (0, 0), new_block w.drew _, fun j y hj => ?_, fun _ => ⟨h.below.size, fun j _ => by simp, i, hi, ?_, ?_⟩⟩
            · obtain ⟨q, hq, hqr⟩ := hcells.get hj
              refine ⟨q, ?_, hqr.ext (Ext.append _ _)⟩
              have hlt : j < (os ++ ns).size := (Array.getElem?_eq_some_iff.1 hq).1
              simp only [Nat.zero_add]
              rw [Array.getElem?_append_left hlt]; exact hq
            · have hl1 := hcells.1
              simp only [Array.size_append, size_zeroCells, hzc] at hl1 ⊢
              rw [hl1]; simp
            · have hl1 := hcells.1
              simp only [Array.size_append] at hl1
              rw [hl1, hos, ← hnr.1, hnl, ← Nat.add_mul, ← Nat.add_mul]; exact ⟨Nat.mul_le_mul_right _ (by simp only; omega), by simp⟩
          · have := VRel.slc (o := 0) (l + cnt) (l + cnt) false (hB.newLast ⟨w.heap.size, 0, grownCap w (l + cnt) C e - (l + cnt)⟩)
            simp only [Bool.false_eq_true, if_false, Nat.add_zero] at this
            rw [hBl] at this
            rwa [show l + cnt + (grownCap w (l + cnt) C e - (l + cnt)) = grownCap w (l + cnt) C e by omega] at this
        split at ha
        · rename_i hex
          simp at ha; obtain ⟨rfl, rfl⟩ := ha
          cases hs with
          | slcEmpty _ _ _ ad => exact grow _ _ rfl (by omega) A h rfl
          | slc _ _ _ hp => exact grow _ _ rfl (by rw [hex]; simpa using hroom) A h rfl
        · rename_i hex
          split at ha
          case isFalse => cases ha
          rename_i hc5
          obtain ⟨rfl, hc6, rfl, ho0⟩ := hc5
          simp at ha; obtain ⟨rfl, rfl⟩ := ha
          have hkl : (A.set k .dead).length = A.length := by simp
          cases hs with
          | slcEmpty _ _ _ ad => exact grow _ _ rfl (by omega) _ (h.kill k) hkl
          | slc _ _ _ hp =>
            rename_i p
            have hexf : ex = false := by simpa using hex
            subst hexf
            by_cases hin : l + cnt ≤ c + p.x
            · -- in place
              obtain ⟨cc, fr, q1, q2, q3⟩ := h.obj k _ p hk hp
              obtain ⟨r1, r2, i', r3, r4, r5⟩ := q3 rfl
              rw [hi] at r3; simp at r3; subst r3
              have hnl' : ns.toList.length = news.length := by simpa using hnr.1.symm
              have hns1 : ∀ q ∈ ns.toList, q.oneCell' = true := fun q hq => by
                obtain ⟨j, hj⟩ := List.mem_iff_getElem?.1 hq
                have hlt : j < ns.toList.length := (List.getElem?_eq_some_iff.1 hj).1
                refine aone_rel (hnr.2 j (news[j]'(by omega)) q (by simp) (by simpa using hj)) ?_
                exact List.all_eq_true.1 hone _ (List.getElem_mem _)
              have hspace : p.o + o + l * i.size + ns.toList.length ≤ cc.size := by
                rw [hnl', hnl, r4, ← hc6]
                have : (l + cnt) * i.size ≤ (c + p.x) * i.size := Nat.mul_le_mul_right _ hin
                rw [Nat.add_mul, Nat.add_mul] at this
                omega
              obtain ⟨w', cc', hr, hb', hs', hc', hg⟩ := store_cells (P := P) p.b (p.o + o + l * i.size) e' fr ns.toList 0 cc w q1 (by simpa using hspace) r2 hns1
              refine ⟨.slice (some ⟨p.b, p.o + o, none⟩) (l + cnt) (c + p.x), w', m ++ [some ⟨p.b, p.o + o, c + p.x - (l + cnt)⟩], ?_, Ext.append _ _, ?_, ?_, Kept.grown hg (fun c => by rw [q1]; simp)⟩
              · simp only [Bool.false_eq_true, if_false]
                rw [append_room hu hnot hi (hlen w) (hfc w (Below.refl _ _)) hin]
                simp only [add_at, hr, Result.andThen_ok]
              · have hKl : ∀ (j : Nat) (o1 : AO) (p1 : Pl), (A.set k .dead)[j]? = some o1 → o1.live = true → m[j]? = some (some p1) → p1.b ≠ p.b := by
                  intro j o1 p1 hj hl1 hp1
                  rw [List.getElem?_set] at hj
                  by_cases hjk : k = j
                  · subst hjk
                    rw [if_pos rfl] at hj
                    split at hj
                    · simp at hj; subst hj; simp [AO.live] at hl1
                    · cases hj
                  · rw [if_neg hjk] at hj
                    exact (h.inj k j _ o1 p p1 hjk hk hj rfl hl1 hp hp1).symm
                refine (h.kill k).place (h.below.grown hg h.below.size (fun q hq => by simp at hq; omega)) (fun j o1 p1 hj hl1 hp1 => ⟨?_, hKl j o1 p1 hj hl1 hp1⟩) ⟨cc', fr, hb', fun j y hj => ?_, fun _ => ⟨r1, by rw [hs']; exact r2, i, hi, ?_, ?_⟩⟩
                · refine hg.block _ (((h.kill k).obj j o1 p1 hj hp1).lt P w0 hl1) ?_
                  intro e1; exact hKl j o1 p1 hj hl1 hp1 (by simpa using e1)
                · have hol : ((cs.drop o).take (l * i.size)).length = l * i.size := by simp; omega
                  rw [hc']
                  by_cases hj1 : j < l * i.size
                  · rw [List.getElem?_append_left (by omega), List.getElem?_take, if_pos hj1, List.getElem?_drop] at hj
                    obtain ⟨q, hq, hqr⟩ := q2 _ y hj
                    refine ⟨q, ?_, hqr.ext (Ext.append _ _)⟩
                    rw [if_neg (by simp only; omega)]
                    simpa [Nat.add_assoc] using hq
                  · rw [List.getElem?_append_right (by omega), hol] at hj
                    obtain ⟨q, hq, hqr⟩ := hnr.get hj
                    have hlt : j - l * i.size < ns.size := (Array.getElem?_eq_some_iff.1 hq).1
                    refine ⟨q, ?_, hqr.ext (Ext.append _ _)⟩
                    rw [if_pos (by simp only [Array.length_toList]; omega)]
                    rw [show p.o + o + j - (p.o + o + l * i.size + 0) = j - l * i.size by omega]
                    simpa using hq
                · have hl1 := hcells.1
                  simp only [Array.size_append] at hl1
                  rw [hs', r4, hl1, hos, ← hnr.1, hnl, ← hc6]
                  have : (c + p.x) * i.size = (l + cnt) * i.size + (c + p.x - (l + cnt)) * i.size := by rw [← Nat.add_mul]; congr 1; omega
                  simp only [Nat.add_mul] at this ⊢
                  omega
                · have hl1 := hcells.1
                  simp only [Array.size_append] at hl1
                  rw [hl1, hos, ← hnr.1, hnl, ← Nat.add_mul, ← Nat.add_mul]
                  have h2 : (c + p.x) * i.size ≤ maxLen * i.size := by rw [Nat.add_mul]; omega
                  simp only
                  rw [show l + cnt + (c + p.x - (l + cnt)) = c + p.x by omega]; exact ⟨h2, by rw [Nat.add_mod, r5.2, ho0]; simp⟩
              · have := VRel.slc (o := 0) (l + cnt) (l + cnt) false (newLast' h k ⟨p.b, p.o + o, c + p.x - (l + cnt)⟩)
                simp only [Bool.false_eq_true, if_false, Nat.add_zero, hkl] at this
                rwa [show l + cnt + (c + p.x - (l + cnt)) = c + p.x by omega] at this
            · exact grow _ _ rfl hin _ (h.kill k) hkl
  · cases ha
end
end Go.Am
