/- A part of the proof: H42c. -/
import Derived.Test.YthbdelhaedbgcaaH42b
set_option linter.unusedVariables false
set_option maxRecDepth 100000
namespace Go.Proofs.Ythbdelhaedbgcaa
open Go Go.Am

theorem XH_ok : ExtOk Try.prog XH := fun f g h => by cases h
theorem noRH (w0 : World) : ResOk Try.prog w0 (fun _ => none) := fun g h hg => by cases hg
theorem mixedH : Try.prog.follows .mixedOrders = true := by kernel_rfl
theorem wrapI {x : Int} (h1 : -9223372036854775808 ≤ x) (h2 : x ≤ 9223372036854775807) : IntKind.i64.wrap x = x := wrap64_of (by omega)

/-! ### ids -/
theorem holdRow_get (h : Nat → Int) {n j : Nat} (hj : j < n * 32) : (holdRow h n)[j]? = some (.int .u8 (h j)) := by simp [holdRow, hj]
theorem holdRow_length (h : Nat → Int) (n : Nat) : (holdRow h n).length = n * 32 := by simp [holdRow]
theorem cellsI_length (h : Nat → Int) (i : Nat) : (cellsI h i).length = 32 := by simp [cellsI]
theorem holdRow_part (h : Nat → Int) {n i : Nat} (hi : i < n) : ((holdRow h n).drop (i * 32)).take 32 = cellsI h i := by
  apply List.ext_getElem?
  intro j
  rw [List.getElem?_take, List.getElem?_drop]
  by_cases hj : j < 32
  · rw [if_pos hj, holdRow_get h (by omega)]
    simp [cellsI, hj]
  · rw [if_neg hj, List.getElem?_eq_none (by rw [cellsI_length]; omega)]
theorem holdRow_succ (h : Nat → Int) (i : Nat) : holdRow h i ++ cellsI h i = holdRow h (i + 1) := by
  apply List.ext_getElem?
  intro j
  by_cases hj : j < i * 32
  · rw [List.getElem?_append_left (by rw [holdRow_length]; exact hj), holdRow_get h hj, holdRow_get h (by omega)]
  · rw [List.getElem?_append_right (by rw [holdRow_length]; omega), holdRow_length]
    by_cases hj2 : j < (i + 1) * 32
    · rw [holdRow_get h hj2]
      have : j - i * 32 < 32 := by omega
      simp only [cellsI, List.getElem?_map, List.getElem?_range this, Option.map_some]
      congr 3; omega
    · rw [List.getElem?_eq_none (by rw [cellsI_length]; omega), List.getElem?_eq_none (by rw [holdRow_length]; omega)]
theorem holdRow_take (h : Nat → Int) {n i : Nat} (hi : i ≤ n) : (holdRow h n).take (i * 32) = holdRow h i := by
  apply List.ext_getElem?
  intro j
  rw [List.getElem?_take]
  by_cases hj : j < i * 32
  · rw [if_pos hj, holdRow_get h (by omega), holdRow_get h hj]
  · rw [if_neg hj, List.getElem?_eq_none (by rw [holdRow_length]; omega)]
theorem one_int {k : IntKind} {g : Nat → Int} (l : List Nat) : (l.map fun j => AV.int k (g j)).all aone = true := by simp [aone]
theorem agg23 : aisAgg Try.prog 23 = some true := by kernel_rfl
theorem size23 : asize Try.prog 23 = some 32 := by kernel_rfl
theorem info39 : ∃ i, Try.prog.info? 39 = some i ∧ i.size = 32 ∧ i.bytes = 32 := by
  have h2 : (Try.prog.info? 39).map (fun i => (i.size, i.bytes)) = some (32, 32) := by kernel_rfl
  obtain ⟨i, hi, he⟩ := Option.map_eq_some_iff.1 h2
  simp only [Prod.mk.injEq] at he
  exact ⟨i, hi, he.1, he.2⟩
theorem zero39 : ∃ z, azero Try.prog 39 = some z ∧ (acells z).length = 32 := by
  have h2 : (azero Try.prog 39).map (fun z => (acells z).length) = some 32 := by kernel_rfl
  obtain ⟨z, hz, he⟩ := Option.map_eq_some_iff.1 h2
  exact ⟨z, hz, he⟩
theorem under40 : Try.prog.underlying 40 = some (.slice 39) := by kernel_rfl
theorem notInt40 : notInt Try.prog 40 = true := by kernel_rfl
theorem load_hold {A : List AO} {h : Nat → Int} {n e i : Nat} (hA : A[0]? = some (.row (holdRow h n) e false)) (hi : i < n) : aload Try.prog A 23 (.ptr (some (0, 0 + i * 32))) = some (.agg (cellsI h i)) := by
  refine aload_agg hA agg23 size23 ?_ ?_
  · rw [holdRow_length]; omega
  · rw [Nat.zero_add]; exact holdRow_part h hi
/-- How a round of ids ends. -/
def KI (h : Nat → Int) (len cap n e i : Nat) : AK := fun e' t A => match e' with
  | .normal => ∃ s : Nat, s ≤ len ∧ len - s < len - i ∧ t = lay 19 (psI len cap (outI s) s) ∧ A = AI h n e s
  | e' => (∃ x : Unit, (fun _ => len = 0) x ∧ e' = .exit 0 ∧ t = lay 19 (psI len cap (.slc none 0 0 true) 0) ∧ A = [.row (holdRow h n) e false]) ∨
    (∃ x : Unit, (fun _ => 0 < len) x ∧ e' = .exit 0 ∧ t = lay 19 (psI len cap (.slc (some (1, 0)) len len false) len) ∧ A = [.row (holdRow h n) e false, .row (holdRow h len) 39 true]) ∨ False
theorem low_hold (f : Nat → Nat) (h : Nat → Int) (n : Nat) : renL f (holdRow h n) = holdRow h n := by
  rw [renL_eq, holdRow, List.map_map]; rfl
theorem low_holdRow (k : Nat) (h : Nat → Int) (n : Nat) : lowL k (holdRow h n) = true := by
  unfold holdRow
  generalize List.range (n * 32) = l
  induction l with
  | nil => rfl
  | cons a r ih => simp only [List.map_cons, lowL, low, ih, Bool.and_self]
theorem low_cells (f : Nat → Nat) (h : Nat → Int) (n : Nat) : renL f (cellsI h n) = cellsI h n := by
  rw [renL_eq, cellsI, List.map_map]; rfl
theorem ids_round {w0 : World} {h : Nat → Int} {len cap n e : Nat} (hn : len ≤ n) (hb : len * 32 ≤ 140737488355328) (i : Nat) (hi : i ≤ len) : SCodeB Try.prog w0 1 false loop29 (lay 19 (psI len cap (outI i) i)) (AI h n e i) (KI h len cap n e i) := by
  cases i with
  | zero =>
    refine vroundG XH_ok (noRH w0) mixedH (K' := fun e' ps A => ∃ ps3 A3 f, Pick 1 A A3 f ∧ lay 19 ps = renL f (lay 19 ps3) ∧ KI h len cap n e 0 e' (lay 19 ps3) A3) (Eq.mpr (nf_ids0 w0 h len cap n e _) ?_) fun e' ps' A2 hq => hq
    simp only [decide_eq_true_eq, decide_eq_false_iff_not]
    refine ⟨fun h1 => ⟨⟨by omega, h1⟩, load_hold (i := 0) rfl (by omega), ?_⟩, fun h1 => ?_⟩
    · refine ⟨psI len cap (.slc (some (1, 0)) 1 1 false) 1, [.row (holdRow h n) e false, .row (holdRow h 1) 39 true], pickF [0, 2] 3, ?_, rfl, ?_⟩
      · have hc : cellsI h 0 = holdRow h 1 := by rw [← holdRow_succ]; rfl
        rw [hc]
        exact pick_map rfl (by simp) (by decide) (by simp only [List.map, renO, low_hold]; rfl)
      · exact ⟨1, by omega, by omega, by simp [outI], by simp [AI]⟩
    · refine ⟨psI len cap (.slc none 0 0 true) 0, [.row (holdRow h n) e false], pickF [0] 1, ?_, rfl, .inl ⟨(), by omega, rfl, rfl, rfl⟩⟩
      exact pick_map rfl (by simp) (by decide) (by simp only [List.map, renO, low_hold]; rfl)
  | succ i =>
    have e1 : outI (i + 1) = .slc (some (1, 0)) (i + 1) (i + 1) false := by simp [outI]
    have e2 : AI h n e (i + 1) = [.row (holdRow h n) e false, .row (holdRow h (i + 1)) 39 true] := by simp [AI]
    rw [e1, e2]
    refine vroundG XH_ok (noRH w0) mixedH (K' := fun e' ps A => ∃ ps3 A3 f, Pick 1 A A3 f ∧ lay 19 ps = renL f (lay 19 ps3) ∧ KI h len cap n e (i + 1) e' (lay 19 ps3) A3) (Eq.mpr (nf_ids1 w0 h len cap n e (i + 1) _) ?_) fun e' ps' A2 hq => hq
    simp only [decide_eq_true_eq, decide_eq_false_iff_not]
    refine ⟨fun h1 => ⟨⟨by omega, h1⟩, ?_, ?_, ?_⟩, fun h1 => ?_⟩
    · exact load_hold (i := i + 1) rfl (by omega)
    · obtain ⟨ti, i1, i2, i3⟩ := info39
      obtain ⟨z, z1, z2⟩ := zero39
      have := aappend_grow (P := Try.prog) (A := [.row (holdRow h n) e false, .row (holdRow h (i + 1)) 39 true, .row (cellsI h (i + 1)) 39 true]) (xt := 40) (k := 1) (l := i + 1) (cnt := 1) (x := .slc (some (2, 0)) 1 1 true) under40 notInt40 i1 z1 (by rw [z2, i2]) (by rw [i2]; decide)
        (news := cellsI h (i + 1)) (by rw [i2]; simp only [anews]; rw [if_neg (by decide)]; simp only [arow]; show (if 0 + 1 * 32 ≤ (cellsI h (i + 1)).length then _ else _) = _; rw [if_pos (by rw [cellsI_length]; decide)]; simp only [List.drop_zero]; rw [List.take_of_length_le (by rw [cellsI_length]; decide)]) (one_int _) (by decide) (cs := holdRow h (i + 1)) rfl (by rw [i2, holdRow_length]) (by rw [i3]; omega) (by omega)
      rw [holdRow_succ] at this
      exact this
    · have hw : IntKind.i64.wrap ((↑(i + 1) : Int) + 1) = (↑(i + 2) : Int) := by rw [wrapI (by omega) (by omega)]; omega
      refine ⟨psI len cap (.slc (some (1, 0)) (i + 2) (i + 2) false) (i + 2), [.row (holdRow h n) e false, .row (holdRow h (i + 2)) 39 true], pickF [0, 3] 4, ?_, ?_, ?_⟩
      · exact pick_map rfl (by simp) (by decide) (by simp only [List.map, renO, low_hold]; rfl)
      · rw [hw]; rfl
      · exact ⟨i + 2, by omega, by omega, by simp [outI], by simp [AI]⟩
    · have hle : i + 1 = len := by omega
      refine ⟨psI len cap (.slc (some (1, 0)) (i + 1) (i + 1) false) (i + 1), [.row (holdRow h n) e false, .row (holdRow h (i + 1)) 39 true], pickF [0, 1] 2, ?_, rfl, .inr (.inl ⟨(), by omega, rfl, ?_, ?_⟩)⟩
      · exact pick_map rfl (by simp) (by decide) (by simp only [List.map, renO, low_hold]; rfl)
      · rw [hle]
      · rw [hle]
/-! ### small -/
theorem agg9 : aisAgg Try.prog 9 = some false := by kernel_rfl
def KS (f : Nat → Int) (date arr byt ctl : Int) (gl gc hl hc : Nat) (wd : Bool) (cs0 cs1 : List AV) (e0 e1 : Nat) (i : Int) : AK := fun e' t A => match e' with
  | .normal => ∃ s : Int, (0 ≤ s ∧ s ≤ gl) ∧ (gl - s.toNat) < (gl - i.toNat) ∧ t = lay 71 (ps9 s) ∧ A = A9 cs0 cs1 e0 e1 (recA f date arr byt ctl gl gc hl hc wd)
  | e' => (∃ x : Int, (fun _ => True) x ∧ e' = .exit 4 ∧ t = lay 71 (ps9 x) ∧ A = A9 cs0 cs1 e0 e1 (recA f date arr byt ctl gl gc hl hc wd)) ∨
    (∃ x : Int, (fun _ => True) x ∧ e' = .ret ∧ t = lay 71 (ps9 x) ∧ A = A9 cs0 cs1 e0 e1 (recA f date arr byt ctl gl gc hl hc wd)) ∨ False
def Strs (cs : List AV) (n : Nat) : Prop := ∀ k, k < n → ∃ s, cs[k]? = some (.str s)
theorem small_round {w0 : World} {f : Nat → Int} {date arr byt ctl : Int} {gl gc hl hc : Nat} {wd : Bool} {cs0 cs1 : List AV} {e0 e1 : Nat} (hg : (gl : Int) ≤ 9223372036854775807) (hs : Strs cs0 gl) (i : Int) (hi : 0 ≤ i ∧ i ≤ gl) :
    SCodeB Try.prog w0 4 false loop9 (lay 71 (ps9 i)) (A9 cs0 cs1 e0 e1 (recA f date arr byt ctl gl gc hl hc wd)) (KS f date arr byt ctl gl gc hl hc wd cs0 cs1 e0 e1 i) := by
  obtain ⟨s, hcell⟩ : ∃ s, i < gl → cs0[i.toNat]? = some (.str s) := by
    by_cases h : i < gl
    · obtain ⟨s, h1⟩ := hs i.toNat (by omega)
      exact ⟨s, fun _ => h1⟩
    · exact ⟨[], fun h' => absurd h' h⟩
  refine vroundE XH_ok (noRH w0) mixedH (Eq.mpr (nf_smallR w0 f date arr byt ctl i gl gc hl hc wd cs0 cs1 e0 e1 s (fun e' ps A => KS f date arr byt ctl gl gc hl hc wd cs0 cs1 e0 e1 i e' (lay 71 ps) A)) ?_)
  simp only [decide_eq_true_eq, decide_eq_false_iff_not]
  refine ⟨fun h1 => ⟨⟨hi.1, h1⟩, aload_cell rfl agg9 (by rw [Nat.zero_add, Nat.mul_one]; exact hcell h1), fun _ => .inr (.inl ⟨i, trivial, rfl, rfl, rfl⟩), fun _ => ?_⟩, fun _ => .inl ⟨i, trivial, rfl, rfl, rfl⟩⟩
  exact ⟨i + 1, by omega, by omega, by rw [wrapI (by omega) (by omega)]; rfl, rfl⟩
theorem small_call {w0 : World} {f : Nat → Int} {date arr byt ctl : Int} {gl gc hl hc : Nat} {wd : Bool} {cs0 cs1 : List AV} {e0 e1 : Nat} (hg : (gl : Int) ≤ 9223372036854775807) (hs : Strs cs0 gl) :
    SCall Try.prog w0 9 [.slc none 0 0 true, .slc (some (3, 0)) 1 1 true] (A9 cs0 cs1 e0 e1 (recA f date arr byt ctl gl gc hl hc wd)) fun v A => ((v = .bool true ∧ hl ≤ 5) ∨ v = .bool false) ∧ A = A9 cs0 cs1 e0 e1 (recA f date arr byt ctl gl gc hl hc wd) := by
  refine vcall_ok XH_ok (noRH w0) mixedH (Eq.mpr (nf_small w0 f date arr byt ctl gl gc hl hc wd cs0 cs1 e0 e1 _) ?_)
  refine ⟨fun _ => ⟨.inr rfl, rfl⟩, fun _ => ⟨fun _ => ⟨.inr rfl, rfl⟩, fun h5 => ⟨?_, fun _ _ => ⟨.inl ⟨rfl, by have := of_decide_eq_false h5; omega⟩, rfl⟩, fun _ _ => ⟨.inr rfl, rfl⟩, trivial⟩⟩⟩
  exact rounds_inv (fun i : Int => 0 ≤ i ∧ i ≤ gl) (fun i => gl - i.toNat) (fun i => lay 71 (ps9 i)) (fun _ => A9 cs0 cs1 e0 e1 (recA f date arr byt ctl gl gc hl hc wd)) (fun i hi => (small_round hg hs i hi).mono fun e' t A h => by cases e' <;> exact h) 0 ⟨Int.le_refl 0, by omega⟩
/-- ids gives a new slice of the same identities. -/
theorem ids_base {w0 : World} {h : Nat → Int} {len cap n e : Nat} (hn : len ≤ n) (hb : len * 32 ≤ 140737488355328) : SCall Try.prog w0 29 [.slc (some (0, 0)) len cap true] [.row (holdRow h n) e false] fun v A =>
    (len = 0 ∧ v = .slc none 0 0 true ∧ A = [.row (holdRow h n) e false]) ∨ (0 < len ∧ v = .slc (some (1, 0)) len len false ∧ A = [.row (holdRow h n) e false] ++ [.row (holdRow h len) 39 true]) := by
  refine vcall_ok XH_ok (noRH w0) mixedH (Eq.mpr (nf_ids w0 h len cap n e _) ?_)
  refine ⟨?_, fun _ h0 => .inl ⟨h0, rfl, rfl⟩, fun _ h0 => .inr ⟨h0, rfl, rfl⟩, trivial⟩
  exact rounds_inv (fun i => i ≤ len) (fun i => len - i) (fun i => lay 19 (psI len cap (outI i) i)) (AI h n e) (fun i hi => (ids_round hn hb i hi).mono fun e' t A h => by cases e' <;> exact h) 0 (Nat.zero_le _)
end Go.Proofs.Ythbdelhaedbgcaa
