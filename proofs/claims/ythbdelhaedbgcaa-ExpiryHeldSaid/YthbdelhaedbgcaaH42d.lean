/- A part of the proof: H42d. -/
import Derived.Test.YthbdelhaedbgcaaH42c
set_option linter.unusedVariables false
set_option maxRecDepth 100000
namespace Go.Proofs.Ythbdelhaedbgcaa
open Go Go.Am

/-! ### ids, in any heap -/
def fr (base : List Nat) (n : Nat) (k : Nat) : Nat :=
  match base[k]? with
  | some j => j
  | none => n + (k - base.length)
theorem fr_out {base : List Nat} {n k : Nat} (h : base.length ≤ k) : fr base n k = n + (k - base.length) := by simp [fr, List.getElem?_eq_none h]
theorem ids_call {w0 : World} {h : Nat → Int} {len cap n e k : Nat} {wr : Bool} {A : List AO} (hn : len ≤ n) (hb : len * 32 ≤ 140737488355328) (hA : A[k]? = some (.row (holdRow h n) e wr)) : SCall Try.prog w0 29 [.slc (some (k, 0)) len cap true] A fun v A' =>
    (len = 0 ∧ v = .slc none 0 0 true ∧ A' = A) ∨ (0 < len ∧ v = .slc (some (A.length, 0)) len len false ∧ A' = A ++ [.row (holdRow h len) 39 true]) := by
  have hB : ∀ j o, [AO.row (holdRow h n) e false][j]? = some o → o = .dead ∨ ∃ cs e' wr', o = .row cs e' false ∧ A[fr [k] A.length j]? = some (.row (renL (fr [k] A.length) cs) e' wr') := by
    intro j o hj
    match j, hj with
    | 0, hj =>
      have : o = .row (holdRow h n) e false := by simpa using hj.symm
      subst this
      exact .inr ⟨_, _, wr, rfl, by simp only [fr, low_hold]; exact hA⟩
    | j + 1, hj => simp at hj
  rcases Nat.eq_zero_or_pos len with h0 | h0
  · refine (fresh_call (N := []) (qv := .slc none 0 0 true) (fun w => (ids_base hn hb).mono fun v A h => ?_) hB (fun k hk => fr_out hk) (qargs := [.slc (some (0, 0)) len cap true]) rfl (by simp)).mono fun v A' ⟨h1, h2⟩ => .inl ⟨h0, by rw [h1]; rfl, by rw [h2]; simp⟩
    rcases h with ⟨_, h1, h2⟩ | ⟨h1, _⟩
    · exact ⟨h1, by rw [h2]; rfl⟩
    · omega
  · refine (fresh_call (N := [.row (holdRow h len) 39 true]) (qv := .slc (some (1, 0)) len len false) (fun w => (ids_base hn hb).mono fun v A h => ?_) hB (fun k hk => fr_out hk) (qargs := [.slc (some (0, 0)) len cap true]) rfl (by simp)).mono fun v A' ⟨h1, h2⟩ => .inr ⟨h0, by rw [h1]; rfl, by rw [h2]; simp [renO, low_hold]⟩
    rcases h with ⟨h1, _⟩ | ⟨_, h1, h2⟩
    · omega
    · exact ⟨h1, h2⟩

/-! ### article -/
theorem ren_recA (f : Nat → Int) (date arr byt ctl : Int) (gl gc hl hc : Nat) (wd : Bool) (g : Nat → Nat) (h0 : g 0 = 0) (h1 : g 1 = 1) : renL g (recA f date arr byt ctl gl gc hl hc wd) = recA f date arr byt ctl gl gc hl hc wd := by
  rw [renL_eq, recA, List.map_append, List.map_map]
  simp only [List.map_cons, List.map_nil, ren, h0, h1]
  rfl
theorem ren_artA (f : Nat → Int) (date arr byt ctl : Int) (gl gc : Nat) (hv : AV) (wd : Bool) (g : Nat → Nat) (h0 : g 0 = 0) : renL g (artA f date arr byt ctl gl gc hv wd) = artA f date arr byt ctl gl gc (ren g hv) wd := by
  rw [renL_eq, artA, List.map_append, List.map_map]
  simp only [List.map_cons, List.map_nil, ren, h0]
  rfl
theorem art_base1 {w0 : World} {f h : Nat → Int} {date arr byt ctl : Int} {gl gc hl hc n e : Nat} {wd : Bool} (hn : hl ≤ n) (hb : hl * 32 ≤ 140737488355328) (h0 : 0 < hl) :
    SCall Try.prog w0 15 [.agg (recA f date arr byt ctl gl gc hl hc wd)] [.dead, .row (holdRow h n) e false] fun v A => v = .agg (artA f date arr byt ctl gl gc (.slc (some (2, 0)) hl hl false) wd) ∧ A = [.dead, .row (holdRow h n) e false] ++ [.row (holdRow h hl) 39 true] := by
  have key : SCall Try.prog w0 15 [.agg (recA f date arr byt ctl gl gc hl hc wd)] [.dead, .row (holdRow h n) e false] fun v A => v = .agg (artA f date arr byt ctl gl gc (.slc (some (4, 0)) hl hl false) wd) ∧ A = [.dead, .row (holdRow h n) e false, .row (recA f date arr byt ctl gl gc hl hc wd) 27 true, .row (artA f date arr byt ctl gl gc (.slc (some (4, 0)) hl hl false) wd) 42 true, .row (holdRow h hl) 39 true] := by
    refine vcall_ok XH_ok (noRH w0) mixedH (Eq.mpr (nf_art1 w0 f h date arr byt ctl gl gc hl hc n e wd _) ?_)
    refine ⟨(ids_call hn hb (k := 1) (wr := false) rfl).mono fun v A hq => ?_, ?_⟩
    · rcases hq with ⟨h1, _⟩ | ⟨_, h1, h2⟩
      · omega
      · exact ⟨h1, h2⟩
    · repeat' (first | exact ⟨rfl, rfl⟩ | refine ⟨rfl, ?_⟩)
  refine key.gc fun v A2 ⟨h1, h2⟩ => ?_
  · subst h1 h2
    refine ⟨.agg (artA f date arr byt ctl gl gc (.slc (some (2, 0)) hl hl false) wd), _, pickF [0, 1, 4] 5, pick_map (A3 := [.dead, .row (holdRow h n) e false, .row (holdRow h hl) 39 true]) rfl (by simp) (by decide) (by simp only [List.map, renO, low_hold]; rfl), ?_, rfl, rfl⟩
    show _ = ren _ (.agg _)
    rw [ren, ren_artA _ _ _ _ _ _ _ _ _ _ rfl]
    rfl
def BA (k0 k1 : Nat) : List Nat := [k0, k1]
theorem hB_art {h : Nat → Int} {n e e' k1 : Nat} {wr : Bool} {A : List AO} (hA : A[k1]? = some (.row (holdRow h n) e wr)) : ∀ j o, [AO.dead, AO.row (holdRow h n) e false][j]? = some o → o = .dead ∨ ∃ cs e' wr', o = .row cs e' false ∧ A[fr [0, k1] A.length j]? = some (.row (renL (fr [0, k1] A.length) cs) e' wr') := by
  intro j o hj
  match j, hj with
  | 0, hj => exact .inl (by simpa using hj.symm)
  | 1, hj =>
    have : o = .row (holdRow h n) e false := by simpa using hj.symm
    subst this
    exact .inr ⟨_, _, wr, rfl, by simp only [low_hold]; exact hA⟩
  | j + 2, hj => simp at hj
/-- article, where something is held. -/
theorem art_call {w0 : World} {f h : Nat → Int} {date arr byt ctl : Int} {gl gc hl hc n e : Nat} {wd wr : Bool} {A : List AO} (hn : hl ≤ n) (hb : hl * 32 ≤ 140737488355328) (h0 : 0 < hl) (hA : A[1]? = some (.row (holdRow h n) e wr)) :
    SCall Try.prog w0 15 [.agg (recA f date arr byt ctl gl gc hl hc wd)] A fun v A' => v = .agg (artA f date arr byt ctl gl gc (.slc (some (A.length, 0)) hl hl false) wd) ∧ A' = A ++ [.row (holdRow h hl) 39 true] := by
  refine (fresh_call (N := [.row (holdRow h hl) 39 true]) (qv := .agg (artA f date arr byt ctl gl gc (.slc (some (2, 0)) hl hl false) wd)) (fun w => art_base1 hn hb h0) (hB_art (e' := 0) hA) (fun k hk => fr_out hk) (qargs := [.agg (recA f date arr byt ctl gl gc hl hc wd)]) ?_ (by simp)).mono fun v A' ⟨h1, h2⟩ => ?_
  · simp only [renL, ren, ren_recA f date arr byt ctl gl gc hl hc wd (fr [0, 1] A.length) rfl rfl]
  · refine ⟨?_, by rw [h2]; simp [renO, low_hold]⟩
    rw [h1, ren, ren_artA _ _ _ _ _ _ _ _ _ _ rfl]
    rfl

/-! ### IndexFunc, Held -/
def KX (h : Nat → Int) (len cap n e : Nat) (ex : Bool) (i : Nat) : AK := fun e' t A => match e' with
  | .normal => ∃ s : Nat, (s ≤ len ∧ idxOdd h 0 len = idxOdd h s (len - s)) ∧ len - s < len - i ∧ t = lay 19 (psX len cap ex s) ∧ A = [.row (holdRow h n) e false]
  | e' => (∃ x : Unit, (fun _ => idxOdd h 0 len = -1) x ∧ e' = .exit 0 ∧ t = lay 19 (psX len cap ex len) ∧ A = [.row (holdRow h n) e false]) ∨
    (∃ x : Unit, (fun _ => True) x ∧ e' = .ret ∧ t = lay 19 (psX2 (idxOdd h 0 len)) ∧ A = [.row (holdRow h n) e false]) ∨ False
theorem load_hold2 {A : List AO} {h : Nat → Int} {n e i : Nat} (hA : A[0]? = some (.row (holdRow h n) e false)) (hi : i < n) : aload Try.prog A 39 (.ptr (some (0, 0 + i * 32))) = some (.agg (cellsI h i)) := by
  refine aload_agg hA (by kernel_rfl) (by kernel_rfl : asize Try.prog 39 = some 32) ?_ ?_
  · rw [holdRow_length]; omega
  · rw [Nat.zero_add]; exact holdRow_part h hi
theorem idx_round {w0 : World} {h : Nat → Int} {len cap n e : Nat} {ex : Bool} (hn : len ≤ n) (hm : (len : Int) ≤ 9223372036854775807) (i : Nat) (hi : i ≤ len ∧ idxOdd h 0 len = idxOdd h i (len - i)) :
    SCodeB Try.prog w0 1 false loop61 (lay 19 (psX len cap ex i)) [.row (holdRow h n) e false] (KX h len cap n e ex i) := by
  obtain ⟨hi, hx⟩ := hi
  refine vroundL XH_ok (noRH w0) mixedH (K' := fun e' ps A => ∃ ps3, A.take 1 = [.row (holdRow h n) e false] ∧ lessOf (lay 19 ps) (lay 19 ps3) ∧ lowL 1 (lay 19 ps3) = true ∧ KX h len cap n e ex i e' (lay 19 ps3) [.row (holdRow h n) e false]) (Eq.mpr (nf_idxR w0 h len cap n e i ex _) ?_) fun e' ps' A2 ⟨ps3, g1, g2, g3, g4⟩ => ⟨ps3, [.row (holdRow h n) e false], by simp, g1, g2, g3, by simp [lowO, low_holdRow], g4⟩
  simp only [decide_eq_true_eq, decide_eq_false_iff_not, beq_iff_eq, beq_eq_false_iff_ne, ne_eq]
  refine ⟨fun h1 => ⟨⟨by omega, h1⟩, load_hold2 rfl (by omega), fun h2 => ?_, fun h2 => ?_⟩, fun h1 => ?_⟩
  · have e1 : idxOdd h 0 len = i := by
      rw [hx, show len - i = (len - i - 1) + 1 by omega, idxOdd, if_pos h2]
    refine ⟨psX2 i, rfl, ?_, rfl, .inr (.inl ⟨(), trivial, rfl, by rw [e1], rfl⟩)⟩
    exact proj_less [4] _ rfl
  · refine ⟨psX len cap ex (i + 1 : Nat), rfl, ?_, rfl, i + 1, ⟨by omega, ?_⟩, by omega, rfl, rfl⟩
    · rw [wrapI (by omega) (by omega)]
      exact ⟨rfl, fun _ _ _ hx hy => .inl (by rw [show ((i + 1 : Nat) : Int) = (i : Int) + 1 by omega] at hy; exact (Option.some.inj (hx.symm.trans hy)).symm)⟩
    · rw [hx, show len - i = (len - (i + 1)) + 1 by omega, idxOdd, if_neg h2]
  · have e1 : i = len := by omega
    subst e1
    refine ⟨psX i cap ex i, rfl, ⟨rfl, fun _ _ _ hx hy => .inl (Option.some.inj (hx.symm.trans hy)).symm⟩, rfl, .inl ⟨(), ?_, rfl, rfl, rfl⟩⟩
    rw [hx, Nat.sub_self]; rfl
theorem idx_base {w0 : World} {h : Nat → Int} {len cap n e : Nat} {ex : Bool} (hn : len ≤ n) (hm : (len : Int) ≤ 9223372036854775807) : SCall Try.prog w0 61 [.slc (some (0, 0)) len cap ex, .func (.func 20) [] []] [.row (holdRow h n) e false] fun v A => v = .int .i64 (idxOdd h 0 len) ∧ A = [.row (holdRow h n) e false] ++ [] := by
  refine vcall_ok XH_ok (noRH w0) mixedH (Eq.mpr (nf_idx w0 h len cap n e ex _) ?_)
  refine ⟨?_, fun _ h0 => ⟨by rw [h0], rfl⟩, fun _ h0 => ⟨rfl, rfl⟩, trivial⟩
  exact rounds_inv (fun i : Nat => i ≤ len ∧ idxOdd h 0 len = idxOdd h i (len - i)) (fun i => len - i) (fun i => lay 19 (psX len cap ex i)) (fun _ => [.row (holdRow h n) e false]) (fun i hi => (idx_round hn hm i hi).mono fun e' t A h => by cases e' <;> exact h) 0 ⟨Nat.zero_le _, rfl⟩
theorem idx_call {w0 : World} {h : Nat → Int} {len cap n e k : Nat} {ex wr : Bool} {A : List AO} (hn : len ≤ n) (hm : (len : Int) ≤ 9223372036854775807) (hA : A[k]? = some (.row (holdRow h n) e wr)) : SCall Try.prog w0 61 [.slc (some (k, 0)) len cap ex, .func (.func 20) [] []] A fun v A' => v = .int .i64 (idxOdd h 0 len) ∧ A' = A := by
  have hB : ∀ j o, [AO.row (holdRow h n) e false][j]? = some o → o = .dead ∨ ∃ cs e' wr', o = .row cs e' false ∧ A[fr [k] A.length j]? = some (.row (renL (fr [k] A.length) cs) e' wr') := by
    intro j o hj
    match j, hj with
    | 0, hj =>
      have : o = .row (holdRow h n) e false := by simpa using hj.symm
      subst this
      exact .inr ⟨_, _, wr, rfl, by simp only [fr, low_hold]; exact hA⟩
    | j + 1, hj => simp at hj
  refine (fresh_call (N := []) (qv := .int .i64 (idxOdd h 0 len)) (fun w => idx_base hn hm) hB (fun k hk => fr_out hk) (qargs := [.slc (some (0, 0)) len cap ex, .func (.func 20) [] []]) rfl (by simp)).mono fun v A' ⟨h1, h2⟩ => ⟨by rw [h1]; rfl, by rw [h2]; simp⟩
theorem held_base {w0 : World} {f h : Nat → Int} {date arr byt ctl : Int} {gl gc hl n e : Nat} {wd : Bool} (hn : hl ≤ n) (hm : (hl : Int) ≤ 9223372036854775807) :
    SCall Try.prog w0 19 [.agg (artA f date arr byt ctl gl gc (.slc (some (1, 0)) hl hl false) wd), .func (.func 20) [] []] [.dead, .row (holdRow h n) e false] fun v A => v = .bool (decide (idxOdd h 0 hl ≥ 0)) ∧ A = [.dead, .row (holdRow h n) e false] ++ [] := by
  have key : SCall Try.prog w0 19 [.agg (artA f date arr byt ctl gl gc (.slc (some (1, 0)) hl hl false) wd), .func (.func 20) [] []] [.dead, .row (holdRow h n) e false] fun v A => v = .bool (decide (idxOdd h 0 hl ≥ 0)) ∧ A = [.dead, .row (holdRow h n) e false, .row (artA f date arr byt ctl gl gc (.slc (some (1, 0)) hl hl false) wd) 42 true] := by
    refine vcall_ok XH_ok (noRH w0) mixedH (Eq.mpr (nf_held w0 f h date arr byt ctl gl gc hl n e wd _) ?_)
    refine ⟨idx_call hn hm (k := 1) (wr := false) rfl, fun h1 => ⟨by rw [h1], rfl⟩, fun h1 => ⟨by rw [h1], rfl⟩⟩
  refine key.gc fun v A2 ⟨h1, h2⟩ => ?_
  subst h1 h2
  exact ⟨.bool (decide (idxOdd h 0 hl ≥ 0)), _, pickF [0, 1] 3, pick_map (A3 := [.dead, .row (holdRow h n) e false]) rfl (by simp) (by decide) (by simp only [List.map, renO, low_hold]; rfl), rfl, rfl, rfl⟩
theorem held_call {w0 : World} {f h : Nat → Int} {date arr byt ctl : Int} {gl gc hl n e k : Nat} {wd wr : Bool} {A : List AO} (hn : hl ≤ n) (hm : (hl : Int) ≤ 9223372036854775807) (hA : A[k]? = some (.row (holdRow h n) e wr)) :
    SCall Try.prog w0 19 [.agg (artA f date arr byt ctl gl gc (.slc (some (k, 0)) hl hl false) wd), .func (.func 20) [] []] A fun v A' => v = .bool (decide (idxOdd h 0 hl ≥ 0)) ∧ A' = A := by
  refine (fresh_call (N := []) (qv := .bool (decide (idxOdd h 0 hl ≥ 0))) (fun w => held_base hn hm) (hB_art (e' := 0) hA) (fun k hk => fr_out hk) (qargs := [.agg (artA f date arr byt ctl gl gc (.slc (some (1, 0)) hl hl false) wd), .func (.func 20) [] []]) ?_ (by simp)).mono fun v A' ⟨h1, h2⟩ => ⟨by rw [h1]; rfl, by rw [h2]; simp⟩
  simp only [renL, ren, ren_artA f date arr byt ctl gl gc _ wd (fr [0, k] A.length) rfl]
  rfl

/-! ### The plain law -/
theorem idx_any (h : Nat → Int) : ∀ (n i : Nat), (idxOdd h i n ≥ 0) ↔ ∃ k, i ≤ k ∧ k < i + n ∧ (h (k * 32 + 0)).tmod 2 = 1 := by
  intro n
  induction n with
  | zero => intro i; simp only [idxOdd]; constructor
            · intro h; omega
            · rintro ⟨k, h1, h2, _⟩; omega
  | succ n ih =>
    intro i
    simp only [idxOdd]
    split
    · rename_i h1
      exact ⟨fun _ => ⟨i, Nat.le_refl _, by omega, h1⟩, fun _ => by omega⟩
    · rename_i h1
      rw [ih (i + 1)]
      constructor
      · rintro ⟨k, a, b, c⟩; exact ⟨k, by omega, by omega, c⟩
      · rintro ⟨k, a, b, c⟩
        rcases Nat.eq_or_lt_of_le a with rfl | a
        · exact absurd c h1
        · exact ⟨k, a, by omega, c⟩
theorem idx_anyOdd (h : Nat → Int) (n : Nat) : decide (idxOdd h 0 n ≥ 0) = anyOdd h n := by
  rw [Bool.eq_iff_iff, decide_eq_true_eq, idx_any h n 0, anyOdd, List.any_eq_true]
  constructor
  · rintro ⟨k, _, b, c⟩; exact ⟨k, by simp; omega, by simpa using c⟩
  · rintro ⟨k, a, c⟩; exact ⟨k, Nat.zero_le _, by have := List.mem_range.1 a; omega, by simpa using c⟩
theorem anyOdd_succ (h : Nat → Int) (n : Nat) : anyOdd h (n + 1) = (anyOdd h n || ((h (n * 32 + 0)).tmod 2 == 1)) := by
  simp only [anyOdd, List.range_succ, List.any_append, List.any_cons, List.any_nil, Bool.or_false]
/-! ### The law -/
def KW (f h : Nat → Int) (date arr byt ctl : Int) (gl gc hl hc n : Nat) (wd : Bool) (cs0 : List AV) (e0 e1 : Nat) (i : Nat) : AK := fun e' t A => match e' with
  | .normal => ∃ s : Nat, s ≤ hl ∧ hl - s < hl - i ∧ t = lay 43 (psW f (anyOdd h s) s) ∧ A = A9 cs0 (holdRow h n) e0 e1 (recA f date arr byt ctl gl gc hl hc wd)
  | e' => (∃ x : Unit, (fun _ => True) x ∧ e' = .exit 0 ∧ t = lay 43 (psW f (anyOdd h hl) hl) ∧ A = A9 cs0 (holdRow h n) e0 e1 (recA f date arr byt ctl gl gc hl hc wd)) ∨ False
theorem agg5 : aisAgg Try.prog 5 = some false := by kernel_rfl
theorem want_round {w0 : World} (hk : PureOk Try.prog 8 { args := [], B := [], v := .bool true }) {f h : Nat → Int} {date arr byt ctl : Int} {gl gc hl hc n : Nat} {wd : Bool} {cs0 : List AV} {e0 e1 : Nat} (hn : hl ≤ n) (hm : (hl : Int) ≤ 9223372036854775807) (i : Nat) (hi : i ≤ hl) :
    SCodeB Try.prog w0 4 false loop5 (lay 43 (psW f (anyOdd h i) i)) (A9 cs0 (holdRow h n) e0 e1 (recA f date arr byt ctl gl gc hl hc wd)) (KW f h date arr byt ctl gl gc hl hc n wd cs0 e0 e1 i) := by
  have hR := knownR_ok hk w0
  cases hw : anyOdd h i with
  | false =>
    refine vroundE XH_ok hR mixedH (Eq.mpr (nf_want0 w0 f h date arr byt ctl gl gc hl hc n i wd cs0 e0 e1 (fun e' ps A => KW f h date arr byt ctl gl gc hl hc n wd cs0 e0 e1 i e' (lay 43 ps) A)) ?_)
    refine ⟨fun h1 => ⟨⟨by omega, of_decide_eq_true h1⟩, aload_cell rfl agg5 ?_, fun h2 => ?_, fun h2 => ?_⟩, fun h1 => ?_⟩
    · have := of_decide_eq_true h1
      rw [show 0 + (i : Int).toNat * 32 + 0 = i * 32 + 0 by omega]
      exact holdRow_get h (by omega)
    · have := of_decide_eq_true h1
      refine ⟨i + 1, by omega, by omega, ?_, rfl⟩
      rw [wrapI (by omega) (by omega), anyOdd_succ, hw, h2]; rfl
    · have := of_decide_eq_true h1
      refine ⟨i + 1, by omega, by omega, ?_, rfl⟩
      rw [wrapI (by omega) (by omega), anyOdd_succ, hw, h2]; rfl
    · have := of_decide_eq_false h1
      have e1 : i = hl := by omega
      subst e1
      exact .inl ⟨(), trivial, rfl, by rw [hw]; rfl, rfl⟩
  | true =>
    refine vroundE XH_ok hR mixedH (Eq.mpr (nf_want1 w0 f h date arr byt ctl gl gc hl hc n i wd cs0 e0 e1 (fun e' ps A => KW f h date arr byt ctl gl gc hl hc n wd cs0 e0 e1 i e' (lay 43 ps) A)) ?_)
    refine ⟨fun h1 => ?_, fun h1 => ?_⟩
    · have := of_decide_eq_true h1
      refine ⟨i + 1, by omega, by omega, ?_, rfl⟩
      rw [wrapI (by omega) (by omega), anyOdd_succ, hw]; rfl
    · have := of_decide_eq_false h1
      have e1 : i = hl := by omega
      subst e1
      exact .inl ⟨(), trivial, rfl, by rw [hw]; rfl, rfl⟩
theorem held_law {w0 : World} (hk : PureOk Try.prog 8 { args := [], B := [], v := .bool true }) {f h : Nat → Int} {date arr byt ctl : Int} {gl gc hl hc n : Nat} {wd : Bool} {cs0 : List AV} {e0 e1 : Nat} (hn : hl ≤ n) (hm : (hl : Int) ≤ 9223372036854775807) (h0 : 0 < hl)
    (hg : (gl : Int) ≤ 9223372036854775807) (hs : Strs cs0 gl) : SCall Try.prog w0 5 [.agg (recA f date arr byt ctl gl gc hl hc wd)] [.row cs0 e0 false, .row (holdRow h n) e1 false] fun v _ => v = .bool true := by
  have hR := knownR_ok hk w0
  refine vcall_ok XH_ok hR mixedH (Eq.mpr (nf_law w0 f h date arr byt ctl gl gc hl hc n wd cs0 e0 e1 _) ?_)
  refine ⟨(small_call (f := f) (date := date) (arr := arr) (byt := byt) (ctl := ctl) (gc := gc) (hl := hl) (hc := hc) (wd := wd) (cs1 := holdRow h n) (e0 := e0) (e1 := e1) hg hs).mono fun v A ⟨h1, h2⟩ => ?_, ?_, fun _ _ => rfl, trivial⟩
  · rcases h1 with ⟨h1, h3⟩ | h1
    · exact .inl ⟨(), h3, h1, h2⟩
    · exact .inr (.inl ⟨(), trivial, h1, h2⟩)
  · intro _ h5
    refine ⟨?_, fun _ _ => ⟨?_, ?_, fun _ => ⟨?_, rfl⟩, fun h6 => ?_⟩, trivial⟩
    · exact rounds_inv (fun i : Nat => i ≤ hl) (fun i => hl - i) (fun i => lay 43 (psW f (anyOdd h i) i)) (fun _ => A9 cs0 (holdRow h n) e0 e1 (recA f date arr byt ctl gl gc hl hc wd)) (fun i hi => (want_round hk hn hm i hi).mono fun e' t A h => by cases e' <;> exact h) 0 (Nat.zero_le _)
    · exact art_call hn (by omega) h0 rfl
    · exact held_call (Nat.le_refl _) hm (k := 4) (wr := true) rfl
    · exact art_call hn (by omega) h0 rfl
    · rw [idx_anyOdd] at h6
      simp at h6
theorem held_law0 {w0 : World} (hk : PureOk Try.prog 8 { args := [], B := [], v := .bool true }) {f h : Nat → Int} {date arr byt ctl : Int} {gl gc hc n : Nat} {wd : Bool} {cs0 : List AV} {e0 e1 : Nat}
    (hg : (gl : Int) ≤ 9223372036854775807) (hs : Strs cs0 gl) : SCall Try.prog w0 5 [.agg (recA f date arr byt ctl gl gc 0 hc wd)] [.row cs0 e0 false, .row (holdRow h n) e1 false] fun v _ => v = .bool true := by
  have hR := knownR_ok hk w0
  refine vcall_ok XH_ok hR mixedH (Eq.mpr (nf_law0 w0 f h date arr byt ctl gl gc hc n wd cs0 e0 e1 _) ?_)
  refine ⟨(small_call (f := f) (date := date) (arr := arr) (byt := byt) (ctl := ctl) (gc := gc) (hl := 0) (hc := hc) (wd := wd) (cs1 := holdRow h n) (e0 := e0) (e1 := e1) hg hs).mono fun v A ⟨h1, h2⟩ => ?_, ?_⟩
  · rcases h1 with ⟨h1, h3⟩ | h1
    · exact .inl ⟨(), trivial, h1, h2⟩
    · exact .inr (.inl ⟨(), trivial, h1, h2⟩)
  · refine ⟨fun _ _ => ?_, fun _ _ => rfl, trivial⟩
    repeat' (first | exact rfl | refine ⟨rfl, ?_⟩)
end Go.Proofs.Ythbdelhaedbgcaa
