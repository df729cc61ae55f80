/- A part of the proof: B37c. -/
import Derived.Test.YthipnddfplbamaaDoorB37b
set_option linter.unusedVariables false
set_option maxRecDepth 100000
namespace Go.Proofs.YthipnddfplbamaaDoor
open Go Go.Am

theorem X0_ok : ExtOk Tryd.prog X0 := fun f g h => by cases h
theorem mixedB : Tryd.prog.follows .mixedOrders = true := by kernel_rfl
theorem wrapI {x : Int} (h1 : -9223372036854775808 ≤ x) (h2 : x ≤ 9223372036854775807) : IntKind.i64.wrap x = x := wrap64_of (by omega)
theorem agg3 : aisAgg Tryd.prog 3 = some false := by kernel_rfl
/-- What holds at the loop's head. -/
def IB (lim : Int) (len : Nat) (s : BS) : Prop := 0 ≤ s.i ∧ s.i ≤ len ∧ -1 ≤ s.day ∧ s.day ≤ 73049 ∧ 0 ≤ s.used ∧ s.used ≤ lim ∧ (∀ d, s.day < d → ilook s.l d = none) ∧ (ilook s.l s.day).getD 0 = s.used
def Cells (cs : List AV) (len : Nat) : Prop := ∀ k : Nat, k < len → ∃ n now : Int, cs[0 + k * 2 + 0]? = some (.int .i64 n) ∧ cs[0 + k * 2 + 1]? = some (.int .i64 now)
/-- How a round ends. -/
def KB (lim : Int) (e0 : Nat) (cs : List AV) (len cap : Nat) (s : BS) : AK := fun e t A => match e with
  | .normal => ∃ s', IB lim len s' ∧ (len - s'.i.toNat) < (len - s.i.toNat) ∧ t = lay 72 (psB lim len cap s'.i) ∧ A = AB lim e0 cs s'
  | e => (∃ x : BS, True ∧ e = .exit 0 ∧ t = lay 72 (psB lim len cap x.i) ∧ A = AB lim e0 cs x) ∨ False
/-- A leaf of the round. -/
def KL (lim : Int) (e0 : Nat) (cs : List AV) (len cap : Nat) (s : BS) (e : Exit) (ps : List (Nat × AV)) (A2 : List AO) : Prop :=
  ∃ A3, A3.length = 3 ∧ A2.take 3 = A3 ∧ lowL 3 (lay 72 ps) = true ∧ A3.all (lowO 3) = true ∧ KB lim e0 cs len cap s e (lay 72 ps) A3
theorem low_int {k k2 : IntKind} (l : List (Int × Int)) : lowO 3 (.map (intEs k k2 l)) = true := by
  have h : ∀ l : List AV, (∀ x ∈ l, low 3 x = true) → lowL 3 l = true := by
    intro l
    induction l with
    | nil => intro _; rfl
    | cons a r ih => intro h; simp only [lowL, h a (by simp), ih fun x hx => h x (by simp [hx]), Bool.and_self]
  simp only [lowO, intEs, Bool.and_eq_true]
  constructor <;> refine h _ fun x hx => ?_ <;> simp only [List.map_map, List.mem_map] at hx <;> obtain ⟨y, _, rfl⟩ := hx <;> rfl
theorem all_low {lim : Int} {e0 : Nat} {cs : List AV} (hcs : lowL 3 cs = true) (s : BS) : (AB lim e0 cs s).all (lowO 3) = true := by
  simp only [AB, List.all_cons, List.all_nil, Bool.and_true, low_int, Bool.and_eq_true]
  exact ⟨hcs, rfl⟩
theorem leaf_next {lim : Int} {e0 : Nat} {cs : List AV} {len cap : Nat} {s : BS} (hcs : lowL 3 cs = true) {i' day used : Int} {l : List (Int × Int)} {A : List AO} (hA : A = AB lim e0 cs ⟨s.i + 1, day, used, l⟩) (hi : i' = s.i + 1) (h0 : 0 ≤ s.i) (h1 : s.i < len)
    (h : IB lim len ⟨s.i + 1, day, used, l⟩) : KL lim e0 cs len cap s .normal (psB lim len cap i') A := by
  subst hA hi
  refine ⟨_, rfl, rfl, rfl, all_low hcs _, ⟨s.i + 1, day, used, l⟩, h, ?_, rfl, rfl⟩
  show len - (s.i + 1).toNat < len - s.i.toNat
  omega
theorem leaf_exit {lim : Int} {e0 : Nat} {cs : List AV} {len cap : Nat} {s : BS} (hcs : lowL 3 cs = true) : KL lim e0 cs len cap s (.exit 0) (psB lim len cap s.i) (AB lim e0 cs s) :=
  ⟨_, rfl, rfl, rfl, all_low hcs _, .inl ⟨s, trivial, rfl, rfl, rfl⟩⟩
theorem mapTy : Tryd.prog.underlying 51 = some (.map 3 3) := by kernel_rfl
theorem intTy : Tryd.prog.underlying 3 = some (.int .i64) := by kernel_rfl
theorem zeroTy : azero Tryd.prog 3 = some (.int .i64 0) := by kernel_rfl
theorem look {A : List AO} {l : List (Int × Int)} (hA : A[2]? = some (.map (intEs .i64 .i64 l))) (d : Int) : alookup Tryd.prog A 51 (.map (some 2)) (.int .i64 d) false = some (.int .i64 ((ilook l d).getD 0)) := alookup_int mapTy intTy zeroTy hA d
theorem upd {A : List AO} {l : List (Int × Int)} (hA : A[2]? = some (.map (intEs .i64 .i64 l))) (d v : Int) : amapUpdate Tryd.prog A 51 (.map (some 2)) (.int .i64 d) (.int .i64 v) = some (A.set 2 (.map (intEs .i64 .i64 (iput l d v)))) := amapUpdate_int mapTy intTy hA d v
theorem look2 {A : List AO} {l : List (Int × Int)} {d v : Int} (hA : A[2]? = some (.map (intEs .i64 .i64 (iput l d v)))) : alookup Tryd.prog A 51 (.map (some 2)) (.int .i64 d) false = some (.int .i64 v) := by
  rw [look hA, ilook_iput, if_pos rfl]; rfl
/-- The state behind a charge. -/
theorem IB_put {lim : Int} {len : Nat} {i D U : Int} {l : List (Int × Int)} (hi0 : 0 ≤ i) (hi1 : i < len) (hD0 : 0 ≤ D) (hD1 : D ≤ 73049) (hU0 : 0 ≤ U) (hU1 : U ≤ lim) (hl : ∀ d, D < d → ilook l d = none) : IB lim len ⟨i + 1, D, U, iput l D U⟩ :=
  ⟨by show 0 ≤ i + 1; omega, by show i + 1 ≤ (len : Int); omega, by show -1 ≤ D; omega, hD1, hU0, hU1, fun d hd => by rw [show (BS.l ⟨i + 1, D, U, iput l D U⟩) = iput l D U from rfl, ilook_iput, if_neg (by have : D < d := hd; omega)]; exact hl d hd, by show (ilook (iput l D U) D).getD 0 = U; rw [ilook_iput, if_pos rfl]; rfl⟩
theorem round {w0 : World} {lim : Int} {e0 : Nat} {cs : List AV} {len cap : Nat} (hlen : (len : Int) ≤ 9223372036854775807) (h0 : 0 < lim) (h1 : lim ≤ 1099511627776) (hc : Cells cs len) (hcs : lowL 3 cs = true) (s : BS) (hs : IB lim len s)
    (hR : ResOk Tryd.prog w0 (knownR 10)) : SCode Tryd.prog w0 false loop5 (lay 72 (psB lim len cap s.i)) (AB lim e0 cs s) (KB lim e0 cs len cap s) := by
  obtain ⟨i, day, used, l⟩ := s
  obtain ⟨hi0, hi1, hd0, hd1, hu0, hu1, hl1, hl2⟩ := hs
  simp only at hi0 hi1 hd0 hd1 hu0 hu1 hl1 hl2
  obtain ⟨n, now, hcells⟩ : ∃ n now : Int, i < len → cs[0 + i.toNat * 2 + 0]? = some (.int .i64 n) ∧ cs[0 + i.toNat * 2 + 1]? = some (.int .i64 now) := by
    by_cases h : i < len
    · obtain ⟨n, now, h1, h2⟩ := hc i.toNat (by omega)
      exact ⟨n, now, fun _ => ⟨h1, h2⟩⟩
    · exact ⟨0, 0, fun h' => absurd h' h⟩
  refine vround X0_ok hR mixedB (K' := KL lim e0 cs len cap ⟨i, day, used, l⟩) (Eq.mpr (nf_r w0 lim i day used e0 cs len cap l n now _) ?_) ?_
  rotate_left
  · rintro e ps A2 ⟨A3, g1, g2, g3, g4, g5⟩
    exact ⟨A3, by rw [g1]; exact Nat.le_refl _, by rw [g1]; exact g2, by rw [g1]; exact g3, by rw [g1]; exact g4, g5⟩
  have hI : IB lim len ⟨i, day, used, l⟩ := ⟨hi0, hi1, hd0, hd1, hu0, hu1, hl1, hl2⟩
  have same : i < (len : Int) → KL lim e0 cs len cap ⟨i, day, used, l⟩ .normal (psB lim len cap (IntKind.i64.wrap (i + 1))) (AB lim e0 cs ⟨i, day, used, l⟩) := fun q1 =>
    leaf_next hcs (day := day) (used := used) (l := l) rfl (wrapI (by omega) (by omega)) hi0 q1 ⟨by show 0 ≤ i + 1; omega, by show i + 1 ≤ len; omega, hd0, hd1, hu0, hu1, hl1, hl2⟩
  have ld : ∀ {A : List AO} {te : Nat} {k : Nat} {v : AV}, A[0]? = some (.row cs te false) → cs[k]? = some v → aload Tryd.prog A 3 (.ptr (some (0, k))) = some v := fun h1 h2 => aload_cell h1 agg3 h2
  simp only [decide_eq_true_eq, decide_eq_false_iff_not, beq_iff_eq, beq_eq_false_iff_ne, ne_eq]
  refine ⟨fun q1 => ⟨fun q2 => ?_, fun _ => leaf_exit hcs⟩, fun _ => leaf_exit hcs⟩
  obtain ⟨c1, c2⟩ := hcells q1
  refine ⟨⟨hi0, q1⟩, ld rfl c1, ⟨hi0, q1⟩, ld rfl c2, fun _ => same q1, fun q3 => ⟨fun _ => same q1, fun q4 => ⟨fun _ => same q1, fun q5 => ⟨fun _ => same q1, fun q6 => ?_⟩⟩⟩⟩
  have hD : IntKind.i64.wrap (now.tdiv 1440) = now / 1440 := by
    rw [Int.tdiv_eq_ediv_of_nonneg (by omega)]; exact wrapI (by omega) (by omega)
  rw [hD]
  refine ⟨fun _ => same q1, fun q7 => ⟨fun q8 => ⟨fun q9 => ?_, fun q9 => ⟨fun _ => same q1, fun q10 => ?_⟩⟩, fun q8 => ⟨fun q9 => ?_, fun q9 => ⟨fun _ => same q1, fun q10 => ?_⟩⟩⟩⟩
  · omega
  · have hS : (ilook l (now / 1440)).getD 0 = used := by rw [q8]; exact hl2
    have hW : IntKind.i64.wrap (used + n) = used + n := wrapI (by omega) (by omega)
    rw [hS]
    simp only [hW] at q10 ⊢
    refine ⟨⟨hi0, q1⟩, ld rfl c2, by rw [← hS]; exact look rfl _, ⟨hi0, q1⟩, ld rfl c1, upd rfl _ _, look2 rfl, fun h => absurd h q10, fun _ => ?_⟩
    exact leaf_next hcs (day := now / 1440) (used := used + n) (l := iput l (now / 1440) (used + n)) rfl (wrapI (by omega) (by omega)) hi0 q1 (IB_put hi0 q1 (by omega) (by omega) (by omega) (by omega) fun d hd => hl1 d (by omega))
  · omega
  · have hS : (ilook l (now / 1440)).getD 0 = 0 := by rw [hl1 _ (by omega)]; rfl
    have hW : IntKind.i64.wrap (0 + n) = 0 + n := wrapI (by omega) (by omega)
    rw [hS]
    simp only [hW] at q10 ⊢
    refine ⟨⟨hi0, q1⟩, ld rfl c2, by rw [← hS]; exact look rfl _, ⟨hi0, q1⟩, ld rfl c1, upd rfl _ _, look2 rfl, fun h => absurd h q10, fun _ => ?_⟩
    exact leaf_next hcs (day := now / 1440) (used := 0 + n) (l := iput l (now / 1440) (0 + n)) rfl (wrapI (by omega) (by omega)) hi0 q1 (IB_put hi0 q1 (by omega) (by omega) (by omega) (by omega) fun d hd => hl1 d (by omega))

/-- FeedruleBounds answers true, whatever the charges. -/
theorem bounds_call {w0 : World} (hk : PureOk Tryd.prog 10 { args := [], B := [], v := .bool true }) {lim : Int} {e0 : Nat} {cs : List AV} {len cap : Nat} (hlen : (len : Int) ≤ 9223372036854775807) (hc : Cells cs len) (hcs : lowL 3 cs = true) :
    SCall Tryd.prog w0 5 [.int .i64 lim, .slc (some (0, 0)) len cap true] [.row cs e0 false] fun v _ => v = .bool true := by
  have hR := knownR_ok hk w0
  refine vcall_ok X0_ok hR mixedB (Eq.mpr (nf_o w0 lim e0 cs len cap _) ?_)
  simp only [decide_eq_true_eq, decide_eq_false_iff_not, beq_iff_eq, beq_eq_false_iff_ne, ne_eq]
  refine ⟨fun _ => trivial, fun h1 => ⟨fun _ => trivial, fun h2 => ⟨fun _ => trivial, fun h3 => ⟨?_, fun _ _ => trivial, trivial⟩⟩⟩⟩
  exact rounds_inv (IB lim len) (fun s => len - s.i.toNat) (fun s => lay 72 (psB lim len cap s.i)) (fun s => AB lim e0 cs s) (fun s hs => (round hlen (by omega) (by omega) hc hcs s hs hR).mono fun e t A h => by cases e <;> exact h) ⟨0, -1, 0, []⟩ ⟨Int.le_refl 0, by show (0 : Int) ≤ len; omega, Int.le_refl _, by show (-1 : Int) ≤ 73049; omega, Int.le_refl 0, by show (0 : Int) ≤ lim; omega, fun _ _ => rfl, rfl⟩
theorem bounds_nil {w0 : World} (hk : PureOk Tryd.prog 10 { args := [], B := [], v := .bool true }) {lim : Int} :
    SCall Tryd.prog w0 5 [.int .i64 lim, .slc none 0 0 true] [] fun v _ => v = .bool true := by
  have hR := knownR_ok hk w0
  refine vcall_ok X0_ok hR mixedB (Eq.mpr (nf_n w0 lim _) ?_)
  simp
end Go.Proofs.YthipnddfplbamaaDoor
