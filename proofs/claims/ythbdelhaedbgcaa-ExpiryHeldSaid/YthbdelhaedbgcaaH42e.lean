/- bulletinlaw42.ExpiryHeld returns true for every article of the reference, and the article read afterwards as before; no conditions. -/
import Derived.Test.YthbdelhaedbgcaaH42d
import Derived.Test.YthbdelhaedbgcaaK42b
import Derived.Test.YthbdelhaedbgcaaAm38
import Derived.Test.YthbdelhaedbgcaaRows
import Derived.ProofKit
set_option linter.unusedVariables false
set_option maxRecDepth 100000
namespace Go.Proofs.Ythbdelhaedbgcaa
open Go Go.Am Go.RowKit Go.ChangeShapes Go.WideShapes Go.ChangeAt

theorem own : ownKnob Try.prog.godebug = none := by kernel_rfl
theorem laidOut : laidOutB Try.prog = true := by kernel_rfl
theorem u4 : Try.prog.underlying 4 = some .bool := by kernel_rfl
theorem c27 : Try.prog.cellsOf 27 = 39 := by kernel_rfl
theorem c9 : Try.prog.cellsOf 9 = 1 := by kernel_rfl
theorem c23 : Try.prog.cellsOf 23 = 32 := by kernel_rfl
theorem k9 : kindAt Try.prog 20 9 0 = some .str := by kernel_rfl
theorem k23 : ((List.range 32).all fun j => match kindAt Try.prog 20 23 j with | some (.int .u8) => true | _ => false) = true := by kernel_rfl
theorem k27 : ((List.range 32).all fun j => match kindAt Try.prog 20 27 j with | some (.int .u8) => true | _ => false) = true := by kernel_rfl
theorem k27b : kindAt Try.prog 20 27 32 = some (.int .i64) ∧ kindAt Try.prog 20 27 33 = some (.int .i64) ∧ kindAt Try.prog 20 27 34 = some (.slc 9) ∧ kindAt Try.prog 20 27 35 = some (.int .i64) ∧ kindAt Try.prog 20 27 36 = some (.int .i64) ∧ kindAt Try.prog 20 27 37 = some (.slc 23) ∧ kindAt Try.prog 20 27 38 = some .bool :=
  ⟨by kernel_rfl, by kernel_rfl, by kernel_rfl, by kernel_rfl, by kernel_rfl, by kernel_rfl, by kernel_rfl⟩
theorem kall {n : Nat} {t : TypeId} (h : ((List.range n).all fun j => match kindAt Try.prog 20 t j with | some (.int .u8) => true | _ => false) = true) (j : Nat) (hj : j < n) : kindAt Try.prog 20 t j = some (.int .u8) := by
  have := List.all_eq_true.1 h j (List.mem_range.2 hj)
  split at this
  · assumption
  · cases this
section
variable {H : Type} {enc : TypeId × Value → H} {W : World}
/-- A slice of strings that came in. -/
theorem put_strs {c : Value} (h : InSlice enc Try.prog W 9 c) : ∃ (len cap : Nat) (cs : List AV) (te : TypeId), len ≤ cap ∧ cap ≤ maxLen ∧ Strs cs len ∧
    (∀ n, lowL n cs = true) ∧ ∀ (m : List (Option Pl)) (A : List AO), Rel Try.prog W m A W → ∃ pl, Rel Try.prog W (m ++ [pl]) (A ++ [.row cs te false]) W ∧ ∀ m', VRel (m ++ [pl] ++ m') (.slc (some (m.length, 0)) len cap true) c := by
  obtain ⟨len, cap, cs, te, h1, h2, h3, h4, h5, h6⟩ := h.put (by rw [c9]; decide)
  refine ⟨len, cap, cs, te, h1, h2, fun k hk => ?_, h5, h6⟩
  obtain ⟨u, hu, s, rfl, _⟩ := h4 k 0 20 _ (by omega) (by rw [c9]; decide) k9
  rw [c9, Nat.mul_one, Nat.add_zero] at hu
  exact ⟨_, hu⟩
/-- A slice of identities that came in. -/
theorem put_ids {c : Value} (h : InSlice enc Try.prog W 23 c) : ∃ (len cap : Nat) (f : Nat → Int) (te : TypeId), len ≤ cap ∧ cap ≤ maxLen ∧
    ∀ (m : List (Option Pl)) (A : List AO), Rel Try.prog W m A W → ∃ pl, Rel Try.prog W (m ++ [pl]) (A ++ [.row (holdRow f cap) te false]) W ∧ ∀ m', VRel (m ++ [pl] ++ m') (.slc (some (m.length, 0)) len cap true) c := by
  obtain ⟨len, cap, cs, te, h1, h2, h3, h4, h5, h6⟩ := h.put (by rw [c23]; decide)
  rw [c23] at h3
  have e : cs = holdRow (fun j => match cs[j]? with | some (.int _ n) => n | _ => 0) cap := by
    apply List.ext_getElem?
    intro j
    by_cases hj : j < cap * 32
    · rw [holdRow_get _ hj]
      obtain ⟨u, hu, n, rfl, _⟩ := h4 (j / 32) (j % 32) 20 _ (by omega) (by rw [c23]; omega) (kall k23 _ (by omega))
      rw [c23, show j / 32 * 32 + j % 32 = j by omega] at hu
      rw [hu]; rfl
    · rw [List.getElem?_eq_none (by omega), List.getElem?_eq_none (by rw [holdRow_length]; omega)]
  exact ⟨len, cap, _, te, h1, h2, by rw [← e]; exact h6⟩
theorem recA_rel {m : List (Option Pl)} {cs : Array Value} {date arr byt ctl : Int} {gl gc hl hc : Nat} {wd : Bool} {g h : Value} (hsz : cs.size = 39)
    (hc' : ∀ j, j < 32 → ∃ n, cs[j]? = some (.int .u8 n)) (h32 : cs[32]? = some (.int .i64 date)) (h33 : cs[33]? = some (.int .i64 arr)) (h34 : cs[34]? = some g) (h35 : cs[35]? = some (.int .i64 byt)) (h36 : cs[36]? = some (.int .i64 ctl)) (h37 : cs[37]? = some h) (h38 : cs[38]? = some (.bool wd))
    (hg : VRel m (.slc (some (0, 0)) gl gc true) g) (hh : VRel m (.slc (some (1, 0)) hl hc true) h) :
    VRel m (.agg (recA (fun j => match cs[j]? with | some (.int _ n) => n | _ => 0) date arr byt ctl gl gc hl hc wd)) (.agg cs) := by
  refine .agg (by rw [hsz]; simp [recA]) fun i x u hx hu => ?_
  by_cases hi : i < 32
  · obtain ⟨n, hn⟩ := hc' i hi
    obtain rfl : Value.int .u8 n = u := Option.some.inj (hn.symm.trans hu)
    unfold recA at hx
    rw [List.getElem?_append_left (by simp; exact hi)] at hx
    simp [hi] at hx
    subst hx
    rw [hn]; exact .int _ _
  · unfold recA at hx
    rw [List.getElem?_append_right (by simp; omega)] at hx
    simp only [List.length_map, List.length_range] at hx
    obtain ⟨k, rfl⟩ : ∃ k, i = 32 + k := ⟨i - 32, by omega⟩
    rw [Nat.add_sub_cancel_left] at hx
    match k, hx, hu with
    | 0, hx, hu => obtain rfl := Option.some.inj (h32.symm.trans hu); obtain rfl := Option.some.inj hx; exact .int _ _
    | 1, hx, hu => obtain rfl := Option.some.inj (h33.symm.trans hu); obtain rfl := Option.some.inj hx; exact .int _ _
    | 2, hx, hu => obtain rfl := Option.some.inj (h34.symm.trans hu); obtain rfl := Option.some.inj hx; exact hg
    | 3, hx, hu => obtain rfl := Option.some.inj (h35.symm.trans hu); obtain rfl := Option.some.inj hx; exact .int _ _
    | 4, hx, hu => obtain rfl := Option.some.inj (h36.symm.trans hu); obtain rfl := Option.some.inj hx; exact .int _ _
    | 5, hx, hu => obtain rfl := Option.some.inj (h37.symm.trans hu); obtain rfl := Option.some.inj hx; exact hh
    | 6, hx, hu => obtain rfl := Option.some.inj (h38.symm.trans hu); obtain rfl := Option.some.inj hx; exact .bool _
    | k + 7, hx, hu => simp at hx
/-- An article of the reference that came in. -/
theorem open_rec {v : Value} {d : DataW H} {ps : List MemPlace} {base : Nat} (hval : Value.okWide Try.prog W .any base 27 v) (hd : DataW.Trod enc Try.prog W 0 (fun _ => true) true 27 v d ps) :
    ∃ (f h : Nat → Int) (date arr byt ctl : Int) (gl gc hl hc : Nat) (wd : Bool) (cs0 : List AV) (e0 e1 : TypeId) (m : List (Option Pl)), gl ≤ gc ∧ gc ≤ maxLen ∧ hl ≤ hc ∧ hc ≤ maxLen ∧ Strs cs0 gl ∧ (∀ n, lowL n cs0 = true) ∧
      Rel Try.prog W m [.row cs0 e0 false, .row (holdRow h hc) e1 false] W ∧ VRel m (.agg (recA f date arr byt ctl gl gc hl hc wd)) v := by
  obtain ⟨cs, rfl, hsz, hk⟩ := open_agg Try.underlying27 hval hd
  rw [c27] at hsz
  obtain ⟨k32, k33, k34, k35, k36, k37, k38⟩ := k27b
  obtain ⟨_, g32, date, rfl, _⟩ := hk _ _ _ k32
  obtain ⟨_, g33, arr, rfl, _⟩ := hk _ _ _ k33
  obtain ⟨gv, g34, hgv⟩ := hk _ _ _ k34
  obtain ⟨_, g35, byt, rfl, _⟩ := hk _ _ _ k35
  obtain ⟨_, g36, ctl, rfl, _⟩ := hk _ _ _ k36
  obtain ⟨hv, g37, hhv⟩ := hk _ _ _ k37
  obtain ⟨_, g38, wd, rfl⟩ := hk _ _ _ k38
  obtain ⟨gl, gc, cs0, e0, a1, a2, a3, a4, a5⟩ := put_strs hgv
  obtain ⟨hl, hc, h, e1, b1, b2, b3⟩ := put_ids hhv
  obtain ⟨p0, r0, v0⟩ := a5 [] [] (Rel.nil _ _)
  obtain ⟨p1, r1, v1⟩ := b3 _ _ r0
  refine ⟨_, h, date, arr, byt, ctl, gl, gc, hl, hc, wd, cs0, e0, e1, _, a1, a2, b1, b2, a3, a4, r1, recA_rel hsz (fun j hj => ?_) g32 g33 g34 g35 g36 g37 g38 (v0 [p1]) (by have := v1 []; rw [List.append_nil] at this; exact this)⟩
  obtain ⟨c, hc1, n, rfl, _⟩ := hk 20 j _ (kall k27 j hj)
  exact ⟨n, hc1⟩
theorem held_main {base : Nat} {args : Array Value} {ds : List (DataW H)} {p : List MemPlace} (hval : ∀ (j : Nat) t v, (#[27] : Array TypeId)[j]? = some t → args[j]? = some v → Value.okWide Try.prog W .any base t v)
    (hA : DataW.TrodAll enc Try.prog W 0 (fun _ => true) true [27] args.toList ds p) : Calls Try.prog 5 args W fun e w' => e = .returned (.bool true) ∧ Below W.heap.size W w' := by
  obtain ⟨v0, d0, rfl, rfl, h0⟩ := trodAll_one hA
  obtain ⟨f, h, date, arr, byt, ctl, gl, gc, hl, hc, wd, cs0, e0, e1, m, a1, a2, b1, b2, hs, _, hr, hv⟩ := open_rec (hval 0 27 v0 rfl rfl) h0
  have hM : (maxLen : Int) ≤ 9223372036854775807 := by unfold maxLen; omega
  refine SCall.law (P := Try.prog) (f := 5) (args := [.agg (recA f date arr byt ctl gl gc hl hc wd)]) ?_ hr (VsRel.push (VsRel.nil _) hv)
  cases hl with
  | zero => exact held_law0 known_pure (by omega) hs
  | succ n => exact held_law known_pure b1 (by omega) (by omega) (by omega) hs
end
theorem lifted (os : Os) (started : os.Started) (H : Type) (enc : TypeId × Value → H) :
    ReturnsInHanded {} Try.checked os 5 .any (Rows.expiryHeldSpec.pre6 enc Try.prog Try.f5 [] false) (Rows.expiryHeldSpec.post enc Try.prog Try.f5 false true false false) := by
  refine returnsInHanded_of_change (C := Try.checked) own started (by kernel_rfl) Try.func5
    (ChangeSpec.witness6 (enc := enc) (C := Try.checked) false ⟨#[], #[.agg ((Array.replicate 32 (.int .u8 0)) ++ #[.int .i64 0, .int .i64 0, .slice none 0 0, .int .i64 0, .int .i64 0, .slice none 0 0, .bool false])], []⟩ 8 (by kernel_rfl) (by kernel_rfl) (by kernel_rfl) (by kernel_rfl)) ?_
  intro W base args ds gs before hval0 hW _ _
  have hval : ∀ (j : Nat) t v, Try.f5.params[j]? = some t → args[j]? = some v → Value.okWide Try.prog W .any base t v := hval0
  have hW' := hW
  obtain ⟨p, q, hA0, hV, rfl, _, _⟩ := hW
  have hA : DataW.TrodAll enc Try.prog W 0 (fun _ => true) true Try.f5.params.toList args.toList ds p := hA0
  rw [Try.params5] at hA hval
  obtain ⟨rfl, rfl⟩ := trodVars_none hV
  refine (held_main hval hA).mono fun e W' ⟨he, hb⟩ => ?_
  subst he
  obtain ⟨d0, rfl⟩ : ∃ d0, ds = [d0] := by
    obtain ⟨v0, d0, _, rfl, _⟩ := trodAll_one hA
    exact ⟨d0, rfl⟩
  exact ⟨_, rfl, law_post laidOut (by rw [Try.params5]; intro t ht; simp at ht; subst ht; exact ⟨by kernel_rfl, of_decide_eq_true (by kernel_rfl)⟩) (by kernel_rfl) u4 rfl rfl rfl rfl hW' hb⟩
theorem held_holds : Rows.ExpiryHeldSaid :=
  OpenClaim.holds_of_wide 5 Try.f5 rfl rfl rfl rfl rfl rfl rfl ⟨rfl, rfl, rfl, rfl, rfl⟩ rfl rfl rfl rfl rfl (by kernel_rfl) Try.func5 (by kernel_rfl)
    (of_decide_eq_true (by kernel_rfl)) (by unfold Func.isWrapper; first | (rw [if_pos (by decide +kernel)]; kernel_rfl) | (rw [if_neg (by decide +kernel)]; exact ⟨rfl, rfl⟩))
    (fun os started H enc _ => lifted os started H enc)
#print axioms held_holds
end Go.Proofs.Ythbdelhaedbgcaa
