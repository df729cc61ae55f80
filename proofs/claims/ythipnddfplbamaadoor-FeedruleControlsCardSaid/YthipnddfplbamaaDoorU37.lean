/- bulletinlaw37.FeedruleControls returns true for every rule and every item, and its arguments read afterwards as before; conditions: the listed tables of unicode/utf8 start as the program's text lays them. -/
import Derived.Test.YthipnddfplbamaaDoorT37
import Derived.Test.YthipnddfplbamaaDoorK37
import Derived.Test.YthipnddfplbamaaDoorAm38
import Derived.Test.YthipnddfplbamaaDoorAm34
import Derived.ProofKit
import Derived.Test.YthipnddfplbamaaDoorRows
import Derived.Test.YthipnddfplbamaaDoorTie
import Derived.Test.YthipnddfplbamaaDoorCards
import Derived.SevenTiedAt
import Derived.Lay
set_option linter.unusedVariables false
set_option linter.unusedSimpArgs false
set_option maxRecDepth 100000
namespace Go.Proofs.YthipnddfplbamaaDoor
open Go Go.Am Go.RowKit Go.ChangeShapes Go.WideShapes Go.ChangeAt
theorem own : ownKnob Tryd.prog.godebug = none := by kernel_rfl
theorem laidOut : laidOutB Tryd.prog = true := by kernel_rfl
theorem u4 : Tryd.prog.underlying 4 = some .bool := by kernel_rfl
theorem c9 : Tryd.prog.cellsOf 9 = 1 := by kernel_rfl
theorem c24 : Tryd.prog.cellsOf 24 = 5 := by kernel_rfl
theorem c27 : Tryd.prog.cellsOf 27 = 38 := by kernel_rfl
theorem k9 : kindAt Tryd.prog 20 9 0 = some .str := by kernel_rfl
theorem k24 : kindAt Tryd.prog 20 24 0 = some .str ∧ kindAt Tryd.prog 20 24 1 = some .str ∧ kindAt Tryd.prog 20 24 2 = some (.int .i64) ∧ kindAt Tryd.prog 20 24 3 = some (.int .i64) ∧ kindAt Tryd.prog 20 24 4 = some (.slc 9) := ⟨by kernel_rfl, by kernel_rfl, by kernel_rfl, by kernel_rfl, by kernel_rfl⟩
theorem k27 : ((List.range 32).all fun j => match kindAt Tryd.prog 20 27 j with | some (.int .u8) => true | _ => false) = true := by kernel_rfl
theorem k27b : kindAt Tryd.prog 20 27 32 = some (.slc 9) ∧ kindAt Tryd.prog 20 27 33 = some .str ∧ kindAt Tryd.prog 20 27 34 = some (.int .i64) ∧ kindAt Tryd.prog 20 27 35 = some .bool ∧ kindAt Tryd.prog 20 27 36 = some .str ∧ kindAt Tryd.prog 20 27 37 = some (.int .i64) :=
  ⟨by kernel_rfl, by kernel_rfl, by kernel_rfl, by kernel_rfl, by kernel_rfl, by kernel_rfl⟩
theorem kall {n : Nat} {t : TypeId} (h : ((List.range n).all fun j => match kindAt Tryd.prog 20 t j with | some (.int .u8) => true | _ => false) = true) (j : Nat) (hj : j < n) : kindAt Tryd.prog 20 t j = some (.int .u8) := by
  have := List.all_eq_true.1 h j (List.mem_range.2 hj)
  split at this
  · assumption
  · cases this
section
variable {H : Type} {enc : TypeId × Value → H} {W : World}
theorem maxL : maxLen ≤ 9223372036854775807 := by unfold maxLen; omega
/-- A slice of strings that came in: a row of strings. -/
theorem put_strs {c : Value} (h : InSlice enc Tryd.prog W 9 c) : ∃ (len cap : Nat) (ws : List (List UInt8)) (te : TypeId), len ≤ cap ∧ cap ≤ maxLen ∧ ws.length = cap ∧ (∀ x ∈ ws, x.length ≤ 9223372036854775807) ∧
    ∀ (m : List (Option Pl)) (A : List AO), Rel Tryd.prog W m A W → ∃ pl, Rel Tryd.prog W (m ++ [pl]) (A ++ [.row (wrow ws) te false]) W ∧ ∀ m', VRel (m ++ [pl] ++ m') (.slc (some (m.length, 0)) len cap true) c := by
  obtain ⟨len, cap, cs, te, h1, h2, h3, h4, h5, h6⟩ := h.put (by rw [c9]; decide)
  rw [c9, Nat.mul_one] at h3
  have hstr : ∀ i, i < cap → ∃ s : List UInt8, cs[i]? = some (.str s) ∧ s.length ≤ 9223372036854775807 := fun i hi => by
    obtain ⟨u, hu, s, rfl, hs⟩ := h4 i 0 20 _ hi (by rw [c9]; decide) k9
    rw [c9, Nat.mul_one, Nat.add_zero] at hu
    exact ⟨_, hu, Nat.le_trans hs maxL⟩
  obtain ⟨ws, hws⟩ : ∃ ws : List (List UInt8), ws = cs.map fun x => match x with | .str s => s | _ => [] := ⟨_, rfl⟩
  have hl : ws.length = cap := by rw [hws]; simp [h3]
  have hget : ∀ i, i < cap → ∃ s, ws[i]? = some s ∧ cs[i]? = some (.str s) ∧ s.length ≤ 9223372036854775807 := fun i hi => by
    obtain ⟨s, h, hs⟩ := hstr i hi
    exact ⟨s, by rw [hws, List.getElem?_map, h]; rfl, h, hs⟩
  have he : cs = wrow ws := by
    apply List.ext_getElem?
    intro i
    by_cases hi : i < cap
    · obtain ⟨s, h, h', _⟩ := hget i hi
      rw [h', wrow, List.getElem?_map, h]; rfl
    · rw [List.getElem?_eq_none (by omega), List.getElem?_eq_none (by rw [len_wrow]; omega)]
  refine ⟨len, cap, ws, te, h1, h2, hl, fun x hx => ?_, by rw [← he]; exact h6⟩
  obtain ⟨i, hi, hix⟩ := List.getElem_of_mem hx
  obtain ⟨s, h, _, hs⟩ := hget i (by omega)
  rw [List.getElem?_eq_getElem hi, hix] at h
  cases h; exact hs
/-- A rule of the reference that came in. -/
theorem open_rule {v : Value} {d : DataW H} {ps : List MemPlace} {base : Nat} (hval : Value.okWide Tryd.prog W .any base 24 v) (hd : DataW.Trod enc Tryd.prog W 0 (fun _ => true) true 24 v d ps) :
    ∃ (nb pt : List UInt8) (mb dl : Int) (n c : Nat) (ws : List (List UInt8)) (te : TypeId), n ≤ c ∧ c ≤ maxLen ∧ ws.length = c ∧ (∀ x ∈ ws, x.length ≤ 9223372036854775807) ∧
      ∀ (m : List (Option Pl)) (A : List AO), Rel Tryd.prog W m A W → ∃ pl, Rel Tryd.prog W (m ++ [pl]) (A ++ [.row (wrow ws) te false]) W ∧ ∀ m', VRel (m ++ [pl] ++ m') (.agg [.str nb, .str pt, .int .i64 mb, .int .i64 dl, .slc (some (m.length, 0)) n c true]) v := by
  obtain ⟨cs, rfl, hsz, hk⟩ := open_agg Tryd.underlying24 hval hd
  rw [c24] at hsz
  obtain ⟨k0, k1, k2, k3, k4⟩ := k24
  obtain ⟨_, g0, nb, rfl, _⟩ := hk _ _ _ k0
  obtain ⟨_, g1, pt, rfl, _⟩ := hk _ _ _ k1
  obtain ⟨_, g2, mb, rfl, _⟩ := hk _ _ _ k2
  obtain ⟨_, g3, dl, rfl, _⟩ := hk _ _ _ k3
  obtain ⟨sv, g4, hsv⟩ := hk _ _ _ k4
  obtain ⟨n, c, ws, te, a1, a2, a3, a4, a5⟩ := put_strs hsv
  refine ⟨nb.data.toList, pt.data.toList, mb, dl, n, c, ws, te, a1, a2, a3, a4, fun m A hr => ?_⟩
  obtain ⟨pl, r, v⟩ := a5 m A hr
  refine ⟨pl, r, fun m' => .agg (by rw [hsz]; rfl) fun i x u hx hu => ?_⟩
  match i, hx, hu with
  | 0, hx, hu => obtain rfl := Option.some.inj (g0.symm.trans hu); obtain rfl := Option.some.inj hx; exact avOf_rel _ (.string nb)
  | 1, hx, hu => obtain rfl := Option.some.inj (g1.symm.trans hu); obtain rfl := Option.some.inj hx; exact avOf_rel _ (.string pt)
  | 2, hx, hu => obtain rfl := Option.some.inj (g2.symm.trans hu); obtain rfl := Option.some.inj hx; exact .int _ _
  | 3, hx, hu => obtain rfl := Option.some.inj (g3.symm.trans hu); obtain rfl := Option.some.inj hx; exact .int _ _
  | 4, hx, hu => obtain rfl := Option.some.inj (g4.symm.trans hu); obtain rfl := Option.some.inj hx; exact v m'
  | k + 5, hx, hu => simp at hx
theorem idr_get (f : Nat → Int) (l : List AV) (i : Nat) : (idr f l)[i]? = if i < 32 then some (.int .u8 (f i)) else l[i - 32]? := by
  unfold idr
  by_cases h : i < 32
  · rw [if_pos h, List.getElem?_append_left (by simp; exact h)]; simp [h]
  · rw [if_neg h, List.getElem?_append_right (by simp; omega)]; simp
theorem idr_length (f : Nat → Int) (l : List AV) : (idr f l).length = 32 + l.length := by simp [idr]
/-- An item of the reference that came in. -/
theorem open_item {v : Value} {d : DataW H} {ps : List MemPlace} {base : Nat} (hval : Value.okWide Tryd.prog W .any base 27 v) (hd : DataW.Trod enc Tryd.prog W 0 (fun _ => true) true 27 v d ps) :
    ∃ (f : Nat → Int) (ds : List UInt8) (byt : Int) (ctl : Bool) (frm : List UInt8) (arr : Int) (n c : Nat) (ws : List (List UInt8)) (te : TypeId), n ≤ c ∧ c ≤ maxLen ∧ ws.length = c ∧ (∀ x ∈ ws, x.length ≤ 9223372036854775807) ∧
      ∀ (m : List (Option Pl)) (A : List AO), Rel Tryd.prog W m A W → ∃ pl, Rel Tryd.prog W (m ++ [pl]) (A ++ [.row (wrow ws) te false]) W ∧ ∀ m', VRel (m ++ [pl] ++ m') (.agg (itC f (.slc (some (m.length, 0)) n c true) ds byt ctl frm arr)) v := by
  obtain ⟨cs, rfl, hsz, hk⟩ := open_agg Tryd.underlying27 hval hd
  rw [c27] at hsz
  obtain ⟨k0, k1, k2, k3, k4, k5⟩ := k27b
  obtain ⟨sv, g0, hsv⟩ := hk _ _ _ k0
  obtain ⟨_, g1, ds, rfl, _⟩ := hk _ _ _ k1
  obtain ⟨_, g2, byt, rfl, _⟩ := hk _ _ _ k2
  obtain ⟨_, g3, ctl, rfl⟩ := hk _ _ _ k3
  obtain ⟨_, g4, frm, rfl, _⟩ := hk _ _ _ k4
  obtain ⟨_, g5, arr, rfl, _⟩ := hk _ _ _ k5
  obtain ⟨n, c, ws, te, a1, a2, a3, a4, a5⟩ := put_strs hsv
  refine ⟨fun j => match cs[j]? with | some (.int _ n) => n | _ => 0, ds.data.toList, byt, ctl, frm.data.toList, arr, n, c, ws, te, a1, a2, a3, a4, fun m A hr => ?_⟩
  obtain ⟨pl, r, v⟩ := a5 m A hr
  refine ⟨pl, r, fun m' => .agg (by rw [hsz, itC, idr_length]; rfl) fun i x u hx hu => ?_⟩
  rw [itC, idr_get] at hx
  by_cases hi : i < 32
  · rw [if_pos hi] at hx
    obtain ⟨c, hc1, n, rfl, _⟩ := hk 20 i _ (kall k27 i hi)
    obtain rfl := Option.some.inj (hc1.symm.trans hu)
    simp only [hc1, Option.some.injEq] at hx
    subst hx
    exact .int _ _
  · rw [if_neg hi] at hx
    obtain ⟨k, rfl⟩ : ∃ k, i = 32 + k := ⟨i - 32, by omega⟩
    rw [Nat.add_sub_cancel_left] at hx
    match k, hx, hu with
    | 0, hx, hu => obtain rfl := Option.some.inj (g0.symm.trans hu); obtain rfl := Option.some.inj hx; exact v m'
    | 1, hx, hu => obtain rfl := Option.some.inj (g1.symm.trans hu); obtain rfl := Option.some.inj hx; exact avOf_rel _ (.string ds)
    | 2, hx, hu => obtain rfl := Option.some.inj (g2.symm.trans hu); obtain rfl := Option.some.inj hx; exact .int _ _
    | 3, hx, hu => obtain rfl := Option.some.inj (g3.symm.trans hu); obtain rfl := Option.some.inj hx; exact .bool _
    | 4, hx, hu => obtain rfl := Option.some.inj (g4.symm.trans hu); obtain rfl := Option.some.inj hx; exact avOf_rel _ (.string frm)
    | 5, hx, hu => obtain rfl := Option.some.inj (g5.symm.trans hu); obtain rfl := Option.some.inj hx; exact .int _ _
    | k + 6, hx, hu => simp at hx
end
end Go.Proofs.YthipnddfplbamaaDoor
set_option linter.unusedVariables false
set_option maxRecDepth 100000
namespace Go.Proofs.YthipnddfplbamaaDoor
open Go Go.Am Go.RowKit Go.ChangeShapes Go.WideShapes Go.ChangeAt
abbrev laid0 : List (String × DataW Unit) := [("unicode/utf8.acceptRanges", Rows.laid_unicode_utf8_acceptRanges), ("unicode/utf8.first", Rows.laid_unicode_utf8_first)]
section
variable {H : Type} {enc : TypeId × Value → H}
theorem controls_main {W : World} {base : Nat} {args : Array Value} {ds : List (DataW H)} {p : List MemPlace} (hval : ∀ (j : Nat) t v, (#[24, 27] : Array TypeId)[j]? = some t → args[j]? = some v → Value.okWide Tryd.prog W .any base t v)
    (hA : DataW.TrodAll enc Tryd.prog W 0 (fun _ => true) true [24, 27] args.toList ds p) : Calls Tryd.prog 4 args W fun e w' => e = .returned (.bool true) ∧ Below W.heap.size W w' := by
  obtain ⟨v0, v1, d0, d1, p0, p1, rfl, rfl, _, h0, h1⟩ := trodAll_two hA
  obtain ⟨nb, pt, mb, dl, n, c, ws, te, a1, a2, a3, a4, a5⟩ := open_rule (hval 0 24 v0 rfl rfl) h0
  obtain ⟨f, dst, byt, ctl, frm, arr, G, gc, gs, ge, b1, b2, b3, b4, b5⟩ := open_item (hval 1 27 v1 rfl rfl) h1
  obtain ⟨p0, r0, g0⟩ := a5 [] [] (Rel.nil _ _)
  obtain ⟨p1, r1, g1⟩ := b5 _ _ r0
  refine (controls_law known_pure (nb := nb) (pt := pt) (mb := mb) (dl := dl) (us := ws) (gs := gs) (n := n) (c := c) (e0 := te) (G := G) (gc := gc) (e1 := ge) (f := f) (ds := dst) (byt := byt) (ctl := ctl) (frm := frm) (arr := arr) (by omega) (by omega) b1 a4).law r1 ?_
  exact VsRel.push (VsRel.push (VsRel.nil _) (g0 [p1])) (by have := g1 []; rw [List.append_nil] at this; exact this)
end
theorem lifted (os : Os) (started : os.Started) (H : Type) (enc : TypeId × Value → H) :
    ReturnsInHanded {} Tryd.checked os 4 .any (fun w args => (Rows.feedruleControlsSpec.pre enc Tryd.prog Tryd.f4 [] false w args ∧ laidMetH Tryd.prog laid0 w) ∧ sizedMet enc Tryd.prog Tryd.f4 (OpenSpec.ofChange Rows.feedruleControlsSpec) false w args)
      (Rows.feedruleControlsSpec.post enc Tryd.prog Tryd.f4 false true false false) := by
  refine returnsInHanded_of_change_and (C := Tryd.checked) (X := fun w _ => laidMetH Tryd.prog laid0 w) (fun _ _ _ hh h => h.of_heap hh) own started (by kernel_rfl) Tryd.func4
    (ChangeSpec.witness_shaped (enc := enc) (C := Tryd.checked) (os := os) (X := fun w _ => laidMetH Tryd.prog laid0 w) false (World.laidAll Tryd.prog os laid0) #[.agg #[.string ⟨#[]⟩, .string ⟨#[]⟩, .int .i64 0, .int .i64 0, .slice none 0 0], .agg ((Array.replicate 32 (.int .u8 0)) ++ #[.slice none 0 0, .string ⟨#[]⟩, .int .i64 0, .bool false, .string ⟨#[]⟩, .int .i64 0])] 8 (World.laidAll_os _ _ _)
      (World.shaped_of_ZipB (by kernel_rfl) (by kernel_rfl)) (by kernel_rfl) (by kernel_rfl) (by kernel_rfl)
      (by rw [MakeChecks.laidMetH_plain _ _ _ (by kernel_rfl)]; exact laidMet_laidAll _ (by kernel_rfl) (by kernel_rfl))) ?_
  intro W base args ds gs before hval0 hW _ _ hL _
  have hval : ∀ (j : Nat) t v, Tryd.f4.params[j]? = some t → args[j]? = some v → Value.okWide Tryd.prog W .any base t v := hval0
  have hW' := hW
  obtain ⟨p, q, hA0, hV, rfl, _, _⟩ := hW
  have hA : DataW.TrodAll enc Tryd.prog W 0 (fun _ => true) true Tryd.f4.params.toList args.toList ds p := hA0
  rw [Tryd.params4] at hA hval
  obtain ⟨rfl, rfl⟩ := trodVars_none hV
  refine (controls_main hval hA).mono fun e W' ⟨he, hb⟩ => ?_
  subst he
  obtain ⟨d0, d1, rfl⟩ : ∃ d0 d1, ds = [d0, d1] := by
    obtain ⟨v0, v1, d0, d1, p0, p1, _, rfl, _⟩ := trodAll_two hA
    exact ⟨d0, d1, rfl⟩
  exact ⟨_, rfl, law_post laidOut (by rw [Tryd.params4]; intro t ht; simp at ht; rcases ht with rfl | rfl <;> exact ⟨by kernel_rfl, of_decide_eq_true (by kernel_rfl)⟩) (by kernel_rfl) u4 rfl rfl rfl rfl hW' hb⟩
theorem row_holds : Rows.FeedruleControlsSaid :=
  OpenClaim.holds_of_wide 4 Tryd.f4 rfl rfl rfl rfl rfl rfl rfl ⟨rfl, rfl, rfl, rfl, rfl⟩ rfl rfl rfl rfl rfl (by kernel_rfl) Tryd.func4 (by kernel_rfl)
    (of_decide_eq_true (by kernel_rfl)) (by unfold Func.isWrapper; first | (rw [if_pos (by decide +kernel)]; kernel_rfl) | (rw [if_neg (by decide +kernel)]; exact ⟨rfl, rfl⟩))
    (fun os started H enc _ => lifted os started H enc)
theorem card_holds : Rows.FeedruleControlsCardSaid :=
  Claim7.holds_tied_plain_at .later [] [.data, .pinned] true (true, "28ce18b1e0fbd8677b61b0df9466b8d31125d2bf3b481793148e218eb5fa46d5") false row_holds (fun _ h => by cases h) (by kernel_rfl) (fun _ h => by cases h) feedruleControls_row_tie rfl ⟨rfl, rfl⟩ (by kernel_rfl) rfl
    (fun f fn hf hfn => by
      obtain rfl : f = 4 := Option.some.inj ((show Tryd.prog.funcNamed "bulletin/bulletinlaw37.FeedruleControls" = some 4 by kernel_rfl).symm.trans hf) |>.symm
      obtain rfl : fn = Tryd.f4 := (Option.some.inj (Tryd.func4.symm.trans hfn)).symm
      exact ⟨by kernel_rfl, fun j t ht => by
        rw [Tryd.params4] at ht
        have hm : t ∈ [24, 27] := by simpa using Array.mem_of_getElem? ht
        have hall : ([24, 27].all fun u => !Tryd.prog.wantsStandIn u) = true := by kernel_rfl
        exact (show Tryd.prog.wantsStandIn t = false by simpa using List.all_eq_true.1 hall t hm)⟩)
    (by kernel_rfl)
#print axioms card_holds
end Go.Proofs.YthipnddfplbamaaDoor
