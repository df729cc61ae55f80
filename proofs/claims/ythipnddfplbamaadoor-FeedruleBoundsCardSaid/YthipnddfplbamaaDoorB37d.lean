/- bulletinlaw37.FeedruleBounds returns true for every limit and every list of charges, and its arguments read afterwards as before; conditions: the listed tables of unicode/utf8 start as the program's text lays them. -/
import Derived.Test.YthipnddfplbamaaDoorB37c
import Derived.Test.YthipnddfplbamaaDoorK37b
import Derived.Test.YthipnddfplbamaaDoorAm34
import Derived.Test.YthipnddfplbamaaDoorRows
import Derived.Test.YthipnddfplbamaaDoorTie
import Derived.Test.YthipnddfplbamaaDoorCards
import Derived.SevenTiedAt
import Derived.Lay
set_option linter.unusedVariables false
set_option maxRecDepth 100000
namespace Go.Proofs.YthipnddfplbamaaDoor
open Go Go.Am Go.RowKit Go.ChangeShapes Go.WideShapes Go.ChangeAt

theorem own : ownKnob Tryd.prog.godebug = none := by kernel_rfl
theorem laidOut : laidOutB Tryd.prog = true := by kernel_rfl
abbrev laid0 : List (String × DataW Unit) := [("unicode/utf8.acceptRanges", Rows.laid_unicode_utf8_acceptRanges), ("unicode/utf8.first", Rows.laid_unicode_utf8_first)]
theorem low_avOf (n : Nat) (u : Value) : low n (avOf u) = true := by cases u <;> rfl
theorem low_inRow (w : World) (a : Addr) (k n : Nat) : lowL n (inRow w a k) = true := by
  unfold inRow
  generalize List.range k = l
  induction l with
  | nil => rfl
  | cons x r ih => simp only [List.map_cons, lowL, low_avOf, ih, Bool.and_self]
section
variable {H : Type} {enc : TypeId × Value → H}
theorem u47 : Tryd.prog.underlying 47 = some (.slice 54) := by kernel_rfl
theorem u4 : Tryd.prog.underlying 4 = some .bool := by kernel_rfl
theorem c54 : Tryd.prog.cellsOf 54 = 2 := by kernel_rfl
theorem k54 : kindAt Tryd.prog 20 54 0 = some (.int .i64) ∧ kindAt Tryd.prog 20 54 1 = some (.int .i64) := ⟨by kernel_rfl, by kernel_rfl⟩
theorem avOf_int {P : Program} {w : World} {k : IntKind} {c : Value} (h : OkK enc P w (.int k) c) : ∃ n, avOf c = .int k n := by
  obtain ⟨n, rfl, _⟩ := h
  exact ⟨n, rfl⟩
theorem bounds_main {W : World} {base : Nat} {args : Array Value} {ds : List (DataW H)} {p : List MemPlace} (hval : ∀ (j : Nat) t v, (#[3, 47] : Array TypeId)[j]? = some t → args[j]? = some v → Value.okWide Tryd.prog W .any base t v)
    (hA : DataW.TrodAll enc Tryd.prog W 0 (fun _ => true) true [3, 47] args.toList ds p) : Calls Tryd.prog 5 args W fun e w' => e = .returned (.bool true) ∧ Below W.heap.size W w' := by
  obtain ⟨v0, v1, d0, d1, p0, p1, rfl, rfl, _, h0, ⟨f1, h1⟩⟩ := trodAll_two hA
  obtain ⟨lim, rfl, _, _, _⟩ := open_int intTy (hval 0 3 v0 rfl rfl) h0
  obtain ⟨a, len, cap, rfl⟩ := okWide_slice u47 (hval 1 47 v1 rfl rfl)
  obtain ⟨_, e1, k1⟩ := trod_slice u47 h1
  obtain rfl : _ = Value.slice a len cap := by have := e1; simp [Value.cells] at this; exact this.symm
  have k2 := k1
  rcases k1 with h | ⟨a, len', cap', h, hl, hm, _⟩
  · simp only [Value.slice.injEq] at h
    obtain ⟨rfl, rfl, rfl⟩ := h
    refine (bounds_nil (lim := lim) known_pure).law (Rel.nil _ _) ?_
    exact (VsRel.push (VsRel.push (VsRel.nil []) (.int .i64 lim)) (.slcNil 0 0 true))
  · simp only [Value.slice.injEq] at h
    obtain ⟨rfl, rfl, rfl⟩ := h
    have hlen : (len : Int) ≤ 9223372036854775807 := by unfold maxLen at hm; omega
    by_cases hc : 0 < cap
    · obtain ⟨hs, cc, te, fr, hb, hle⟩ := k2.block (by rw [c54]; decide) hc
      rw [c54] at hle
      have hr : Rel Tryd.prog W ([] ++ [some ⟨a.block, a.off, 0⟩]) ([] ++ [.row (inRow W a (cap * 2)) te false]) W := rel_inRow (Rel.nil _ _) hs hb hle
      have hcells : Cells (inRow W a (cap * 2)) len := by
        intro k hk
        obtain ⟨n, hn⟩ := avOf_int (k2.kind hs (by omega : k < cap) (j := 0) (by rw [c54]; decide) k54.1)
        obtain ⟨now, hnow⟩ := avOf_int (k2.kind hs (by omega : k < cap) (j := 1) (by rw [c54]; decide) k54.2)
        rw [c54] at hn hnow
        refine ⟨n, now, ?_, ?_⟩
        · rw [inRow_get (by omega), show 0 + k * 2 + 0 = k * 2 + 0 by omega, hn]
        · rw [inRow_get (by omega), show 0 + k * 2 + 1 = k * 2 + 1 by omega, hnow]
      refine (bounds_call known_pure (e0 := te) (len := len) (cap := cap) (lim := lim) hlen hcells (low_inRow _ _ _ _)).law hr ?_
      have hsl : VRel ([] ++ [some ⟨a.block, a.off, 0⟩]) (.slc (some (0, 0)) len cap true) (.slice (some a) len cap) := by
        have := VRel.slc (m := [] ++ [some ⟨a.block, a.off, 0⟩]) (k := 0) (o := 0) (p := ⟨a.block, a.off, 0⟩) len cap true rfl
        cases a; simp only at hs; subst hs
        exact this
      exact VsRel.push (VsRel.push (VsRel.nil _) (.int .i64 lim)) hsl
    · obtain rfl : cap = 0 := by omega
      obtain rfl : len = 0 := by omega
      have hr : Rel Tryd.prog W ([] ++ [none]) ([] ++ [.row [] 0 false]) W := rel_ghost (Rel.nil _ _) _
      refine (bounds_call known_pure (e0 := 0) (cs := []) (len := 0) (cap := 0) (lim := lim) (by decide) (fun k hk => by omega) rfl).law hr ?_
      exact VsRel.push (VsRel.push (VsRel.nil _) (.int .i64 lim)) (.slcEmpty 0 0 true a)
end
theorem lifted (os : Os) (started : os.Started) (H : Type) (enc : TypeId × Value → H) :
    ReturnsInHanded {} Tryd.checked os 5 .any (fun w args => (Rows.feedruleBoundsSpec.pre enc Tryd.prog Tryd.f5 [] false w args ∧ laidMetH Tryd.prog laid0 w) ∧ sizedMet enc Tryd.prog Tryd.f5 (OpenSpec.ofChange Rows.feedruleBoundsSpec) false w args)
      (Rows.feedruleBoundsSpec.post enc Tryd.prog Tryd.f5 false true false false) := by
  refine returnsInHanded_of_change_and (C := Tryd.checked) (X := fun w _ => laidMetH Tryd.prog laid0 w) (fun _ _ _ hh h => h.of_heap hh) own started (by kernel_rfl) Tryd.func5
    (ChangeSpec.witness_shaped (enc := enc) (C := Tryd.checked) (os := os) (X := fun w _ => laidMetH Tryd.prog laid0 w) false (World.laidAll Tryd.prog os laid0) #[.int .i64 0, .slice none 0 0] 8 (World.laidAll_os _ _ _)
      (World.shaped_of_ZipB (by kernel_rfl) (by kernel_rfl)) (by kernel_rfl) (by kernel_rfl) (by kernel_rfl)
      (by rw [MakeChecks.laidMetH_plain _ _ _ (by kernel_rfl)]; exact laidMet_laidAll _ (by kernel_rfl) (by kernel_rfl))) ?_
  intro W base args ds gs before hval0 hW _ _ hL _
  have hval : ∀ (j : Nat) t v, Tryd.f5.params[j]? = some t → args[j]? = some v → Value.okWide Tryd.prog W .any base t v := hval0
  have hW' := hW
  obtain ⟨p, q, hA0, hV, rfl, _, _⟩ := hW
  have hA : DataW.TrodAll enc Tryd.prog W 0 (fun _ => true) true Tryd.f5.params.toList args.toList ds p := hA0
  rw [Tryd.params5] at hA hval
  obtain ⟨rfl, rfl⟩ := trodVars_none hV
  refine (bounds_main hval hA).mono fun e W' ⟨he, hb⟩ => ?_
  subst he
  obtain ⟨d0, d1, rfl⟩ : ∃ d0 d1, ds = [d0, d1] := by
    obtain ⟨v0, v1, d0, d1, p0, p1, _, rfl, _⟩ := trodAll_two hA
    exact ⟨d0, d1, rfl⟩
  exact ⟨_, rfl, law_post laidOut (by rw [Tryd.params5]; intro t ht; simp at ht; rcases ht with rfl | rfl <;> exact ⟨by kernel_rfl, of_decide_eq_true (by kernel_rfl)⟩) (by kernel_rfl) u4 rfl rfl rfl rfl hW' hb⟩
theorem row_holds : Rows.FeedruleBoundsSaid :=
  OpenClaim.holds_of_wide 5 Tryd.f5 rfl rfl rfl rfl rfl rfl rfl ⟨rfl, rfl, rfl, rfl, rfl⟩ rfl rfl rfl rfl rfl (by kernel_rfl) Tryd.func5 (by kernel_rfl)
    (of_decide_eq_true (by kernel_rfl)) (by unfold Func.isWrapper; first | (rw [if_pos (by decide +kernel)]; kernel_rfl) | (rw [if_neg (by decide +kernel)]; exact ⟨rfl, rfl⟩))
    (fun os started H enc _ => lifted os started H enc)
theorem card_holds : Rows.FeedruleBoundsCardSaid :=
  Claim7.holds_tied_plain_at .later [] [.data, .pinned] true (true, "28ce18b1e0fbd8677b61b0df9466b8d31125d2bf3b481793148e218eb5fa46d5") false row_holds (fun _ h => by cases h) (by kernel_rfl) (fun _ h => by cases h) feedruleBounds_row_tie rfl ⟨rfl, rfl⟩ (by kernel_rfl) rfl
    (fun f fn hf hfn => by
      obtain rfl : f = 5 := Option.some.inj ((show Tryd.prog.funcNamed "bulletin/bulletinlaw37.FeedruleBounds" = some 5 by kernel_rfl).symm.trans hf) |>.symm
      obtain rfl : fn = Tryd.f5 := (Option.some.inj (Tryd.func5.symm.trans hfn)).symm
      exact ⟨by kernel_rfl, fun j t ht => by
        rw [Tryd.params5] at ht
        have hm : t ∈ [3, 47] := by simpa using Array.mem_of_getElem? ht
        have hall : ([3, 47].all fun u => !Tryd.prog.wantsStandIn u) = true := by kernel_rfl
        exact (show Tryd.prog.wantsStandIn t = false by simpa using List.all_eq_true.1 hall t hm)⟩)
    (by kernel_rfl)
#print axioms card_holds
end Go.Proofs.YthipnddfplbamaaDoor
