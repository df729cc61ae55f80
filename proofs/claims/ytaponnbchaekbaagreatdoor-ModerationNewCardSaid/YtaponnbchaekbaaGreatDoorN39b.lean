/- bulletinlaw39.ModerationNew returns true for every room and every number of days, and its arguments read afterwards as before; conditions: the listed tables of unicode/utf8 start as the program's text lays them. -/
import Derived.Test.YtaponnbchaekbaaGreatDoorN39a
import Derived.Test.YtaponnbchaekbaaGreatDoorAm38
import Derived.Test.YtaponnbchaekbaaGreatDoorRows
import Derived.Test.YtaponnbchaekbaaGreatDoorTie
import Derived.Test.YtaponnbchaekbaaGreatDoorCards
import Derived.SevenTiedAt
import Derived.Lay
set_option linter.unusedVariables false
set_option maxRecDepth 100000
namespace Go.Proofs.YtaponnbchaekbaaGreatDoor
open Go Go.Am Go.RowKit Go.ChangeShapes Go.WideShapes Go.ChangeAt

theorem own : ownKnob Tryz.prog.godebug = none := by kernel_rfl
theorem laidOut : laidOutB Tryz.prog = true := by kernel_rfl
theorem u4 : Tryz.prog.underlying 4 = some .bool := by kernel_rfl
abbrev laidN : List (String × DataW Unit) := [("unicode/utf8.acceptRanges", Rows.laid_unicode_utf8_acceptRanges), ("unicode/utf8.first", Rows.laid_unicode_utf8_first)]
section
variable {H : Type} {enc : TypeId × Value → H}
theorem new_main {W : World} {base : Nat} {args : Array Value} {ds : List (DataW H)} {p : List MemPlace} (hval : ∀ (j : Nat) t v, (#[3, 3] : Array TypeId)[j]? = some t → args[j]? = some v → Value.okWide Tryz.prog W .any base t v)
    (hA : DataW.TrodAll enc Tryz.prog W 0 (fun _ => true) true [3, 3] args.toList ds p) : Calls Tryz.prog 3 args W fun e w' => e = .returned (.bool true) ∧ Below W.heap.size W w' := by
  obtain ⟨v0, v1, d0, d1, p0, p1, rfl, rfl, _, h0, h1⟩ := trodAll_two hA
  obtain ⟨room, rfl, _, _, _⟩ := open_int Tryz.underlying3 (hval 0 3 v0 rfl rfl) h0
  obtain ⟨days, rfl, _, _, _⟩ := open_int Tryz.underlying3 (hval 1 3 v1 rfl rfl) h1
  exact (new_law W room days).law (Rel.nil _ _) (VsRel.push (VsRel.push (VsRel.nil _) (.int .i64 room)) (.int .i64 days))
end
theorem lifted (os : Os) (started : os.Started) (H : Type) (enc : TypeId × Value → H) :
    ReturnsInHanded {} Tryz.checked os 3 .any (fun w args => (Rows.moderationNewSpec.pre enc Tryz.prog Tryz.f3 [] false w args ∧ laidMetH Tryz.prog laidN w) ∧ sizedMet enc Tryz.prog Tryz.f3 (OpenSpec.ofChange Rows.moderationNewSpec) false w args)
      (Rows.moderationNewSpec.post enc Tryz.prog Tryz.f3 false true false false) := by
  refine returnsInHanded_of_change_and (C := Tryz.checked) (X := fun w _ => laidMetH Tryz.prog laidN w) (fun _ _ _ hh h => h.of_heap hh) own started (by kernel_rfl) Tryz.func3
    (ChangeSpec.witness_shaped (enc := enc) (C := Tryz.checked) (os := os) (X := fun w _ => laidMetH Tryz.prog laidN w) false (World.laidAll Tryz.prog os laidN) #[.int .i64 0, .int .i64 0] 8 (World.laidAll_os _ _ _)
      (World.shaped_of_ZipB (by kernel_rfl) (by kernel_rfl)) (by kernel_rfl) (by kernel_rfl) (by kernel_rfl)
      (by rw [MakeChecks.laidMetH_plain _ _ _ (by kernel_rfl)]; exact laidMet_laidAll _ (by kernel_rfl) (by kernel_rfl))) ?_
  intro W base args ds gs before hval0 hW _ _ hL _
  have hval : ∀ (j : Nat) t v, Tryz.f3.params[j]? = some t → args[j]? = some v → Value.okWide Tryz.prog W .any base t v := hval0
  have hW' := hW
  obtain ⟨p, q, hA0, hV, rfl, _, _⟩ := hW
  have hA : DataW.TrodAll enc Tryz.prog W 0 (fun _ => true) true Tryz.f3.params.toList args.toList ds p := hA0
  rw [Tryz.params3] at hA hval
  obtain ⟨rfl, rfl⟩ := trodVars_none hV
  refine (new_main hval hA).mono fun e W' ⟨he, hb⟩ => ?_
  subst he
  obtain ⟨d0, d1, rfl⟩ : ∃ d0 d1, ds = [d0, d1] := by
    obtain ⟨v0, v1, d0, d1, p0, p1, _, rfl, _⟩ := trodAll_two hA
    exact ⟨d0, d1, rfl⟩
  exact ⟨_, rfl, law_post laidOut (by rw [Tryz.params3]; intro t ht; simp at ht; subst ht; exact ⟨by kernel_rfl, of_decide_eq_true (by kernel_rfl)⟩) (by kernel_rfl) u4 rfl rfl rfl rfl hW' hb⟩
theorem row_holds : Rows.ModerationNewSaid :=
  OpenClaim.holds_of_wide 3 Tryz.f3 rfl rfl rfl rfl rfl rfl rfl ⟨rfl, rfl, rfl, rfl, rfl⟩ rfl rfl rfl rfl rfl (by kernel_rfl) Tryz.func3 (by kernel_rfl)
    (of_decide_eq_true (by kernel_rfl)) (by unfold Func.isWrapper; first | (rw [if_pos (by decide +kernel)]; kernel_rfl) | (rw [if_neg (by decide +kernel)]; exact ⟨rfl, rfl⟩))
    (fun os started H enc _ => lifted os started H enc)
theorem card_holds : Rows.ModerationNewCardSaid :=
  Claim7.holds_tied_plain_at .later [] [.data, .pinned] true (true, "7e8a32a85b7e56759ac67ee933eba566b2dc2e05cfd11d30b36d5126a977802c") true row_holds (fun _ h => by cases h) (by kernel_rfl) (fun _ h => by cases h) moderationNew_row_tie rfl ⟨rfl, rfl⟩ (by kernel_rfl) rfl
    (fun f fn hf hfn => by
      obtain rfl : f = 3 := Option.some.inj ((show Tryz.prog.funcNamed "bulletin/bulletinlaw39.ModerationNew" = some 3 by kernel_rfl).symm.trans hf) |>.symm
      obtain rfl : fn = Tryz.f3 := (Option.some.inj (Tryz.func3.symm.trans hfn)).symm
      exact ⟨by kernel_rfl, fun j t ht => by
        rw [Tryz.params3] at ht
        have hm : t ∈ [3, 3] := by simpa using Array.mem_of_getElem? ht
        have hall : ([3, 3].all fun u => !Tryz.prog.wantsStandIn u) = true := by kernel_rfl
        exact (show Tryz.prog.wantsStandIn t = false by simpa using List.all_eq_true.1 hall t hm)⟩)
    (by kernel_rfl)
#print axioms card_holds
end Go.Proofs.YtaponnbchaekbaaGreatDoor
