/- bulletinlaw39.ModerationNil returns true for every operation, and its argument reads afterwards as before; conditions: the listed tables of unicode/utf8 start as the program's text lays them. -/
import Derived.Test.YtaponnbchaekbaaGreatDoorN39d
import Derived.Test.YtaponnbchaekbaaGreatDoorAm38
import Derived.Test.YtaponnbchaekbaaGreatDoorRows
import Derived.Test.YtaponnbchaekbaaGreatDoorTie
import Derived.Test.YtaponnbchaekbaaGreatDoorCards
import Derived.SevenTiedAt
import Derived.Lay
set_option linter.unusedVariables false
set_option maxRecDepth 100000
namespace Go.Proofs.YtaponnbchaekbaaGreatDoor
open Go Go.Am Go.RowKit Go.ChangeShapes Go.WideShapes Go.ChangeAt

theorem own : ownKnob Tryz.prog.godebug = none := by kernel_rfl
theorem laidOut : laidOutB Tryz.prog = true := by kernel_rfl
theorem u4 : Tryz.prog.underlying 4 = some .bool := by kernel_rfl
abbrev laidN : List (String × DataW Unit) := [("unicode/utf8.acceptRanges", Rows.laid_unicode_utf8_acceptRanges), ("unicode/utf8.first", Rows.laid_unicode_utf8_first)]
section
variable {H : Type} {enc : TypeId × Value → H}
theorem c36 : Tryz.prog.cellsOf 36 = 6 := by kernel_rfl
theorem k36 : kindAt Tryz.prog 20 36 0 = some (.int .u8) ∧ kindAt Tryz.prog 20 36 1 = some (.int .u8) ∧ kindAt Tryz.prog 20 36 2 = some (.int .u8) ∧ kindAt Tryz.prog 20 36 3 = some (.int .u8) ∧ kindAt Tryz.prog 20 36 4 = some (.int .i64) ∧ kindAt Tryz.prog 20 36 5 = some .str :=
  ⟨by kernel_rfl, by kernel_rfl, by kernel_rfl, by kernel_rfl, by kernel_rfl, by kernel_rfl⟩
theorem u8_pos {n : Int} (h : (Lit.int .u8 n).wf = true) : 0 ≤ n := by
  simp only [Lit.wf, Bool.and_eq_true, decide_eq_true_eq] at h
  have : IntKind.u8.min = 0 := by decide
  omega
theorem nil_main {W : World} {base : Nat} {args : Array Value} {ds : List (DataW H)} {p : List MemPlace} (hval : ∀ (j : Nat) t v, (#[36] : Array TypeId)[j]? = some t → args[j]? = some v → Value.okWide Tryz.prog W .any base t v)
    (hA : DataW.TrodAll enc Tryz.prog W 0 (fun _ => true) true [36] args.toList ds p) : Calls Tryz.prog 6 args W fun e w' => e = .returned (.bool true) ∧ Below W.heap.size W w' := by
  obtain ⟨v0, d0, rfl, rfl, h0⟩ := trodAll_one hA
  obtain ⟨cs, rfl, hsz, hk⟩ := open_agg Tryz.underlying36 (hval 0 36 v0 rfl rfl) h0
  rw [c36] at hsz
  obtain ⟨k0, k1, k2, k3, k4, k5⟩ := k36
  obtain ⟨_, g0, a0, rfl, _⟩ := hk _ _ _ k0
  obtain ⟨_, g1, a1, rfl, _⟩ := hk _ _ _ k1
  obtain ⟨_, g2, a2, rfl, w2⟩ := hk _ _ _ k2
  obtain ⟨_, g3, a3, rfl, _⟩ := hk _ _ _ k3
  obtain ⟨_, g4, a4, rfl, _⟩ := hk _ _ _ k4
  obtain ⟨_, g5, s, rfl, _⟩ := hk _ _ _ k5
  refine (nil_law W a0 a1 a2 a3 a4 s.data.toList (u8_pos w2)).law (Rel.nil _ _) (VsRel.push (VsRel.nil _) (.agg (by rw [hsz]; rfl) fun i x u hx hu => ?_))
  match i, hx, hu with
  | 0, hx, hu => obtain rfl := Option.some.inj (g0.symm.trans hu); obtain rfl := Option.some.inj hx; exact .int _ _
  | 1, hx, hu => obtain rfl := Option.some.inj (g1.symm.trans hu); obtain rfl := Option.some.inj hx; exact .int _ _
  | 2, hx, hu => obtain rfl := Option.some.inj (g2.symm.trans hu); obtain rfl := Option.some.inj hx; exact .int _ _
  | 3, hx, hu => obtain rfl := Option.some.inj (g3.symm.trans hu); obtain rfl := Option.some.inj hx; exact .int _ _
  | 4, hx, hu => obtain rfl := Option.some.inj (g4.symm.trans hu); obtain rfl := Option.some.inj hx; exact .int _ _
  | 5, hx, hu => obtain rfl := Option.some.inj (g5.symm.trans hu); obtain rfl := Option.some.inj hx; exact .str s.data.toList
  | i + 6, hx, hu => simp [opA] at hx
end
theorem lifted (os : Os) (started : os.Started) (H : Type) (enc : TypeId × Value → H) :
    ReturnsInHanded {} Tryz.checked os 6 .any (fun w args => (Rows.moderationNilSpec.pre enc Tryz.prog Tryz.f6 [] false w args ∧ laidMetH Tryz.prog laidN w) ∧ sizedMet enc Tryz.prog Tryz.f6 (OpenSpec.ofChange Rows.moderationNilSpec) false w args)
      (Rows.moderationNilSpec.post enc Tryz.prog Tryz.f6 false true false false) := by
  refine returnsInHanded_of_change_and (C := Tryz.checked) (X := fun w _ => laidMetH Tryz.prog laidN w) (fun _ _ _ hh h => h.of_heap hh) own started (by kernel_rfl) Tryz.func6
    (ChangeSpec.witness_shaped (enc := enc) (C := Tryz.checked) (os := os) (X := fun w _ => laidMetH Tryz.prog laidN w) false (World.laidAll Tryz.prog os laidN) #[.agg #[.int .u8 0, .int .u8 0, .int .u8 0, .int .u8 0, .int .i64 0, .string .empty]] 8 (World.laidAll_os _ _ _)
      (World.shaped_of_ZipB (by kernel_rfl) (by kernel_rfl)) (by kernel_rfl) (by kernel_rfl) (by kernel_rfl)
      (by rw [MakeChecks.laidMetH_plain _ _ _ (by kernel_rfl)]; exact laidMet_laidAll _ (by kernel_rfl) (by kernel_rfl))) ?_
  intro W base args ds gs before hval0 hW _ _ hL _
  have hval : ∀ (j : Nat) t v, Tryz.f6.params[j]? = some t → args[j]? = some v → Value.okWide Tryz.prog W .any base t v := hval0
  have hW' := hW
  obtain ⟨p, q, hA0, hV, rfl, _, _⟩ := hW
  have hA : DataW.TrodAll enc Tryz.prog W 0 (fun _ => true) true Tryz.f6.params.toList args.toList ds p := hA0
  rw [Tryz.params6] at hA hval
  obtain ⟨rfl, rfl⟩ := trodVars_none hV
  refine (nil_main hval hA).mono fun e W' ⟨he, hb⟩ => ?_
  subst he
  obtain ⟨d0, rfl⟩ : ∃ d0, ds = [d0] := by
    obtain ⟨v0, d0, _, rfl, _⟩ := trodAll_one hA
    exact ⟨d0, rfl⟩
  exact ⟨_, rfl, law_post laidOut (by rw [Tryz.params6]; intro t ht; simp at ht; subst ht; exact ⟨by kernel_rfl, of_decide_eq_true (by kernel_rfl)⟩) (by kernel_rfl) u4 rfl rfl rfl rfl hW' hb⟩
theorem row_holds : Rows.ModerationNilSaid :=
  OpenClaim.holds_of_wide 6 Tryz.f6 rfl rfl rfl rfl rfl rfl rfl ⟨rfl, rfl, rfl, rfl, rfl⟩ rfl rfl rfl rfl rfl (by kernel_rfl) Tryz.func6 (by kernel_rfl)
    (of_decide_eq_true (by kernel_rfl)) (by unfold Func.isWrapper; first | (rw [if_pos (by decide +kernel)]; kernel_rfl) | (rw [if_neg (by decide +kernel)]; exact ⟨rfl, rfl⟩))
    (fun os started H enc _ => lifted os started H enc)
theorem card_holds : Rows.ModerationNilCardSaid :=
  Claim7.holds_tied_plain_at .later [] [.data, .pinned] true (true, "7e8a32a85b7e56759ac67ee933eba566b2dc2e05cfd11d30b36d5126a977802c") true row_holds (fun _ h => by cases h) (by kernel_rfl) (fun _ h => by cases h) moderationNil_row_tie rfl ⟨rfl, rfl⟩ (by kernel_rfl) rfl
    (fun f fn hf hfn => by
      obtain rfl : f = 6 := Option.some.inj ((show Tryz.prog.funcNamed "bulletin/bulletinlaw39.ModerationNil" = some 6 by kernel_rfl).symm.trans hf) |>.symm
      obtain rfl : fn = Tryz.f6 := (Option.some.inj (Tryz.func6.symm.trans hfn)).symm
      exact ⟨by kernel_rfl, fun j t ht => by
        rw [Tryz.params6] at ht
        have hm : t ∈ [36] := by simpa using Array.mem_of_getElem? ht
        have hall : ([36].all fun u => !Tryz.prog.wantsStandIn u) = true := by kernel_rfl
        exact (show Tryz.prog.wantsStandIn t = false by simpa using List.all_eq_true.1 hall t hm)⟩)
    (by kernel_rfl)
#print axioms card_holds
end Go.Proofs.YtaponnbchaekbaaGreatDoor
