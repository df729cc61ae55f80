/- bulletinlaw51.GatewayNil returns true for every operation, and its argument read afterwards as before; conditions: the listed package-level variables (tables of math/bits, strconv and unicode/utf8, strconv's two errors) start as the program's text lays them. -/
import Derived.Test.YtgiphkmeamlhkaaGreatDoorG51a
import Derived.Test.YtgiphkmeamlhkaaGreatDoorAm38
import Derived.Test.YtgiphkmeamlhkaaGreatDoorRows
import Derived.Test.YtgiphkmeamlhkaaGreatDoorTie
import Derived.Test.YtgiphkmeamlhkaaGreatDoorCards
import Derived.SevenTiedAt
import Derived.Lay
set_option linter.unusedVariables false
set_option maxRecDepth 100000
namespace Go.Proofs.YtgiphkmeamlhkaaGreatDoor
open Go Go.Am Go.RowKit Go.ChangeShapes Go.WideShapes Go.ChangeAt

theorem own : ownKnob Tryz.prog.godebug = none := by kernel_rfl
theorem laidOut : laidOutB Tryz.prog = true := by kernel_rfl
theorem u4 : Tryz.prog.underlying 4 = some .bool := by kernel_rfl
theorem c70 : Tryz.prog.cellsOf 70 = 41 := by kernel_rfl
abbrev laidN : List (String × DataW Unit) := [("math/bits.deBruijn32tab", Rows.laid_math_bits_deBruijn32tab), ("math/bits.deBruijn64tab", Rows.laid_math_bits_deBruijn64tab), ("internal/strconv.uint64pow10", Rows.laid_internal_strconv_uint64pow10), ("unicode/utf8.acceptRanges", Rows.laid_unicode_utf8_acceptRanges), ("strconv.ErrRange", Rows.laid_strconv_ErrRange), ("strconv.ErrSyntax", Rows.laid_strconv_ErrSyntax), ("unicode/utf8.first", Rows.laid_unicode_utf8_first)]
section
variable {H : Type} {enc : TypeId × Value → H}
theorem nil_main {W : World} {base : Nat} {args : Array Value} {ds : List (DataW H)} {p : List MemPlace} (hval : ∀ (j : Nat) t v, (#[70] : Array TypeId)[j]? = some t → args[j]? = some v → Value.okWide Tryz.prog W .any base t v)
    (hA : DataW.TrodAll enc Tryz.prog W 0 (fun _ => true) true [70] args.toList ds p) : Calls Tryz.prog 11 args W fun e w' => e = .returned (.bool true) ∧ Below W.heap.size W w' := by
  obtain ⟨v0, d0, rfl, rfl, h0⟩ := trodAll_one hA
  obtain ⟨cs, rfl, hsz, _⟩ := open_agg Tryz.underlying70 (hval 0 70 v0 rfl rfl) h0
  rw [c70] at hsz
  refine (nil_law W).law (Rel.nil _ _) (VsRel.push (VsRel.nil _) (.agg (by simp [hsz]) fun i x u hx hu => ?_))
  rw [List.getElem?_replicate] at hx
  split at hx
  · simp at hx; subst hx; exact .any
  · cases hx
end
theorem lifted (os : Os) (started : os.Started) (H : Type) (enc : TypeId × Value → H) :
    ReturnsInHanded {} Tryz.checked os 11 .any (fun w args => (Rows.gatewayNilSpec.pre enc Tryz.prog Tryz.f11 [] false w args ∧ laidMetH Tryz.prog laidN w) ∧ sizedMet enc Tryz.prog Tryz.f11 (OpenSpec.ofChange Rows.gatewayNilSpec) false w args)
      (Rows.gatewayNilSpec.post enc Tryz.prog Tryz.f11 false true false false) := by
  refine returnsInHanded_of_change_and (C := Tryz.checked) (X := fun w _ => laidMetH Tryz.prog laidN w) (fun _ _ _ hh h => h.of_heap hh) own started (by kernel_rfl) Tryz.func11
    (ChangeSpec.witness_shaped (enc := enc) (C := Tryz.checked) (os := os) (X := fun w _ => laidMetH Tryz.prog laidN w) false (World.laidAll Tryz.prog os laidN) #[.agg (#[.int .u8 0, .int .i64 0, .string .empty, .string .empty] ++ Array.replicate 32 (.int .u8 0) ++ #[.string .empty, .string .empty, .string .empty, .int .i64 0, .int .u8 0])] 8 (World.laidAll_os _ _ _)
      (World.shaped_of_ZipB (by kernel_rfl) (by kernel_rfl)) (by kernel_rfl) (by kernel_rfl) (by kernel_rfl)
      (by rw [MakeChecks.laidMetH_plain _ _ _ (by kernel_rfl)]; exact laidMet_laidAll _ (by kernel_rfl) (by kernel_rfl))) ?_
  intro W base args ds gs before hval0 hW _ _ hL _
  have hval : ∀ (j : Nat) t v, Tryz.f11.params[j]? = some t → args[j]? = some v → Value.okWide Tryz.prog W .any base t v := hval0
  have hW' := hW
  obtain ⟨p, q, hA0, hV, rfl, _, _⟩ := hW
  have hA : DataW.TrodAll enc Tryz.prog W 0 (fun _ => true) true Tryz.f11.params.toList args.toList ds p := hA0
  rw [Tryz.params11] at hA hval
  obtain ⟨rfl, rfl⟩ := trodVars_none hV
  refine (nil_main hval hA).mono fun e W' ⟨he, hb⟩ => ?_
  subst he
  obtain ⟨d0, rfl⟩ : ∃ d0, ds = [d0] := by
    obtain ⟨v0, d0, _, rfl, _⟩ := trodAll_one hA
    exact ⟨d0, rfl⟩
  exact ⟨_, rfl, law_post laidOut (by rw [Tryz.params11]; intro t ht; simp at ht; subst ht; exact ⟨by kernel_rfl, of_decide_eq_true (by kernel_rfl)⟩) (by kernel_rfl) u4 rfl rfl rfl rfl hW' hb⟩
theorem row_holds : Rows.GatewayNilSaid :=
  OpenClaim.holds_of_wide 11 Tryz.f11 rfl rfl rfl rfl rfl rfl rfl ⟨rfl, rfl, rfl, rfl, rfl⟩ rfl rfl rfl rfl rfl (by kernel_rfl) Tryz.func11 (by kernel_rfl)
    (of_decide_eq_true (by kernel_rfl)) (by unfold Func.isWrapper; first | (rw [if_pos (by decide +kernel)]; kernel_rfl) | (rw [if_neg (by decide +kernel)]; exact ⟨rfl, rfl⟩))
    (fun os started H enc _ => lifted os started H enc)
theorem card_holds : Rows.GatewayNilCardSaid :=
  Claim7.holds_tied_plain_at .later [] [.data, .data, .data, .data, .sentinel, .sentinel, .pinned] true (true, "ae6fa7cd05978e7518f18fa8faf461872a4557f34d6a0e7f9f49b1c899a72586") true row_holds (fun _ h => by cases h) (by kernel_rfl) (fun _ h => by cases h) gatewayNil_row_tie rfl ⟨rfl, rfl⟩ (by kernel_rfl) rfl
    (fun f fn hf hfn => by
      obtain rfl : f = 11 := Option.some.inj ((show Tryz.prog.funcNamed "bulletin/bulletinlaw51.GatewayNil" = some 11 by kernel_rfl).symm.trans hf) |>.symm
      obtain rfl : fn = Tryz.f11 := (Option.some.inj (Tryz.func11.symm.trans hfn)).symm
      exact ⟨by kernel_rfl, fun j t ht => by
        rw [Tryz.params11] at ht
        have hm : t ∈ [70] := by simpa using Array.mem_of_getElem? ht
        have hall : ([70].all fun u => !Tryz.prog.wantsStandIn u) = true := by kernel_rfl
        exact (show Tryz.prog.wantsStandIn t = false by simpa using List.all_eq_true.1 hall t hm)⟩)
    (by kernel_rfl)
#print axioms card_holds
end Go.Proofs.YtgiphkmeamlhkaaGreatDoor
