/- A part of the proof: Am34. -/
import Derived.Test.YthipnddfplbamaaDoorAm32
import Derived.ProofKit
import Derived.LaidMore
import Derived.OpenShut
import Derived.Carry
import Derived.Stop.Joined
set_option linter.unusedVariables false
set_option linter.unusedSimpArgs false
namespace Go.Am
open Go.RowKit Go.ChangeShapes Go.WideShapes

/-! ### A law's end: it answers true, and nothing that was there has turned -/
section
variable {H : Type} {enc : TypeId × Value → H} {P : Program}
theorem trodAll_stays (hl : laidOutB P = true) {W W' : World} (hb : Below W.heap.size W W') : ∀ {ts : List TypeId} {vs : List Value} {ds : List (DataW H)} {ps : List MemPlace}, (∀ t ∈ ts, P.readableRec t = true ∧ t < P.types.size) →
    DataW.TrodAll enc P W 0 (fun _ => true) true ts vs ds ps → (∀ x ∈ ps, x.block < W.heap.size) → DataW.TrodAll enc P W' 0 (fun b => decide (b < W.heap.size)) true ts vs ds ps
  | [], _, _, _, _, h, _ => by
    obtain ⟨rfl, rfl, rfl⟩ := trodAll_nil h
    rfl
  | t :: ts, _, _, _, hr, h, hp => by
    obtain ⟨v, vs, d, ds, p, q, rfl, rfl, rfl, h1, h2⟩ := trodAll_cons h
    exact ⟨p, q, Below.trod hl (hr t (by simp)).1 (hr t (by simp)).2 h1 hb fun x hx => hp x (by simp [hx]), trodAll_stays hl hb (fun u hu => hr u (by simp [hu])) h2 fun x hx => hp x (by simp [hx]), rfl⟩
theorem law_post {f : Func} {s : ChangeSpec} {fresh handsOn apart : Bool} {W W' : World} {args : Array Value} {ds : List (DataW H)} {before : List MemPlace} {tb : TypeId} (hl : laidOutB P = true) (hr : ∀ t ∈ f.params.toList, P.readableRec t = true ∧ t < P.types.size)
    (hres : f.resultTypes = #[tb]) (htb : P.underlying tb = some .bool) (hsv : s.vars = []) (h1 : (s.fn H (ds ++ [])).results = [.lit (.bool true)]) (h2 : (s.fn H (ds ++ [])).args = ds) (h3 : (s.fn H (ds ++ [])).vars = [])
    (hW : DataW.Whole enc P f.params.toList s.vars apart W args.toList ds [] before) (hb : Below W.heap.size W W') : s.post enc P f apart fresh handsOn false W args (.bool true) W' := by
  have hlt : ∀ p ∈ before, p.block < W.heap.size := fun p hp => hW.lt p hp
  have hW' := hW
  obtain ⟨p, q, hA, hV, rfl, hz, hn⟩ := hW
  rw [hsv] at hV
  obtain ⟨_, rfl⟩ := trodVars_none hV
  refine ⟨ds, [], p ++ [], [], p, [], hW', ?_, ?_, ?_, ?_, fun h => by cases h⟩
  · rw [h1, hres]
    exact trodAll_mk1 (shut_bool htb true)
  · rw [h2]
    exact trodAll_stays hl hb hr hA fun x hx => hlt x (by simpa using hx)
  · rw [h3, hsv]; rfl
  · refine World.keptBut_mono (fun x hx => ⟨hx, ?_⟩) (hb.frame (· ∈ p ++ []))
    exact .inr (.inl (by simpa using hx))
/-- What the engine tells of a call that answers true. -/
theorem SCall.law {w : World} {f : FuncId} {args : List AV} {A : List AO} (h : SCall P w f args A fun v _ => v = .bool true) {m : List (Option Pl)} {us : Array Value} (hr : Rel P w m A w) (hu : VsRel m args us) :
    Calls P f us w fun e w' => e = .returned (.bool true) ∧ Below w.heap.size w w' := by
  refine (h m w us hr hu).mono ?_
  rintro e w' ⟨u, v, A', m', rfl, hv, _, hr', rfl, _⟩
  cases hv
  exact ⟨rfl, hr'.below⟩
end
end Go.Am
