/- A part of the proof: Am46. -/
import Derived.Test.YthipnddfplbamaaDoorAm14
set_option linter.unusedVariables false
set_option linter.unusedSimpArgs false
/-! A slice without room held against nil: either answer. -/
namespace Go.Am
open Go.RowKit
def isNilCmp (P : Program) (t : List AV) (o : Oper) : Bool :=
  match o.op with
  | .binOp .eql ty x y _ => match P.underlying ty, aev t x, aev t y with
    | some (.slice _), some (.slc _ _ _ _), some (.slc none _ _ _) => true
    | _, _, _ => false
  | .binOp .neq ty x y _ => match P.underlying ty, aev t x, aev t y with
    | some (.slice _), some (.slc _ _ _ _), some (.slc none _ _ _) => true
    | _, _, _ => false
  | _ => false
theorem VRel.slc_form {m : List (Option Pl)} {a : Option (Nat × Nat)} {n c : Nat} {e : Bool} {u : Value} (h : VRel m (.slc a n c e) u) : ∃ ad c', u = .slice ad n c' := by
  cases h with
  | slcNil => exact ⟨_, _, rfl⟩
  | slc => exact ⟨_, _, rfl⟩
  | slcEmpty => exact ⟨_, _, rfl⟩
theorem VRel.slc_nil {m : List (Option Pl)} {n c : Nat} {e : Bool} {u : Value} (h : VRel m (.slc none n c e) u) : u = .slice none n c := by
  cases h; rfl
theorem nilCmp_vals {P : Program} {w0 : World} {t : List AV} {A : List AO} {o : Oper} (h : isNilCmp P t o = true) : OpVals (P := P) (w0 := w0) t A o [(.bool true, A), (.bool false, A)] := by
  have key : ∀ (op : BinOp) (ty : TypeId) (x y : Operand) (yt : TypeId), o.op = .binOp op ty x y yt → (op = .eql ∨ op = .neq) → (∃ el, P.underlying ty = some (.slice el)) → (∃ a n c e, aev t x = some (.slc a n c e)) → (∃ n c e, aev t y = some (.slc none n c e)) →
      OpVals (P := P) (w0 := w0) t A o [(.bool true, A), (.bool false, A)] := by
    rintro op ty x y yt ho hop ⟨el, hu⟩ ⟨a, n, c, e, hx⟩ ⟨n', c', e', hy⟩ m w ac hr ht
    obtain ⟨ad, c2, hux⟩ := (aev_rel ht hx).slc_form
    have huy := (aev_rel ht hy).slc_nil
    have hrun : ∃ b, (execOp ac.eval o).run P w = .ok (.value (.bool b)) w := by
      have e1 : ∃ b, (do eqGuard op ty x y (ac.eval x) (ac.eval y); binOp op ty (ac.eval x) (ac.eval y) : Sem Value).run P w = .ok (.bool b) w := by
        rw [hux, huy]
        have he : ∀ d, ∃ b, (Op.equalIn (d + 1) ty (.slice ad n c2) (.slice none n' c')).run P w = .ok b w := by
          intro d
          cases ad with
          | none => exact ⟨true, by simp [Op.equalIn, run_underlying hu]⟩
          | some a => exact ⟨false, by simp [Op.equalIn, run_underlying hu]⟩
        obtain ⟨b, he⟩ : ∃ b, (Op.equalIn 10000 ty (.slice ad n c2) (.slice none n' c')).run P w = .ok b w := he 9999
        rcases hop with rfl | rfl
        · have hb : binOp .eql ty (.slice ad n c2) (.slice none n' c') = (do pure (.bool (← Op.equal ty (.slice ad n c2) (.slice none n' c'))) : Sem Value) := rfl
          have hg : (eqGuard .eql ty x y (.slice ad n c2) (.slice none n' c')).run P w = .ok () w := by simp [eqGuard]
          refine ⟨b, ?_⟩
          simp only [Sem.run_bind, hg, Result.andThen_ok]
          rw [hb]
          simp [Op.equal, Op.maxDepth, he]
        · have hb : binOp .neq ty (.slice ad n c2) (.slice none n' c') = (do pure (.bool (!(← Op.equal ty (.slice ad n c2) (.slice none n' c')))) : Sem Value) := rfl
          have hg : (eqGuard .neq ty x y (.slice ad n c2) (.slice none n' c')).run P w = .ok () w := by simp [eqGuard]
          refine ⟨!b, ?_⟩
          simp only [Sem.run_bind, hg, Result.andThen_ok]
          rw [hb]
          simp [Op.equal, Op.maxDepth, he]
      obtain ⟨b, hb⟩ := e1
      refine ⟨b, ?_⟩
      have e2 : execOp ac.eval o = (do pure (.value (← (do eqGuard op ty x y (ac.eval x) (ac.eval y); binOp op ty (ac.eval x) (ac.eval y) : Sem Value))) : Sem Next) := by first | (simp only [execOp, ho]; done) | (simp only [execOp, ho]; rfl)
      rw [e2]; simp only [Sem.run_bind, hb, Result.andThen_ok]; rfl
    obtain ⟨b, hb⟩ := hrun
    exact ⟨.bool b, A, m, .bool b, w, by cases b <;> simp, .inl hb, Ext.refl _, hr, .bool b, Kept.refl w⟩
  unfold isNilCmp at h
  split at h
  · rename_i ho
    split at h
    · rename_i h1 h2 h3; exact key _ _ _ _ _ ho (.inl rfl) ⟨_, h1⟩ ⟨_, _, _, _, h2⟩ ⟨_, _, _, h3⟩
    · cases h
  · rename_i ho
    split at h
    · rename_i h1 h2 h3; exact key _ _ _ _ _ ho (.inr rfl) ⟨_, h1⟩ ⟨_, _, _, _, h2⟩ ⟨_, _, _, h3⟩
    · cases h
  · cases h
end Go.Am
