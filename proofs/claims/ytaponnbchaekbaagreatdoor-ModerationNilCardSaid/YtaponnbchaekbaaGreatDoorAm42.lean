/- A part of the proof: Am42. -/
import Derived.Test.YtaponnbchaekbaaGreatDoorAm36
set_option linter.unusedVariables false
set_option linter.unusedSimpArgs false
/-! The machine that follows every order of a map's entries; behind flagged calls the blocks that nothing reaches are dropped. -/
namespace Go.Am
open Go.RowKit

/-! ### Blocks compared -/
def pairsEq : List (AV × AV) → List (AV × AV) → Bool
  | [], [] => true
  | x :: r, y :: s => avEq x.1 y.1 && avEq x.2 y.2 && pairsEq r s
  | _, _ => false
theorem pairsEq_eq : ∀ (x y : List (AV × AV)), pairsEq x y = true → x = y
  | [], [], _ => rfl
  | x :: r, y :: s, h => by
    simp only [pairsEq, Bool.and_eq_true] at h
    rw [pairsEq_eq r s h.2, Prod.ext (avEq_eq _ _ h.1.1) (avEq_eq _ _ h.1.2)]
  | [], _ :: _, h => by cases h
  | _ :: _, [], h => by cases h
def aoEq : AO → AO → Bool
  | .row cs e w, .row cs' e' w' => avsEq cs cs' && e == e' && w == w'
  | .dead, .dead => true
  | .map es bs ck, .map es' bs' ck' => pairsEq es es' && bs == bs' && ck == ck'
  | .iter s p, .iter s' p' => s == s' && p == p'
  | .miter mp s n l, .miter mp' s' n' l' => avEq mp mp' && s == s' && n == n' && l == l'
  | _, _ => false
theorem aoEq_eq (x y : AO) (h : aoEq x y = true) : x = y := by
  unfold aoEq at h
  split at h <;> (try simp only [Bool.and_eq_true, beq_iff_eq] at h)
  · obtain ⟨⟨h1, rfl⟩, rfl⟩ := h; rw [avsEq_eq _ _ h1]
  · rfl
  · obtain ⟨⟨h1, rfl⟩, rfl⟩ := h; rw [pairsEq_eq _ _ h1]
  · obtain ⟨rfl, rfl⟩ := h; rfl
  · obtain ⟨⟨⟨h1, rfl⟩, rfl⟩, rfl⟩ := h; rw [avEq_eq _ _ h1]
  · cases h
def aosEq : List AO → List AO → Bool
  | [], [] => true
  | x :: r, y :: s => aoEq x y && aosEq r s
  | _, _ => false
theorem aosEq_eq : ∀ (x y : List AO), aosEq x y = true → x = y
  | [], [], _ => rfl
  | x :: r, y :: s, h => by
    simp only [aosEq, Bool.and_eq_true] at h
    rw [aosEq_eq r s h.2, aoEq_eq _ _ h.1]
  | [], _ :: _, h => by cases h
  | _ :: _, [], h => by cases h

/-! ### Dropping blocks -/
mutual
def refs : AV → List Nat
  | .ptr (some (k, _)) => [k]
  | .slc (some (k, _)) _ _ _ => [k]
  | .map (some k) => [k]
  | .func _ xs ys => refsL xs ++ refsL ys
  | .yld k => [k]
  | .iface _ v => refs v
  | .agg xs => refsL xs
  | .tuple xs => refsL xs
  | _ => []
def refsL : List AV → List Nat
  | [] => []
  | x :: r => refs x ++ refsL r
end
def refsO : AO → List Nat
  | .row cs _ _ => refsL cs
  | .map es _ _ => refsL (es.map (·.1)) ++ refsL (es.map (·.2))
  | .miter mp _ _ _ => refs mp
  | .loop _ _ t _ _ _ => refsL t
  | _ => []
/-- New blocks that are reached, in the order of finding. -/
def reachGo (n0 : Nat) (A : List AO) : Nat → List Nat → List Nat → List Nat
  | 0, _, seen => seen
  | _ + 1, [], seen => seen
  | f + 1, k :: todo, seen => if k < n0 then reachGo n0 A f todo seen else if seen.contains k then reachGo n0 A f todo seen else
      match A[k]? with
      | some o => reachGo n0 A f (refsO o ++ todo) (seen ++ [k])
      | none => reachGo n0 A f todo seen
def idxOf (l : List Nat) (k : Nat) : Nat := (l.findIdx? fun j => j == k).getD k
def gcPick (n0 : Nat) (v : AV) (A : List AO) : List Nat × AV × List AO :=
  let js := List.range n0 ++ reachGo n0 A 100000 (refs v ++ (A.take n0).flatMap refsO) []
  (js, ren (idxOf js) v, js.map fun j => match A[j]? with | some o => renO (idxOf js) o | none => .dead)
def nodupN : List Nat → Bool
  | [] => true
  | x :: r => !r.contains x && nodupN r
theorem nodupN_nodup : ∀ {l : List Nat}, nodupN l = true → l.Nodup
  | [], _ => List.nodup_nil
  | x :: r, h => by
    simp only [nodupN, Bool.and_eq_true, Bool.not_eq_true'] at h
    refine List.nodup_cons.2 ⟨fun hx => ?_, nodupN_nodup h.2⟩
    have := h.1
    rw [List.contains_eq_mem] at this
    simp [hx] at this
def gcOk (n0 : Nat) (v : AV) (A : List AO) (js : List Nat) (v3 : AV) (A3 : List AO) : Bool :=
  (List.range n0).all (fun k => js[k]? == some k) && decide (n0 ≤ A3.length) && nodupN js && js.all (fun j => decide (j < A.length)) && decide (js.length = A3.length) &&
    avEq v (ren (pickF js A.length) v3) && aosEq (js.map fun j => (A[j]?).getD .dead) (A3.map (renO (pickF js A.length)))
theorem gcOk_pick {n0 : Nat} {v : AV} {A : List AO} {js : List Nat} {v3 : AV} {A3 : List AO} (h : gcOk n0 v A js v3 A3 = true) : Pick n0 A A3 (pickF js A.length) ∧ v = ren (pickF js A.length) v3 := by
  simp only [gcOk, Bool.and_eq_true, decide_eq_true_eq] at h
  obtain ⟨⟨⟨⟨⟨⟨h1, h2⟩, h3⟩, h4⟩, h5⟩, h6⟩, h7⟩ := h
  have hlt : ∀ j ∈ js, j < A.length := fun j hj => by simpa using List.all_eq_true.1 h4 j hj
  refine ⟨pick_map h1 h2 (nodupN_nodup h3) ?_, avEq_eq _ _ h6⟩
  have h7 := aosEq_eq _ _ h7
  have : js.map (fun j => A[j]?) = (js.map fun j => (A[j]?).getD .dead).map some := by
    rw [List.map_map]
    refine List.map_congr_left fun j hj => ?_
    simp [List.getElem?_eq_getElem (hlt j hj)]
  rw [this, h7, List.map_map]
  rfl
/-- Results of a call, the unreached blocks dropped. -/
def gcOne (n0 : Nat) (r : AV × List AO) : AV × List AO :=
  let q := gcPick n0 r.1 r.2
  if gcOk n0 r.1 r.2 q.1 q.2.1 q.2.2 then (q.2.1, q.2.2) else r
def killO : AO → AO
  | .loop .exhausted _ _ _ _ _ => .dead
  | o => o
def gcKill (n0 : Nat) (r : AV × List AO) : AV × List AO := gcOne n0 (r.1, r.2.map killO)
def dedup : List (AV × List AO) → List (AV × List AO)
  | [] => []
  | x :: r => let d := dedup r
    if d.any (fun y => avEq x.1 y.1 && aosEq x.2 y.2) then d else x :: d
theorem mem_dedup : ∀ {L : List (AV × List AO)} {x : AV × List AO}, x ∈ L → x ∈ dedup L
  | y :: r, x, h => by
    simp only [dedup]
    rcases List.mem_cons.1 h with rfl | h
    · split
      · rename_i hd
        obtain ⟨z, hz, he⟩ := List.any_eq_true.1 hd
        simp only [Bool.and_eq_true] at he
        rwa [Prod.ext (avEq_eq _ _ he.1) (aosEq_eq _ _ he.2)]
      · exact List.mem_cons_self ..
    · have := mem_dedup h
      split
      · exact this
      · exact List.mem_cons_of_mem _ this

/-! ### The machine -/
def bindL {α β : Type} : List α → (α → Option (List β)) → Option (List β)
  | [], _ => some []
  | a :: r, f => match f a with
    | some x => match bindL r f with
      | some y => some (x ++ y)
      | none => none
    | none => none
theorem bindL_mem {α β : Type} {f : α → Option (List β)} : ∀ {L : List α} {M : List β}, bindL L f = some M → ∀ a ∈ L, ∃ x, f a = some x ∧ ∀ b ∈ x, b ∈ M
  | [], _, _, a, ha => by cases ha
  | c :: r, M, h, a, ha => by
    simp only [bindL] at h
    split at h
    · rename_i x hx
      split at h
      · rename_i y hy
        simp at h; subst h
        rcases List.mem_cons.1 ha with rfl | ha
        · exact ⟨x, hx, fun b hb => List.mem_append_left _ hb⟩
        · obtain ⟨x', h1, h2⟩ := bindL_mem hy a ha
          exact ⟨x', h1, fun b hb => List.mem_append_right _ (h2 b hb)⟩
      · cases h
    · cases h
abbrev BCallF := FuncId → List AV → List AO → Option (List (AV × List AO))
def one {α : Type} : Option (List α) → Option α
  | some [x] => some x
  | _ => none
def detOf (call : BCallF) : ACallF := fun g args A => one (call g args A)
def stepB (P : Program) (X : AExt) (call : BCallF) (yl : AYield) (t : List AV) (A : List AO) (o : Oper) : Option (List (AV × List AO)) :=
  match o.op with
  | .next x false => match aev t x with
    | some v => match anextMap A v with
      | [] => none
      | L => some L
    | none => none
  | .call c => match ayield t c with
    | some (k, args) => (yl k args A).map fun r => [r]
    | none => match acallTarget P t c with
      | some (g, args) => if (X g).isSome then (aop P X t A o).map fun r => [r] else if abody P g then call g args A else none
      | none => (aop P X t A o).map fun r => [r]
  | _ => (aop P X t A o).map fun r => [r]
def bseq (P : Program) (X : AExt) (call : BCallF) (yl : AYield) (ops : Array Oper) : List Nat → List AV → List AO → Option (List (List AV × List AO))
  | [], t, A => some [(t, A)]
  | i :: l, t, A => match ops[i]? with
    | none => none
    | some o => match awanted ops t o with
      | some false => bseq P X call yl ops l (aput t o.dst aundef) A
      | some true => match stepB P X call yl t A o with
        | some L => bindL L fun r => bseq P X call yl ops l (aput t o.dst r.1) r.2
        | none => none
      | none => none
/-- What a body leaves: its results. -/
def bres (P : Program) (fn : Func) : List (Exit × List AV × List AO) → Option (List (AV × List AO))
  | [] => some []
  | (e, t, A) :: r => match e with
    | .normal | .ret => match ares P fn t A, bres P fn r with
      | some v, some l => some ((v, A) :: l)
      | _, _ => none
    | _ => none
def bexec (P : Program) (X : AExt) (R : ARes) (G : FuncId → Bool) : Nat → Bool → Code → List AV → List AO → Option (List (Exit × List AV × List AO))
  | 0, _, _, _, _ => none
  | n + 1, rd, c, t, A =>
    let call : BCallF := fun g args A => match R g with
      | some h => (h args A).map fun r => [r]
      | none => match P.funcs[g]? with
        | some fn => match fn.body with
          | some b => match bexec P X R G n false b (args ++ List.replicate (fn.ntmps - args.length) aundef) A with
            | some L => match bres P fn L with
              | some M => some (if G g then dedup (M.map (gcKill A.length)) else M)
              | none => none
            | none => none
          | none => none
        | none => none
    let yl : AYield := fun k args A => match A[k]? with
      | some (.loop _ _ tl ps asg body) => if args.length = ps.size then match bexec P X R G n true asg (setArgs tl (ps.toList.zip args)) A with
          | some [(.normal, t2, A2)] => match abegin A2 k with
            | some A3 => match bexec P X R G n true body t2 A3 with
              | some [(e, _, A4)] => aendRound A4 k e
              | _ => none
            | none => none
          | _ => none
        else none
      | _ => none
    match c with
    | .skip | .label _ => some [(.normal, t, A)]
    | .ret => some [(.ret, t, A)]
    | .exit i => some [(.exit i, t, A)]
    | .seq a b => match bexec P X R G n rd a t A with
      | some L => bindL L fun r => match r with
        | (.normal, t', A') => bexec P X R G n rd b t' A'
        | r => some [r]
      | none => none
    | .cond x a b => match aev t x with
      | some (.bool v) => bexec P X R G n rd (if v then a else b) t A
      | _ => none
    | .block id b => match bexec P X R G n rd b t A with
      | some L => some (L.map fun r => match r with
        | (.exit i, t', A') => if i = id then (.normal, t', A') else (.exit i, t', A')
        | r => r)
      | none => none
    | .loop b => match bexec P X R G n rd b t A with
      | some L => bindL L fun r => match r with
        | (.normal, t', A') => bexec P X R G n rd (.loop b) t' A'
        | r => some [r]
      | none => none
    | .region _ ops false => match bseq P X call yl ops (List.range ops.size) t A with
      | some L => some (L.map fun r => (.normal, r.1, r.2))
      | none => none
    | .region _ ops true => match aregion P X (detOf call) ops t A with
      | some (t', A') => some [(.normal, t', A')]
      | none => none
    | .scope b => match bexec P X R G n rd b t A with
      | some [(.goto _, _, _)] => none
      | some [r] => some [r]
      | _ => none
    | .rangeFunc g ps asg body => if rd then none else match aev t g with
      | some (.func (.func fid) first cap) => if abody P fid then match call fid ((first ++ [.yld A.length]) ++ cap) (A ++ [.loop .ready none t ps asg body]) with
          | some [(_, A2)] => match aendLoop A2 A.length with
            | some (none, A3) => some [(.normal, t, A3)]
            | some (some c, A3) => bexec P X R G n false c t A3
            | none => none
          | _ => none
        else none
      | _ => none
    | _ => none
def bcall (P : Program) (X : AExt) (R : ARes) (G : FuncId → Bool) (n : Nat) (g : FuncId) (args : List AV) (A : List AO) : Option (List (AV × List AO)) :=
  match P.funcs[g]? with
  | some fn => match fn.body with
    | some b => match bexec P X R G n false b (args ++ List.replicate (fn.ntmps - args.length) aundef) A with
      | some L => match bres P fn L with
        | some M => some (if G g then dedup (M.map (gcKill A.length)) else M)
        | none => none
      | none => none
    | none => none
  | none => none

section
variable {P : Program} {X : AExt} {R : ARes} {G : FuncId → Bool} {w0 : World} {ops : Array Oper}
def BCallOk (P : Program) (w0 : World) (call : BCallF) : Prop :=
  ∀ g args A L, call g args A = some L → abody P g = true → SCall P w0 g args A fun v A' => (v, A') ∈ L
theorem detOf_ok {call : BCallF} (h : BCallOk P w0 call) : CallOk P w0 (detOf call) := by
  intro g args A v A' hc hb
  unfold detOf one at hc
  split at hc
  · rename_i x hx
    simp at hc; subst hc
    refine (h g args A _ hx hb).mono fun v2 A2 hm => ?_
    simp at hm
    exact hm
  · cases hc
theorem SCall.gcOr {g : FuncId} {args : List AV} {A : List AO} {Q Q' : AV → List AO → Prop} (h : SCall P w0 g args A Q')
    (hk : ∀ v A2, Q' v A2 → Q v A2 ∨ ∃ v3 A3 f, Pick A.length A2 A3 f ∧ v = ren f v3 ∧ Q v3 A3) : SCall P w0 g args A Q := by
  intro m w us hr hu
  refine (h m w us hr hu).mono ?_
  rintro e w' ⟨u, v, A2, m2, he, hv, hext, hr2, hq, hkp⟩
  rcases hk v A2 hq with hq | ⟨v3, A3, f, h1, h2, h3⟩
  · exact ⟨u, v, A2, m2, he, hv, hext, hr2, hq, hkp⟩
  obtain ⟨m3, g1, g2, g3⟩ := hr2.pick h1
  subst h2
  exact ⟨u, v3, A3, m3, he, ren_rel g1 _ _ hv, hext.pick hr.len h1 g2, g3, h3, hkp⟩
/-- A range over a function that has ended is forgotten. -/
theorem Rel.killAll {m : List (Option Pl)} {A : List AO} {w : World} (h : Rel P w0 m A w) : Rel P w0 m (A.map killO) w := by
  have get : ∀ {k : Nat} {o : AO}, (A.map killO)[k]? = some o → ∃ o', A[k]? = some o' ∧ o = killO o' := by
    intro k o hk
    rw [List.getElem?_map] at hk
    obtain ⟨o', h1, h2⟩ := Option.map_eq_some_iff.1 hk
    exact ⟨o', h1, h2.symm⟩
  have kill : ∀ o, killO o = o ∨ killO o = .dead := fun o => by
    cases o with
    | loop st => cases st <;> first | exact .inl rfl | exact .inr rfl
    | _ => exact .inl rfl
  refine ⟨by simp [h.len], h.below, fun k o p hk hp => ?_, fun k k' o o' p p' hne h1 h2 hm hl hp hp' => ?_⟩
  · obtain ⟨o1, h1, rfl⟩ := get hk
    rcases kill o1 with e | e
    · rw [e]; exact h.obj k o1 p h1 hp
    · rw [e]; trivial
  · obtain ⟨o1, q1, rfl⟩ := get h1
    obtain ⟨o2, q2, rfl⟩ := get h2
    have e1 : killO o1 = o1 := by
      rcases kill o1 with e | e
      · exact e
      · rw [e] at hm; cases hm
    have e2 : killO o2 = o2 := by
      rcases kill o2 with e | e
      · exact e
      · rw [e] at hl; cases hl
    rw [e1] at hm; rw [e2] at hl
    exact h.inj k k' o1 o2 p p' hne q1 q2 hm hl hp hp'
theorem SCall.kill {g : FuncId} {args : List AV} {A : List AO} {Q Q' : AV → List AO → Prop} (h : SCall P w0 g args A Q') (hk : ∀ v A2, Q' v A2 → Q v (A2.map killO)) : SCall P w0 g args A Q := by
  intro m w us hr hu
  refine (h m w us hr hu).mono ?_
  rintro e w' ⟨u, v, A2, m2, he, hv, hext, hr2, hq, hkp⟩
  exact ⟨u, v, _, m2, he, hv, hext, hr2.killAll, hk v A2 hq, hkp⟩
theorem gcOne_ok {g : FuncId} {args : List AV} {A : List AO} {M : List (AV × List AO)} (h : SCall P w0 g args A fun v A' => (v, A') ∈ M) : SCall P w0 g args A fun v A' => (v, A') ∈ dedup (M.map (gcKill A.length)) := by
  have h' : SCall P w0 g args A fun v A' => ∃ A2, (v, A2) ∈ M ∧ A' = A2.map killO := h.kill fun v A2 hm => ⟨A2, hm, rfl⟩
  refine h'.gcOr fun v A2 ⟨A3, hm, hA⟩ => ?_
  have hmem : gcKill A.length (v, A3) ∈ dedup (M.map (gcKill A.length)) := mem_dedup (List.mem_map.2 ⟨_, hm, rfl⟩)
  subst hA
  unfold gcKill gcOne at hmem
  simp only at hmem
  split at hmem
  · rename_i hok
    obtain ⟨h1, h2⟩ := gcOk_pick hok
    exact .inr ⟨_, _, _, h1, h2, hmem⟩
  · exact .inl hmem
theorem stepA_det {call : ACallF} {t : List AV} {A A' : List AO} {o : Oper} {v : AV} (hop : aop P X t A o = some (v, A')) {l : List Nat} {i : Nat} {K : List AV → List AO → Prop} (hX : ExtOk P X) (ho : ops[i]? = some o) (hw : awanted ops t o = some true)
    (h : SOps P w0 ops l (aput t o.dst v) A' K) : SOps P w0 ops (i :: l) t A K :=
  SOps.vals _ ho hw (aop_vals hX hop) fun v' A3 hm => by simp at hm; obtain ⟨rfl, rfl⟩ := hm; exact h
theorem bseq_ok {call : BCallF} {yl : AYield} (hX : ExtOk P X) (hc : BCallOk P w0 call) (hy : YieldOk P w0 yl) : ∀ {l : List Nat} {t : List AV} {A : List AO} {L : List (List AV × List AO)}, bseq P X call yl ops l t A = some L → SOps P w0 ops l t A fun t2 A2 => (t2, A2) ∈ L := by
  intro l
  induction l with
  | nil => intro t A L h; simp [bseq] at h; subst h; exact SOps.nil (by simp)
  | cons i l ih =>
    intro t A L h
    simp only [bseq] at h
    split at h
    · cases h
    · rename_i o ho
      split at h
      · rename_i hw
        exact SOps.skip ho hw (ih h)
      · rename_i hw
        split at h
        case h_2 => cases h
        rename_i M hs
        have go : ∀ v A2, (v, A2) ∈ M → SOps P w0 ops l (aput t o.dst v) A2 fun t3 A3 => (t3, A3) ∈ L := by
          intro v A2 hm
          obtain ⟨x, h1, h2⟩ := bindL_mem h _ hm
          exact (ih h1).mono fun t3 A3 h3 => h2 _ h3
        have plain : (aop P X t A o).map (fun r => [r]) = some M → SOps P w0 ops (i :: l) t A fun t3 A3 => (t3, A3) ∈ L := by
          intro hp
          obtain ⟨⟨v, A2⟩, hop, rfl⟩ := Option.map_eq_some_iff.1 hp
          exact stepA_det (call := detOf call) hop hX ho hw (go _ _ (by simp))
        unfold stepB at hs
        split at hs
        · rename_i x hop
          split at hs
          case h_2 => cases hs
          rename_i v hv
          split at hs
          · cases hs
          · rename_i hne
            simp at hs; subst hs
            exact SOps.vals _ ho hw (anextMap_vals hop hv (fun e => hne e)) go
        · rename_i c hop
          split at hs
          · rename_i k args hyl
            obtain ⟨⟨v, A2⟩, hr, rfl⟩ := Option.map_eq_some_iff.1 hs
            obtain ⟨st, pend, tl, ps, asg, body, y1, y2, y3⟩ := hy _ _ _ _ _ hr
            exact SOps.round _ ho hw hop hyl y1 y2 y3 fun v' A3 hR => by obtain ⟨rfl, rfl⟩ := hR; exact go _ _ (by simp)
          · split at hs
            · rename_i g args ht
              split at hs
              · exact plain hs
              · split at hs
                · rename_i hb
                  exact SOps.enter _ ho hw (acall_enter hop ht hb) (hc _ _ _ _ hs hb) go
                · cases hs
            · exact plain hs
        · exact plain hs
      · cases h
theorem bres_mem {fn : Func} : ∀ {L : List (Exit × List AV × List AO)} {M : List (AV × List AO)}, bres P fn L = some M → ∀ e t A, (e, t, A) ∈ L → (e = .normal ∨ e = .ret) ∧ ∃ v, ares P fn t A = some v ∧ (v, A) ∈ M
  | [], _, _, _, _, _, hm => by cases hm
  | (e0, t0, A0) :: r, M, h, e, t, A, hm => by
    simp only [bres] at h
    split at h
    · split at h
      · rename_i v l hv hl
        simp at h; subst h
        rcases List.mem_cons.1 hm with he | hm
        · simp only [Prod.mk.injEq] at he; obtain ⟨rfl, rfl, rfl⟩ := he
          exact ⟨.inl rfl, v, hv, by simp⟩
        · obtain ⟨h1, v', h2, h3⟩ := bres_mem hl e t A hm
          exact ⟨h1, v', h2, List.mem_cons_of_mem _ h3⟩
      · cases h
    · split at h
      · rename_i v l hv hl
        simp at h; subst h
        rcases List.mem_cons.1 hm with he | hm
        · simp only [Prod.mk.injEq] at he; obtain ⟨rfl, rfl, rfl⟩ := he
          exact ⟨.inr rfl, v, hv, by simp⟩
        · obtain ⟨h1, v', h2, h3⟩ := bres_mem hl e t A hm
          exact ⟨h1, v', h2, List.mem_cons_of_mem _ h3⟩
      · cases h
    · cases h
theorem SRounds.le {rd : Bool} {c : Code} {K : AK} : ∀ {k k' : Nat} {t : List AV} {A : List AO}, k ≤ k' → SRounds (P := P) (w0 := w0) rd c K k t A → SRounds (P := P) (w0 := w0) rd c K k' t A
  | 0, _, _, _, _, h => h.elim
  | k + 1, 0, _, _, hle, _ => by omega
  | k + 1, k' + 1, t, A, hle, h => SCode.mono (show SCode P w0 rd c t A _ from h) fun e t2 A2 h2 => by
    cases e with
    | normal => exact SRounds.le (by omega) h2
    | _ => exact h2
/-- Ends of a run. -/
abbrev KL (L : List (Exit × List AV × List AO)) : AK := fun e t A => (e, t, A) ∈ L
theorem bexec_both (hX : ExtOk P X) (hR : ResOk P w0 R) (hmix : P.follows .mixedOrders = true) : ∀ (n : Nat),
    (∀ (rd : Bool) (c : Code) (t : List AV) (A : List AO) (L : List (Exit × List AV × List AO)), bexec P X R G n rd c t A = some L → SCode P w0 rd c t A (KL L)) ∧
    (∀ (rd : Bool) (c : Code) (t : List AV) (A : List AO) (L : List (Exit × List AV × List AO)), bexec P X R G n rd (.loop c) t A = some L → ∃ k, SRounds (P := P) (w0 := w0) rd c (KL L) k t A) := by
  intro n
  induction n with
  | zero => exact ⟨fun rd c t A L h => by simp [bexec] at h, fun rd c t A L h => by simp [bexec] at h⟩
  | succ n ihb =>
    obtain ⟨ih, ihl⟩ := ihb
    have hloop : ∀ (rd : Bool) (c : Code) (t : List AV) (A : List AO) (L : List (Exit × List AV × List AO)), bexec P X R G (n + 1) rd (.loop c) t A = some L → ∃ k, SRounds (P := P) (w0 := w0) rd c (KL L) k t A := by
      intro rd b t A L h
      simp only [bexec] at h
      split at h
      case h_2 => cases h
      rename_i M hM
      -- one number of rounds for all ends
      have all : ∀ (M' : List (Exit × List AV × List AO)), (∀ x ∈ M', x ∈ M) → ∃ k, ∀ e t1 A1, (e, t1, A1) ∈ M' → match e with
          | .normal => SRounds (P := P) (w0 := w0) rd b (KL L) k t1 A1
          | e => KL L e t1 A1 := by
        intro M'
        induction M' with
        | nil => intro _; exact ⟨0, fun e t1 A1 h => by cases h⟩
        | cons x r ihm =>
          intro hsub
          obtain ⟨k, hk⟩ := ihm fun y hy => hsub y (List.mem_cons_of_mem _ hy)
          obtain ⟨q, hq1, hq2⟩ := bindL_mem h x (hsub x (List.mem_cons_self ..))
          obtain ⟨e0, t0, A0⟩ := x
          have lift : ∀ (k' k'' : Nat) t1 A1, k' ≤ k'' → SRounds (P := P) (w0 := w0) rd b (KL L) k' t1 A1 → SRounds (P := P) (w0 := w0) rd b (KL L) k'' t1 A1 := fun k' k'' t1 A1 hle hr => SRounds.le hle hr
          cases e0 with
          | normal =>
            obtain ⟨k0, hk0⟩ := ihl _ _ _ _ _ hq1
            have hk0' : SRounds (P := P) (w0 := w0) rd b (KL L) k0 t0 A0 := SRounds.mono (fun e t A hm => hq2 _ hm) hk0
            refine ⟨max k k0, fun e t1 A1 hm => ?_⟩
            rcases List.mem_cons.1 hm with he | hm
            · simp only [Prod.mk.injEq] at he; obtain ⟨rfl, rfl, rfl⟩ := he
              exact lift _ _ _ _ (Nat.le_max_right ..) hk0'
            · have := hk e t1 A1 hm
              cases e <;> first | exact this | exact lift _ _ _ _ (Nat.le_max_left ..) this
          | _ =>
            simp only [Option.some.injEq] at hq1; subst hq1
            refine ⟨k, fun e t1 A1 hm => ?_⟩
            rcases List.mem_cons.1 hm with he | hm
            · simp only [Prod.mk.injEq] at he; obtain ⟨rfl, rfl, rfl⟩ := he
              exact hq2 _ (List.mem_singleton.2 rfl)
            · exact hk e t1 A1 hm
      obtain ⟨k, hk⟩ := all M fun _ h => h
      refine ⟨k + 1, (ih _ _ _ _ _ hM).mono fun e2 t3 A3 hm => ?_⟩
      have := hk e2 t3 A3 hm
      cases e2 <;> exact this
    refine ⟨fun rd c t A L h => ?_, hloop⟩
    have hcall : BCallOk P w0 (fun g args A => match R g with
      | some h => (h args A).map fun r => [r]
      | none => match P.funcs[g]? with
        | some fn => match fn.body with
          | some b => match bexec P X R G n false b (args ++ List.replicate (fn.ntmps - args.length) aundef) A with
            | some L => match bres P fn L with
              | some M => some (if G g then dedup (M.map (gcKill A.length)) else M)
              | none => none
            | none => none
          | none => none
        | none => none) := by
      intro g args A L hg hb
      simp only at hg
      split at hg
      · rename_i hh hr
        obtain ⟨⟨v, A2⟩, hx, rfl⟩ := Option.map_eq_some_iff.1 hg
        exact (hR g hh hr args A v A2 hx).mono fun v' A' ⟨h1, h2⟩ => by subst h1 h2; simp
      · split at hg
        case h_2 => cases hg
        rename_i fn hf
        split at hg
        case h_2 => cases hg
        rename_i b hbody
        split at hg
        case h_2 => cases hg
        rename_i L2 hex
        split at hg
        case h_2 => cases hg
        rename_i M hM
        simp only [Option.some.injEq] at hg
        have base : SCall P w0 g args A fun v A' => (v, A') ∈ M := SCall.body hf hbody ((ih _ _ _ _ _ hex).mono fun e2 t3 A3 hm => by
          obtain ⟨h1, v, h2, h3⟩ := bres_mem hM _ _ _ hm
          exact ⟨h1, v, ares_rel h2, h3⟩)
        split at hg
        · subst hg; exact gcOne_ok base
        · subst hg; exact base
    have hyl : YieldOk P w0 (fun k args A => match A[k]? with
      | some (.loop _ _ tl ps asg body) => if args.length = ps.size then match bexec P X R G n true asg (setArgs tl (ps.toList.zip args)) A with
          | some [(.normal, t2, A2)] => match abegin A2 k with
            | some A3 => match bexec P X R G n true body t2 A3 with
              | some [(e, _, A4)] => aendRound A4 k e
              | _ => none
            | none => none
          | _ => none
        else none
      | _ => none) := by
      intro k args A v A' hh
      simp only at hh
      split at hh
      case h_2 => cases hh
      rename_i st pend tl ps asg body hk
      split at hh
      case isFalse => cases hh
      rename_i hl
      split at hh
      case h_2 => cases hh
      rename_i t2 A2 h1
      split at hh
      case h_2 => cases hh
      rename_i A3 h2
      split at hh
      case h_2 => cases hh
      rename_i e t3 A4 h3
      refine ⟨_, _, _, _, _, _, hk, hl, (ih _ _ _ _ _ h1).mono fun e2 t4 A5 hm => ?_⟩
      simp only [KL, List.mem_singleton, Prod.mk.injEq] at hm
      obtain ⟨rfl, rfl, rfl⟩ := hm
      exact ⟨rfl, _, h2, (ih _ _ _ _ _ h3).mono fun e5 t5 A6 hm => by
        simp only [KL, List.mem_singleton, Prod.mk.injEq] at hm
        obtain ⟨rfl, rfl, rfl⟩ := hm
        exact ⟨_, _, hh, rfl, rfl⟩⟩
    simp only [bexec] at h
    split at h
    · simp at h; subst h; exact SCode.skip (by simp)
    · simp at h; subst h; exact SCode.label (by simp)
    · simp at h; subst h; exact SCode.ret (by simp)
    · simp at h; subst h; exact SCode.exit (by simp)
    · rename_i a b
      split at h
      case h_2 => cases h
      rename_i M hM
      refine SCode.seq (fun t2 A2 => (Exit.normal, t2, A2) ∈ M) ((ih _ _ _ _ _ hM).mono fun e2 t3 A3 hm => ?_) fun t2 A2 hm => ?_
      · obtain ⟨x, h1, h2⟩ := bindL_mem h _ hm
        cases e2 with
        | normal => exact hm
        | _ => simp only [Option.some.injEq] at h1; subst h1; exact h2 _ (List.mem_singleton.2 rfl)
      · obtain ⟨x, h1, h2⟩ := bindL_mem h _ hm
        exact (ih _ _ _ _ _ h1).mono fun e t A hm => h2 _ hm
    · rename_i x a b
      split at h
      · rename_i v hv
        exact SCode.cond v hv (ih _ _ _ _ _ h)
      · cases h
    · rename_i id b
      split at h
      case h_2 => cases h
      rename_i M hM
      simp only [Option.some.injEq] at h
      subst h
      refine SCode.block ((ih _ _ _ _ _ hM).mono fun e2 t3 A3 hm => ?_)
      cases e2 with
      | exit i =>
        simp only [AInBlock]
        split
        · rename_i hi
          exact List.mem_map.2 ⟨_, hm, by simp only [if_pos hi]⟩
        · rename_i hi
          exact List.mem_map.2 ⟨_, hm, by simp only [if_neg hi]⟩
      | _ => exact List.mem_map.2 ⟨_, hm, rfl⟩
    · rename_i b
      obtain ⟨k, hk⟩ := hloop rd b t A L (by simp only [bexec]; exact h)
      exact SCode.loop k hk
    · rename_i id ops
      split at h
      case h_2 => cases h
      rename_i M hM
      simp only [Option.some.injEq] at h
      subst h
      exact SCode.region ((bseq_ok hX hcall hyl hM).mono fun t2 A2 hm => List.mem_map.2 ⟨_, hm, rfl⟩)
    · rename_i id ops
      split at h
      case h_2 => cases h
      rename_i t1 A1 h1
      simp only [Option.some.injEq] at h
      subst h
      exact aregion_ok hX hmix (detOf_ok hcall) h1 (by simp)
    · rename_i b
      split at h
      · cases h
      · rename_i r hne hr
        simp only [Option.some.injEq] at h
        subst h
        refine SCode.scope ((ih _ _ _ _ _ hr).mono fun e2 t3 A3 hm => ?_)
        refine ⟨fun l hl => ?_, hm⟩
        subst hl
        simp only [KL, List.mem_singleton] at hm
        exact hne _ _ _ hm.symm
      · cases h
    · rename_i g ps asg body
      split at h
      · cases h
      rename_i hrd
      have hrd : rd = false := by simpa using hrd
      subst hrd
      split at h
      case h_2 => cases h
      rename_i fid first cap hev
      split at h
      case isFalse => cases h
      rename_i hb
      split at h
      case h_2 => cases h
      rename_i v A2 hc
      have hc' := hcall _ _ _ _ hc hb
      split at h
      · rename_i A3 hend
        simp only [Option.some.injEq] at h; subst h
        exact SCode.rangeFunc _ hev hb hc' fun v' A4 hm => by
          simp only [List.mem_singleton, Prod.mk.injEq] at hm; obtain ⟨rfl, rfl⟩ := hm
          exact ⟨_, _, hend, by simp⟩
      · rename_i c A3 hend
        exact SCode.rangeFunc _ hev hb hc' fun v' A4 hm => by
          simp only [List.mem_singleton, Prod.mk.injEq] at hm; obtain ⟨rfl, rfl⟩ := hm
          exact ⟨_, _, hend, ih _ _ _ _ _ h⟩
      · cases h
    · cases h
theorem bcall_ok (hX : ExtOk P X) (hR : ResOk P w0 R) (hmix : P.follows .mixedOrders = true) {n : Nat} {g : FuncId} {args : List AV} {A : List AO} {L : List (AV × List AO)} (h : bcall P X R G n g args A = some L) :
    SCall P w0 g args A fun v A' => (v, A') ∈ L := by
  unfold bcall at h
  split at h
  case h_2 => cases h
  rename_i fn hf
  split at h
  case h_2 => cases h
  rename_i b hbody
  split at h
  case h_2 => cases h
  rename_i L2 hex
  split at h
  case h_2 => cases h
  rename_i M hM
  simp only [Option.some.injEq] at h
  have base : SCall P w0 g args A fun v A' => (v, A') ∈ M := SCall.body hf hbody (((bexec_both hX hR hmix n).1 _ _ _ _ _ hex).mono fun e2 t3 A3 hm => by
    obtain ⟨h1, v, h2, h3⟩ := bres_mem hM _ _ _ hm
    exact ⟨h1, v, ares_rel h2, h3⟩)
  split at h
  · subst h; exact gcOne_ok base
  · subst h; exact base
/-- All ends of a law are true. -/
def allT : Option (List (AV × List AO)) → Bool
  | some L => L.all fun r => match r.1 with
    | .bool true => true
    | _ => false
  | none => false
theorem bcall_true (hX : ExtOk P X) (hR : ResOk P w0 R) (hmix : P.follows .mixedOrders = true) {n : Nat} {g : FuncId} {args : List AV} {A : List AO} (h : allT (bcall P X R G n g args A) = true) : SCall P w0 g args A fun v _ => v = .bool true := by
  unfold allT at h
  split at h
  · rename_i L hL
    refine (bcall_ok hX hR hmix hL).mono fun v A' hm => ?_
    have := List.all_eq_true.1 h _ hm
    simp only at this
    split at this
    · rfl
    · cases this
  · cases h
/-- A row by this machine. -/
def bpureB (P : Program) (X : AExt) (R : ARes) (G : FuncId → Bool) (n : Nat) (g : FuncId) (q : PureRow) : Bool :=
  match bcall P X R G n g q.args q.B with
  | some [(v, _)] => flat1 q.v && avEq v q.v
  | _ => false
theorem PureOk.of_bcall (hX : ExtOk P X) (hR : ∀ w0, ResOk P w0 R) (hmix : P.follows .mixedOrders = true) {n : Nat} {g : FuncId} {q : PureRow} (h : bpureB P X R G n g q = true) : PureOk P g q := by
  unfold bpureB at h
  split at h
  · rename_i v A' hc
    simp only [Bool.and_eq_true] at h
    have hv := avEq_eq _ _ h.2
    subst hv
    exact ⟨h.1, fun w0 => ⟨A', (bcall_ok hX (hR w0) hmix hc).mono fun v2 A2 hm => by simpa using hm⟩⟩
  · cases h
end
end Go.Am
