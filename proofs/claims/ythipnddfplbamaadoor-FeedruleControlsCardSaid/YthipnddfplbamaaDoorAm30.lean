/- A part of the proof: Am30. -/
import Derived.Test.YthipnddfplbamaaDoorAm37
import Derived.Test.YthipnddfplbamaaDoorAm43
import Derived.Test.YthipnddfplbamaaDoorAm46
set_option linter.unusedVariables false
set_option linter.unusedSimpArgs false
namespace Go.Am
open Go.RowKit

/-! ### What must hold along all ways: the machine on unknown values, as one sentence -/
/-- A script: which way comparisons go, and what is told of operations, loops and regions. -/
inductive Scr : Type 1 where
  | nil
  /-- the next comparison comes to b: seen -/
  | d (b : Bool) (r : Scr)
  /-- the same, owed -/
  | e (b : Bool) (r : Scr)
  /-- the next comparison goes both ways -/
  | br (y n : Scr)
  /-- the operation at (region, place) gives v and leaves A -/
  | v (id i : Nat) (v : AV) (A : List AO) (r : Scr)
  /-- the operation at (region, place) gives v and changes nothing -/
  | w (id i : Nat) (v : AV) (r : Scr)
  /-- the operation at (region, place) gives v and sets block k -/
  | u (id i : Nat) (v : AV) (k : Nat) (o : AO) (r : Scr)
  /-- the operation at (region, place) by the rule for unknown numbers -/
  | s (id i : Nat) (r : Scr)
  /-- the loop's next round is run -/
  | un (r : Scr)
  /-- the loop's next round is run, told loops within it; the loop ends so -/
  | uu (r : Scr)
  /-- the loop is told: begun with the slots is alone, it ends so, for some x with p x; or in one of the further ways -/
  | lp (is : List Nat) (X : Type) (p : X → Prop) (e : Exit) (t : X → List AV) (A : X → List AO) (r : X → Scr) (more : Scr)
  /-- the region is told -/
  | rg (id : Nat) (t : List AV) (A : List AO) (r : Scr)
  /-- the call at (region, place) ends so, for some x with p x; or in one of the further ways -/
  | cl (id i : Nat) (X : Type) (p : X → Prop) (v : X → AV) (A : X → List AO) (r : X → Scr) (more : Scr)
  /-- the operation at (region, place) gives v and leaves A, by what is known of the memory -/
  | sm (id i : Nat) (v : AV) (A : List AO) (r : Scr)
  /-- the operation at (region, place) holds a slice against nil: either answer -/
  | mb (id i : Nat) (y n : Scr)

abbrev VK := AV → List AO → Scr → Prop
abbrev VX := Exit → List AV → List AO → Scr → Prop
abbrev VCallF := FuncId → List AV → List AO → Scr → VK → Prop

/-! #### Operations on unknown numbers: the value, and what must hold -/
def sbound (y : Nat) : Option AV → Nat → Option (Nat × Prop)
  | none, d => some (d, True)
  | some (.int _ n), _ => some (n.toNat, 0 ≤ n ∧ n ≤ y)
  | some _, _ => none
def sslice (P : Program) (ty : TypeId) (x : AV) (lo hi : Option AV) : Option (AV × Prop) :=
  match P.underlying ty, x with
  | some .string, .str s => match sbound s.length hi s.length with
    | some (h, p) => match sbound h lo 0 with
      | some (l, q) => some (.str (match hi with | none => s.drop l | some _ => match lo with | none => s.take h | some _ => (s.drop l).take (h - l)), p ∧ q)
      | none => none
    | none => none
  | some (.slice e), .slc b len c ex => match asize P e, sbound c hi len with
    | some n, some (h, p) => match sbound h lo 0 with
      | some (l, q) => some (.slc (b.map fun p => (p.1, p.2 + l * n)) (h - l) (c - l) ex, (len ≤ c ∧ (hi.isNone = true → h ≤ c)) ∧ p ∧ q)
      | none => none
    | _, _ => none
  | _, _ => none
def sop0 (P : Program) (t : List AV) (A : List AO) (o : Oper) : Option (AV × List AO × Prop) :=
  match o.op with
  | .index ty x i => match aev t x, aev t i, P.underlying ty with
    | some (.str s), some (.int _ n), some .string => some (.int .u8 (s.getD n.toNat 0).toNat, A, 0 ≤ n ∧ n.toNat < s.length)
    | _, _, _ => none
  | .indexAddr ty x i => match aev t x, aev t i, P.underlying ty with
    | some (.slc (some (k, o)) len _ _), some (.int _ n), some (.slice e) => match asize P e with
      | some q => some (.ptr (some (k, o + n.toNat * q)), A, 0 ≤ n ∧ n < len)
      | none => none
    | some (.ptr (some (k, o))), some (.int _ n), some (.array len e) => match asize P e with
      | some q => some (.ptr (some (k, o + n.toNat * q)), A, 0 ≤ n ∧ n < len)
      | none => none
    | _, _, _ => none
  | .slice ty x lo hi none => match aev t x, aopt t lo, aopt t hi with
    | some v, some l, some h => match sslice P ty v l h with
      | some (u, p) => some (u, A, p)
      | none => none
    | _, _, _ => none
  | .binOp op ty x y _ => match aev t x, aev t y with
    | some (.str a), some (.str b) => match op with
      | .add => some (.str (a ++ b), A, a.length + b.length ≤ 9223372036854775807)
      | _ => none
    | some (.int k a), some (.int k' b) => if k = k' then match op with
        | .quo => some (.int k (k.wrap (a.tdiv b)), A, b ≠ 0)
        | .rem => some (.int k (a.tmod b), A, b ≠ 0)
        | _ => none
      else none
    | _, _ => none
  | .call c => match c.callee, c.argTypes.toList, aevs t c.args.toList with
    | .builtin .min, _, some [.int k x, .int k' y] => if k = k' then some (.int k (min x y), A, True) else none
    | .builtin .max, _, some [.int k x, .int k' y] => if k = k' then some (.int k (max x y), A, True) else none
    | _, _, _ => none
  | _ => none

/-- Memory at unknown places, slices of unknown lengths. -/
def sopMake (P : Program) (A : List AO) (ty : TypeId) (n q : Int) : Option (AV × List AO × Prop) :=
  match P.underlying ty with
  | some (.slice e) => match P.info? e, azero P e with
    | some i, some z => match Nat.beq (acells z).length i.size with
      | true => some (.slc (some (A.length, 0)) n.toNat q.toNat true, A ++ [.row (areps q.toNat (acells z)) e true], 0 ≤ n ∧ n ≤ q ∧ q ≤ 9223372036854775807 ∧ i.bytes * q ≤ 281474976710656)
      | false => none
    | _, _ => none
  | _ => none
def sopApp (P : Program) (A : List AO) (ty xt : TypeId) (s x : AV) : Option (AV × List AO × Prop) :=
  match P.underlying ty, notInt P xt with
  | some (.slice e), true => match P.info? e, azero P e with
    | some i, some z => match Nat.beq (acells z).length i.size && !Nat.beq i.size 0 with
      | true => match s with
        | .slc (some (k, 0)) l c false => match anews A i.size x with
          | some (cnt, news) => match arow A k with
            | some (cs, e', true) => match Nat.beq e' e with
              | true => some (.slc (some (A.length, 0)) (l + cnt) (l + cnt) false, A.set k .dead ++ [.row (cs ++ news) e true],
                  c = l ∧ news.all aone = true ∧ cnt ≠ 0 ∧ l * i.size = cs.length ∧ (l + cnt) * i.bytes ≤ 140737488355328 ∧ l + cnt ≤ 9223372036854775807)
              | false => none
            | _ => none
          | none => none
        | .slc none 0 0 _ => match x with
          | .slc (some (j, o)) n _ _ => match arow A j with
            | some (cs, _, _) => some (.slc (some (A.length, 0)) n n false, A ++ [.row ((cs.drop o).take (n * i.size)) e true],
                n ≠ 0 ∧ o + n * i.size ≤ cs.length ∧ ((cs.drop o).take (n * i.size)).all aone = true ∧ n * i.bytes ≤ 140737488355328 ∧ n ≤ 9223372036854775807)
            | none => none
          | _ => none
        | .slc (some (k, 0)) 0 0 true => match x with
          | .slc (some (j, o)) n _ _ => match arow A j, arow A k with
            | some (cs, _, _), some _ => some (.slc (some (A.length, 0)) n n false, A ++ [.row ((cs.drop o).take (n * i.size)) e true],
                n ≠ 0 ∧ o + n * i.size ≤ cs.length ∧ ((cs.drop o).take (n * i.size)).all aone = true ∧ n * i.bytes ≤ 140737488355328 ∧ n ≤ 9223372036854775807)
            | _, _ => none
          | _ => none
        | _ => none
      | false => none
    | _, _ => none
  | _, _ => none
def sopM (P : Program) (t : List AV) (A : List AO) (o : Oper) : Option (AV × List AO × Prop) :=
  match o.op with
  | .store ty x y => match aev t x, aev t y, asize P ty with
    | some (.ptr (some (k, j))), some z, some n => match arow A k with
      | some (cs, e, true) => match Nat.beq (acells z).length n && (acells z).all aone with
        | true => some (aundef, A.set k (.row (asplice cs j (acells z)) e true), j + n ≤ cs.length)
        | false => none
      | _ => none
    | _, _, _ => none
  | .makeSlice ty l c => match aev t l, aev t c with
    | some (.int _ n), some (.int _ q) => sopMake P A ty n q
    | _, _ => none
  | .call c => match c.callee, c.argTypes.toList, aevs t c.args.toList with
    | .builtin .append, [ty, xt], some [s, x] => sopApp P A ty xt s x
    | _, _, _ => none
  | _ => none
def sop (P : Program) (t : List AV) (A : List AO) (o : Oper) : Option (AV × List AO × Prop) :=
  match sop0 P t A o with
  | some r => some r
  | none => sopM P t A o

def vconc (P : Program) (X : AExt) (t : List AV) (A : List AO) (o : Oper) (q : Scr) (k : VK) : Prop :=
  match aop P X t A o with
  | some (v, A') => match o.op with
    | .binOp .. => match v with
      | .bool b => match q with
        | .d d r => match b == d with
          | true => k (.bool d) A' r
          | false => False
        | .e d r => b = d ∧ k (.bool d) A' r
        | .br y n => (b = true → k (.bool true) A' y) ∧ (b = false → k (.bool false) A' n)
        | _ => False
      | v => k v A' q
    | _ => k v A' q
  | none => False
/-- What is owed for an operation that is told and changes nothing. -/
def wcond (P : Program) (X : AExt) (t : List AV) (A : List AO) (o : Oper) (v : AV) : Prop :=
  match o.op with
  | .load ty x => match aev t x with
    | some u => aload P A ty u = some v
    | none => False
  | .lookup ty x k ok => match aev t x, aev t k with
    | some u, some y => alookup P A ty u y ok = some v
    | _, _ => False
  | _ => aop P X t A o = some (v, A)
/-- For one that changes a block. -/
def ucond (P : Program) (X : AExt) (t : List AV) (A : List AO) (o : Oper) (v : AV) (A' : List AO) : Prop :=
  match o.op with
  | .store ty x y => match aev t x, aev t y with
    | some u, some z => astore P A ty u z = some A'
    | _, _ => False
  | .mapUpdate ty mp k y => match aev t mp, aev t k, aev t y with
    | some a, some b, some c => amapUpdate P A ty a b c = some A'
    | _, _, _ => False
  | _ => aop P X t A o = some (v, A')
def uval (o : Oper) (v : AV) : AV :=
  match o.op with
  | .store .. => aundef
  | .mapUpdate .. => aundef
  | _ => v
theorem wcond_ok {P : Program} {X : AExt} {t : List AV} {A : List AO} {o : Oper} {v : AV} (h : wcond P X t A o v) : aop P X t A o = some (v, A) := by
  unfold wcond at h
  split at h
  · rename_i ho
    split at h
    · rename_i hx
      simp only [aop, ho, hx, h, Option.map_some]
    · exact h.elim
  · rename_i ho
    split at h
    · rename_i hx hy
      simp only [aop, ho, hx, hy, h, Option.map_some]
    · exact h.elim
  · exact h
theorem ucond_ok {P : Program} {X : AExt} {t : List AV} {A A' : List AO} {o : Oper} {v : AV} (h : ucond P X t A o v A') : aop P X t A o = some (uval o v, A') := by
  unfold ucond at h
  split at h
  · rename_i ho
    split at h
    · rename_i hx hy
      simp only [aop, uval, ho, hx, hy, h, Option.map_some]
    · exact h.elim
  · rename_i ho
    split at h
    · rename_i hx hy hz
      simp only [aop, uval, ho, hx, hy, hz, h, Option.map_some]
    · exact h.elim
  · rename_i h1 h2
    unfold uval
    split <;> rename_i ho
    · exact absurd ho (h1 _ _ _)
    · exact absurd ho (h2 _ _ _ _)
    · exact h
def vplain (P : Program) (X : AExt) (t : List AV) (A : List AO) (o : Oper) (id i : Nat) (q : Scr) (k : VK) : Prop :=
  match q with
  | .v a b v A' r => if a == id && b == i then aop P X t A o = some (v, A') ∧ k v A' r else vconc P X t A o q k
  | .w a b v r => if a == id && b == i then wcond P X t A o v ∧ k v A r else vconc P X t A o q k
  | .u a b v j y r => if a == id && b == i then ucond P X t A o v (A.set j y) ∧ k (uval o v) (A.set j y) r else vconc P X t A o q k
  | .s a b r => if a == id && b == i then match sop P t A o with
      | some (v, A', p) => p ∧ k v A' r
      | none => False
    else vconc P X t A o q k
  | q => vconc P X t A o q k
def vstep (P : Program) (w0 : World) (X : AExt) (call : VCallF) (t : List AV) (A : List AO) (o : Oper) (id i : Nat) (q : Scr) (k : VK) : Prop :=
  match o.op with
  | .call c => match acallTarget P t c with
    | some (g, args) => if (X g).isSome then vplain P X t A o id i q k else if abody P g then
        match q with
        | .v a b v A' r => if a == id && b == i then SCall P w0 g args A (fun v' A'' => v' = v ∧ A'' = A') ∧ k v A' r else call g args A q k
        | .w a b v r => if a == id && b == i then SCall P w0 g args A (fun v' A'' => v' = v ∧ A'' = A) ∧ k v A r else call g args A q k
        | .u a b v j y r => if a == id && b == i then SCall P w0 g args A (fun v' A'' => v' = v ∧ A'' = A.set j y) ∧ k v (A.set j y) r else call g args A q k
        | q => call g args A q k
      else False
    | none => vplain P X t A o id i q k
  | _ => vplain P X t A o id i q k
def vseq (P : Program) (w0 : World) (X : AExt) (call : VCallF) (id : Nat) (ops : Array Oper) : Nat → Nat → List AV → List AO → Scr → (List AV → List AO → Scr → Prop) → Prop
  | 0, _, t, A, q, k => k t A q
  | m + 1, i, t, A, q, k => match ops[i]? with
    | none => False
    | some o => match awanted ops t o with
      | some false => vseq P w0 X call id ops m (i + 1) (aput t o.dst aundef) A q k
      | some true => vstep P w0 X call t A o id i q fun v A' q' => vseq P w0 X call id ops m (i + 1) (aput t o.dst v) A' q' k
      | none => False
/-- What an operation met, in a region whose readers are held against every stage. -/
structure Rec where
  t : List AV
  A : List AO
  w : Bool
  told : Bool
  v : AV
def toldAt (q : Scr) (id i : Nat) : Bool :=
  match q with
  | .w a b _ _ => a == id && b == i
  | .v a b _ _ _ => a == id && b == i
  | _ => false
def vseqR (P : Program) (w0 : World) (X : AExt) (call : VCallF) (id : Nat) (ops : Array Oper) : Nat → Nat → List AV → List AO → Scr → List Rec → (List AV → List AO → Scr → List Rec → Prop) → Prop
  | 0, _, t, A, q, rs, k => k t A q rs
  | m + 1, i, t, A, q, rs, k => match ops[i]? with
    | none => False
    | some o => match awanted ops t o with
      | some false => vseqR P w0 X call id ops m (i + 1) (aput t o.dst aundef) A q (rs ++ [⟨t, A, false, false, aundef⟩]) k
      | some true => vstep P w0 X call t A o id i q fun v A' q' => vseqR P w0 X call id ops m (i + 1) (aput t o.dst v) A' q' (rs ++ [⟨t, A, true, toldAt q id i, v⟩]) k
      | none => False
def oblSt (P : Program) (X : AExt) (o : Oper) (t : List AV) (told : Bool) (v : AV) : List (List AO) → Prop → Prop
  | [], p => p
  | H :: r, p => (match told with
    | true => wcond P X t H o v
    | false => match aop P X t H o with
      | some (v', _) => v' = v
      | none => False) ∧ oblSt P X o t told v r p
def stagesFor (hs : List (List AO)) (lo hi own : Nat) : List (List AO) :=
  (List.range (hi + 1)).filterMap fun a => if (decide (lo ≤ a) && !(a == own)) = true then hs[a]? else none
def oblGo (P : Program) (X : AExt) (ops : Array Oper) (cls acts : List Nat) (hs : List (List AO)) (rs : List Rec) : List Nat → Prop → Prop
  | [], p => p
  | i :: l, p => match ops[i]?, rs[i]? with
    | some o, some r => match (detK P X o == 1 && r.w) with
      | true => oblSt P X o r.t r.told r.v (stagesFor hs (loL (cls.getD i 0) acts 0 0) (hiOf cls acts i) (actFrom P X ops 0 i).length) (oblGo P X ops cls acts hs rs l p)
      | false => oblGo P X ops cls acts hs rs l p
    | _, _ => False
def heapsOf (rs : List Rec) (A : List AO) (acts : List Nat) : List (List AO) :=
  acts.map (fun i => match rs[i]? with | some r => r.A | none => A) ++ [A]
def regionR (P : Program) (w0 : World) (X : AExt) (call : VCallF) (id : Nat) (ops : Array Oper) (t : List AV) (A : List AO) (q : Scr) (k : List AV → List AO → Scr → Prop) : Prop :=
  vseqR P w0 X call id ops ops.size 0 t A q [] fun t' A' q' rs =>
    oblGo P X ops (closes ops) (actFrom P X ops 0 ops.size) (heapsOf rs A' (actFrom P X ops 0 ops.size)) rs (List.range ops.size) (k t' A' q')
/-! #### A drawn region whose new blocks are numbered ahead -/
def allocsOf (P : Program) (ops : Array Oper) : List (Nat × List AV × TypeId) :=
  (List.range ops.size).filterMap fun i => match ops[i]? with
    | some o => if isAlloc o.op then (amake P [] o).map fun x => (i, x.2.1, x.2.2) else none
    | none => none
def gidOf (L : List (Nat × List AV × TypeId)) (n0 i : Nat) : Option Nat := (L.findIdx? fun x => x.1 == i).map fun p => n0 + p
def vseqG (P : Program) (w0 : World) (X : AExt) (call : VCallF) (id : Nat) (ops : Array Oper) (L : List (Nat × List AV × TypeId)) (n0 : Nat) : Nat → Nat → List AV → List AO → Scr → List Rec → (List AV → List AO → Scr → List Rec → Prop) → Prop
  | 0, _, t, A, q, rs, k => k t A q rs
  | m + 1, i, t, A, q, rs, k => match ops[i]? with
    | none => False
    | some o => match awanted ops t o with
      | some false => if isAlloc o.op then False else vseqG P w0 X call id ops L n0 m (i + 1) (aput t o.dst aundef) A q (rs ++ [⟨t, A, false, false, aundef⟩]) k
      | some true => if isAlloc o.op then match gidOf L n0 i with
          | some b => vseqG P w0 X call id ops L n0 m (i + 1) (aput t o.dst (.ptr (some (b, 0)))) A q (rs ++ [⟨t, A, false, false, .ptr (some (b, 0))⟩]) k
          | none => False
        else vstep P w0 X call t A o id i q fun v A' q' => vseqG P w0 X call id ops L n0 m (i + 1) (aput t o.dst v) A' q' (rs ++ [⟨t, A, true, toldAt q id i, v⟩]) k
      | none => False
def oblGG (P : Program) (X : AExt) (ops : Array Oper) (cls acts : List Nat) (hs : List (List AO)) (rs : List Rec) : List Nat → Prop → Prop
  | [], p => p
  | i :: l, p => match ops[i]?, rs[i]? with
    | some o, some r => match (detG P X o == 1 && r.w) with
      | true => oblSt P X o r.t r.told r.v (stagesFor hs (loL (cls.getD i 0) acts 0 0) (hiOf cls acts i) (actG P X ops 0 i).length) (oblGG P X ops cls acts hs rs l p)
      | false => oblGG P X ops cls acts hs rs l p
    | _, _ => False
def rowIs (o : AO) (cs : List AV) (e : TypeId) : Bool :=
  match o with
  | .row cs' e' true => avsEq cs' cs && Nat.beq e' e
  | _ => false
def allocOk (L : List (Nat × List AV × TypeId)) (n0 : Nat) (cls acts : List Nat) (hs : List (List AO)) : Bool :=
  L.all fun x => (List.range (hiOf cls acts x.1 + 1)).all fun a => match hs[a]? with
    | some H => match gidOf L n0 x.1 with
      | some k => match H[k]? with
        | some o => rowIs o x.2.1 x.2.2
        | none => false
      | none => false
    | none => true
def regionG (P : Program) (w0 : World) (X : AExt) (call : VCallF) (id : Nat) (ops : Array Oper) (t : List AV) (A : List AO) (q : Scr) (k : List AV → List AO → Scr → Prop) : Prop :=
  vseqG P w0 X call id ops (allocsOf P ops) A.length ops.size 0 t (A ++ (allocsOf P ops).map fun x => .row x.2.1 x.2.2 true) q [] fun t' A' q' rs =>
    if allocOk (allocsOf P ops) A.length (closes ops) (actG P X ops 0 ops.size) (heapsOf rs A' (actG P X ops 0 ops.size)) then
      oblGG P X ops (closes ops) (actG P X ops 0 ops.size) (heapsOf rs A' (actG P X ops 0 ops.size)) rs (List.range ops.size) (k t' A' q')
    else False
def regionD (P : Program) (w0 : World) (X : AExt) (call : VCallF) (id : Nat) (ops : Array Oper) (t : List AV) (A : List AO) (q : Scr) (k : List AV → List AO → Scr → Prop) : Prop :=
  if detB1 P X ops then regionR P w0 X call id ops t A q k else if detBG P X ops then regionG P w0 X call id ops t A q k else False
def clQ : Scr → AV → List AO → Prop
  | .cl _ _ X p v A _ more => fun v' A' => (∃ x, p x ∧ v' = v x ∧ A' = A x) ∨ clQ more v' A'
  | _ => fun _ _ => False
def clAll : Scr → VK → Prop
  | .cl _ _ X p v A r more, k => (∀ x, p x → k (v x) (A x) (r x)) ∧ clAll more k
  | _, _ => True
def vstepN (P : Program) (w0 : World) (X : AExt) (call : VCallF) (t : List AV) (A : List AO) (o : Oper) (id i : Nat) (q : Scr) (k : VK) : Prop :=
  match q with
  | .cl a b Y p v A' r more => if a == id && b == i then match o.op with
      | .call c => match acallTarget P t c with
        | some (g, args) => if abody P g then SCall P w0 g args A (clQ (.cl a b Y p v A' r more)) ∧ clAll (.cl a b Y p v A' r more) k else False
        | none => False
      | _ => False
    else vstep P w0 X call t A o id i q k
  | .sm a b v A' r => if a == id && b == i then OpVals (P := P) (w0 := w0) t A o [(v, A')] ∧ k v A' r else vstep P w0 X call t A o id i q k
  | .mb a b y n => if a == id && b == i then match isNilCmp P t o with
      | true => k (.bool true) A y ∧ k (.bool false) A n
      | false => False
    else vstep P w0 X call t A o id i q k
  | q => vstep P w0 X call t A o id i q k
def vseqN (P : Program) (w0 : World) (X : AExt) (call : VCallF) (id : Nat) (ops : Array Oper) : Nat → Nat → List AV → List AO → Scr → (List AV → List AO → Scr → Prop) → Prop
  | 0, _, t, A, q, k => k t A q
  | m + 1, i, t, A, q, k => match ops[i]? with
    | none => False
    | some o => match awanted ops t o with
      | some false => vseqN P w0 X call id ops m (i + 1) (aput t o.dst aundef) A q k
      | some true => vstepN P w0 X call t A o id i q fun v A' q' => vseqN P w0 X call id ops m (i + 1) (aput t o.dst v) A' q' k
      | none => False
/-- Slots by number; the rest forgotten. -/
def slotOf (ps : List (Nat × AV)) (i : Nat) : AV :=
  match ps with
  | [] => .any
  | (j, v) :: r => if Nat.beq j i then v else slotOf r i
def lay (n : Nat) (ps : List (Nat × AV)) : List AV := (List.range n).map (slotOf ps)
def proj (is : List Nat) (t : List AV) : List (Nat × AV) := is.map fun i => (i, match t[i]? with | some v => v | none => .any)
theorem slotOf_proj (t : List AV) (i : Nat) (v : AV) (hv : t[i]? = some v) : ∀ is : List Nat, slotOf (proj is t) i = v ∨ slotOf (proj is t) i = .any := by
  intro is
  induction is with
  | nil => exact .inr rfl
  | cons j r ih =>
    simp only [proj, List.map_cons, slotOf]
    by_cases h : j = i
    · subst h
      simp [hv]
    · have : Nat.beq j i = false := by
        rw [Bool.eq_false_iff]; intro hb; exact h (Nat.eq_of_beq_eq_true hb)
      simp only [this, Bool.false_eq_true, if_false]
      exact ih
theorem proj_less (is : List Nat) (t : List AV) {n : Nat} (hn : t.length = n) : lessOf t (lay n (proj is t)) := by
  refine ⟨by simp [lay, hn], fun i x y hx hy => ?_⟩
  have hi : i < n := by rw [← hn]; exact (List.getElem?_eq_some_iff.1 hx).1
  simp [lay, hi] at hy
  rcases slotOf_proj t i x hx is with h | h
  · exact .inl (by rw [← hy, h])
  · exact .inr (by rw [← hy, h]; rfl)
theorem SCode.entry {P : Program} {w0 : World} {rd : Bool} {c : Code} {t t' : List AV} {A : List AO} {K : AK} (h : SCode P w0 rd c t' A K) (hl : lessOf t t') : SCode P w0 rd c t A K :=
  fun ro m w a B hro hr ht hd hB => h ro m w a B hro hr (hl.vs ht) hd hB
theorem SRounds.entry {P : Program} {w0 : World} {rd : Bool} {c : Code} {t t' : List AV} {A : List AO} {K : AK} {k : Nat} (h : SRounds (P := P) (w0 := w0) rd c K k t' A) (hl : lessOf t t') : SRounds (P := P) (w0 := w0) rd c K k t A := by
  cases k with
  | zero => exact h.elim
  | succ k => exact SCode.entry (show SCode P w0 rd c t' A _ from h) hl
def lpQ : Scr → AK
  | .lp _ X p e t A _ more => fun e' t' A' => (∃ x, p x ∧ e' = e ∧ t' = t x ∧ A' = A x) ∨ lpQ more e' t' A'
  | _ => fun _ _ _ => False
def lpAll : Scr → VX → Prop
  | .lp _ X p e t A r more, K => (∀ x, p x → K e (t x) (A x) (r x)) ∧ lpAll more K
  | _, _ => True
def vexec (P : Program) (w0 : World) (X : AExt) (R : ARes) : Nat → Nat → Bool → Bool → Code → List AV → List AO → Scr → VX → Prop
  | 0, _, _, _, _, _, _, _, _ => False
  | n + 1, fo, rd, ls, c, t, A, q, K =>
    let call : VCallF := fun g args A q k => match R g with
      | some h => match h args A with
        | some (v, A') => k v A' q
        | none => False
      | none => match P.funcs[g]? with
        | some fn => match fn.body with
          | some b => vexec P w0 X R n (100000 * (g + 1)) false false b (args ++ List.replicate (fn.ntmps - args.length) aundef) A q fun e t' A' q' => match e with
            | .normal => (match ares P fn t' A' with | some v => k v A' q' | none => False)
            | .ret => (match ares P fn t' A' with | some v => k v A' q' | none => False)
            | _ => False
          | none => False
        | none => False
    match c with
    | .skip => K .normal t A q
    | .label _ => K .normal t A q
    | .ret => K .ret t A q
    | .exit i => K (.exit i) t A q
    | .seq a b => vexec P w0 X R n fo rd ls a t A q fun e t A q => match e with
      | .normal => vexec P w0 X R n fo rd ls b t A q K
      | e => K e t A q
    | .cond x a b => match aev t x with
      | some (.bool v) => vexec P w0 X R n fo rd ls (if v then a else b) t A q K
      | _ => False
    | .block id b => vexec P w0 X R n fo rd ls b t A q fun e t A q => match e with
      | .exit i => if i = id then K .normal t A q else K (.exit i) t A q
      | e => K e t A q
    | .loop b => match q with
      | .un r => vexec P w0 X R n fo rd false b t A r fun e t A q => match e with
        | .normal => vexec P w0 X R n fo rd false (.loop b) t A q K
        | e => K e t A q
      | .uu r => if ls then vexec P w0 X R n fo rd ls b t A r fun e t A q => match e with
        | .normal => (match q with
          | .uu r' => vexec P w0 X R n fo rd ls (.loop b) t A (.uu r') K
          | _ => False)
        | e => K e t A q
        else False
      | .lp is X' p e t' A' r more => if ls then (∃ k, SRoundsB P w0 A.length rd b (lpQ (.lp is X' p e t' A' r more)) k (lay t.length (proj is t)) A) ∧ lpAll (.lp is X' p e t' A' r more) K else False
      | _ => False
    | .scope b => vexec P w0 X R n fo rd ls b t A q fun e t A q => match e with
      | .goto _ => False
      | e => K e t A q
    | .region id ops dr => match q with
      | .rg id' t' A' r => if id' == fo + id then SCode P w0 rd (.region id ops dr) t A (fun e2 t2 A2 => e2 = .normal ∧ t2 = t' ∧ A2 = A') ∧ K .normal t' A' r
        else if ls && !dr then vseqN P w0 X call (fo + id) ops ops.size 0 t A q fun t A q => K .normal t A q
        else if !dr || detB P X ops then vseq P w0 X call (fo + id) ops ops.size 0 t A q fun t A q => K .normal t A q
        else regionD P w0 X call (fo + id) ops t A q fun t A q => K .normal t A q
      | q => if ls && !dr then vseqN P w0 X call (fo + id) ops ops.size 0 t A q fun t A q => K .normal t A q
        else if !dr || detB P X ops then vseq P w0 X call (fo + id) ops ops.size 0 t A q fun t A q => K .normal t A q
        else regionD P w0 X call (fo + id) ops t A q fun t A q => K .normal t A q
    | .rangeFunc g ps asg body => match q with
      | .lp is X' p e t' A' r more => if ls then SCode P w0 rd (.rangeFunc g ps asg body) (lay t.length (proj is t)) A (lpQ (.lp is X' p e t' A' r more)) ∧ lpAll (.lp is X' p e t' A' r more) K else False
      | _ => False
    | _ => False

section
variable {P : Program} {X : AExt} {R : ARes} {w0 : World} {ops : Array Oper}

/-! #### The operations are told truly -/
theorem sbound_ok {y d : Nat} {x : Option AV} {n : Nat} {p : Prop} (h : sbound y x d = some (n, p)) (hp : p) : abound y x d = some n := by
  cases x with
  | none => simp only [sbound, Option.some.injEq, Prod.mk.injEq] at h; obtain ⟨rfl, rfl⟩ := h; rfl
  | some v =>
    cases v <;> simp only [sbound] at h <;> try (cases h; done)
    simp only [Option.some.injEq, Prod.mk.injEq] at h
    obtain ⟨rfl, rfl⟩ := h
    simp only [abound, if_pos hp]
theorem sslice_ok {ty : TypeId} {x v : AV} {lo hi : Option AV} {p : Prop} (h : sslice P ty x lo hi = some (v, p)) (hp : p) : aslice P ty x lo hi none = some v ∧ sliceOk x = true := by
  unfold sslice at h
  split at h
  · rename_i s hu
    split at h
    · rename_i hh p1 h1
      split at h
      · rename_i l p2 h2
        simp only [Option.some.injEq, Prod.mk.injEq] at h
        obtain ⟨rfl, rfl⟩ := h
        refine ⟨?_, rfl⟩
        unfold aslice
        rw [hu]
        simp only [sbound_ok h1 hp.1, sbound_ok h2 hp.2]
        congr 2
        cases hi with
        | none =>
          simp only [sbound, Option.some.injEq, Prod.mk.injEq] at h1
          obtain ⟨rfl, _⟩ := h1
          simp only
          rw [List.take_of_length_le (by simp)]
        | some hv =>
          cases lo with
          | none =>
            simp only [sbound, Option.some.injEq, Prod.mk.injEq] at h2
            obtain ⟨rfl, _⟩ := h2
            simp
          | some lv => rfl
      · cases h
    · cases h
  · rename_i b len c ex hu
    split at h
    · rename_i e n hh p1 hn h1
      split at h
      · rename_i l p2 h2
        simp only [Option.some.injEq, Prod.mk.injEq] at h
        obtain ⟨rfl, rfl⟩ := h
        refine ⟨?_, by simpa [sliceOk] using hp.1.1⟩
        unfold aslice
        rw [hu]
        simp only [hn, sbound_ok h1 hp.2.1, sbound_ok h2 hp.2.2]
      · cases h
    · cases h
  · cases h
theorem sop0_ok {t : List AV} {A A' : List AO} {o : Oper} {v : AV} {p : Prop} (h : sop0 P t A o = some (v, A', p)) (hp : p) : aop P X t A o = some (v, A') := by
  unfold sop0 at h
  split at h <;> rename_i ho <;> first | (cases h; done) | (unfold aop; simp only [ho])
  · rename_i ty x i
    split at h
    · rename_i s k n hx hi hu
      simp only [Option.some.injEq, Prod.mk.injEq] at h
      obtain ⟨rfl, rfl, rfl⟩ := h
      rw [hx, hi]
      simp only [aindex, hu, if_pos hp.1]
      rw [List.getD_eq_getElem?_getD]
      rw [List.getElem?_eq_getElem hp.2]
      rfl
    · cases h
  · rename_i ty x i
    split at h
    · rename_i k o len c ex k' n e hx hi hu
      split at h
      · rename_i q hq
        simp only [Option.some.injEq, Prod.mk.injEq] at h
        obtain ⟨rfl, rfl, rfl⟩ := h
        rw [hx, hi]
        simp only [aindexAddr, hu, if_pos hp, hq, Option.map_some]
      · cases h
    · rename_i k o k' n len e hx hi hu
      split at h
      · rename_i q hq
        simp only [Option.some.injEq, Prod.mk.injEq] at h
        obtain ⟨rfl, rfl, rfl⟩ := h
        rw [hx, hi]
        simp only [aindexAddr, hu, if_pos hp, hq, Option.map_some]
      · cases h
    · cases h
  · rename_i ty x lo hi
    split at h
    · rename_i v0 l hh hx hlo hhi
      split at h
      · rename_i u p0 hs
        simp only [Option.some.injEq, Prod.mk.injEq] at h
        obtain ⟨rfl, rfl, rfl⟩ := h
        obtain ⟨h1, h2⟩ := sslice_ok hs hp
        rw [hx, hlo, hhi]
        simp only [aopt, h2, if_true, h1, Option.map_some]
      · cases h
    · cases h
  · rename_i op ty x y yt
    split at h
    · rename_i a b hx hy
      split at h
      · simp only [Option.some.injEq, Prod.mk.injEq] at h
        obtain ⟨rfl, rfl, rfl⟩ := h
        rw [hx, hy]
        simp only [abin, astr, if_pos hp, Option.map_some]
      · cases h
    · rename_i k a k' b hx hy
      split at h
      · rename_i hk
        subst hk
        split at h
        · simp only [Option.some.injEq, Prod.mk.injEq] at h
          obtain ⟨rfl, rfl, rfl⟩ := h
          rw [hx, hy]
          simp only [abin, if_true, aint, if_neg hp, Option.map_some]
        · simp only [Option.some.injEq, Prod.mk.injEq] at h
          obtain ⟨rfl, rfl, rfl⟩ := h
          rw [hx, hy]
          simp only [abin, if_true, aint, if_neg hp, Option.map_some]
        · cases h
      · cases h
    · cases h
  · rename_i c
    split at h
    · rename_i k x k' y hc hav
      split at h
      · rename_i hk
        subst hk
        simp only [Option.some.injEq, Prod.mk.injEq] at h
        obtain ⟨rfl, rfl, rfl⟩ := h
        rw [hc]
        simp only [abuiltin, hav, aminmax, if_true, Option.map_some]
        congr 3
        simp only [Bool.false_eq_true, if_false]
        split <;> omega
      · cases h
    · rename_i k x k' y hc hav
      split at h
      · rename_i hk
        subst hk
        simp only [Option.some.injEq, Prod.mk.injEq] at h
        obtain ⟨rfl, rfl, rfl⟩ := h
        rw [hc]
        simp only [abuiltin, hav, aminmax, if_true, Option.map_some]
        congr 3
        split <;> omega
      · cases h
    · cases h

theorem asplice_all {cs : List AV} {j : Nat} {l : List AV} : (asplice cs j l).length = (asplice cs j l).length := rfl
theorem sopMake_ok {A A' : List AO} {ty : TypeId} {n q : Int} {k1 k2 : IntKind} {v : AV} {p : Prop} (h : sopMake P A ty n q = some (v, A', p)) (hp : p) : amakeSlice P A ty (.int k1 n) (.int k2 q) = some (v, A') := by
  unfold sopMake at h
  split at h
  case h_2 => cases h
  rename_i e hu
  split at h
  case h_2 => cases h
  rename_i i z hi hz
  split at h
  case h_2 => cases h
  rename_i hb
  simp only [Option.some.injEq, Prod.mk.injEq] at h
  obtain ⟨rfl, rfl, rfl⟩ := h
  have hl := Nat.eq_of_beq_eq_true hb
  unfold amakeSlice
  simp only [hu, hi, hz]
  rw [if_pos ⟨hp.1, hp.2.1, hp.2.2.1, hp.2.2.2, hl⟩]
theorem sopApp_ok {A A' : List AO} {ty xt : TypeId} {s x v : AV} {p : Prop} (h : sopApp P A ty xt s x = some (v, A', p)) (hp : p) : aappend P A ty xt s x = some (v, A') := by
  unfold sopApp at h
  split at h
  case h_2 => cases h
  rename_i e hu hnt
  split at h
  case h_2 => cases h
  rename_i i z hi hz
  split at h
  case h_2 => cases h
  rename_i hb
  simp only [Bool.and_eq_true, Bool.not_eq_true'] at hb
  have hl := Nat.eq_of_beq_eq_true hb.1
  have h0 : i.size ≠ 0 := fun e0 => by rw [e0] at hb; simp at hb
  unfold aappend
  simp only [hu, hnt, hi, hz]
  rw [if_neg (by rintro (h | h); exact h hl; exact h0 h)]
  split at h
  · rename_i k l c
    split at h
    case h_2 => cases h
    rename_i cnt news hn
    split at h
    case h_2 => cases h
    rename_i cs e' hr
    split at h
    case h_2 => cases h
    rename_i he
    obtain rfl := Nat.eq_of_beq_eq_true he
    simp only [Option.some.injEq, Prod.mk.injEq] at h
    obtain ⟨rfl, rfl, rfl⟩ := h
    obtain ⟨rfl, p1, p2, p3, p4, p5⟩ := hp
    simp only [hn, p1, if_true, if_neg p2, hr]
    rw [if_neg (by omega), if_pos ⟨p4, p5, by omega, Nat.le_refl _⟩]
    simp only [Bool.false_eq_true, if_false, true_and, and_true, Nat.zero_mod]
    rw [if_pos (by omega)]
    simp only [List.drop_zero, p3, List.take_length]
  · split at h
    case h_2 => cases h
    rename_i j o n _ _
    split at h
    case h_2 => cases h
    rename_i cs _ _ hr
    simp only [Option.some.injEq, Prod.mk.injEq] at h
    obtain ⟨rfl, rfl, rfl⟩ := h
    obtain ⟨p0, p1, p2, p3, p4⟩ := hp
    simp only [anews, if_neg p0, hr, if_pos p1, p2, if_true]
    rw [if_neg (by simp), if_pos ⟨p3, p4⟩]
  · split at h
    case h_2 => cases h
    rename_i j o n _ _
    split at h
    case h_2 => cases h
    rename_i cs _ _ _ hr hr2
    simp only [Option.some.injEq, Prod.mk.injEq] at h
    obtain ⟨rfl, rfl, rfl⟩ := h
    obtain ⟨p0, p1, p2, p3, p4⟩ := hp
    simp only [anews, if_neg p0, hr, if_pos p1, p2, if_true, hr2]
    rw [if_neg (by omega), if_pos ⟨by rw [Nat.zero_add]; exact p3, by omega, by omega, Nat.le_refl _⟩]
    simp
  · cases h
theorem sopM_ok {t : List AV} {A A' : List AO} {o : Oper} {v : AV} {p : Prop} (h : sopM P t A o = some (v, A', p)) (hp : p) : aop P X t A o = some (v, A') := by
  unfold sopM at h
  split at h
  · rename_i ty x y ho
    split at h
    case h_2 => cases h
    rename_i k j z n hx hy hn
    split at h
    case h_2 => cases h
    rename_i cs e hr
    split at h
    case h_2 => cases h
    rename_i hb
    simp only [Bool.and_eq_true] at hb
    have hl := Nat.eq_of_beq_eq_true hb.1
    simp only [Option.some.injEq, Prod.mk.injEq] at h
    obtain ⟨rfl, rfl, rfl⟩ := h
    simp only [aop, ho, hx, hy, astore, hr, hn]
    rw [if_pos ⟨hl, hb.2, by omega⟩]
    rfl
  · rename_i ty l c ho
    split at h
    case h_2 => cases h
    rename_i hx hy
    simp only [aop, ho, hx, hy]
    exact sopMake_ok h hp
  · rename_i c ho
    split at h
    case h_2 => cases h
    rename_i hc ha hv
    simp only [aop, ho, hc, abuiltin, ha, hv]
    exact sopApp_ok h hp
  · cases h
theorem sop_ok {t : List AV} {A A' : List AO} {o : Oper} {v : AV} {p : Prop} (h : sop P t A o = some (v, A', p)) (hp : p) : aop P X t A o = some (v, A') := by
  unfold sop at h
  split at h
  · rename_i r hr
    simp only [Option.some.injEq] at h
    subst h
    exact sop0_ok hr hp
  · exact sopM_ok h hp

theorem vconc_ok {t : List AV} {A : List AO} {o : Oper} {q : Scr} {k : VK} (h : vconc P X t A o q k) : ∃ v A' q', aop P X t A o = some (v, A') ∧ k v A' q' := by
  unfold vconc at h
  split at h
  · rename_i v A' hop
    split at h
    · split at h
      · rename_i b
        split at h
        · split at h
          · rename_i hbd
            rw [eq_of_beq hbd] at hop
            exact ⟨_, _, _, hop, h⟩
          · exact h.elim
        · obtain ⟨rfl, h⟩ := h; exact ⟨_, _, _, hop, h⟩
        · cases b with
          | true => exact ⟨_, _, _, hop, h.1 rfl⟩
          | false => exact ⟨_, _, _, hop, h.2 rfl⟩
        · exact h.elim
      · exact ⟨_, _, _, hop, h⟩
    · exact ⟨_, _, _, hop, h⟩
  · exact h.elim
theorem vplain_ok {t : List AV} {A : List AO} {o : Oper} {id i : Nat} {q : Scr} {k : VK} (h : vplain P X t A o id i q k) : ∃ v A' q', aop P X t A o = some (v, A') ∧ k v A' q' := by
  unfold vplain at h
  split at h
  · split at h
    · exact ⟨_, _, _, h.1, h.2⟩
    · exact vconc_ok h
  · split at h
    · exact ⟨_, _, _, wcond_ok h.1, h.2⟩
    · exact vconc_ok h
  · split at h
    · exact ⟨_, _, _, ucond_ok h.1, h.2⟩
    · exact vconc_ok h
  · split at h
    · split at h
      · rename_i v A' p hs
        exact ⟨_, _, _, sop_ok hs h.1, h.2⟩
      · exact h.elim
    · exact vconc_ok h
  · exact vconc_ok h
def VCallOk (P : Program) (w0 : World) (call : VCallF) : Prop :=
  ∀ g args A q k, call g args A q k → abody P g = true → ∃ v A' q', SCall P w0 g args A (fun v' A'' => v' = v ∧ A'' = A') ∧ k v A' q'
theorem vstep_ok {call : VCallF} (hcall : VCallOk P w0 call) {t : List AV} {A : List AO} {o : Oper} {id i : Nat} {q : Scr} {k : VK} (h : vstep P w0 X call t A o id i q k) : ∃ v A' q', OpDoes P X w0 t A o v A' ∧ k v A' q' := by
  have pl : vplain P X t A o id i q k → ∃ v A' q', OpDoes P X w0 t A o v A' ∧ k v A' q' := fun h => by
    obtain ⟨v, A', q', h1, h2⟩ := vplain_ok h
    exact ⟨v, A', q', .inl h1, h2⟩
  unfold vstep at h
  split at h
  · rename_i c ho
    split at h
    · rename_i g args ht
      split at h
      · exact pl h
      · rename_i hx
        split at h
        · rename_i hb
          split at h
          · split at h
            · exact ⟨_, _, _, .inr ⟨c, g, args, ho, by simpa using hx, ht, hb, h.1⟩, h.2⟩
            · obtain ⟨v, A', q', h1, h2⟩ := hcall _ _ _ _ _ h hb
              exact ⟨v, A', q', .inr ⟨c, g, args, ho, by simpa using hx, ht, hb, h1⟩, h2⟩
          · split at h
            · exact ⟨_, _, _, .inr ⟨c, g, args, ho, by simpa using hx, ht, hb, h.1⟩, h.2⟩
            · obtain ⟨v, A', q', h1, h2⟩ := hcall _ _ _ _ _ h hb
              exact ⟨v, A', q', .inr ⟨c, g, args, ho, by simpa using hx, ht, hb, h1⟩, h2⟩
          · split at h
            · exact ⟨_, _, _, .inr ⟨c, g, args, ho, by simpa using hx, ht, hb, h.1⟩, h.2⟩
            · obtain ⟨v, A', q', h1, h2⟩ := hcall _ _ _ _ _ h hb
              exact ⟨v, A', q', .inr ⟨c, g, args, ho, by simpa using hx, ht, hb, h1⟩, h2⟩
          · obtain ⟨v, A', q', h1, h2⟩ := hcall _ _ _ _ _ h hb
            exact ⟨v, A', q', .inr ⟨c, g, args, ho, by simpa using hx, ht, hb, h1⟩, h2⟩
        · exact h.elim
    · exact pl h
  · exact pl h
theorem vseq_ok {call : VCallF} (hcall : VCallOk P w0 call) {id : Nat} : ∀ (m i : Nat) (t : List AV) (A : List AO) (q : Scr) (k : List AV → List AO → Scr → Prop), vseq P w0 X call id ops m i t A q k →
    ∃ (T : Nat → List AV) (H : Nat → List AO) (q' : Scr), T i = t ∧ H i = A ∧ k (T (i + m)) (H (i + m)) q' ∧ ∀ j, i ≤ j → j < i + m → StepD P X w0 ops j (T j) (H j) (T (j + 1)) (H (j + 1)) := by
  intro m
  induction m with
  | zero =>
    intro i t A q k h
    exact ⟨fun _ => t, fun _ => A, q, rfl, rfl, h, fun j h1 h2 => by omega⟩
  | succ m ih =>
    intro i t A q k h
    have fin : ∀ (t1 : List AV) (A1 : List AO) (q1 : Scr), StepD P X w0 ops i t A t1 A1 → vseq P w0 X call id ops m (i + 1) t1 A1 q1 k →
        ∃ (T : Nat → List AV) (H : Nat → List AO) (q' : Scr), T i = t ∧ H i = A ∧ k (T (i + (m + 1))) (H (i + (m + 1))) q' ∧ ∀ j, i ≤ j → j < i + (m + 1) → StepD P X w0 ops j (T j) (H j) (T (j + 1)) (H (j + 1)) := by
      intro t1 A1 q1 hs h1
      obtain ⟨T, H, q', p1, p2, p3, p5⟩ := ih _ _ _ _ _ h1
      refine ⟨fun j => if j = i then t else T j, fun j => if j = i then A else H j, q', by simp, by simp, ?_, fun j hj1 hj2 => ?_⟩
      · show k (if i + (m + 1) = i then t else T (i + (m + 1))) (if i + (m + 1) = i then A else H (i + (m + 1))) q'
        rw [if_neg (by omega), if_neg (by omega), show i + (m + 1) = i + 1 + m by omega]; exact p3
      · show StepD P X w0 ops j (if j = i then t else T j) (if j = i then A else H j) (if j + 1 = i then t else T (j + 1)) (if j + 1 = i then A else H (j + 1))
        by_cases hji : j = i
        · subst hji
          rw [if_pos rfl, if_pos rfl, if_neg (by omega), if_neg (by omega), p1, p2]
          exact hs
        · rw [if_neg hji, if_neg hji, if_neg (by omega), if_neg (by omega)]
          exact p5 j (by omega) (by omega)
    simp only [vseq] at h
    split at h
    · exact h.elim
    · rename_i o ho
      split at h
      · rename_i hw
        exact fin _ _ _ ⟨o, aundef, ho, rfl, .inl ⟨hw, rfl, rfl⟩⟩ h
      · rename_i hw
        obtain ⟨v, A1, q1, h1, h2⟩ := vstep_ok hcall h
        exact fin _ _ _ ⟨o, v, ho, rfl, .inr ⟨hw, h1⟩⟩ h2
      · exact h.elim
theorem vregion_ok {rd : Bool} (hX : ExtOk P X) (hmix : P.follows .mixedOrders = true) {dr : Bool} (hd : (!dr || detB P X ops) = true) {call : VCallF} (hcall : VCallOk P w0 call) {id id2 : Nat} {t : List AV} {A : List AO} {q : Scr} {k : List AV → List AO → Scr → Prop}
    (h : vseq P w0 X call id2 ops ops.size 0 t A q k) : ∃ t' A' q', SCode P w0 rd (.region id ops dr) t A (fun e2 t2 A2 => e2 = .normal ∧ t2 = t' ∧ A2 = A') ∧ k t' A' q' := by
  obtain ⟨T, H, q', rfl, rfl, hk, h5⟩ := vseq_ok hcall _ _ _ _ _ _ h
  rw [Nat.zero_add] at hk
  refine ⟨_, _, q', ?_, hk⟩
  cases dr with
  | false =>
    refine SCode.region ?_
    have := steps_ops (w0 := w0) hX ops.size 0 h5
    rw [← List.range_eq_range', Nat.zero_add] at this
    exact this.mono fun t2 A2 ⟨e1, e2⟩ => ⟨rfl, e1, e2⟩
  | true =>
    have R : RunD P X w0 ops T H := ⟨fun i hi => h5 i (Nat.zero_le _) (by omega)⟩
    refine SCode.plan hX hmix (R.plan (by simpa using hd)) fun H' hH' => ?_
    simp only at hH'
    rw [List.getElem?_append_right (by simp)] at hH'
    simp at hH'
    exact ⟨rfl, rfl, hH'.symm⟩

theorem clAll_ok {k : VK} {v : AV} {A : List AO} : ∀ {q : Scr}, clAll q k → clQ q v A → ∃ q', k v A q'
  | .cl _ _ X p v' A' r more, h, hq => by
    rcases hq with ⟨x, hx, rfl, rfl⟩ | hq
    · exact ⟨_, h.1 x hx⟩
    · exact clAll_ok h.2 hq
  | .nil, _, hq => hq.elim
  | .d _ _, _, hq => hq.elim
  | .e _ _, _, hq => hq.elim
  | .br _ _, _, hq => hq.elim
  | .v _ _ _ _ _, _, hq => hq.elim
  | .s _ _ _, _, hq => hq.elim
  | .w .., _, hq => hq.elim
  | .u .., _, hq => hq.elim
  | .un _, _, hq => hq.elim
  | .uu _, _, hq => hq.elim
  | .rg _ _ _ _, _, hq => hq.elim
  | .lp .., _, hq => hq.elim
  | .sm .., _, hq => hq.elim
  | .mb .., _, hq => hq.elim
theorem vseqN_ok (hX : ExtOk P X) {call : VCallF} (hcall : VCallOk P w0 call) {id : Nat} : ∀ (m i : Nat) (t : List AV) (A : List AO) (q : Scr) (k : List AV → List AO → Scr → Prop), vseqN P w0 X call id ops m i t A q k →
    SOps P w0 ops (List.range' i m) t A fun t' A' => ∃ q', k t' A' q' := by
  intro m
  induction m with
  | zero => intro i t A q k h; exact SOps.nil ⟨q, h⟩
  | succ m ih =>
    intro i t A q k h
    simp only [vseqN] at h
    rw [List.range'_succ]
    split at h
    · exact h.elim
    · rename_i o ho
      split at h
      · rename_i hw
        exact SOps.skip ho hw (ih _ _ _ _ _ h)
      · rename_i hw
        have st : vstep P w0 X call t A o id i q (fun v A' q' => vseqN P w0 X call id ops m (i + 1) (aput t o.dst v) A' q' k) → SOps P w0 ops (i :: List.range' (i + 1) m) t A fun t' A' => ∃ q', k t' A' q' := fun h => by
          obtain ⟨v, A1, q1, h1, h2⟩ := vstep_ok hcall h
          have hrest := ih _ _ _ _ _ h2
          rcases h1 with hop | ⟨c, g, args, q1, _, q2, q3, q4⟩
          · exact SOps.vals _ ho hw (aop_vals hX hop) fun v' A3 hm => by simp at hm; obtain ⟨rfl, rfl⟩ := hm; exact hrest
          · exact SOps.enter _ ho hw (acall_enter q1 q2 q3) q4 fun v' A3 ⟨e1, e2⟩ => by subst e1; rw [e2]; exact hrest
        unfold vstepN at h
        split at h
        · split at h
          · split at h
            · rename_i c hc
              split at h
              · rename_i g args ht
                split at h
                · rename_i hb
                  obtain ⟨h1, h2⟩ := h
                  refine SOps.enter _ ho hw (acall_enter hc ht hb) h1 fun v' A3 hq => ?_
                  obtain ⟨q', hq'⟩ := clAll_ok h2 hq
                  exact ih _ _ _ _ _ hq'
                · exact h.elim
              · exact h.elim
            · exact h.elim
          · exact st h
        · split at h
          · exact SOps.vals _ ho hw h.1 fun v' A3 hm => by simp at hm; obtain ⟨rfl, rfl⟩ := hm; exact ih _ _ _ _ _ h.2
          · exact st h
        · split at h
          · split at h
            · rename_i hn
              exact SOps.vals _ ho hw (nilCmp_vals hn) fun v' A3 hm => by
                simp only [List.mem_cons, List.mem_nil_iff, or_false, Prod.mk.injEq] at hm
                rcases hm with ⟨rfl, rfl⟩ | ⟨rfl, rfl⟩
                · exact ih _ _ _ _ _ h.1
                · exact ih _ _ _ _ _ h.2
            · exact h.elim
          · exact st h
        · exact st h
      · exact h.elim

theorem vseqR_ok {call : VCallF} (hcall : VCallOk P w0 call) {id : Nat} : ∀ (m i : Nat) (t : List AV) (A : List AO) (q : Scr) (rs : List Rec) (k : List AV → List AO → Scr → List Rec → Prop), rs.length = i → vseqR P w0 X call id ops m i t A q rs k →
    ∃ (T : Nat → List AV) (H : Nat → List AO) (q' : Scr) (rs' : List Rec), T i = t ∧ H i = A ∧ k (T (i + m)) (H (i + m)) q' rs' ∧ (∀ j, i ≤ j → j < i + m → StepD P X w0 ops j (T j) (H j) (T (j + 1)) (H (j + 1))) ∧
      (∀ j, j < i → rs'[j]? = rs[j]?) ∧ ∀ j, i ≤ j → j < i + m → ∃ o r, ops[j]? = some o ∧ rs'[j]? = some r ∧ r.t = T j ∧ r.A = H j ∧ awanted ops (T j) o = some r.w ∧ (r.w = true → OpDoes P X w0 (T j) (H j) o r.v (H (j + 1))) := by
  intro m
  induction m with
  | zero =>
    intro i t A q rs k hl h
    exact ⟨fun _ => t, fun _ => A, q, rs, rfl, rfl, h, fun j h1 h2 => by omega, fun j _ => rfl, fun j h1 h2 => by omega⟩
  | succ m ih =>
    intro i t A q rs k hl h
    have fin : ∀ (o : Oper) (t1 : List AV) (A1 : List AO) (q1 : Scr) (r : Rec), ops[i]? = some o → r.t = t → r.A = A → awanted ops t o = some r.w → (r.w = true → OpDoes P X w0 t A o r.v A1) → StepD P X w0 ops i t A t1 A1 → vseqR P w0 X call id ops m (i + 1) t1 A1 q1 (rs ++ [r]) k →
        ∃ (T : Nat → List AV) (H : Nat → List AO) (q' : Scr) (rs' : List Rec), T i = t ∧ H i = A ∧ k (T (i + (m + 1))) (H (i + (m + 1))) q' rs' ∧ (∀ j, i ≤ j → j < i + (m + 1) → StepD P X w0 ops j (T j) (H j) (T (j + 1)) (H (j + 1))) ∧
          (∀ j, j < i → rs'[j]? = rs[j]?) ∧ ∀ j, i ≤ j → j < i + (m + 1) → ∃ o r, ops[j]? = some o ∧ rs'[j]? = some r ∧ r.t = T j ∧ r.A = H j ∧ awanted ops (T j) o = some r.w ∧ (r.w = true → OpDoes P X w0 (T j) (H j) o r.v (H (j + 1))) := by
      intro o t1 A1 q1 r ho ht hA hw hdo hs h1
      obtain ⟨T, H, q', rs', p1, p2, p3, p5, p6, p7⟩ := ih (i + 1) _ _ _ _ _ (by simp [hl]) h1
      refine ⟨fun j => if j = i then t else T j, fun j => if j = i then A else H j, q', rs', by simp, by simp, ?_, fun j hj1 hj2 => ?_, fun j hj => ?_, fun j hj1 hj2 => ?_⟩
      · show k (if i + (m + 1) = i then t else T (i + (m + 1))) (if i + (m + 1) = i then A else H (i + (m + 1))) q' rs'
        rw [if_neg (by omega), if_neg (by omega), show i + (m + 1) = i + 1 + m by omega]; exact p3
      · show StepD P X w0 ops j (if j = i then t else T j) (if j = i then A else H j) (if j + 1 = i then t else T (j + 1)) (if j + 1 = i then A else H (j + 1))
        by_cases hji : j = i
        · subst hji
          rw [if_pos rfl, if_pos rfl, if_neg (by omega), if_neg (by omega), p1, p2]
          exact hs
        · rw [if_neg hji, if_neg hji, if_neg (by omega), if_neg (by omega)]
          exact p5 j (by omega) (by omega)
      · rw [p6 j (by omega), List.getElem?_append_left (by omega)]
      · show ∃ o r, ops[j]? = some o ∧ rs'[j]? = some r ∧ r.t = (if j = i then t else T j) ∧ r.A = (if j = i then A else H j) ∧ awanted ops (if j = i then t else T j) o = some r.w ∧ (r.w = true → OpDoes P X w0 (if j = i then t else T j) (if j = i then A else H j) o r.v (if j + 1 = i then A else H (j + 1)))
        by_cases hji : j = i
        · subst hji
          rw [if_pos rfl, if_pos rfl, if_neg (by omega), p2]
          refine ⟨o, r, ho, ?_, ht, hA, hw, hdo⟩
          rw [p6 j (by omega), List.getElem?_append_right (by omega), hl]
          simp
        · rw [if_neg hji, if_neg hji, if_neg (by omega)]
          exact p7 j (by omega) (by omega)
    simp only [vseqR] at h
    split at h
    · exact h.elim
    · rename_i o ho
      split at h
      · rename_i hw
        exact fin o _ _ _ _ ho rfl rfl hw (fun h => by cases h) ⟨o, aundef, ho, rfl, .inl ⟨hw, rfl, rfl⟩⟩ h
      · rename_i hw
        obtain ⟨v, A1, q1, h1, h2⟩ := vstep_ok hcall h
        exact fin o _ _ _ _ ho rfl rfl hw (fun _ => h1) ⟨o, v, ho, rfl, .inr ⟨hw, h1⟩⟩ h2
      · exact h.elim
theorem oblSt_ok {o : Oper} {t : List AV} {told : Bool} {v : AV} (hk : okind P X o.op = 0) : ∀ {l : List (List AO)} {p : Prop}, oblSt P X o t told v l p → p ∧ ∀ H ∈ l, aop P X t H o = some (v, H)
  | [], _, h => ⟨h, fun _ hm => by cases hm⟩
  | H :: r, p, h => by
    obtain ⟨h1, h2⟩ := h
    obtain ⟨h3, h4⟩ := oblSt_ok hk h2
    refine ⟨h3, fun H' hm => ?_⟩
    rcases List.mem_cons.1 hm with rfl | hm
    · cases told with
      | true => exact wcond_ok h1
      | false =>
        simp only at h1
        split at h1
        · rename_i v' A' hop
          subst h1
          rw [hop, aop_quiet hk hop]
        · exact h1.elim
    · exact h4 _ hm
theorem oblGo_ok {cls acts : List Nat} {hs : List (List AO)} {rs : List Rec} : ∀ {l : List Nat} {p : Prop}, oblGo P X ops cls acts hs rs l p → p ∧ ∀ i ∈ l, ∀ o r, ops[i]? = some o → rs[i]? = some r → detK P X o = 1 → r.w = true →
    ∀ H ∈ stagesFor hs (loL (cls.getD i 0) acts 0 0) (hiOf cls acts i) (actFrom P X ops 0 i).length, aop P X r.t H o = some (r.v, H)
  | [], _, h => ⟨h, fun _ hm => by cases hm⟩
  | i :: l, p, h => by
    simp only [oblGo] at h
    split at h
    · rename_i o r ho hr
      split at h
      · rename_i hc
        simp only [Bool.and_eq_true, beq_iff_eq] at hc
        obtain ⟨h1, h2⟩ := oblSt_ok (detK_quiet (by rw [hc.1]; decide)) h
        obtain ⟨h3, h4⟩ := oblGo_ok h1
        refine ⟨h3, fun j hm o' r' ho' hr' hk' hw' => ?_⟩
        rcases List.mem_cons.1 hm with rfl | hm
        · rw [ho] at ho'; rw [hr] at hr'
          cases ho'; cases hr'
          exact h2
        · exact h4 j hm o' r' ho' hr' hk' hw'
      · rename_i hc
        obtain ⟨h3, h4⟩ := oblGo_ok h
        refine ⟨h3, fun j hm o' r' ho' hr' hk' hw' => ?_⟩
        rcases List.mem_cons.1 hm with rfl | hm
        · rw [ho] at ho'; rw [hr] at hr'
          cases ho'; cases hr'
          rw [hk', hw'] at hc
          simp at hc
        · exact h4 j hm o' r' ho' hr' hk' hw'
    · exact h.elim
theorem regionR_ok {rd : Bool} (hX : ExtOk P X) (hmix : P.follows .mixedOrders = true) (hd : detB1 P X ops = true) {call : VCallF} (hcall : VCallOk P w0 call) {id id2 : Nat} {t : List AV} {A : List AO} {q : Scr} {k : List AV → List AO → Scr → Prop}
    (h : regionR P w0 X call id2 ops t A q k) : ∃ t' A' q', SCode P w0 rd (.region id ops true) t A (fun e2 t2 A2 => e2 = .normal ∧ t2 = t' ∧ A2 = A') ∧ k t' A' q' := by
  obtain ⟨T, H, q', rs, rfl, rfl, hk, h5, _, h7⟩ := vseqR_ok hcall _ 0 _ _ _ _ _ rfl h
  rw [Nat.zero_add] at hk h5 h7
  obtain ⟨hk1, hobl⟩ := oblGo_ok hk
  refine ⟨_, _, q', ?_, hk1⟩
  have R : RunD P X w0 ops T H := ⟨fun i hi => h5 i (Nat.zero_le _) hi⟩
  have hheaps : heapsOf rs (H ops.size) (actFrom P X ops 0 ops.size) = (actFrom P X ops 0 ops.size).map H ++ [H ops.size] := by
    unfold heapsOf
    congr 1
    refine List.map_congr_left fun i hi => ?_
    obtain ⟨_, hi2, _⟩ := actFrom_mem hi
    obtain ⟨o, r, _, hr, _, hA, _⟩ := h7 i (Nat.zero_le _) (by omega)
    rw [hr]; exact hA
  rw [hheaps] at hobl
  refine SCode.plan hX hmix (R.plan1 hd fun i o v ho hk1 hw hop a H' h1 h2 h3 => ?_) fun H' hH' => ?_
  · have hi : i < ops.size := (Array.getElem?_eq_some_iff.1 ho).1
    obtain ⟨o', r, ho', hr, ht, hA, hw', hdo⟩ := h7 i (Nat.zero_le _) hi
    rw [ho] at ho'; cases ho'
    rw [hw] at hw'
    have hrw : r.w = true := (Option.some.inj hw').symm
    have hv := (hdo hrw).quiet (detK_quiet (by rw [hk1]; decide))
    rw [hop] at hv
    simp only [Option.some.injEq, Prod.mk.injEq] at hv
    by_cases ha : a = stageD P X ops i
    · subst ha
      rw [R.hs i (Nat.le_of_lt hi)] at h3
      cases h3
      exact hop
    · have := hobl i (by simpa using hi) o r ho hr hk1 hrw H' (by
        simp only [stagesFor, List.mem_filterMap, List.mem_range]
        refine ⟨a, by omega, ?_⟩
        rw [if_pos (by simp only [Bool.and_eq_true, decide_eq_true_eq, Bool.not_eq_true', beq_eq_false_iff_ne]; exact ⟨h1, ha⟩)]
        exact h3)
      rw [ht] at this
      rw [hv.1]; exact this
  · simp only at hH'
    rw [List.getElem?_append_right (by simp)] at hH'
    simp at hH'
    exact ⟨rfl, rfl, hH'.symm⟩

theorem gidOf_get {L : List (Nat × List AV × TypeId)} {n0 i k : Nat} (h : gidOf L n0 i = some k) : ∃ p x, k = n0 + p ∧ L[p]? = some x ∧ x.1 = i := by
  obtain ⟨p, hp, rfl⟩ := Option.map_eq_some_iff.1 h
  obtain ⟨hlt, hx, _⟩ := List.findIdx?_eq_some_iff_getElem.1 hp
  exact ⟨p, L[p], rfl, by simp [hlt], by simpa using hx⟩
theorem allocsOf_get {P : Program} {ops : Array Oper} {x : Nat × List AV × TypeId} (h : x ∈ allocsOf P ops) : ∃ o f, ops[x.1]? = some o ∧ isAlloc o.op = true ∧ amake P [] o = some (f, x.2.1, x.2.2) := by
  simp only [allocsOf, List.mem_filterMap] at h
  obtain ⟨i, _, hi⟩ := h
  split at hi
  · rename_i o ho
    split at hi
    · rename_i ha
      obtain ⟨⟨f, cs, e⟩, hm, rfl⟩ := Option.map_eq_some_iff.1 hi
      exact ⟨o, f, ho, ha, hm⟩
    · cases hi
  · cases hi
theorem amake_alloc {P : Program} {t t' : List AV} {o : Oper} (ha : isAlloc o.op = true) : amake P t o = amake P t' o := by
  unfold isAlloc at ha
  split at ha
  · rename_i e ho
    unfold amake
    rw [ho]
  · cases ha
theorem amake_ptr {P : Program} {t : List AV} {o : Oper} {f : Nat → AV} {cs : List AV} {e : TypeId} (ha : isAlloc o.op = true) (h : amake P t o = some (f, cs, e)) : ∀ k, f k = .ptr (some (k, 0)) := by
  unfold isAlloc at ha
  split at ha
  · rename_i e' ho
    unfold amake at h
    rw [ho] at h
    simp only at h
    split at h
    · split at h
      · simp only [Option.some.injEq, Prod.mk.injEq] at h
        intro k; rw [← h.1]
      · cases h
    · cases h
  · cases ha
theorem rowIs_eq {o : AO} {cs : List AV} {e : TypeId} (h : rowIs o cs e = true) : o = .row cs e true := by
  unfold rowIs at h
  split at h
  · simp only [Bool.and_eq_true] at h
    rw [avsEq_eq _ _ h.1, Nat.eq_of_beq_eq_true h.2]
  · cases h
theorem vseqG_ok {call : VCallF} (hcall : VCallOk P w0 call) {id n0 : Nat} {L : List (Nat × List AV × TypeId)} (hL : L = allocsOf P ops) : ∀ (m i : Nat) (t : List AV) (A : List AO) (q : Scr) (rs : List Rec) (k : List AV → List AO → Scr → List Rec → Prop), rs.length = i → vseqG P w0 X call id ops L n0 m i t A q rs k →
    ∃ (T : Nat → List AV) (H : Nat → List AO) (q' : Scr) (rs' : List Rec), T i = t ∧ H i = A ∧ k (T (i + m)) (H (i + m)) q' rs' ∧ (∀ j, i ≤ j → j < i + m → StepG P X w0 ops (gidOf L n0) j (T j) (H j) (T (j + 1)) (H (j + 1))) ∧
      (∀ j, j < i → rs'[j]? = rs[j]?) ∧ ∀ j, i ≤ j → j < i + m → ∃ o r, ops[j]? = some o ∧ rs'[j]? = some r ∧ r.t = T j ∧ r.A = H j ∧ (isAlloc o.op = false → awanted ops (T j) o = some r.w ∧ (r.w = true → OpDoes P X w0 (T j) (H j) o r.v (H (j + 1)))) := by
  have gnone : ∀ {i : Nat} {o : Oper}, ops[i]? = some o → isAlloc o.op = false → gidOf L n0 i = none := by
    intro i o ho ha
    cases hg : gidOf L n0 i with
    | none => rfl
    | some k =>
      obtain ⟨p, x, _, hx, rfl⟩ := gidOf_get hg
      subst hL
      obtain ⟨o', f, ho', ha', _⟩ := allocsOf_get (List.mem_of_getElem? hx)
      rw [ho] at ho'; cases ho'
      rw [ha] at ha'; cases ha'
  intro m
  induction m with
  | zero =>
    intro i t A q rs k hl h
    exact ⟨fun _ => t, fun _ => A, q, rs, rfl, rfl, h, fun j h1 h2 => by omega, fun j _ => rfl, fun j h1 h2 => by omega⟩
  | succ m ih =>
    intro i t A q rs k hl h
    have fin : ∀ (o : Oper) (t1 : List AV) (A1 : List AO) (q1 : Scr) (r : Rec), ops[i]? = some o → r.t = t → r.A = A → (isAlloc o.op = false → awanted ops t o = some r.w ∧ (r.w = true → OpDoes P X w0 t A o r.v A1)) → StepG P X w0 ops (gidOf L n0) i t A t1 A1 → vseqG P w0 X call id ops L n0 m (i + 1) t1 A1 q1 (rs ++ [r]) k →
        ∃ (T : Nat → List AV) (H : Nat → List AO) (q' : Scr) (rs' : List Rec), T i = t ∧ H i = A ∧ k (T (i + (m + 1))) (H (i + (m + 1))) q' rs' ∧ (∀ j, i ≤ j → j < i + (m + 1) → StepG P X w0 ops (gidOf L n0) j (T j) (H j) (T (j + 1)) (H (j + 1))) ∧
          (∀ j, j < i → rs'[j]? = rs[j]?) ∧ ∀ j, i ≤ j → j < i + (m + 1) → ∃ o r, ops[j]? = some o ∧ rs'[j]? = some r ∧ r.t = T j ∧ r.A = H j ∧ (isAlloc o.op = false → awanted ops (T j) o = some r.w ∧ (r.w = true → OpDoes P X w0 (T j) (H j) o r.v (H (j + 1)))) := by
      intro o t1 A1 q1 r ho ht hA hdo hs h1
      obtain ⟨T, H, q', rs', p1, p2, p3, p5, p6, p7⟩ := ih (i + 1) _ _ _ _ _ (by simp [hl]) h1
      refine ⟨fun j => if j = i then t else T j, fun j => if j = i then A else H j, q', rs', by simp, by simp, ?_, fun j hj1 hj2 => ?_, fun j hj => ?_, fun j hj1 hj2 => ?_⟩
      · show k (if i + (m + 1) = i then t else T (i + (m + 1))) (if i + (m + 1) = i then A else H (i + (m + 1))) q' rs'
        rw [if_neg (by omega), if_neg (by omega), show i + (m + 1) = i + 1 + m by omega]; exact p3
      · show StepG P X w0 ops (gidOf L n0) j (if j = i then t else T j) (if j = i then A else H j) (if j + 1 = i then t else T (j + 1)) (if j + 1 = i then A else H (j + 1))
        by_cases hji : j = i
        · subst hji
          rw [if_pos rfl, if_pos rfl, if_neg (by omega), if_neg (by omega), p1, p2]
          exact hs
        · rw [if_neg hji, if_neg hji, if_neg (by omega), if_neg (by omega)]
          exact p5 j (by omega) (by omega)
      · rw [p6 j (by omega), List.getElem?_append_left (by omega)]
      · show ∃ o r, ops[j]? = some o ∧ rs'[j]? = some r ∧ r.t = (if j = i then t else T j) ∧ r.A = (if j = i then A else H j) ∧ (isAlloc o.op = false → awanted ops (if j = i then t else T j) o = some r.w ∧ (r.w = true → OpDoes P X w0 (if j = i then t else T j) (if j = i then A else H j) o r.v (if j + 1 = i then A else H (j + 1))))
        by_cases hji : j = i
        · subst hji
          rw [if_pos rfl, if_pos rfl, if_neg (by omega), p2]
          refine ⟨o, r, ho, ?_, ht, hA, hdo⟩
          rw [p6 j (by omega), List.getElem?_append_right (by omega), hl]
          simp
        · rw [if_neg hji, if_neg hji, if_neg (by omega)]
          exact p7 j (by omega) (by omega)
    simp only [vseqG] at h
    split at h
    · exact h.elim
    · rename_i o ho
      split at h
      · rename_i hw
        split at h
        · exact h.elim
        · rename_i ha
          have ha : isAlloc o.op = false := by simpa using ha
          exact fin o _ _ _ _ ho rfl rfl (fun _ => ⟨hw, fun h => by cases h⟩) ⟨o, aundef, ho, rfl, .inl ⟨hw, rfl, rfl, gnone ho ha⟩⟩ h
      · rename_i hw
        split at h
        · rename_i ha
          split at h
          · rename_i b hb
            obtain ⟨p, x, hk, hx, hx1⟩ := gidOf_get hb
            have hx' := List.mem_of_getElem? hx
            rw [hL] at hx'
            obtain ⟨o', f, ho', _, hm⟩ := allocsOf_get hx'
            rw [hx1, ho] at ho'; cases ho'
            rw [amake_alloc (t' := t) ha] at hm
            exact fin o _ _ _ _ ho rfl rfl (fun h => by rw [ha] at h; cases h) ⟨o, .ptr (some (b, 0)), ho, rfl, .inr (.inr ⟨hw, ha, rfl, f, _, _, b, hb, hm, (amake_ptr ha hm b).symm⟩)⟩ h
          · exact h.elim
        · rename_i ha
          have ha : isAlloc o.op = false := by simpa using ha
          obtain ⟨v, A1, q1, h1, h2⟩ := vstep_ok hcall h
          exact fin o _ _ _ _ ho rfl rfl (fun _ => ⟨hw, fun _ => h1⟩) ⟨o, v, ho, rfl, .inr (.inl ⟨hw, ha, gnone ho ha, h1⟩)⟩ h2
      · exact h.elim
theorem oblGG_ok {cls acts : List Nat} {hs : List (List AO)} {rs : List Rec} : ∀ {l : List Nat} {p : Prop}, oblGG P X ops cls acts hs rs l p → p ∧ ∀ i ∈ l, ∀ o r, ops[i]? = some o → rs[i]? = some r → detG P X o = 1 → r.w = true →
    ∀ H ∈ stagesFor hs (loL (cls.getD i 0) acts 0 0) (hiOf cls acts i) (actG P X ops 0 i).length, aop P X r.t H o = some (r.v, H)
  | [], _, h => ⟨h, fun _ hm => by cases hm⟩
  | i :: l, p, h => by
    simp only [oblGG] at h
    split at h
    · rename_i o r ho hr
      split at h
      · rename_i hc
        simp only [Bool.and_eq_true, beq_iff_eq] at hc
        obtain ⟨h1, h2⟩ := oblSt_ok (detG_quiet (by rw [hc.1]; decide) (by rw [hc.1]; decide)) h
        obtain ⟨h3, h4⟩ := oblGG_ok h1
        refine ⟨h3, fun j hm o' r' ho' hr' hk' hw' => ?_⟩
        rcases List.mem_cons.1 hm with rfl | hm
        · rw [ho] at ho'; rw [hr] at hr'
          cases ho'; cases hr'
          exact h2
        · exact h4 j hm o' r' ho' hr' hk' hw'
      · rename_i hc
        obtain ⟨h3, h4⟩ := oblGG_ok h
        refine ⟨h3, fun j hm o' r' ho' hr' hk' hw' => ?_⟩
        rcases List.mem_cons.1 hm with rfl | hm
        · rw [ho] at ho'; rw [hr] at hr'
          cases ho'; cases hr'
          rw [hk', hw'] at hc
          simp at hc
        · exact h4 j hm o' r' ho' hr' hk' hw'
    · exact h.elim
theorem regionG_ok {rd : Bool} (hX : ExtOk P X) (hmix : P.follows .mixedOrders = true) (hd : detBG P X ops = true) {call : VCallF} (hcall : VCallOk P w0 call) {id id2 : Nat} {t : List AV} {A : List AO} {q : Scr} {k : List AV → List AO → Scr → Prop}
    (h : regionG P w0 X call id2 ops t A q k) : ∃ t' A' q', SCode P w0 rd (.region id ops true) t A (fun e2 t2 A2 => e2 = .normal ∧ t2 = t' ∧ A2 = A') ∧ k t' A' q' := by
  obtain ⟨T, H, q', rs, rfl, hH0, hk, h5, _, h7⟩ := vseqG_ok hcall rfl _ 0 _ _ _ _ _ rfl h
  rw [Nat.zero_add] at hk h5 h7
  split at hk
  case isFalse => exact hk.elim
  rename_i hal
  obtain ⟨hk1, hobl⟩ := oblGG_ok hk
  refine ⟨_, _, q', ?_, hk1⟩
  have R : RunG P X w0 ops (gidOf (allocsOf P ops) A.length) T H := ⟨fun i hi => h5 i (Nat.zero_le _) hi⟩
  have hheaps : heapsOf rs (H ops.size) (actG P X ops 0 ops.size) = (actG P X ops 0 ops.size).map H ++ [H ops.size] := by
    unfold heapsOf
    congr 1
    refine List.map_congr_left fun i hi => ?_
    obtain ⟨_, hi2, _⟩ := actG_mem hi
    obtain ⟨o, r, _, hr, _, hA, _⟩ := h7 i (Nat.zero_le _) (by omega)
    rw [hr]; exact hA
  rw [hheaps] at hobl hal
  refine SCode.plan hX hmix (R.planG hd hH0 (fun j k hj => ?_) (fun i j k hi hj => ?_) (fun j k hj => ?_) (fun i o f cs e k ho hg hm a H' ha hH' => ?_) fun i o v ho hk1 hw hop a H' h1 h2 h3 => ?_) fun H' hH' => ?_
  · obtain ⟨p, x, rfl, hx, _⟩ := gidOf_get hj
    have := (List.getElem?_eq_some_iff.1 hx).1
    simp only [List.length_map]
    omega
  · obtain ⟨p, x, h1, hx, rfl⟩ := gidOf_get hi
    obtain ⟨p', x', h2, hx', rfl⟩ := gidOf_get hj
    obtain rfl : p = p' := by omega
    rw [hx] at hx'; cases hx'; rfl
  · obtain ⟨p, x, _, hx, rfl⟩ := gidOf_get hj
    obtain ⟨o, f, ho, ha, _⟩ := allocsOf_get (List.mem_of_getElem? hx)
    exact ⟨o, ho, detG_three.2 ha⟩
  · obtain ⟨p, x, _, hx, rfl⟩ := gidOf_get hg
    obtain ⟨o', f', ho', ha', hm'⟩ := allocsOf_get (List.mem_of_getElem? hx)
    rw [ho] at ho'; cases ho'
    rw [amake_alloc (t' := T x.1) ha', hm] at hm'
    simp only [Option.some.injEq, Prod.mk.injEq] at hm'
    have h1 := List.all_eq_true.1 hal x (List.mem_of_getElem? hx)
    have h2 := List.all_eq_true.1 h1 a (by simp; omega)
    rw [hH', hg] at h2
    simp only at h2
    split at h2
    · rename_i o2 ho2
      rw [ho2, rowIs_eq h2, hm'.2.1, hm'.2.2]
    · cases h2
  · have hi : i < ops.size := (Array.getElem?_eq_some_iff.1 ho).1
    obtain ⟨o', r, ho', hr, ht, hA, hwd⟩ := h7 i (Nat.zero_le _) hi
    rw [ho] at ho'; cases ho'
    have hna : isAlloc o.op = false := by
      cases h : isAlloc o.op with
      | false => rfl
      | true => rw [detG_three.2 h] at hk1; cases hk1
    obtain ⟨hw', hdo⟩ := hwd hna
    rw [hw] at hw'
    have hrw : r.w = true := (Option.some.inj hw').symm
    have hv := (hdo hrw).quiet (detG_quiet (by rw [hk1]; decide) (by rw [hk1]; decide))
    rw [hop] at hv
    simp only [Option.some.injEq, Prod.mk.injEq] at hv
    by_cases ha : a = stageG P X ops i
    · subst ha
      rw [R.hs i (Nat.le_of_lt hi)] at h3
      cases h3
      exact hop
    · have := hobl i (by simpa using hi) o r ho hr hk1 hrw H' (by
        simp only [stagesFor, List.mem_filterMap, List.mem_range]
        refine ⟨a, by omega, ?_⟩
        rw [if_pos (by simp only [Bool.and_eq_true, decide_eq_true_eq, Bool.not_eq_true', beq_eq_false_iff_ne]; exact ⟨h1, ha⟩)]
        exact h3)
      rw [ht] at this
      rw [hv.1]; exact this
  · simp only at hH'
    rw [List.getElem?_append_right (by simp)] at hH'
    simp at hH'
    exact ⟨rfl, rfl, hH'.symm⟩
theorem regionD_ok {rd : Bool} (hX : ExtOk P X) (hmix : P.follows .mixedOrders = true) {call : VCallF} (hcall : VCallOk P w0 call) {id id2 : Nat} {t : List AV} {A : List AO} {q : Scr} {k : List AV → List AO → Scr → Prop}
    (h : regionD P w0 X call id2 ops t A q k) : ∃ t' A' q', SCode P w0 rd (.region id ops true) t A (fun e2 t2 A2 => e2 = .normal ∧ t2 = t' ∧ A2 = A') ∧ k t' A' q' := by
  unfold regionD at h
  split at h
  · exact regionR_ok hX hmix (by assumption) hcall h
  · split at h
    · exact regionG_ok hX hmix (by assumption) hcall h
    · exact h.elim

/-- One outcome. -/
abbrev One (e : Exit) (t : List AV) (A : List AO) : AK := fun e2 t2 A2 => e2 = e ∧ t2 = t ∧ A2 = A

/-- The calls within. -/
def vcallF (P : Program) (w0 : World) (X : AExt) (R : ARes) (n : Nat) : VCallF := fun g args A q k => match R g with
      | some h => match h args A with
        | some (v, A') => k v A' q
        | none => False
      | none => match P.funcs[g]? with
        | some fn => match fn.body with
          | some b => vexec P w0 X R n (100000 * (g + 1)) false false b (args ++ List.replicate (fn.ntmps - args.length) aundef) A q fun e t' A' q' => match e with
            | .normal => (match ares P fn t' A' with | some v => k v A' q' | none => False)
            | .ret => (match ares P fn t' A' with | some v => k v A' q' | none => False)
            | _ => False
          | none => False
        | none => False
theorem vcallF_of (hX : ExtOk P X) (hR : ResOk P w0 R) {n : Nat} (ih : ∀ (fo : Nat) (rd : Bool) (c : Code) (t : List AV) (A : List AO) (q : Scr) (K : VX), vexec P w0 X R n fo rd false c t A q K → ∃ e t' A' q', SCode P w0 rd c t A (One e t' A') ∧ K e t' A' q') : VCallOk P w0 (vcallF P w0 X R n) := by
  intro g args A q k hg hb
  unfold vcallF at hg
  simp only at hg
  split at hg
  · rename_i hh hr
    split at hg
    · rename_i v1 A1 h1
      exact ⟨v1, A1, q, hR g hh hr args A _ _ h1, hg⟩
    · exact hg.elim
  · split at hg
    · rename_i fn hf
      split at hg
      · rename_i b hbody
        obtain ⟨e, t1, A1, q1, h1, h2⟩ := ih _ _ _ _ _ _ _ hg
        cases e <;> simp only at h2 <;> try (exact h2.elim)
        · split at h2
          · rename_i v hv
            exact ⟨v, A1, q1, SCall.body hf hbody (h1.mono fun e2 t3 A3 ⟨p1, p2, p3⟩ => by subst p1 p2 p3; exact ⟨.inl rfl, _, ares_rel hv, rfl, rfl⟩), h2⟩
          · exact h2.elim
        · split at h2
          · rename_i v hv
            exact ⟨v, A1, q1, SCall.body hf hbody (h1.mono fun e2 t3 A3 ⟨p1, p2, p3⟩ => by subst p1 p2 p3; exact ⟨.inr rfl, _, ares_rel hv, rfl, rfl⟩), h2⟩
          · exact h2.elim
      · exact hg.elim
    · exact hg.elim

theorem vexec_det (hX : ExtOk P X) (hR : ResOk P w0 R) (hmix : P.follows .mixedOrders = true) : ∀ (n : Nat),
    (∀ (fo : Nat) (rd : Bool) (c : Code) (t : List AV) (A : List AO) (q : Scr) (K : VX), vexec P w0 X R n fo rd false c t A q K → ∃ e t' A' q', SCode P w0 rd c t A (One e t' A') ∧ K e t' A' q') ∧
    (∀ (fo : Nat) (rd : Bool) (c : Code) (t : List AV) (A : List AO) (q : Scr) (K : VX), vexec P w0 X R n fo rd false (.loop c) t A q K → ∃ e t' A' q' k, SRounds (P := P) (w0 := w0) rd c (One e t' A') k t A ∧ K e t' A' q') := by
  intro n
  induction n with
  | zero => exact ⟨fun fo rd c t A q K h => h.elim, fun fo rd c t A q K h => h.elim⟩
  | succ n ihb =>
    obtain ⟨ih, ihl⟩ := ihb
    have hloop : ∀ (fo : Nat) (rd : Bool) (c : Code) (t : List AV) (A : List AO) (q : Scr) (K : VX), vexec P w0 X R (n + 1) fo rd false (.loop c) t A q K → ∃ e t' A' q' k, SRounds (P := P) (w0 := w0) rd c (One e t' A') k t A ∧ K e t' A' q' := by
      intro fo rd b t A q K h
      simp only [vexec] at h
      split at h
      · obtain ⟨e, t1, A1, q1, h1, h2⟩ := ih _ _ _ _ _ _ _ h
        cases e with
        | normal =>
          obtain ⟨e2, t2, A2, q2, k, h3, h4⟩ := ihl _ _ _ _ _ _ _ h2
          exact ⟨e2, t2, A2, q2, k + 1, h1.mono fun e3 t3 A3 ⟨p1, p2, p3⟩ => by subst p1 p2 p3; exact h3, h4⟩
        | _ => exact ⟨_, t1, A1, q1, 1, h1.mono fun e3 t3 A3 ⟨p1, p2, p3⟩ => by subst p1 p2 p3; exact ⟨rfl, rfl, rfl⟩, h2⟩
      · simp at h
      · simp at h
      · exact h.elim
    refine ⟨fun fo rd c t A q K h => ?_, hloop⟩
    have hcall := vcallF_of (w0 := w0) hX hR ih
    cases c with
    | skip => exact ⟨_, _, _, _, SCode.skip ⟨rfl, rfl, rfl⟩, h⟩
    | label l => exact ⟨_, _, _, _, SCode.label ⟨rfl, rfl, rfl⟩, h⟩
    | ret => exact ⟨_, _, _, _, SCode.ret ⟨rfl, rfl, rfl⟩, h⟩
    | exit i => exact ⟨_, _, _, _, SCode.exit ⟨rfl, rfl, rfl⟩, h⟩
    | seq a b =>
      simp only [vexec] at h
      obtain ⟨e, t1, A1, q1, h1, h2⟩ := ih _ _ _ _ _ _ _ h
      cases e with
      | normal =>
        obtain ⟨e2, t2, A2, q2, h3, h4⟩ := ih _ _ _ _ _ _ _ h2
        refine ⟨e2, t2, A2, q2, SCode.seq (fun t A => t = t1 ∧ A = A1) (h1.mono fun e3 t3 A3 ⟨p1, p2, p3⟩ => by subst p1 p2 p3; exact ⟨rfl, rfl⟩) fun t3 A3 ⟨p1, p2⟩ => by subst p1 p2; exact h3, h4⟩
      | _ => exact ⟨_, t1, A1, q1, SCode.seq (fun t A => False) (h1.mono fun e3 t3 A3 ⟨p1, p2, p3⟩ => by subst p1 p2 p3; exact ⟨rfl, rfl, rfl⟩) fun t3 A3 hf => hf.elim, h2⟩
    | cond x a b =>
      simp only [vexec] at h
      split at h
      · rename_i v hv
        obtain ⟨e, t1, A1, q1, h1, h2⟩ := ih _ _ _ _ _ _ _ h
        exact ⟨e, t1, A1, q1, SCode.cond v hv h1, h2⟩
      · exact h.elim
    | block id b =>
      simp only [vexec] at h
      obtain ⟨e, t1, A1, q1, h1, h2⟩ := ih _ _ _ _ _ _ _ h
      cases e with
      | exit i =>
        simp only at h2
        by_cases hi : i = id
        · rw [if_pos hi] at h2
          exact ⟨_, _, _, _, SCode.block (h1.mono fun e3 t3 A3 ⟨p1, p2, p3⟩ => by subst p1 p2 p3; simp only [AInBlock, if_pos hi]; exact ⟨rfl, rfl, rfl⟩), h2⟩
        · rw [if_neg hi] at h2
          exact ⟨_, _, _, _, SCode.block (h1.mono fun e3 t3 A3 ⟨p1, p2, p3⟩ => by subst p1 p2 p3; simp only [AInBlock, if_neg hi]; exact ⟨rfl, rfl, rfl⟩), h2⟩
      | _ => exact ⟨_, _, _, _, SCode.block (h1.mono fun e3 t3 A3 ⟨p1, p2, p3⟩ => by subst p1 p2 p3; exact ⟨rfl, rfl, rfl⟩), h2⟩
    | loop b =>
      obtain ⟨e, t1, A1, q1, k, h1, h2⟩ := hloop _ _ _ _ _ _ _ h
      exact ⟨e, t1, A1, q1, SCode.loop k h1, h2⟩
    | scope b =>
      simp only [vexec] at h
      obtain ⟨e, t1, A1, q1, h1, h2⟩ := ih _ _ _ _ _ _ _ h
      cases e with
      | goto l => exact h2.elim
      | _ => exact ⟨_, _, _, _, SCode.scope (h1.mono fun e3 t3 A3 ⟨p1, p2, p3⟩ => by subst p1 p2 p3; exact ⟨fun l hl => (by cases hl), rfl, rfl, rfl⟩), h2⟩
    | region id ops dr =>
      simp only [vexec] at h
      have go : (if (!dr || detB P X ops) = true then vseq P w0 X _ (fo + id) ops ops.size 0 t A q fun t A q => K .normal t A q else regionD P w0 X _ (fo + id) ops t A q fun t A q => K .normal t A q) → ∃ e t' A' q', SCode P w0 rd (.region id ops dr) t A (One e t' A') ∧ K e t' A' q' := fun h => by
        split at h
        · rename_i hd
          obtain ⟨t1, A1, q1, h1, h2⟩ := vregion_ok hX hmix hd hcall h
          exact ⟨_, _, _, _, h1, h2⟩
        · rename_i hnd
          have hdr : dr = true := by cases dr <;> simp_all
          subst hdr
          obtain ⟨t1, A1, q1, h1, h2⟩ := regionD_ok hX hmix hcall h
          exact ⟨_, _, _, _, h1, h2⟩
      split at h
      · split at h
        · exact ⟨_, _, _, _, h.1, h.2⟩
        · rw [if_neg (by simp)] at h; exact go h
      · rw [if_neg (by simp)] at h; exact go h
    | rangeFunc g ps asg body =>
      simp only [vexec] at h
      split at h
      · simp at h
      · exact h.elim
    | goto l => exact h.elim
    | refuse y => exact h.elim

theorem vcallF_ok (hX : ExtOk P X) (hR : ResOk P w0 R) (hmix : P.follows .mixedOrders = true) (n : Nat) : VCallOk P w0 (vcallF P w0 X R n) := vcallF_of hX hR (vexec_det hX hR hmix n).1
theorem vregionN_ok {rd : Bool} (hX : ExtOk P X) {call : VCallF} (hcall : VCallOk P w0 call) {id id2 : Nat} {t : List AV} {A : List AO} {q : Scr} {k : List AV → List AO → Scr → Prop}
    (h : vseqN P w0 X call id2 ops ops.size 0 t A q k) : SCode P w0 rd (.region id ops false) t A fun e t' A' => e = .normal ∧ ∃ q', k t' A' q' := by
  refine SCode.region ?_
  have := vseqN_ok hX hcall _ _ _ _ _ _ h
  rw [← List.range_eq_range'] at this
  exact this.mono fun t2 A2 h => ⟨rfl, h⟩

theorem lpAll_ok {K : VX} {e : Exit} {t : List AV} {A : List AO} : ∀ {q : Scr}, lpAll q K → lpQ q e t A → ∃ q', K e t A q'
  | .lp _ X p e' t' A' r more, h, hq => by
    rcases hq with ⟨x, hx, rfl, rfl, rfl⟩ | hq
    · exact ⟨_, h.1 x hx⟩
    · exact lpAll_ok h.2 hq
  | .nil, _, hq => hq.elim
  | .d _ _, _, hq => hq.elim
  | .e _ _, _, hq => hq.elim
  | .br _ _, _, hq => hq.elim
  | .v _ _ _ _ _, _, hq => hq.elim
  | .s _ _ _, _, hq => hq.elim
  | .w .., _, hq => hq.elim
  | .u .., _, hq => hq.elim
  | .un _, _, hq => hq.elim
  | .uu _, _, hq => hq.elim
  | .rg _ _ _ _, _, hq => hq.elim
  | .cl .., _, hq => hq.elim
  | .sm .., _, hq => hq.elim
  | .mb .., _, hq => hq.elim
theorem SRounds.mono {rd : Bool} {c : Code} {K K' : AK} (hk : ∀ e t A, K e t A → K' e t A) : ∀ {n : Nat} {t : List AV} {A : List AO}, SRounds (P := P) (w0 := w0) rd c K n t A → SRounds (P := P) (w0 := w0) rd c K' n t A
  | 0, _, _, h => h.elim
  | n + 1, t, A, h => SCode.mono (show SCode P w0 rd c t A _ from h) fun e t2 A2 h2 => by
    cases e with
    | normal => exact SRounds.mono hk h2
    | _ => exact hk _ _ _ h2

theorem vexec_both (hX : ExtOk P X) (hR : ResOk P w0 R) (hmix : P.follows .mixedOrders = true) : ∀ (n : Nat),
    (∀ (fo : Nat) (rd ls : Bool) (c : Code) (t : List AV) (A : List AO) (q : Scr) (K : VX), vexec P w0 X R n fo rd ls c t A q K → SCode P w0 rd c t A fun e t' A' => ∃ q', K e t' A' q') ∧
    (∀ (fo : Nat) (rd ls : Bool) (c : Code) (t : List AV) (A : List AO) (r : Scr) (K : VX), vexec P w0 X R n fo rd ls (.loop c) t A (.uu r) K → SRounds (P := P) (w0 := w0) rd c (fun e t' A' => ∃ q', K e t' A' q') n t A) := by
  intro n
  induction n with
  | zero => exact ⟨fun fo rd ls c t A q K h => h.elim, fun fo rd ls c t A q K h => h.elim⟩
  | succ n ihb =>
    obtain ⟨ih, ihu⟩ := ihb
    have hloopu : ∀ (fo : Nat) (rd ls : Bool) (c : Code) (t : List AV) (A : List AO) (r : Scr) (K : VX), vexec P w0 X R (n + 1) fo rd ls (.loop c) t A (.uu r) K → SRounds (P := P) (w0 := w0) rd c (fun e t' A' => ∃ q', K e t' A' q') (n + 1) t A := by
      intro fo rd ls b t A r K h
      simp only [vexec] at h
      split at h
      · refine (show SCode P w0 rd b t A _ from (ih _ _ _ _ _ _ _ _ h).mono fun e3 t3 A3 ⟨q', hq⟩ => ?_)
        cases e3 with
        | normal =>
          simp only at hq
          split at hq
          · exact ihu _ _ _ _ _ _ _ _ hq
          · exact hq.elim
        | _ => exact ⟨q', hq⟩
      · exact h.elim
    refine ⟨fun fo rd ls c t A q K h => ?_, hloopu⟩
    cases ls with
    | false =>
      obtain ⟨e, t1, A1, q1, h1, h2⟩ := (vexec_det hX hR hmix (n + 1)).1 _ _ _ _ _ _ _ h
      exact h1.mono fun e3 t3 A3 ⟨p1, p2, p3⟩ => by subst p1 p2 p3; exact ⟨q1, h2⟩
    | true =>
    cases c with
    | skip => exact SCode.skip ⟨q, h⟩
    | label l => exact SCode.label ⟨q, h⟩
    | ret => exact SCode.ret ⟨q, h⟩
    | exit i => exact SCode.exit ⟨q, h⟩
    | seq a b =>
      simp only [vexec] at h
      refine SCode.seq (fun t A => ∃ q', vexec P w0 X R n fo rd true b t A q' K) ((ih _ _ _ _ _ _ _ _ h).mono fun e3 t3 A3 ⟨q', hq⟩ => ?_) fun t3 A3 ⟨q', hq⟩ => ih _ _ _ _ _ _ _ _ hq
      cases e3 <;> exact ⟨q', hq⟩
    | cond x a b =>
      simp only [vexec] at h
      split at h
      · rename_i v hv
        exact SCode.cond v hv (ih _ _ _ _ _ _ _ _ h)
      · exact h.elim
    | block id b =>
      simp only [vexec] at h
      refine SCode.block ((ih _ _ _ _ _ _ _ _ h).mono fun e3 t3 A3 ⟨q', hq⟩ => ?_)
      cases e3 with
      | exit i =>
        simp only at hq
        simp only [AInBlock]
        split at hq <;> rename_i hi
        · rw [if_pos hi]; exact ⟨q', hq⟩
        · rw [if_neg hi]; exact ⟨q', hq⟩
      | _ => exact ⟨q', hq⟩
    | loop b =>
      have h0 := h
      simp only [vexec] at h
      split at h
      · have h' : vexec P w0 X R (n + 1) fo rd false (.loop b) t A (.un _) K := h
        obtain ⟨e, t1, A1, q1, h1, h2⟩ := (vexec_det hX hR hmix (n + 1)).1 _ _ _ _ _ _ _ h'
        exact h1.mono fun e3 t3 A3 ⟨p1, p2, p3⟩ => by subst p1 p2 p3; exact ⟨q1, h2⟩
      · exact SCode.loop _ (hloopu _ _ _ _ _ _ _ _ h0)
      · split at h
        · obtain ⟨⟨k, hk⟩, h2⟩ := h
          exact SCode.loopB k (Nat.le_refl _) ((hk.entry (proj_less _ _ rfl)).mono fun e t A hq => lpAll_ok h2 hq)
        · exact h.elim
      · exact h.elim
    | scope b =>
      simp only [vexec] at h
      refine SCode.scope ((ih _ _ _ _ _ _ _ _ h).mono fun e3 t3 A3 ⟨q', hq⟩ => ?_)
      cases e3 with
      | goto l => exact hq.elim
      | _ => exact ⟨fun l hl => (by cases hl), q', hq⟩
    | region id ops dr =>
      have hcall := vcallF_ok (w0 := w0) hX hR hmix n
      have go : (if (true && !dr) = true then vseqN P w0 X _ (fo + id) ops ops.size 0 t A q fun t A q => K .normal t A q else if (!dr || detB P X ops) = true then vseq P w0 X _ (fo + id) ops ops.size 0 t A q fun t A q => K .normal t A q else regionD P w0 X _ (fo + id) ops t A q fun t A q => K .normal t A q) → SCode P w0 rd (.region id ops dr) t A fun e t' A' => ∃ q', K e t' A' q' := fun h => by
        split at h
        · rename_i hd
          have : dr = false := by simpa using hd
          subst this
          exact (vregionN_ok hX hcall h).mono fun e t A ⟨he, hq⟩ => by subst he; exact hq
        · split at h
          · rename_i hd
            obtain ⟨t1, A1, q1, h1, h2⟩ := vregion_ok hX hmix hd hcall h
            exact h1.mono fun e3 t3 A3 ⟨p1, p2, p3⟩ => by subst p1 p2 p3; exact ⟨q1, h2⟩
          · rename_i hnd
            have hdr : dr = true := by cases dr <;> simp_all
            subst hdr
            obtain ⟨t1, A1, q1, h1, h2⟩ := regionD_ok hX hmix hcall h
            exact h1.mono fun e3 t3 A3 ⟨p1, p2, p3⟩ => by subst p1 p2 p3; exact ⟨q1, h2⟩
      simp only [vexec] at h
      split at h
      · split at h
        · exact h.1.mono fun e3 t3 A3 ⟨p1, p2, p3⟩ => by subst p1 p2 p3; exact ⟨_, h.2⟩
        · exact go h
      · exact go h
    | rangeFunc g ps asg body =>
      simp only [vexec] at h
      split at h
      · obtain ⟨h1, h2⟩ := h
        exact (h1.entry (proj_less _ _ rfl)).mono fun e t A hq => lpAll_ok h2 hq
      · exact h.elim
    | goto l => exact h.elim
    | refuse y => exact h.elim

/-- Code, by what is computed. -/
theorem vexec_ok (hX : ExtOk P X) (hR : ResOk P w0 R) (hmix : P.follows .mixedOrders = true) {n fo : Nat} {rd ls : Bool} {c : Code} {t : List AV} {A : List AO} {q : Scr} {K : AK} (h : vexec P w0 X R n fo rd ls c t A q fun e t A _ => K e t A) : SCode P w0 rd c t A K :=
  ((vexec_both hX hR hmix n).1 _ _ _ _ _ _ _ _ h).mono fun e t A ⟨_, hq⟩ => hq
/-- A call, by what is computed. -/
def vcall (P : Program) (w0 : World) (X : AExt) (R : ARes) (n : Nat) (g : FuncId) (args : List AV) (A : List AO) (q : Scr) (Q : AV → List AO → Prop) : Prop :=
  match P.funcs[g]? with
  | some fn => match fn.body with
    | some b => vexec P w0 X R n 0 false true b (args ++ List.replicate (fn.ntmps - args.length) aundef) A q fun e t' A' _ => match e with
      | .normal => (match ares P fn t' A' with | some v => Q v A' | none => False)
      | .ret => (match ares P fn t' A' with | some v => Q v A' | none => False)
      | _ => False
    | none => False
  | none => False
theorem vcall_ok (hX : ExtOk P X) (hR : ResOk P w0 R) (hmix : P.follows .mixedOrders = true) {n : Nat} {g : FuncId} {args : List AV} {A : List AO} {q : Scr} {Q : AV → List AO → Prop} (h : vcall P w0 X R n g args A q Q) : SCall P w0 g args A Q := by
  unfold vcall at h
  split at h
  · rename_i fn hf
    split at h
    · rename_i b hb
      refine SCall.body hf hb (((vexec_both hX hR hmix n).1 _ _ _ _ _ _ _ _ h).mono fun e t A ⟨_, hq⟩ => ?_)
      cases e <;> simp only at hq <;> try (exact hq.elim)
      · split at hq
        · rename_i v hv; exact ⟨.inl rfl, v, ares_rel hv, hq⟩
        · exact hq.elim
      · split at hq
        · rename_i v hv; exact ⟨.inr rfl, v, ares_rel hv, hq⟩
        · exact hq.elim
    · exact h.elim
  · exact h.elim

/-- What a call leaves may be told by less. -/
theorem SCall.less {g : FuncId} {args : List AV} {A : List AO} {Q Q' : AV → List AO → Prop} (h : SCall P w0 g args A Q')
    (hk : ∀ v A2, Q' v A2 → ∃ n, A.length ≤ n ∧ low n v = true ∧ (A2.take n).all (lowO n) = true ∧ Q v (A2.take n)) : SCall P w0 g args A Q := by
  intro m w us hr hu
  refine (h m w us hr hu).mono ?_
  rintro e w' ⟨u, v, A2, m2, he, hv, hext, hr2, hq, hkp⟩
  obtain ⟨n, h1, h2, h3, h4⟩ := hk v A2 hq
  refine ⟨u, v, A2.take n, m2.take n, he, hv.low h2, fun k p hp => ?_, hr2.trim h3, h4, hkp⟩
  have hkl : k < m.length := (List.getElem?_eq_some_iff.1 hp).1
  exact take_get (hext k p hp) (by have := hr.len; omega)
end
attribute [irreducible] vcall vexec
end Go.Am
