/- A part of the proof: Am16. -/
import Derived.Test.YthipnddfplbamaaDoorAm15
set_option linter.unusedVariables false
set_option linter.unusedSimpArgs false
namespace Go.Am
open Go.RowKit

section
variable {P : Program} {w0 : World} {m : List (Option Pl)} {A : List AO} {w : World} {t : List AV} {a : Act}

/-! ### An operation looks at its operands alone -/
theorem aevs_congr {t t' : List AV} : ∀ {xs : List Operand}, (∀ x ∈ xs, aev t x = aev t' x) → aevs t xs = aevs t' xs := by
  intro xs
  induction xs with
  | nil => intro _; rfl
  | cons x r ih =>
    intro h
    simp only [aevs, h x (by simp), ih fun y hy => h y (by simp [hy])]
theorem aparts_congr {t t' : List AV} : ∀ {xs : List (Nat × Operand)}, (∀ x ∈ xs, aev t x.2 = aev t' x.2) → aparts t xs = aparts t' xs := by
  intro xs
  induction xs with
  | nil => intro _; rfl
  | cons x r ih =>
    intro h
    obtain ⟨i, x⟩ := x
    simp only [aparts, h (i, x) (by simp), ih fun y hy => h y (by simp [hy])]
theorem aopt_congr {t t' : List AV} {x : Option Operand} (h : ∀ y ∈ x.toArray.toList, aev t y = aev t' y) : aopt t x = aopt t' x := by
  cases x with
  | none => rfl
  | some y => simp only [aopt, h y (by simp)]

theorem acallTarget_congr {t t' : List AV} {c : Call} (h : ∀ x ∈ c.operands.toList, aev t x = aev t' x) : acallTarget P t c = acallTarget P t' c := by
  have ha : aevs t c.args.toList = aevs t' c.args.toList := aevs_congr fun x hx => h x (by simp [Call.operands]; exact .inr (by simpa using hx))
  unfold acallTarget
  rw [ha]
  cases hc : c.callee with
  | value f => simp only [h f (by simp [Call.operands, hc])]
  | invoke r n => simp only [h r (by simp [Call.operands, hc])]
  | builtin b => rfl

set_option maxHeartbeats 1000000 in
theorem aop_congr {X : AExt} {t t' : List AV} {o : Oper} (h : ∀ x ∈ o.op.operands.toList, aev t x = aev t' x) : aop P X t A o = aop P X t' A o := by
  unfold aop
  cases ho : o.op <;> rw [ho] at h <;> simp only [Op.operands] at h
  case move x => simp only [h x (by simp)]
  case assign x => simp only [h x (by simp)]
  case pick c x y => simp only [h c (by simp), h x (by simp), h y (by simp)]
  case box e x => simp only [h x (by simp)]
  case build ty ps =>
    have : aparts t ps.toList = aparts t' ps.toList := aparts_congr fun x hx => h x.2 (by simp only [List.mem_map]; exact ⟨x, hx, rfl⟩)
    simp only [this]
  case buildSlice ty n ps =>
    have : aparts t ps.toList = aparts t' ps.toList := aparts_congr fun x hx => h x.2 (by simp only [List.mem_map]; exact ⟨x, hx, rfl⟩)
    simp only [this]
  case load ty x => simp only [h x (by simp)]
  case store ty x y => simp only [h x (by simp), h y (by simp)]
  case nilCheck x => simp only [h x (by simp)]
  case binOp op ty x y yt => simp only [h x (by simp), h y (by simp)]
  case unOp op ty x => simp only [h x (by simp)]
  case convert s d x => simp only [h x (by simp)]
  case makeInterface ty x => simp only [h x (by simp)]
  case makeFunc fn f c =>
    have h1 : aevs t f.toList = aevs t' f.toList := aevs_congr fun x hx => h x (by simp; exact .inl (by simpa using hx))
    have h2 : aevs t c.toList = aevs t' c.toList := aevs_congr fun x hx => h x (by simp; exact .inr (by simpa using hx))
    simp only [h1, h2]
  case makeMap ty r => cases r <;> rfl
  case makeSlice ty x y => simp only [h x (by simp), h y (by simp)]
  case slice ty x lo hi mx =>
    have h1 : aopt t lo = aopt t' lo := aopt_congr fun y hy => h y (by simp at hy ⊢; simp [hy])
    have h2 : aopt t hi = aopt t' hi := aopt_congr fun y hy => h y (by simp at hy ⊢; simp [hy])
    have h3 : aopt t mx = aopt t' mx := aopt_congr fun y hy => h y (by simp at hy ⊢; simp [hy])
    simp only [h x (by simp), h1, h2, h3]
  case fieldAddr ty x f => simp only [h x (by simp)]
  case field ty x f => simp only [h x (by simp)]
  case indexAddr ty x y => simp only [h x (by simp), h y (by simp)]
  case index ty x y => simp only [h x (by simp), h y (by simp)]
  case lookup ty x y ok => simp only [h x (by simp), h y (by simp)]
  case mapUpdate ty x y z => simp only [h x (by simp), h y (by simp), h z (by simp)]
  case insert ty x y z => simp only [h x (by simp), h y (by simp), h z (by simp)]
  case typeAssert x s b ok => simp only [h x (by simp)]
  case extract x i => simp only [h x (by simp)]
  case range ty x => simp only [h x (by simp)]
  case next x s => cases s <;> simp only [h x (by simp)]
  case entry x => simp only [h x (by simp)]
  case call c =>
    have ht := acallTarget_congr (P := P) h
    have ha : aevs t c.args.toList = aevs t' c.args.toList := aevs_congr fun x hx => h x (by simp [Call.operands]; exact .inr (by simpa using hx))
    simp only [ht, abuiltin, ha]

/-! ### What is made: told ahead of its making -/
/-- The value (by the block's number) and the cells that an operation makes. -/
def amake (P : Program) (t : List AV) (o : Oper) : Option ((Nat → AV) × List AV × TypeId) :=
  match o.op with
  | .alloc e => match azero P e, asize P e with
    | some z, some n => if (acells z).length ≤ maxLen * n then some (fun k => .ptr (some (k, 0)), acells z, e) else none
    | _, _ => none
  | .box e x => match aev t x, asize P e with
    | some z, some n => if notAny z = true ∧ (acells z).length ≤ maxLen * n then some (fun k => .ptr (some (k, 0)), acells z, e) else none
    | _, _ => none
  | .buildSlice ty len ps => match aparts t ps.toList with
    | some l => match abuildSlice P [] ty len l with
      | some (_, [.row cs e true]) => some (fun k => .slc (some (k, 0)) len len true, cs, e)
      | _ => none
    | none => none
  | _ => none

/-- The model makes a block of just these cells. -/
def Makes (P : Program) (w0 : World) (t : List AV) (o : Oper) (f : Nat → AV) (cs : List AV) (e : TypeId) : Prop :=
  ∀ (m : List (Option Pl)) (A : List AO) (w : World) (a : Act), Rel P w0 m A w → VsRel m t a.tmps → ∃ u us i, (execOp a.eval o).run P w = .ok (.value u) (w.alloc (.cells us e)) ∧ VsRel m cs us ∧
    P.info? e = some i ∧ cs.length ≤ maxLen * i.size ∧ ∀ (m' : List (Option Pl)) (k : Nat), m'[k]? = some (some ⟨w.heap.size, 0, 0⟩) → VRel m' (f k) u

theorem abuildSlice_makes (h : Rel P w0 m A w) {ty : TypeId} {len : Nat} {parts : List (Nat × AV)} {us : Array (Nat × Value)} (hl : parts.length = us.size) (hr : ∀ (i : Nat) (x : Nat × AV) (u : Nat × Value), parts[i]? = some x → us[i]? = some u → x.1 = u.1 ∧ VRel m x.2 u.2)
    {v : AV} {cs : List AV} {e : TypeId} (hb : abuildSlice P [] ty len parts = some (v, [.row cs e true])) :
    ∃ cc i, (Instr.buildSlice ty len us).run P w = .ok (.slice (some ⟨w.heap.size, 0, none⟩) len len) (w.alloc (.cells cc e)) ∧ VsRel m cs cc ∧ P.info? e = some i ∧ cs.length ≤ maxLen * i.size := by
  unfold abuildSlice at hb
  split at hb
  · rename_i e' hu
    split at hb
    · rename_i n z hn hz
      split at hb
      · rename_i hc
        obtain ⟨hc1, hc2, hc3⟩ := hc
        split at hb
        · rename_i cs' hf
          split at hb
          · rename_i hcl
            simp at hb; obtain ⟨_, rfl, rfl⟩ := hb
            obtain ⟨uz, hrun, hzr⟩ := azero_run (P := P) (w := w) hz
            have hzc := acells_rel (hzr m) (azero_na hz)
            have hus : uz.cells.size = n := by rw [← hzc.1]; exact hc2
            obtain ⟨cc', h1, h2⟩ := afill_rel (areps_rel len hzc) (by rw [Array.length_toList]; exact hl) (fun i x u hx hy => hr i x u hx (by simpa using hy)) hf
            rw [hus] at h1
            obtain ⟨i, hi, hin⟩ := Option.map_eq_some_iff.1 (show (P.info? e').map (·.size) = some n from hn)
            refine ⟨cc', i, ?_, h2, hi, ?_⟩
            · unfold Instr.buildSlice
              simp only [Sem.run_bind, run_underlying hu, Result.andThen_ok, asize_run hn, Sem.run_ite]
              rw [if_neg (by have : (2:Nat) ^ 24 = 16777216 := rfl; omega)]
              by_cases h0 : len * n = 0
              · have hcc : (Array.range (len * n)).map (fun x => uz.cells[x % n]!) = (Array.range (len * n)).map (fun x => (#[] : Array Value)[x % (#[] : Array Value).size]!) := by
                  rw [h0]; simp
                rw [hcc] at h1
                simp only [Sem.run_pure, Result.andThen_ok, if_pos h0]
                have h1' : Instr.fill (fun i => some (i * n, n)) ((Array.range (len * n)).map (fun x => (#[] : Array Value)[x % (#[] : Array Value).size]!)) us.toList = some cc' := h1
                simp only [h1', Sem.run_bind, newRow_run, Result.andThen_ok, Sem.run_pure]
              · simp only [if_neg h0, Sem.run_bind, hrun, Result.andThen_ok, Sem.run_pure, hus, h1, newRow_run]
            · rw [hcl, hin]; exact Nat.mul_le_mul_right _ (by simp only [maxLen]; have := Nat.le_trans (Nat.le_mul_of_pos_right len hc3) hc1; omega)
          · cases hb
        · cases hb
      · cases hb
    · cases hb
  · cases hb

theorem amake_makes {o : Oper} {f : Nat → AV} {cs : List AV} {e : TypeId} (h : amake P t o = some (f, cs, e)) : Makes P w0 t o f cs e := by
  intro m A w a hr ht
  unfold amake at h
  split at h <;> rename_i ho
  · rename_i e'
    split at h
    · rename_i z n hz hn
      split at h
      · rename_i hle
        simp at h; obtain ⟨rfl, rfl, rfl⟩ := h
        obtain ⟨uz, hrun, hzr⟩ := azero_run (P := P) (w := w) hz
        obtain ⟨i, hi, hin⟩ := Option.map_eq_some_iff.1 (show (P.info? e').map (·.size) = some n from hn)
        refine ⟨.pointer (some ⟨w.heap.size, 0, none⟩), uz.cells, i, ?_, acells_rel (hzr m) (azero_na hz), hi, by rw [hin]; exact hle, fun m' k hk => .ptr (o := 0) hk⟩
        simp [execOp, ho, Instr.alloc, hrun, newVar, newRow_run]
      · cases h
    · cases h
  · rename_i e' x
    split at h
    · rename_i z n hz hn
      split at h
      · rename_i hle
        obtain ⟨hna, hle⟩ := hle
        simp at h; obtain ⟨rfl, rfl, rfl⟩ := h
        obtain ⟨i, hi, hin⟩ := Option.map_eq_some_iff.1 (show (P.info? e').map (·.size) = some n from hn)
        refine ⟨.pointer (some ⟨w.heap.size, 0, none⟩), (a.eval x).cells, i, ?_, acells_rel (aev_rel ht hz) hna, hi, by rw [hin]; exact hle, fun m' k hk => .ptr (o := 0) hk⟩
        simp [execOp, ho, Instr.box, newVar, newRow_run]
      · cases h
    · cases h
  · rename_i ty len ps
    split at h
    · rename_i l hl
      split at h
      · rename_i v cs' e' hb
        simp at h; obtain ⟨rfl, rfl, rfl⟩ := h
        obtain ⟨h1, h2⟩ := aparts_rel ht hl
        obtain ⟨cc, i, h3, h4, h5, h6⟩ := abuildSlice_makes hr (us := ps.map fun (i, x) => (i, a.eval x)) (by simpa using h1) (fun i x u hx hu => h2 i x u hx (by simpa using hu)) hb
        refine ⟨.slice (some ⟨w.heap.size, 0, none⟩) len len, cc, i, ?_, h4, h5, h6, fun m' k hk => ?_⟩
        · simp only [execOp, ho, Sem.run_bind, h3, Result.andThen_ok, Sem.run_pure]
        · have := VRel.slc (o := 0) len len true hk
          simpa using this
      · cases h
    · cases h
  · cases h

theorem amake_congr {t t' : List AV} {o : Oper} (h : ∀ x ∈ o.op.operands.toList, aev t x = aev t' x) : amake P t o = amake P t' o := by
  unfold amake
  cases ho : o.op <;> rw [ho] at h <;> simp only [Op.operands] at h
  case box e x => simp only [h x (by simp)]
  case buildSlice ty n ps =>
    have : aparts t ps.toList = aparts t' ps.toList := aparts_congr fun x hx => h x.2 (by simp only [List.mem_map]; exact ⟨x, hx, rfl⟩)
    simp only [this]

/-! ### Blocks that are not yet made -/
theorem Rel.ghosts (h : Rel P w0 m A w) (gs : List AO) : Rel P w0 (m ++ List.replicate gs.length none) (A ++ gs) w := by
  have hl := h.len
  have get : ∀ {k : Nat} {o1 : AO} {p1 : Pl}, (A ++ gs)[k]? = some o1 → (m ++ List.replicate gs.length none)[k]? = some (some p1) → A[k]? = some o1 ∧ m[k]? = some (some p1) := by
    intro k o1 p1 h1 h2
    by_cases hlt : k < A.length
    · rw [List.getElem?_append_left hlt] at h1
      rw [List.getElem?_append_left (by omega)] at h2
      exact ⟨h1, h2⟩
    · rw [List.getElem?_append_right (by omega), List.getElem?_replicate] at h2
      split at h2 <;> simp at h2
  refine ⟨by simp [hl], h.below, fun k o p hk hp => ?_, fun k k' o1 o2 p1 p2 hne h1 h2 hm hlv hp1 hp2 => ?_⟩
  · obtain ⟨a1, b1⟩ := get hk hp
    exact (h.obj k o p a1 b1).ext P w0 (Ext.append _ _).weak
  · obtain ⟨a1, b1⟩ := get h1 hp1
    obtain ⟨a2, b2⟩ := get h2 hp2
    exact h.inj k k' o1 o2 p1 p2 hne a1 a2 hm hlv b1 b2

theorem set_wext {k : Nat} (hk : m[k]? = some none) (q : Option Pl) : WExt m (m.set k q) := by
  intro j p hp
  rw [List.getElem?_set]
  by_cases hj : k = j
  · subst hj; rw [hk] at hp; simp at hp
  · rw [if_neg hj]; exact hp

/-- One of them is made. -/
theorem Rel.fill (h : Rel P w0 m A w) {k : Nat} {cs : List AV} {e : TypeId} (hk : A[k]? = some (.row cs e true)) (hm : m[k]? = some none) {us : Array Value} (hv : VsRel m cs us) {i : TypeInfo} (hi : P.info? e = some i) (hle : cs.length ≤ maxLen * i.size) :
    Rel P w0 (m.set k (some ⟨w.heap.size, 0, 0⟩)) A (w.alloc (.cells us e)) := by
  have hw := set_wext hm (some ⟨w.heap.size, 0, 0⟩)
  have hkl : k < m.length := (List.getElem?_eq_some_iff.1 hm).1
  have hb : Below w.heap.size w (w.alloc (.cells us e)) := (Below.refl _ _).alloc (Nat.le_refl _) _
  have get : ∀ {j : Nat} {p1 : Pl}, (m.set k (some ⟨w.heap.size, 0, 0⟩))[j]? = some (some p1) → (j = k ∧ p1 = ⟨w.heap.size, 0, 0⟩) ∨ (j ≠ k ∧ m[j]? = some (some p1)) := by
    intro j p1 h2
    rw [List.getElem?_set] at h2
    by_cases hj : k = j
    · subst hj
      rw [if_pos rfl, if_pos hkl] at h2
      simp at h2; exact .inl ⟨rfl, h2.symm⟩
    · rw [if_neg hj] at h2
      exact .inr ⟨fun e => hj e.symm, h2⟩
  have hg := h.grow P w0 hb
  refine ⟨by simp [h.len], hg.below, fun j o p hj hp => ?_, fun j j' o1 o2 p1 p2 hne h1 h2 hm1 hlv hp1 hp2 => ?_⟩
  · rcases get hp with ⟨rfl, rfl⟩ | ⟨hne, hp⟩
    · rw [hk] at hj; simp at hj; subst hj
      refine ⟨us, (0, 0), new_block _ _, fun q v hq => ?_, fun _ => ⟨h.below.size, fun q _ => by simp, i, hi, by simp [← hv.1], by simpa using hle⟩⟩
      obtain ⟨u, hu, hr⟩ := hv.get hq
      exact ⟨u, by simpa using hu, hr.wext hw⟩
    · exact (hg.obj j o p hj hp).ext P w0 hw
  · have live_of : ∀ o : AO, o.mut = true → o.live = true := fun o ho => by cases o <;> simp_all [AO.mut, AO.live]
    rcases get hp1 with ⟨rfl, rfl⟩ | ⟨n1, q1⟩
    · rcases get hp2 with ⟨rfl, rfl⟩ | ⟨n2, q2⟩
      · exact absurd rfl hne
      · have := (h.obj j' o2 p2 h2 q2).lt P w0 hlv
        simp only; omega
    · rcases get hp2 with ⟨rfl, rfl⟩ | ⟨n2, q2⟩
      · have := (h.obj j o1 p1 h1 q1).lt P w0 (live_of _ hm1)
        simp only; omega
      · exact h.inj j j' o1 o2 p1 p2 hne h1 h2 hm1 hlv q1 q2
end
end Go.Am
