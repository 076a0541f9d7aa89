/- From the evaluator's run over a drawn region to its trace. -/
import Derived.Test.YtnipnoffofoedaaGreatDoorEvE
namespace Go.Ev
open Go Go.RowKit

/-- the guard, where its slot only is known -/
theorem wantK_inv2 {R : Type} {T : Tr AV} {ops : Array Oper} {o : Oper} {no yes skip r : R} (h : wantK T ops.toList o.guard no yes skip = r) (hne : no ≠ r) :
    (yes = r ∧ ∀ (σ : Sub) (ts : Array Value), (∀ t ∈ looksO ops.toList o, VR σ ((getP (pathOf t) T).getD undefA) (ts.getD t undef)) → Region.wanted o (yielded ops ts) = true) ∨
    (skip = r ∧ ∀ (σ : Sub) (ts : Array Value), (∀ t ∈ looksO ops.toList o, VR σ ((getP (pathOf t) T).getD undefA) (ts.getD t undef)) → Region.wanted o (yielded ops ts) = false) := by
  unfold wantK at h
  rw [om_eq] at h
  cases hg : o.guard with
  | none =>
    rw [hg] at h
    exact .inl ⟨h, fun _ _ _ => by simp [Region.wanted, hg]⟩
  | some g =>
    obtain ⟨j, want⟩ := g
    rw [hg] at h
    simp only at h
    obtain ⟨q, hq, h1⟩ := om_inv h hne
    obtain ⟨d, hd, h2⟩ := om_inv h1 hne
    obtain ⟨v, hv, h3⟩ := om_inv h2 hne
    rw [nthL_eq] at hq
    have hq' : ops[j]? = some q := by simpa using hq
    split at h3
    · rename_i t
      have hy : ∀ (σ : Sub) (ts : Array Value), (∀ t ∈ looksO ops.toList o, VR σ ((getP (pathOf t) T).getD undefA) (ts.getD t undef)) → yielded ops ts j = some t := fun σ ts ht => by
        have hmem : d ∈ looksO ops.toList o := by
          unfold looksO
          rw [hg]
          simp only [hq, Option.bind_some, hd, Option.toList_some]
          exact List.mem_append.2 (.inr (by simp))
        have := ht d hmem
        rw [hv] at this
        simp only [Option.getD_some, VR] at this
        have hb : ts[d]? = some (.bool t) := by
          rw [Array.getD_eq_getD_getElem?] at this
          cases hx : ts[d]? with
          | none => rw [hx] at this; cases this
          | some x => rw [hx] at this; rw [show x = .bool t from this]
        simp only [yielded, hq', Option.bind_some, hd, hb]
      rw [br_eq, br_eq, br_eq] at h3
      cases t <;> cases want <;> simp only [if_true, if_false, Bool.false_eq_true] at h3
      · exact .inl ⟨h3, fun σ ts ht => by simp [Region.wanted, hg, hy σ ts ht]⟩
      · exact .inr ⟨h3, fun σ ts ht => by simp [Region.wanted, hg, hy σ ts ht]⟩
      · exact .inr ⟨h3, fun σ ts ht => by simp [Region.wanted, hg, hy σ ts ht]⟩
      · exact .inl ⟨h3, fun σ ts ht => by simp [Region.wanted, hg, hy σ ts ht]⟩
    · exact absurd h3 hne

/-- where the run is -/
structure Acc where
  T : Tr AV
  G : AG
  D : List ADef
  pool : Pth
  pend : Pend
  opn : Opn
  hist : Hist
  xs : Nat
  v : AV
  kd : Kd

section
variable {R : Type} {P : Program} {ro : Nat → Option CB} {no r : R}
theorem setD_slot {N : Nat} {T : Tr AV} {d : Option Nat} {v : AV} {K : Tr AV → R} (h : setD N T d v no K = r) (hne : no ≠ r) : ∃ T', K T' = r ∧ (∀ e, d = some e → e < N) ∧ ∀ t, getP (pathOf t) T' = if d = some t then some v else getP (pathOf t) T := by
  unfold setD at h
  rw [om_eq] at h
  cases d with
  | none => exact ⟨T, h, nofun, fun t => by simp⟩
  | some d =>
    obtain ⟨h1, h2⟩ := setT_inv h hne
    refine ⟨_, h2, fun e he => by cases he; exact h1, fun t => ?_⟩
    rw [getP_set]
    by_cases e : t = d
    · subst e; simp
    · have e1 : pathOf t ≠ pathOf d := fun e' => e (pathOf_inj e')
      have e2 : ¬ (some d = some t) := fun e' => e (by cases e'; rfl)
      rw [if_neg e1, if_neg e2]
theorem adopt_eq (m : Nat) : ∀ (p : Pend) (G : AG) (K : AG → Pend → R), adopt m p G K = K (adoptL (p.filter fun q => m.testBit q.1) G) (p.filter fun q => !m.testBit q.1)
  | [], G, K => rfl
  | q :: p, G, K => by
    have h : adopt m (q :: p) G K = br (Nat.testBit m q.1) (G.setK q.2.1 (some q.2.2) fun G => adopt m p G K) (adopt m p G fun G r => K G (q :: r)) := rfl
    rw [h, br_eq, AG.setK_eq]
    by_cases hb : m.testBit q.1 = true
    · rw [if_pos hb, adopt_eq m p]
      simp only [List.filter_cons, hb, if_true, Bool.not_true, Bool.false_eq_true, if_false]
      rfl
    · have hb' : m.testBit q.1 = false := by simpa using hb
      rw [if_neg hb, adopt_eq m p]
      simp only [List.filter_cons, hb', if_true, Bool.not_false, Bool.false_eq_true, if_false]
theorem adoptAll_eq : ∀ (p : Pend) (G : AG) (K : AG → R), adoptAll p G K = K (adoptL p G)
  | [], G, K => rfl
  | q :: p, G, K => by
    have h : adoptAll (q :: p) G K = G.setK q.2.1 (some q.2.2) fun G => adoptAll p G K := rfl
    rw [h, AG.setK_eq, adoptAll_eq p]
    rfl
/-- a value is the same in a memory -/
def Same (P : Program) (ro : Nat → Option CB) (o : Oper) (T : Tr AV) (G : AG) (v : AV) : Prop := ∃ u G', aop o.op P ro T G = .ok u G' ∧ eqAV v u = true
theorem sameIn_inv {o : Oper} {T : Tr AV} {G : AG} {v : AV} {yes : R} (h : sameIn P ro o T G v no yes = r) (hne : no ≠ r) : Same P ro o T G v ∧ yes = r := by
  unfold sameIn at h
  split at h
  · rename_i u G' hu
    obtain ⟨h1, h2⟩ := br_inv h hne
    exact ⟨⟨u, G', hu, h1⟩, h2⟩
  · exact absurd h hne
/-- the stages back to the last ancestor -/
inductive Back (P : Program) (ro : Nat → Option CB) (o : Oper) (T : Tr AV) (v : AV) (m : Nat) : Hist → Prop
  | nil : Back P ro o T v m []
  | stop {q h} : Same P ro o T q.2 v → m.testBit q.1 = true → Back P ro o T v m (q :: h)
  | on {q h} : Same P ro o T q.2 v → Back P ro o T v m h → Back P ro o T v m (q :: h)
theorem backTo_inv {o : Oper} {T : Tr AV} {v : AV} {m : Nat} {yes : R} (hne : no ≠ r) : ∀ {h : Hist}, backTo P ro o T v m h no yes = r → Back P ro o T v m h ∧ yes = r
  | [], e => ⟨.nil, e⟩
  | q :: h, e => by
    have e' : sameIn P ro o T q.2 v no (br (Nat.testBit m q.1) yes (backTo P ro o T v m h no yes)) = r := e
    obtain ⟨h1, h2⟩ := sameIn_inv e' hne
    rw [br_eq] at h2
    split at h2
    · rename_i hb; exact ⟨.stop h1 hb, h2⟩
    · obtain ⟨h3, h4⟩ := backTo_inv hne h2
      exact ⟨.on h1 h3, h4⟩
theorem reRead_inv {m : Nat} {G : AG} (hne : no ≠ r) : ∀ {l : Opn} {K : Opn → R}, reRead P ro m G l no K = r → K (l.filter fun q => !Nat.testBit m q.1) = r ∧ ∀ q ∈ l, Nat.testBit m q.1 = false → Same P ro q.2.1 q.2.2.1 G q.2.2.2
  | [], K, h => ⟨h, fun q hq => by cases hq⟩
  | q :: l, K, h => by
    have h' : br (Nat.testBit m q.1) (reRead P ro m G l no K) (sameIn P ro q.2.1 q.2.2.1 G q.2.2.2 no (reRead P ro m G l no fun r => K (q :: r))) = r := h
    rw [br_eq] at h'
    split at h'
    · rename_i hb
      obtain ⟨h1, h2⟩ := reRead_inv hne h'
      refine ⟨by rw [List.filter_cons_of_neg (by simp [hb])]; exact h1, fun q' hq' hb' => ?_⟩
      rcases List.mem_cons.1 hq' with rfl | hq'
      · rw [hb] at hb'; cases hb'
      · exact h2 q' hq' hb'
    · rename_i hb
      have hb' : Nat.testBit m q.1 = false := by simpa using hb
      obtain ⟨h0, h1⟩ := sameIn_inv h' hne
      obtain ⟨h2, h3⟩ := reRead_inv hne h1
      refine ⟨by rw [List.filter_cons_of_pos (by simp [hb'])]; exact h2, fun q' hq' hbq => ?_⟩
      rcases List.mem_cons.1 hq' with rfl | hq'
      · exact h0
      · exact h3 q' hq' hbq
end
end Go.Ev

/-! The trace of an evaluator's run over a drawn region. -/
namespace Go.Ev
open Go Go.RowKit

section trace
variable (P : Program) (ro : Nat → Option CB) (call : CallF) (dfr rnd : Bool) (N : Nat) (ops : Array Oper)
def Acc.same (S S' : Acc) : Prop := S'.G = S.G ∧ S'.D = S.D ∧ S'.hist = S.hist ∧ S'.xs = S.xs
/-- one operation of the text -/
inductive StepK (j : Nat) (o : Oper) (m : Nat) (S S' : Acc) : Prop
  | skip (hk : S'.kd = .skip) (hv : S'.v = undefA) (hs : S.same S') (hp : S'.pool = S.pool) (hpe : S'.pend = S.pend) (ho : S'.opn = S.opn)
      (hw : ∀ (σ : Sub) (ts : Array Value), (∀ t ∈ looksO ops.toList o, VR σ ((getP (pathOf t) S.T).getD undefA) (ts.getD t undef)) → Region.wanted o (yielded ops ts) = false)
  | pl (hk : S'.kd = .pl) (hc : clsO o.op = .pl) (G' : AG) (he : aop o.op P ro (restrT S.T o.op.operands.toList) ⟨.e, .h⟩ = .ok S'.v G') (hn : G'.nx = .h) (hs : S.same S') (hp : S'.pool = S.pool) (hpe : S'.pend = S.pend) (ho : S'.opn = S.opn)
      (hw : ∀ (σ : Sub) (ts : Array Value), (∀ t ∈ looksO ops.toList o, VR σ ((getP (pathOf t) S.T).getD undefA) (ts.getD t undef)) → Region.wanted o (yielded ops ts) = true)
  | ld (hk : S'.kd = .ld) (hr : isRead o.op = true) (G' : AG) (he : aop o.op P ro (restrT S.T o.op.operands.toList) S.G = .ok S'.v G') (hb : Back P ro o (restrT S.T o.op.operands.toList) S'.v m S.hist) (hs : S.same S') (hp : S'.pool = S.pool) (hpe : S'.pend = S.pend)
      (ho : S'.opn = (j, o, restrT S.T o.op.operands.toList, S'.v) :: S.opn)
      (hw : ∀ (σ : Sub) (ts : Array Value), (∀ t ∈ looksO ops.toList o, VR σ ((getP (pathOf t) S.T).getD undefA) (ts.getD t undef)) → Region.wanted o (yielded ops ts) = true)
  | nw (x : AB) (hk : S'.kd = .nw S.pool x) (hc : clsO o.op = .nw) (G' : AG) (he : aop o.op P ro (restrT S.T o.op.operands.toList) ⟨.e, S.pool⟩ = .ok S'.v G') (hn : G'.nx = S.pool.suc) (hg : G'.get S.pool = some x) (hs : S.same S') (hp : S'.pool = S.pool.suc) (hpe : S'.pend = (j, S.pool, x) :: S.pend) (ho : S'.opn = S.opn)
      (hw : ∀ (σ : Sub) (ts : Array Value), (∀ t ∈ looksO ops.toList o, VR σ ((getP (pathOf t) S.T).getD undefA) (ts.getD t undef)) → Region.wanted o (yielded ops ts) = true)
  | act (hk : S'.kd = .act (adoptL (S.pend.filter fun q => m.testBit q.1) S.G) S'.G S'.D) (hx : Nat.land S.xs m = S.xs)
      (he : operV P ro call dfr rnd o (restrT S.T o.op.operands.toList) (adoptL (S.pend.filter fun q => m.testBit q.1) S.G) S.D = .ok S'.v S'.G S'.D)
      (hpe : S'.pend = S.pend.filter fun q => !m.testBit q.1) (ho : S'.opn = S.opn.filter fun q => !Nat.testBit m q.1) (hre : ∀ q ∈ S.opn, Nat.testBit m q.1 = false → Same P ro q.2.1 q.2.2.1 S'.G q.2.2.2)
      (hh : S'.hist = (j, S'.G) :: S.hist) (hxs : S'.xs = Nat.lor S.xs (Nat.pow 2 j)) (hp : S'.pool = S.pool)
      (hw : ∀ (σ : Sub) (ts : Array Value), (∀ t ∈ looksO ops.toList o, VR σ ((getP (pathOf t) S.T).getD undefA) (ts.getD t undef)) → Region.wanted o (yielded ops ts) = true)
structure StepR (j : Nat) (o : Oper) (m : Nat) (S S' : Acc) : Prop where
  dst : ∀ d, o.dst = some d → d < N
  slot : ∀ t, getP (pathOf t) S'.T = if o.dst = some t then some S'.v else getP (pathOf t) S.T
  kind : StepK P ro call dfr rnd ops j o m S S'

variable {P ro call dfr rnd N ops}
theorem drawA_trace : ∀ (l : List (Oper × Nat)) (i : Nat) (S : Acc) (e : Ex) (s' : St), drawA P ro call dfr rnd N ops.toList l i S.T S.G S.D S.pool S.pend S.opn S.hist S.xs = .ok e s' →
    e = .nx ∧ ∃ f : Nat → Acc, f 0 = S ∧ (∀ k o m, l[k]? = some (o, m) → StepR P ro call dfr rnd N ops (i + k) o m (f k) (f (k + 1))) ∧ s' = ⟨(f l.length).T, adoptL (f l.length).pend (f l.length).G, (f l.length).D⟩
  | [], i, S, e, s', h => by
    have h' : (adoptAll S.pend S.G fun G => Rs.ok .nx ⟨S.T, G, S.D⟩) = .ok e s' := h
    rw [adoptAll_eq] at h'
    cases h'
    exact ⟨rfl, fun _ => S, rfl, fun k o m hk => by simp at hk, rfl⟩
  | (o, m) :: l, i, S, e, s', h => by
    -- how the rest is joined
    have fin : ∀ (S1 : Acc), StepR P ro call dfr rnd N ops i o m S S1 → drawA P ro call dfr rnd N ops.toList l (i + 1) S1.T S1.G S1.D S1.pool S1.pend S1.opn S1.hist S1.xs = .ok e s' →
        e = .nx ∧ ∃ f : Nat → Acc, f 0 = S ∧ (∀ k o' m', ((o, m) :: l)[k]? = some (o', m') → StepR P ro call dfr rnd N ops (i + k) o' m' (f k) (f (k + 1))) ∧ s' = ⟨(f ((o, m) :: l).length).T, adoptL (f ((o, m) :: l).length).pend (f ((o, m) :: l).length).G, (f ((o, m) :: l).length).D⟩ := fun S1 hS h1 => by
      obtain ⟨he, f, hf0, hf, hs'⟩ := drawA_trace l (i + 1) S1 e s' h1
      refine ⟨he, fun k => match k with | 0 => S | k + 1 => f k, rfl, fun k o' m' hk => ?_, hs'⟩
      cases k with
      | zero =>
        cases hk
        show StepR P ro call dfr rnd N ops i o m S (f 0)
        rw [hf0]; exact hS
      | succ k =>
        have := hf k o' m' hk
        rw [show i + (k + 1) = i + 1 + k by omega]
        exact this
    have h' : wantK S.T ops.toList o.guard (.no 80)
      (match clsO o.op with
        | .pl => (match aop o.op P ro (restrT S.T o.op.operands.toList) ⟨.e, .h⟩ with
          | .ok v G' => br (pEq G'.nx .h) (setD N S.T o.dst v (.no 81) fun T => drawA P ro call dfr rnd N ops.toList l (i + 1) T S.G S.D S.pool S.pend S.opn S.hist S.xs) (.no 82)
          | .no _ => (match aop o.op P ro (restrT S.T o.op.operands.toList) S.G with
            | .ok v _ => br (isRead o.op) (backTo P ro o (restrT S.T o.op.operands.toList) v m S.hist (.no 83) (setD N S.T o.dst v (.no 81) fun T' =>
                drawA P ro call dfr rnd N ops.toList l (i + 1) T' S.G S.D S.pool S.pend ((i, o, restrT S.T o.op.operands.toList, v) :: S.opn) S.hist S.xs)) (.no 89)
            | .no c => .no c))
        | .nw => (match aop o.op P ro (restrT S.T o.op.operands.toList) ⟨.e, S.pool⟩ with
          | .ok v G' => sucK S.pool fun pool' => br (pEq G'.nx pool') (Go.Ev.om (G'.get S.pool) (.no 84) fun x => setD N S.T o.dst v (.no 81) fun T => drawA P ro call dfr rnd N ops.toList l (i + 1) T S.G S.D pool' ((i, S.pool, x) :: S.pend) S.opn S.hist S.xs) (.no 82)
          | .no c => .no c)
        | .act => br (Nat.beq (Nat.land S.xs m) S.xs) (adopt m S.pend S.G fun G p =>
            match operV P ro call dfr rnd o (restrT S.T o.op.operands.toList) G S.D with
            | .ok v G D => reRead P ro m G S.opn (.no 85) fun opn => setD N S.T o.dst v (.no 81) fun T => fN (Nat.lor S.xs (Nat.pow 2 i)) fun xs => drawA P ro call dfr rnd N ops.toList l (i + 1) T G D S.pool p opn ((i, G) :: S.hist) xs
            | .no c => .no c) (.no 86))
      (setD N S.T o.dst undefA (.no 87) fun T => drawA P ro call dfr rnd N ops.toList l (i + 1) T S.G S.D S.pool S.pend S.opn S.hist S.xs) = .ok e s' := h
    rcases wantK_inv2 h' nofun with ⟨h1, hw⟩ | ⟨h1, hw⟩
    · split at h1
      · rename_i hcl
        split at h1
        · rename_i v G' hop
          obtain ⟨hn, h2⟩ := br_inv h1 nofun
          obtain ⟨T', h3, hd, hs⟩ := setD_slot h2 nofun
          exact fin ⟨T', S.G, S.D, S.pool, S.pend, S.opn, S.hist, S.xs, v, .pl⟩ ⟨hd, hs, .pl rfl hcl G' hop ((pEq_iff _ _).1 hn) ⟨rfl, rfl, rfl, rfl⟩ rfl rfl rfl hw⟩ h3
        · split at h1
          · rename_i v G' hop
            obtain ⟨hrd, h2⟩ := br_inv h1 nofun
            obtain ⟨hbk, h3⟩ := backTo_inv (no := Rs.no 83) (r := Rs.ok e s') nofun h2
            obtain ⟨T', h4, hd, hs⟩ := setD_slot h3 nofun
            exact fin ⟨T', S.G, S.D, S.pool, S.pend, (i, o, restrT S.T o.op.operands.toList, v) :: S.opn, S.hist, S.xs, v, .ld⟩ ⟨hd, hs, .ld rfl hrd G' hop hbk ⟨rfl, rfl, rfl, rfl⟩ rfl rfl rfl hw⟩ h4
          · cases h1
      · rename_i hcl
        split at h1
        · rename_i v G' hop
          rw [sucK_eq] at h1
          obtain ⟨hn, h2⟩ := br_inv h1 nofun
          obtain ⟨x, hx, h3⟩ := om_inv h2 nofun
          obtain ⟨T', h4, hd, hs⟩ := setD_slot h3 nofun
          exact fin ⟨T', S.G, S.D, S.pool.suc, (i, S.pool, x) :: S.pend, S.opn, S.hist, S.xs, v, .nw S.pool x⟩ ⟨hd, hs, .nw x rfl hcl G' hop ((pEq_iff _ _).1 hn) hx ⟨rfl, rfl, rfl, rfl⟩ rfl rfl rfl hw⟩ h4
        · cases h1
      · obtain ⟨hx, h2⟩ := br_inv h1 nofun
        rw [adopt_eq] at h2
        split at h2
        · rename_i v G1 D1 hop
          obtain ⟨h3, hre⟩ := reRead_inv (no := Rs.no 85) (r := Rs.ok e s') nofun h2
          obtain ⟨T', h4, hd, hs⟩ := setD_slot h3 nofun
          rw [fN_eq] at h4
          exact fin ⟨T', G1, D1, S.pool, S.pend.filter fun q => !m.testBit q.1, S.opn.filter fun q => !Nat.testBit m q.1, (i, G1) :: S.hist, Nat.lor S.xs (Nat.pow 2 i), v, .act (adoptL (S.pend.filter fun q => m.testBit q.1) S.G) G1 D1⟩
            ⟨hd, hs, .act rfl (beq_iff.1 hx) hop rfl rfl hre rfl rfl rfl hw⟩ h4
        · cases h2
    · obtain ⟨T', h2, hd, hs⟩ := setD_slot h1 nofun
      exact fin ⟨T', S.G, S.D, S.pool, S.pend, S.opn, S.hist, S.xs, undefA, .skip⟩ ⟨hd, hs, .skip rfl rfl ⟨rfl, rfl, rfl, rfl⟩ rfl rfl rfl hw⟩ h2
end trace
end Go.Ev

/-! From the trace of a drawn region to its plan. -/
namespace Go.Ev
open Go Go.RowKit

mutual
theorem eqAV_ok : ∀ (a b : AV), eqAV a b = true → a = b
  | .int j x, b, h => by
    cases b <;> simp only [eqAV, Bool.false_eq_true, Bool.and_eq_true] at h
    rw [kEq_ok h.1]
    have := h.2
    rw [iEq_iff] at this
    rw [of_decide_eq_true this]
  | .bool x, b, h => by
    cases b <;> simp only [eqAV, Bool.false_eq_true] at h
    rw [eq_of_beq h]
  | .str x, b, h => by
    cases b <;> simp only [eqAV, Bool.false_eq_true] at h
    rw [eq_of_beq h]
  | .nilp, b, h => by cases b <;> simp only [eqAV, Bool.false_eq_true] at h; rfl
  | .ptr c o, b, h => by
    cases b <;> simp only [eqAV, Bool.false_eq_true, Bool.and_eq_true] at h
    rw [(pEq_iff _ _).1 h.1, eq_of_beq h.2]
  | .gptr c o, b, h => by
    cases b <;> simp only [eqAV, Bool.false_eq_true, Bool.and_eq_true] at h
    rw [eq_of_beq h.1, eq_of_beq h.2]
  | .nils, b, h => by cases b <;> simp only [eqAV, Bool.false_eq_true] at h; rfl
  | .sl c o n cp, b, h => by
    cases b with
    | sl c' o' n' cp' =>
      cases cp <;> cases cp' <;> simp only [eqAV, Bool.false_eq_true, Bool.and_eq_true] at h
      · rw [(pEq_iff _ _).1 h.1.1.1, eq_of_beq h.1.1.2, eq_of_beq h.1.2, eq_of_beq h.2]
      · rw [(pEq_iff _ _).1 h.1.1.1, eq_of_beq h.1.1.2, eq_of_beq h.1.2, eq_of_beq h.2]
    | _ => cases cp <;> simp only [eqAV, Bool.false_eq_true] at h
  | .emp, b, h => by cases b <;> simp only [eqAV, Bool.false_eq_true] at h
  | .agg l, b, h => by
    cases b <;> simp only [eqAV, Bool.false_eq_true] at h
    rw [eqAVs_ok _ _ h]
  | .tup l, b, h => by
    cases b <;> simp only [eqAV, Bool.false_eq_true] at h
    rw [eqAVs_ok _ _ h]
  | .nili, b, h => by cases b <;> simp only [eqAV, Bool.false_eq_true] at h; rfl
  | .iface t x, b, h => by
    cases b <;> simp only [eqAV, Bool.false_eq_true, Bool.and_eq_true] at h
    rw [eq_of_beq h.1, eqAV_ok _ _ h.2]
  | .nilf, b, h => by cases b <;> simp only [eqAV, Bool.false_eq_true] at h; rfl
  | .func f a c, b, h => by
    cases b <;> simp only [eqAV, Bool.false_eq_true, Bool.and_eq_true] at h
    rw [eq_of_beq h.1.1, eqAVs_ok _ _ h.1.2, eqAVs_ok _ _ h.2]
  | .yield c, b, h => by cases b <;> simp only [eqAV, Bool.false_eq_true] at h
  | .map c, b, h => by
    cases b <;> simp only [eqAV, Bool.false_eq_true] at h
    rw [(pEq_iff _ _).1 h]
  | .nilm, b, h => by cases b <;> simp only [eqAV, Bool.false_eq_true] at h; rfl
  | .sym i, b, h => by cases b <;> simp only [eqAV, Bool.false_eq_true] at h
theorem eqAVs_ok : ∀ (l m : List AV), eqAVs l m = true → l = m
  | [], m, h => by cases m <;> simp only [eqAVs, Bool.false_eq_true] at h; rfl
  | a :: l, m, h => by
    cases m <;> simp only [eqAVs, Bool.false_eq_true, Bool.and_eq_true] at h
    rw [eqAV_ok _ _ h.1, eqAVs_ok _ _ h.2]
end
end Go.Ev

/-! From the trace of a drawn region to its plan: the invariants. -/
namespace Go.Ev
open Go Go.RowKit

/-- the stages in falling order, down to the start -/
inductive StagesTo (p : Plan) (n : Nat) : Hist → Option Nat → Prop
  | base : StagesTo p n [(n, p.G0)] none
  | act {h q x} : StagesTo p n h q → p.isAct x → p.stage q → (∀ z, q = some z → z < x) → (∀ y, y < x → p.isAct y → ¬ behind q y) → StagesTo p n ((x, p.mem (some x)) :: h) (some x)

theorem back_same {P : Program} {ro : Nat → Option CB} {o : Oper} {T : Tr AV} {v : AV} {m n : Nat} {p : Plan} {h : Hist} {q : Option Nat} (hs : StagesTo p n h q) : Back P ro o T v m h → ∀ q', p.stage q' → (∀ x', q' = some x' → ¬ behind q x') → (∀ y, p.isAct y → behind q' y → m.testBit y = false) → Same P ro o T (p.mem q') v := by
  induction hs with
  | base =>
    intro hb q' _ hle _
    have hn : q' = none := by
      cases q' with
      | none => rfl
      | some x' => exact absurd (fun z hz => by cases hz) (hle x' rfl)
    subst hn
    cases hb with
    | stop h1 _ => exact h1
    | on h1 _ => exact h1
  | act hs0 hx hst hlt hall ih =>
    rename_i h0 q0 x
    intro hb q' hq' hle hm
    have head : Same P ro o T (p.mem (some x)) v := by
      cases hb with
      | stop h1 _ => exact h1
      | on h1 _ => exact h1
    by_cases e : q' = some x
    · rw [e]; exact head
    · have hbeh : behind q' x := fun x' hx' => by
        have h1 := hle x' hx'
        have : x' ≤ x := Nat.le_of_not_lt fun hl => h1 (fun z hz => by cases hz; exact hl)
        rcases Nat.lt_or_eq_of_le this with h2 | h2
        · exact h2
        · exact absurd (by rw [hx', h2]) e
      have hmx := hm x hx hbeh
      cases hb with
      | stop _ h2 => rw [hmx] at h2; cases h2
      | on _ h2 => exact ih h2 q' hq' (fun x' hx' => hall x' (hbeh x' hx') (hq' x' hx')) hm

/-- the plan of a trace -/
def planOf (f : Nat → Acc) (n : Nat) : Plan := { T := fun k => (f k).T, v := fun k => (f (k + 1)).v, kd := fun k => if k < n then (f (k + 1)).kd else .skip, G0 := (f 0).G, D0 := (f 0).D }
/-- what holds before operation k of the text -/
structure TrI (P : Program) (ro : Nat → Option CB) (ops : Array Oper) (ms : List Nat) (f : Nat → Acc) (lo : Nat) (p : Plan) (k : Nat) : Prop where
  xs : ∀ y, (f k).xs.testBit y = true ↔ y < k ∧ p.isAct y
  stage : ∃ q, StagesTo p ops.size (f k).hist q ∧ p.stage q ∧ (∀ x, q = some x → x < k) ∧ (∀ y, y < k → p.isAct y → ¬ behind q y) ∧ (f k).G = p.mem q ∧ (f k).D = p.dfs q
  pend : ∀ j id x, (j, id, x) ∈ (f k).pend ↔ j < k ∧ p.kd j = .nw id x ∧ ∀ y, y < k → p.isAct y → ¬ Anc ms y j
  pw : (f k).pend.Pairwise (fun a b => a.1 ≠ b.1)
  opn : ∀ j o, j < k → ops[j]? = some o → p.kd j = .ld → (∀ y, y < k → p.isAct y → ¬ Anc ms y j) → (j, o, restrT (p.T j) o.op.operands.toList, p.v j) ∈ (f k).opn
  lds : ∀ j o, j < k → ops[j]? = some o → p.kd j = .ld → ∀ q, p.stage q → (∀ x, q = some x → x < k) → (∀ y, p.isAct y → ¬ behind q y → ¬ Anc ms y j) → (∀ y, p.isAct y → behind q y → ¬ Anc ms j y) → Same P ro o (restrT (p.T j) o.op.operands.toList) (p.mem q) (p.v j)
  pool : lo ≤ (f k).pool.num ∧ (f k).pool.num + countN (ops.toList.drop k) ≤ lo + countN ops.toList
  ids : ∀ j id x, j < k → p.kd j = .nw id x → lo ≤ id.num ∧ id.num < (f k).pool.num
  inj : ∀ i j id x y, i < k → j < k → p.kd i = .nw id x → p.kd j = .nw id y → i = j
  nx : p.G0.nx.num ≤ (f k).G.nx.num
end Go.Ev

/-! The invariants of the trace hold. -/
namespace Go.Ev
open Go Go.RowKit

section
variable {P : Program} {ro : Nat → Option CB} {call : CallF} {self : FuncId} {dfr rnd : Bool} {N : Nat} {ops : Array Oper} {ms : List Nat} {f : Nat → Acc} {lo : Nat}

theorem countN_drop {l : List Oper} {k : Nat} {o : Oper} (h : l[k]? = some o) : countN (l.drop k) = (match clsO o.op with | .nw => 1 | _ => 0) + countN (l.drop (k + 1)) := by
  have hk : k < l.length := (List.getElem?_eq_some_iff.1 h).1
  have e : l[k] = o := (List.getElem?_eq_some_iff.1 h).2
  rw [List.drop_eq_getElem_cons hk, e]
  rfl

theorem tri_zero (F : MaskFacts ops.toList ms) (h1 : (f 0).pend = []) (h2 : (f 0).hist = [(ops.size, (f 0).G)]) (h3 : (f 0).xs = 0) (h4 : (f 0).pool.num = lo) : TrI P ro ops ms f lo (planOf f ops.size) 0 where
  xs y := by rw [h3]; simp
  stage := ⟨none, by rw [h2]; exact .base, fun x hx => (by cases hx), fun x hx => (by cases hx), fun y hy => (by omega), rfl, rfl⟩
  pend j id x := by rw [h1]; simp
  pw := by rw [h1]; exact .nil
  opn j o hj := by omega
  lds j o hj := by omega
  pool := by rw [h4]; exact ⟨Nat.le_refl _, by simp⟩
  ids j id x hj := by omega
  inj i j id x y hi := by omega
  nx := Nat.le_refl _

/-- what stays where an operation does not act -/
theorem tri_calm {k : Nat} {o : Oper} (hk : k < ops.size) (ho : ops[k]? = some o) (I : TrI P ro ops ms f lo (planOf f ops.size) k) (hna : ¬ (planOf f ops.size).isAct k) (hs : (f k).same (f (k + 1)))
    (hpool : lo ≤ (f (k + 1)).pool.num ∧ (f (k + 1)).pool.num + countN (ops.toList.drop (k + 1)) ≤ lo + countN ops.toList)
    (hpend : ∀ j id x, (j, id, x) ∈ (f (k + 1)).pend ↔ j < k + 1 ∧ (planOf f ops.size).kd j = .nw id x ∧ ∀ y, y < k → (planOf f ops.size).isAct y → ¬ Anc ms y j) (hpw : (f (k + 1)).pend.Pairwise (fun a b => a.1 ≠ b.1))
    (hopn : ∀ j o, j < k + 1 → ops[j]? = some o → (planOf f ops.size).kd j = .ld → (∀ y, y < k → (planOf f ops.size).isAct y → ¬ Anc ms y j) → (j, o, restrT ((planOf f ops.size).T j) o.op.operands.toList, (planOf f ops.size).v j) ∈ (f (k + 1)).opn)
    (hlds : (planOf f ops.size).kd k = .ld → ∀ q, (planOf f ops.size).stage q → (∀ x, q = some x → x < k) → (∀ y, (planOf f ops.size).isAct y → ¬ behind q y → ¬ Anc ms y k) → (∀ y, (planOf f ops.size).isAct y → behind q y → ¬ Anc ms k y) → Same P ro o (restrT ((planOf f ops.size).T k) o.op.operands.toList) ((planOf f ops.size).mem q) ((planOf f ops.size).v k))
    (hids : ∀ id x, (planOf f ops.size).kd k = .nw id x → lo ≤ id.num ∧ id.num < (f (k + 1)).pool.num ∧ (f k).pool.num ≤ id.num) (hple : (f k).pool.num ≤ (f (k + 1)).pool.num) : TrI P ro ops ms f lo (planOf f ops.size) (k + 1) := by
  obtain ⟨hG, hD, hH, hX⟩ := hs
  have hlt : ∀ y, y < k + 1 → (planOf f ops.size).isAct y → y < k := fun y hy ha => by
    rcases Nat.lt_or_eq_of_le (Nat.le_of_lt_succ hy) with h | h
    · exact h
    · subst h; exact absurd ha hna
  obtain ⟨q, hq1, hq2, hq3, hq4, hq5, hq6⟩ := I.stage
  refine ⟨fun y => ?_, ⟨q, by rw [hH]; exact hq1, hq2, fun x hx => Nat.lt_succ_of_lt (hq3 x hx), fun y hy ha => hq4 y (hlt y hy ha) ha, by rw [hG]; exact hq5, by rw [hD]; exact hq6⟩, fun j id x => ?_, hpw, fun j o' hj hoj hkd hy => hopn j o' hj hoj hkd (fun y hyk ha => hy y (by omega) ha),
    fun j o' hj hoj hkd q' hst hq' h1 h2 => ?_, hpool, fun j id x hj hkd => ?_, fun i j id x y hi hj hki hkj => ?_, by rw [hG]; exact I.nx⟩
  · rw [hX, I.xs y]
    exact ⟨fun h => ⟨by omega, h.2⟩, fun h => ⟨hlt y h.1 h.2, h.2⟩⟩
  · rw [hpend j id x]
    exact ⟨fun h => ⟨h.1, h.2.1, fun y hy ha => h.2.2 y (hlt y hy ha) ha⟩, fun h => ⟨h.1, h.2.1, fun y hy ha => h.2.2 y (by omega) ha⟩⟩
  · have hq'' : ∀ x, q' = some x → x < k := fun x hx => hlt x (hq' x hx) (hst x hx)
    rcases Nat.lt_or_eq_of_le (Nat.le_of_lt_succ hj) with h | h
    · exact I.lds j o' h hoj hkd q' hst hq'' h1 h2
    · subst h
      rw [ho] at hoj; cases hoj
      exact hlds hkd q' hst hq'' h1 h2
  · rcases Nat.lt_or_eq_of_le (Nat.le_of_lt_succ hj) with h | h
    · have := I.ids j id x h hkd
      exact ⟨this.1, by omega⟩
    · subst h
      have := hids id x hkd
      exact ⟨this.1, this.2.1⟩
  · rcases Nat.lt_or_eq_of_le (Nat.le_of_lt_succ hi) with h | h
    · rcases Nat.lt_or_eq_of_le (Nat.le_of_lt_succ hj) with h' | h'
      · exact I.inj i j id x y h h' hki hkj
      · subst h'
        have h3 := I.ids i id x h hki
        have h4 := hids id y hkj
        omega
    · subst h
      rcases Nat.lt_or_eq_of_le (Nat.le_of_lt_succ hj) with h' | h'
      · have h3 := I.ids j id y h' hkj
        have h4 := hids id x hki
        omega
      · exact h'.symm

theorem tri_succ (hN : NoCount P) (hc : CallsOK P ro call) (F : MaskFacts ops.toList ms) {k : Nat} {o : Oper} {m : Nat} (hk : k < ops.size) (ho : ops[k]? = some o) (hm : ms[k]? = some m) (S : StepR P ro call dfr rnd N ops k o m (f k) (f (k + 1))) (I : TrI P ro ops ms f lo (planOf f ops.size) k) : TrI P ro ops ms f lo (planOf f ops.size) (k + 1) := by
  have hkd : (planOf f ops.size).kd k = (f (k + 1)).kd := by simp [planOf, hk]
  have hcd := countN_drop (l := ops.toList) (k := k) (o := o) (by simpa using ho)
  have hanc : ∀ j, Anc ms k j ↔ m.testBit j = true := fun j => ⟨fun ⟨m', h1, h2⟩ => by rw [hm] at h1; cases h1; exact h2, fun h => ⟨m, hm, h⟩⟩
  have nact : ∀ {x : Kd}, (f (k + 1)).kd = x → (∀ a b c, x ≠ .act a b c) → ¬ (planOf f ops.size).isAct k := fun h hne ⟨a, b, c, e⟩ => by rw [hkd, h] at e; exact hne a b c e
  have notk : ∀ {j}, j < k + 1 → j ≠ k → j < k := fun h1 h2 => by omega
  have pend0 : ∀ (hne : ∀ id x, (planOf f ops.size).kd k ≠ .nw id x), (f (k + 1)).pend = (f k).pend → ∀ j id x, (j, id, x) ∈ (f (k + 1)).pend ↔ j < k + 1 ∧ (planOf f ops.size).kd j = .nw id x ∧ ∀ y, y < k → (planOf f ops.size).isAct y → ¬ Anc ms y j := fun hne hp j id x => by
    rw [hp, I.pend j id x]
    exact ⟨fun h => ⟨by omega, h.2⟩, fun h => ⟨notk h.1 (fun e => by subst e; exact hne id x h.2.1), h.2⟩⟩
  have opn0 : ∀ (hne : (planOf f ops.size).kd k ≠ .ld), (f (k + 1)).opn = (f k).opn → ∀ j o, j < k + 1 → ops[j]? = some o → (planOf f ops.size).kd j = .ld → (∀ y, y < k → (planOf f ops.size).isAct y → ¬ Anc ms y j) → (j, o, restrT ((planOf f ops.size).T j) o.op.operands.toList, (planOf f ops.size).v j) ∈ (f (k + 1)).opn := fun hne hp j o' hj hoj hkj hy => by
    rw [hp]
    exact I.opn j o' (notk hj (fun e => by subst e; exact hne hkj)) hoj hkj hy
  cases S.kind with
  | skip hkk hv hs hp hpe hop hw =>
    have h1 := hkd.trans hkk
    refine tri_calm hk ho I (nact hkk nofun) hs ⟨by rw [hp]; exact I.pool.1, ?_⟩ (pend0 (fun id x e => by rw [h1] at e; cases e) hpe) (by rw [hpe]; exact I.pw) (opn0 (fun e => by rw [h1] at e; cases e) hop) (fun e => by rw [h1] at e; cases e) (fun id x e => by rw [h1] at e; cases e) (by rw [hp]; exact Nat.le_refl _)
    have := I.pool.2
    rw [hp]; omega
  | pl hkk hcl G' he hn hs hp hpe hop hw =>
    have h1 := hkd.trans hkk
    refine tri_calm hk ho I (nact hkk nofun) hs ⟨by rw [hp]; exact I.pool.1, ?_⟩ (pend0 (fun id x e => by rw [h1] at e; cases e) hpe) (by rw [hpe]; exact I.pw) (opn0 (fun e => by rw [h1] at e; cases e) hop) (fun e => by rw [h1] at e; cases e) (fun id x e => by rw [h1] at e; cases e) (by rw [hp]; exact Nat.le_refl _)
    have := I.pool.2
    rw [hp]; omega
  | ld hkk hr G' he hb hs hp hpe hop hw =>
    have h1 := hkd.trans hkk
    refine tri_calm hk ho I (nact hkk nofun) hs ⟨by rw [hp]; exact I.pool.1, ?_⟩ (pend0 (fun id x e => by rw [h1] at e; cases e) hpe) (by rw [hpe]; exact I.pw) (fun j o' hj hoj hkj hy => ?_) (fun _ q' hst hq' h2 h3 => ?_) (fun id x e => by rw [h1] at e; cases e) (by rw [hp]; exact Nat.le_refl _)
    · have := I.pool.2
      rw [hp]; omega
    · rw [hop]
      by_cases e : j = k
      · subst e
        rw [ho] at hoj; cases hoj
        exact List.mem_cons_self
      · exact List.mem_cons_of_mem _ (I.opn j o' (notk hj e) hoj hkj hy)
    · obtain ⟨q, hq1, hq2, hq3, hq4, hq5, hq6⟩ := I.stage
      exact back_same hq1 hb q' hst (fun x' hx' => hq4 x' (hq' x' hx') (hst x' hx')) (fun y hy hbe => by
        cases hbt : m.testBit y with
        | false => rfl
        | true => exact absurd ((hanc y).2 hbt) (h3 y hy hbe))
  | nw x hkk hcl G' he hn hg hs hp hpe hop hw =>
    have h1 := hkd.trans hkk
    have hsuc : (f (k + 1)).pool.num = (f k).pool.num + 1 := by rw [hp]; exact Pth.num_suc _
    rw [hcl] at hcd
    have h2 := I.pool
    refine tri_calm hk ho I (nact hkk nofun) hs ⟨by omega, by simp only at hcd; omega⟩ (fun j id x' => ?_) ?_ (opn0 (fun e => by rw [h1] at e; cases e) hop) (fun e => by rw [h1] at e; cases e) (fun id x' e => ?_) (by omega)
    · rw [hpe, List.mem_cons, I.pend j id x']
      constructor
      · rintro (h | h)
        · cases h
          exact ⟨Nat.lt_succ_self _, h1, fun y hy _ ha => absurd (F.lt y ha) (by omega)⟩
        · exact ⟨by omega, h.2⟩
      · intro h
        by_cases e : j = k
        · subst e
          rw [h1] at h
          cases h.2.1
          exact .inl rfl
        · exact .inr ⟨notk h.1 e, h.2⟩
    · rw [hpe]
      refine List.pairwise_cons.2 ⟨fun b hb => ?_, I.pw⟩
      obtain ⟨j, id, x'⟩ := b
      have := ((I.pend j id x').1 hb).1
      show k ≠ j
      omega
    · rw [h1] at e
      cases e
      omega
  | act hkk hx he hpe hop hre hh hxs hp hw =>
    have h1 := hkd.trans hkk
    have hact : (planOf f ops.size).isAct k := ⟨_, _, _, h1⟩
    have hmem : (planOf f ops.size).mem (some k) = (f (k + 1)).G := by simp [Plan.mem, h1]
    have hdfs : (planOf f ops.size).dfs (some k) = (f (k + 1)).D := by simp [Plan.dfs, h1]
    obtain ⟨q, hq1, hq2, hq3, hq4, hq5, hq6⟩ := I.stage
    have hgo := (operV_ok (self := 0) hN hc he).1
    rw [adoptL_nx] at hgo
    have hni : ∀ j id x, (planOf f ops.size).kd j = .nw id x → j ≠ k := fun j id x e e' => by subst e'; rw [h1] at e; cases e
    have hnl : ∀ j, (planOf f ops.size).kd j = .ld → j ≠ k := fun j e e' => by subst e'; rw [h1] at e; cases e
    refine ⟨fun y => ?_, ⟨some k, ?_, fun x hx => (by cases hx; exact hact), fun x hx => (by cases hx; exact Nat.lt_succ_self _), fun y hy ha hb => ?_, hmem.symm, hdfs.symm⟩, fun j id x => ?_, ?_, fun j o' hj hoj hkj hy => ?_, fun j o' hj hoj hkj q' hst hq' h2 h3 => ?_, ⟨by rw [hp]; exact I.pool.1, by have := I.pool.2; rw [hp]; omega⟩, fun j id x hj hkj => ?_, fun i j id x y hi hj hki hkj => ?_, Nat.le_trans I.nx hgo⟩
    · have e : (f (k + 1)).xs = (f k).xs ||| 2 ^ k := hxs
      rw [e, Nat.testBit_or, Bool.or_eq_true, I.xs y, Nat.testBit_two_pow]
      constructor
      · rintro (h | h)
        · exact ⟨by omega, h.2⟩
        · have := of_decide_eq_true h
          subst this
          exact ⟨Nat.lt_succ_self _, hact⟩
      · intro h
        by_cases e : k = y
        · exact .inr (by simp [e])
        · exact .inl ⟨by omega, h.2⟩
    · rw [hh, ← hmem]
      exact .act hq1 hact hq2 hq3 hq4
    · have := hb k rfl
      omega
    · rw [hpe, List.mem_filter, I.pend j id x]
      constructor
      · rintro ⟨⟨h4, h5, h6⟩, h7⟩
        refine ⟨by omega, h5, fun y hy ha hanc' => ?_⟩
        by_cases e : y = k
        · subst e
          rw [(hanc j).1 hanc'] at h7
          cases h7
        · exact h6 y (by omega) ha hanc'
      · rintro ⟨h4, h5, h6⟩
        refine ⟨⟨notk h4 (hni j id x h5), h5, fun y hy ha => h6 y (by omega) ha⟩, ?_⟩
        have := h6 k (Nat.lt_succ_self _) hact
        rw [hanc j] at this
        simpa using this
    · rw [hpe]; exact I.pw.filter _
    · rw [hop, List.mem_filter]
      refine ⟨I.opn j o' (notk hj (hnl j hkj)) hoj hkj (fun y hyk ha => hy y (by omega) ha), ?_⟩
      have := hy k (Nat.lt_succ_self _) hact
      rw [hanc j] at this
      simpa using this
    · have hjk := notk hj (hnl j hkj)
      by_cases e : q' = some k
      · subst e
        have hall : ∀ y, y < k + 1 → (planOf f ops.size).isAct y → ¬ Anc ms y j := fun y hy ha => h2 y ha (fun h => by have := h k rfl; omega)
        have hin := I.opn j o' hjk hoj hkj (fun y hy ha => hall y (by omega) ha)
        have hnk := hall k (Nat.lt_succ_self _) hact
        rw [hanc j] at hnk
        have := hre _ hin (by simpa using hnk)
        rw [hmem]
        exact this
      · exact I.lds j o' hjk hoj hkj q' hst (fun x hx => notk (hq' x hx) (fun e' => e (by rw [hx, e']))) h2 h3
    · have := I.ids j id x (notk hj (hni j id x hkj)) hkj
      rw [hp]; exact this
    · exact I.inj i j id x y (notk hi (hni i id x hki)) (notk hj (hni j id y hkj)) hki hkj
end
end Go.Ev

/-! Regions are run rightly, whether they draw their order or not. -/
namespace Go.Ev
open Go Go.RowKit

section
variable {P : Program} {ro : Nat → Option CB} {call : CallF} {self : FuncId} {dfr rnd : Bool} {N : Nat} {ops : Array Oper} {ms : List Nat} {f : Nat → Acc} {lo : Nat}
theorem same_ok {o : Oper} {T : Tr AV} {G : AG} {v : AV} (h : Same P ro o T G v) : ∃ G', aop o.op P ro T G = .ok v G' := by
  obtain ⟨u, G', h1, h2⟩ := h
  rw [← eqAV_ok _ _ h2] at h1
  exact ⟨G', h1⟩

theorem plan_ok (hN : NoCount P) (hc : CallsOK P ro call) (F : MaskFacts ops.toList ms) (hS : ∀ k o m, ops[k]? = some o → ms[k]? = some m → StepR P ro call dfr rnd N ops k o m (f k) (f (k + 1)))
    (h1 : (f 0).pend = []) (h2 : (f 0).hist = [(ops.size, (f 0).G)]) (h3 : (f 0).xs = 0) (h4 : (f 0).pool.num = lo) (h5 : (f 0).G.nx.num = lo + countN ops.toList) :
    PlanOK P ro call dfr rnd N ops ms (planOf f ops.size) (f 0).T lo ⟨(f ops.size).T, adoptL (f ops.size).pend (f ops.size).G, (f ops.size).D⟩ := by
  have hop : ∀ k, k < ops.size → ∃ o m, ops[k]? = some o ∧ ms[k]? = some m := fun k hk => ⟨_, _, Array.getElem?_eq_getElem hk, List.getElem?_eq_getElem (by rw [F.len]; simpa using hk)⟩
  have I : ∀ k, k ≤ ops.size → TrI P ro ops ms f lo (planOf f ops.size) k := by
    intro k
    induction k with
    | zero => intro _; exact tri_zero F h1 h2 h3 h4
    | succ k ih =>
      intro hk
      obtain ⟨o, m, ho, hm⟩ := hop k (by omega)
      exact tri_succ hN hc F (by omega) ho hm (hS k o m ho hm) (ih (by omega))
  have In := I ops.size (Nat.le_refl _)
  have hkd : ∀ {k}, k < ops.size → (planOf f ops.size).kd k = (f (k + 1)).kd := fun {k} hk => by simp [planOf, hk]
  have hkn : ∀ k, (planOf f ops.size).kd k ≠ .skip → k < ops.size := fun k h => by
    apply Nat.lt_of_not_le
    intro hle
    exact h (by simp [planOf, Nat.not_lt.2 hle])
  have mono1 : ∀ k, k < ops.size → (f k).G.nx.num ≤ (f (k + 1)).G.nx.num := fun k hk => by
    obtain ⟨o, m, ho, hm⟩ := hop k hk
    cases (hS k o m ho hm).kind with
    | skip _ _ hs => rw [hs.1]; exact Nat.le_refl _
    | pl _ _ _ _ _ hs => rw [hs.1]; exact Nat.le_refl _
    | ld _ _ _ _ _ hs => rw [hs.1]; exact Nat.le_refl _
    | nw _ _ _ _ _ _ _ hs => rw [hs.1]; exact Nat.le_refl _
    | act _ _ he =>
      have := (operV_ok (self := 0) hN hc he).1
      rwa [adoptL_nx] at this
  have mono : ∀ j k, j + k ≤ ops.size → (f j).G.nx.num ≤ (f (j + k)).G.nx.num := fun j k => by
    induction k with
    | zero => intro _; exact Nat.le_refl _
    | succ k ih => intro h; exact Nat.le_trans (ih (by omega)) (mono1 (j + k) (by omega))
  refine ⟨F, rfl, rfl, fun i o ho => ?_, fun i o ho hk => ?_, fun i o ho hk => ?_, fun i o ho hk => ?_, fun i o ho hk => ?_, fun i o id x ho hk => ?_, fun i j id x y hi hj => In.inj i j id x y (hkn i (by rw [hi]; nofun)) (hkn j (by rw [hj]; nofun)) hi hj, fun i o Gp G D ho hk => ?_, hkn, ?_, ?_, ?_⟩
  · have hi : i < ops.size := (Array.getElem?_eq_some_iff.1 ho).1
    obtain ⟨o', m, ho', hm⟩ := hop i hi
    rw [ho] at ho'; cases ho'
    have := hS i o m ho hm
    exact ⟨this.dst, this.slot⟩
  · have hi : i < ops.size := (Array.getElem?_eq_some_iff.1 ho).1
    obtain ⟨o', m, ho', hm⟩ := hop i hi
    rw [ho] at ho'; cases ho'
    rw [hkd hi] at hk
    cases (hS i o m ho hm).kind with
    | skip _ hv _ _ _ _ hw => exact ⟨hv, hw⟩
    | pl h => rw [hk] at h; cases h
    | ld h => rw [hk] at h; cases h
    | nw _ h => rw [hk] at h; cases h
    | act h => rw [hk] at h; cases h
  · have hi : i < ops.size := (Array.getElem?_eq_some_iff.1 ho).1
    obtain ⟨o', m, ho', hm⟩ := hop i hi
    rw [ho] at ho'; cases ho'
    rw [hkd hi] at hk
    cases (hS i o m ho hm).kind with
    | skip h => exact absurd h hk
    | pl _ _ _ _ _ _ _ _ _ hw => exact hw
    | ld _ _ _ _ _ _ _ _ _ hw => exact hw
    | nw _ _ _ _ _ _ _ _ _ _ _ hw => exact hw
    | act _ _ _ _ _ _ _ _ _ hw => exact hw
  · have hi : i < ops.size := (Array.getElem?_eq_some_iff.1 ho).1
    obtain ⟨o', m, ho', hm⟩ := hop i hi
    rw [ho] at ho'; cases ho'
    rw [hkd hi] at hk
    cases (hS i o m ho hm).kind with
    | skip h => rw [hk] at h; cases h
    | pl _ hcl G' he hn => exact ⟨(fun c e => by rw [e] at hcl; cases hcl), G', he, hn⟩
    | ld h => rw [hk] at h; cases h
    | nw _ h => rw [hk] at h; cases h
    | act h => rw [hk] at h; cases h
  · have hi : i < ops.size := (Array.getElem?_eq_some_iff.1 ho).1
    obtain ⟨o', m, ho', hm⟩ := hop i hi
    rw [ho] at ho'; cases ho'
    have hk' := hk
    rw [hkd hi] at hk'
    have hr : isRead o.op = true := by
      cases (hS i o m ho hm).kind with
      | skip h => rw [hk'] at h; cases h
      | pl h => rw [hk'] at h; cases h
      | ld _ hr => exact hr
      | nw _ h => rw [hk'] at h; cases h
      | act h => rw [hk'] at h; cases h
    exact ⟨hr, fun q hst hq ha hb => same_ok (In.lds i o hi ho hk q hst hq ha hb)⟩
  · have hi : i < ops.size := (Array.getElem?_eq_some_iff.1 ho).1
    obtain ⟨o', m, ho', hm⟩ := hop i hi
    rw [ho] at ho'; cases ho'
    have hid := In.ids i id x hi hk
    have hpool := In.pool.2
    have hk' := hk
    rw [hkd hi] at hk'
    cases (hS i o m ho hm).kind with
    | skip h => rw [hk'] at h; cases h
    | pl h => rw [hk'] at h; cases h
    | ld h => rw [hk'] at h; cases h
    | nw x' h hcl G' he hn hg =>
      rw [hk'] at h
      cases h
      exact ⟨(fun c e => by rw [e] at hcl; cases hcl), hid.1, by show (f i).pool.num < (f 0).G.nx.num; rw [h5]; omega, G', he, hn, hg⟩
    | act h => rw [hk'] at h; cases h
  · have hi : i < ops.size := (Array.getElem?_eq_some_iff.1 ho).1
    obtain ⟨o', m, ho', hm⟩ := hop i hi
    rw [ho] at ho'; cases ho'
    have hk' := hk
    rw [hkd hi] at hk'
    have Ii := I i (by omega)
    cases (hS i o m ho hm).kind with
    | skip h => rw [hk'] at h; cases h
    | pl h => rw [hk'] at h; cases h
    | ld h => rw [hk'] at h; cases h
    | nw _ h => rw [hk'] at h; cases h
    | act h hx he hpe hop' hre hh hxs hp hw =>
      rw [hk'] at h
      cases h
      obtain ⟨q, hq1, hq2, hq3, hq4, hq5, hq6⟩ := Ii.stage
      refine ⟨fun y hy ha => ⟨m, hm, ?_⟩, ?_, ?_, q, (f i).pend.filter fun q => m.testBit q.1, hq2, hq3, hq4, ?_, by rw [hq5], Ii.pw.filter _, fun j id x => ?_⟩
      · have hb := (Ii.xs y).2 ⟨hy, ha⟩
        have hx' : (f i).xs &&& m = (f i).xs := hx
        rw [← hx', Nat.testBit_and, Bool.and_eq_true] at hb
        exact hb.2
      · show (f (i + 1)).G.nx.num ≤ (adoptL (f ops.size).pend (f ops.size).G).nx.num
        rw [adoptL_nx]
        have := mono (i + 1) (ops.size - (i + 1)) (by omega)
        rwa [show i + 1 + (ops.size - (i + 1)) = ops.size by omega] at this
      · rw [adoptL_nx]; exact Ii.nx
      · rw [← hq6]; exact he
      · rw [List.mem_filter, Ii.pend j id x]
        constructor
        · rintro ⟨⟨_, h6, h7⟩, h8⟩
          exact ⟨h6, ⟨m, hm, h8⟩, h7⟩
        · rintro ⟨h6, ha, h7⟩
          obtain ⟨m', hm', h8⟩ := ha
          rw [hm] at hm'; cases hm'
          exact ⟨⟨F.lt i ⟨m, hm, h8⟩, h6, h7⟩, h8⟩
  · obtain ⟨q, hq1, hq2, hq3, hq4, hq5, hq6⟩ := In.stage
    have hactn : ∀ y, (planOf f ops.size).isAct y → y < ops.size := fun y ⟨_, _, _, hk⟩ => hkn y (by rw [hk]; nofun)
    refine ⟨q, (f ops.size).pend, hq2, fun y ha => hq4 y (hactn y ha) ha, hq6, by show adoptL _ _ = _; rw [hq5], In.pw, fun j id x => ?_⟩
    rw [In.pend j id x]
    exact ⟨fun h => ⟨h.2.1, fun y ha => h.2.2 y (hactn y ha) ha⟩, fun h => ⟨hkn j (by rw [h.1]; nofun), h.1, fun y _ ha => h.2 y ha⟩⟩
  · show lo ≤ (f 0).G.nx.num
    omega
  · show (f 0).G.nx.num ≤ (adoptL (f ops.size).pend (f ops.size).G).nx.num
    rw [adoptL_nx]
    have := mono 0 ops.size (by omega)
    rwa [Nat.zero_add] at this

theorem sucN_eq {R : Type} : ∀ (n : Nat) (p : Pth) (K : Pth → R), ∃ p', sucN n p K = K p' ∧ p'.num = p.num + n
  | 0, p, K => ⟨p, rfl, rfl⟩
  | n + 1, p, K => by
    obtain ⟨p', h1, h2⟩ := sucN_eq n p.suc K
    refine ⟨p', ?_, by rw [h2, Pth.num_suc]; omega⟩
    rw [← h1]
    show sucK p (fun q => sucN n q K) = _
    rw [sucK_eq]

theorem regionD_ok (hN : NoCount P) (hm : P.follows .mixedOrders = true) : RegionsOK P ro (regionD P ro) := by
  intro call hc dfr rnd N self id ops draw s e s' h
  unfold regionD at h
  rw [br_eq] at h
  cases draw with
  | false => exact regionF_ok hN hc h
  | true =>
    rw [if_pos rfl] at h
    obtain ⟨ms, hms, h1⟩ := om_inv h nofun
    have F := maskOK_spec hms
    obtain ⟨nx, h2, hnx⟩ := sucN_eq (countN ops.toList) s.G.nx (fun nx => drawA P ro call dfr rnd N ops.toList (ops.toList.zip ms) 0 s.T ⟨s.G.t, nx⟩ s.D s.G.nx [] [] [(ops.toList.length, ⟨s.G.t, nx⟩)] 0)
    rw [h2] at h1
    obtain ⟨rfl, f, hf0, hf, rfl⟩ := drawA_trace (ops.toList.zip ms) 0 ⟨s.T, ⟨s.G.t, nx⟩, s.D, s.G.nx, [], [], [(ops.toList.length, ⟨s.G.t, nx⟩)], 0, undefA, .skip⟩ e s' h1
    have hlen : (ops.toList.zip ms).length = ops.size := by rw [List.length_zip, F.len]; simp
    rw [hlen]
    have hS : ∀ k o m, ops[k]? = some o → ms[k]? = some m → StepR P ro call dfr rnd N ops k o m (f k) (f (k + 1)) := fun k o m ho hm => by
      have := hf k o m (by
        rw [List.getElem?_zip_eq_some]
        exact ⟨by simpa using ho, hm⟩)
      rwa [Nat.zero_add] at this
    have PO := plan_ok (lo := s.G.nx.num) hN hc F hS (by rw [hf0]) (by rw [hf0]; simp) (by rw [hf0]) (by rw [hf0]) (by rw [hf0]; exact hnx)
    exact plan_go PO hN hc hm (by rw [hf0]) rfl (by show (f 0).G.t = _; rw [hf0]) (by show (f 0).D = _; rw [hf0])
end
end Go.Ev

