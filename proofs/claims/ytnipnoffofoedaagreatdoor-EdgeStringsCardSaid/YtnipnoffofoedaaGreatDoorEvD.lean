/- Frames, and how the machine goes on from a piece of code: the statement that code is evaluated rightly. -/
import Derived.Test.YtnipnoffofoedaaGreatDoorEvC
import Derived.Test.YtnipnoffofoedaaGreatDoorEvA
import Derived.RangeFuncIn
import Derived.RangeFuncRecord
namespace Go.Ev
open Go Go.RowKit

/-- a running frame with its slots, deferred calls and what is left to do -/
def Fr (b : Frame) (ts : Array Value) (ds : List Deferred) (k : List Item) : Frame := { b with tmps := ts, defers := ds, todo := k, mode := .run }

section steps
variable {P : Program} {b : Frame} {ts : Array Value} {ds : List Deferred} {k : List Item} {cs : List Frame} {w : World}
theorem Fr_eval (x : Operand) : (Fr b ts ds k).eval x = Act.eval ⟨ts, ds⟩ x := by cases x <;> rfl
theorem st_skip : step P (lone (Fr b ts ds (.code .skip :: k)) cs w) = .next (lone (Fr b ts ds k) cs w) :=
  step_lone_go (by simp [stepG, stepG.exec, Fr])
theorem st_label {l : Nat} : step P (lone (Fr b ts ds (.code (.label l) :: k)) cs w) = .next (lone (Fr b ts ds k) cs w) :=
  step_lone_go (by simp [stepG, stepG.exec, Fr])
theorem st_inBlock {id : Nat} : step P (lone (Fr b ts ds (.inBlock id :: k)) cs w) = .next (lone (Fr b ts ds k) cs w) :=
  step_lone_go (by simp [stepG, stepG.exec, Fr])
theorem st_inScope {c : Code} : step P (lone (Fr b ts ds (.inScope c :: k)) cs w) = .next (lone (Fr b ts ds k) cs w) :=
  step_lone_go (by simp [stepG, stepG.exec, Fr])
theorem st_seq {x y : Code} : step P (lone (Fr b ts ds (.code (.seq x y) :: k)) cs w) = .next (lone (Fr b ts ds (.code x :: .code y :: k)) cs w) :=
  step_lone_go (by simp [stepG, stepG.exec, Fr])
theorem st_cond {c : Operand} {x y : Code} {t : Bool} (h : Act.eval ⟨ts, ds⟩ c = .bool t) :
    step P (lone (Fr b ts ds (.code (.cond c x y) :: k)) cs w) = .next (lone (Fr b ts ds (.code (if t then x else y) :: k)) cs w) :=
  step_lone_go (by
    have := Fr_eval (b := b) (ts := ts) (ds := ds) (k := .code (.cond c x y) :: k) c
    simp only [Fr] at this
    simp [stepG, stepG.exec, Fr, this, h])
theorem st_block {id : Nat} {c : Code} : step P (lone (Fr b ts ds (.code (.block id c) :: k)) cs w) = .next (lone (Fr b ts ds (.code c :: .inBlock id :: k)) cs w) :=
  step_lone_go (by simp [stepG, stepG.exec, Fr])
theorem st_loop {c : Code} : step P (lone (Fr b ts ds (.code (.loop c) :: k)) cs w) = .next (lone (Fr b ts ds (.code c :: .inLoop c :: k)) cs w) :=
  step_lone_go (by simp [stepG, stepG.exec, Fr])
theorem st_inLoop {c : Code} : step P (lone (Fr b ts ds (.inLoop c :: k)) cs w) = .next (lone (Fr b ts ds (.code c :: .inLoop c :: k)) cs w) :=
  step_lone_go (by simp [stepG, stepG.exec, Fr])
theorem st_scope {c : Code} : step P (lone (Fr b ts ds (.code (.scope c) :: k)) cs w) = .next (lone (Fr b ts ds (.code c :: .inScope c :: k)) cs w) :=
  step_lone_go (by simp [stepG, stepG.exec, Fr])
theorem st_exit {id : Nat} {k' : List Item} (h : exitTo id k = some k') : step P (lone (Fr b ts ds (.code (.exit id) :: k)) cs w) = .next (lone (Fr b ts ds k') cs w) :=
  step_lone_go (by simp [stepG, stepG.exec, Fr, h])
theorem st_region {id : Nat} {ops : Array Oper} : step P (lone (Fr b ts ds (.code (.region id ops false) :: k)) cs w) = .next (lone (Fr b ts ds (.inRegion ops (List.range ops.size) :: k)) cs w) :=
  step_lone_go (by simp [stepG, stepG.exec, Fr])
theorem st_draw {id : Nat} {ops : Array Oper} : step P (lone (Fr b ts ds (.code (.region id ops true) :: k)) cs w) =
    .next (lone (Fr b ts ds (.inRegion ops (Region.schedule (P.follows .mixedOrders) ops (w.tape w.drawn (.order b.fn id))) :: k)) cs { w with drawn := w.drawn + 1 }) :=
  step_lone_go (by simp [stepG, stepG.exec, Fr, choose, Sem.run, Question.forced, Question.cut])
theorem st_regionEnd {ops : Array Oper} : step P (lone (Fr b ts ds (.inRegion ops [] :: k)) cs w) = .next (lone (Fr b ts ds k) cs w) :=
  step_lone_go (by simp [stepG, stepG.exec, Fr])
/-- a slot is laid -/
def putT (ts : Array Value) (d : Option Nat) (v : Value) : Array Value := match d with | some d => ts.setIfInBounds d v | none => ts
theorem Fr_finish {ops : Array Oper} {i : Nat} {rest : List Nat} {v : Value} : (Fr b ts ds (.inRegion ops (i :: rest) :: k)).finish v = Fr b (putT ts ((ops[i]?).bind (·.dst)) v) ds (.inRegion ops rest :: k) := by
  cases h : (ops[i]?).bind (·.dst) <;> simp [Frame.finish, Fr, putT, h]
theorem st_opSkip {ops : Array Oper} {i : Nat} {rest : List Nat} {o : Oper} (ho : ops[i]? = some o) (h : Region.wanted o (yielded ops ts) = false) :
    step P (lone (Fr b ts ds (.inRegion ops (i :: rest) :: k)) cs w) = .next (lone (Fr b (putT ts o.dst undef) ds (.inRegion ops rest :: k)) cs w) := by
  have e : putT ts o.dst undef = putT ts ((ops[i]?).bind (·.dst)) undef := by rw [ho]; rfl
  rw [e, ← Fr_finish]
  exact step_lone_go (by simp [stepG, stepG.exec, Fr, ho, h])
theorem stG_op {ops : Array Oper} {i : Nat} {rest : List Nat} {o : Oper} (ho : ops[i]? = some o) (hw : Region.wanted o (yielded ops ts) = true) (hd : b.roundOf = none ∨ ∀ c, o.op ≠ .defer c) :
    stepG P true { frame := Fr b ts ds (.inRegion ops (i :: rest) :: k), callers := cs, status := .running, dying := none } w =
      stepG.apply P true (Fr b ts ds (.inRegion ops (i :: rest) :: k)) cs none (execOp (Act.eval ⟨ts, ds⟩) o) w := by
  have he : (Fr b ts ds (.inRegion ops (i :: rest) :: k)).eval = Act.eval ⟨ts, ds⟩ := funext fun x => Fr_eval x
  have h1 : stepG P true { frame := Fr b ts ds (.inRegion ops (i :: rest) :: k), callers := cs, status := .running, dying := none } w =
      stepG.oper P true (Fr b ts ds (.inRegion ops (i :: rest) :: k)) cs none w := by
    simp [stepG, stepG.exec, Fr, ho, hw]
  rw [h1]
  have h2 : (Fr b ts ds (.inRegion ops (i :: rest) :: k)).oper? = some o := by simp [Frame.oper?, Fr, ho]
  unfold stepG.oper
  rw [h2, he]
  rcases hd with hd | hd
  · have : (Fr b ts ds (.inRegion ops (i :: rest) :: k)).roundOf = none := hd
    simp only [this]
  · simp only
    split
    · rename_i c _ hc
      exact absurd hc (hd _)
    · rfl
end steps

/-! ### Where the machine arrives -/
/-- The code that stands ahead of 'k' ends so: behind it, at an exit, at a return. -/
def Arr (P : Program) (m : Machine) (b : Frame) (k : List Item) (cs : List Frame) (e : Ex) (ts : Array Value) (ds : List Deferred) (w : World) : Prop :=
  match e with
  | .nx => Steps P m (lone (Fr b ts ds k) cs w)
  | .ex id => ∃ k', Steps P m (lone (Fr b ts ds (.code (.exit id) :: k')) cs w) ∧ exitTo id k' = exitTo id k
  | .rt => ∃ k', Steps P m (lone (Fr b ts ds (.code .ret :: k')) cs w)
section arr
variable {P : Program} {m m' : Machine} {b : Frame} {k : List Item} {cs : List Frame} {e : Ex} {ts : Array Value} {ds : List Deferred} {w : World}
theorem Arr.of_steps (h : Steps P m m') (h' : Arr P m' b k cs e ts ds w) : Arr P m b k cs e ts ds w := by
  cases e with
  | nx => exact h.trans h'
  | ex id => obtain ⟨k', h1, h2⟩ := h'; exact ⟨k', h.trans h1, h2⟩
  | rt => obtain ⟨k', h1⟩ := h'; exact ⟨k', h.trans h1⟩
/-- what stands behind does not hold an exit up -/
theorem Arr.pass {x : Item} (he : e ≠ .nx) (hx : ∀ id, e = .ex id → exitTo id (x :: k) = exitTo id k) (h : Arr P m b (x :: k) cs e ts ds w) : Arr P m b k cs e ts ds w := by
  cases e with
  | nx => exact absurd rfl he
  | ex id => obtain ⟨k', h1, h2⟩ := h; exact ⟨k', h1, h2.trans (hx id rfl)⟩
  | rt => exact h
end arr

/-! ### Deferred calls, frames -/
def DR (σ : Sub) : List ADef → List Deferred → Prop
  | [], l => l = []
  | .call f args :: r, l => ∃ cap as l', l = { target := .fn (.func f) cap, args := as } :: l' ∧ VRs σ args (as ++ cap).toList ∧ DR σ r l'
  | .coll b :: r, l => ∃ n as l', l = { target := .collected n, args := as } :: l' ∧ σ.blk b = some n ∧ DR σ r l'
theorem DR.mono {σ τ : Sub} (h : σ.le τ) : ∀ {D : List ADef} {l : List Deferred}, DR σ D l → DR τ D l
  | [], _, k => k
  | .call f args :: r, l, k => by
    obtain ⟨cap, as, l', rfl, h1, h2⟩ := k
    exact ⟨cap, as, l', rfl, VRs.mono h _ _ h1, DR.mono h h2⟩
  | .coll b :: r, l, k => by
    obtain ⟨n, as, l', rfl, h1, h2⟩ := k
    exact ⟨n, as, l', rfl, (h.1 b n h1).1, DR.mono h h2⟩
def FrOK (self : FuncId) (dfr rnd : Bool) (b : Frame) (cs : List Frame) : Prop :=
  b.fn = self ∧ (rnd = false → b.roundOf = none) ∧ (dfr = true → b.kind = .deferred ∧ ∃ c rest, cs = c :: rest ∧ c.mode = .returning)

/-- From the items X ahead of whatever follows the machine comes from state s to state s' and ends as told. -/
def Go1 (P : Program) (ro : Nat → Option CB) (self : FuncId) (dfr rnd : Bool) (N : Nat) (X : List Item) (e : Ex) (s s' : St) : Prop :=
  s.G.nx.num ≤ s'.G.nx.num ∧ ∀ (w0 : World) (base U : Nat) (σ : Sub) (w : World) (b : Frame) (k : List Item) (cs : List Frame) (ts : Array Value) (ds : List Deferred),
    RoOK ro w0 base → FrOK self dfr rnd b cs → Rel w0 base U σ s.G w → TR σ s.T N ts → DR σ s.D ds → s'.G.nx.num ≤ U →
    ∃ σ' w' ts' ds', Arr P (lone (Fr b ts ds (X ++ k)) cs w) b k cs e ts' ds' w' ∧ TR σ' s'.T N ts' ∧ DR σ' s'.D ds' ∧ Ext w0 base U σ s.G w σ' s'.G w'

section go
variable {P : Program} {ro : Nat → Option CB} {self : FuncId} {dfr rnd : Bool} {N : Nat} {X Y : List Item} {e : Ex} {s s' s1 : St}
/-- one piece after the other -/
theorem Go1.then (h : Go1 P ro self dfr rnd N X .nx s s1) (h' : Go1 P ro self dfr rnd N Y e s1 s') : Go1 P ro self dfr rnd N (X ++ Y) e s s' := by
  refine ⟨Nat.le_trans h.1 h'.1, fun w0 base U σ w b k cs ts ds hro hf hr ht hd hU => ?_⟩
  have h1 := h'.1
  obtain ⟨σ1, w1, ts1, ds1, ha, ht1, hd1, he1⟩ := h.2 w0 base U σ w b (Y ++ k) cs ts ds hro hf hr ht hd (by omega)
  obtain ⟨σ2, w2, ts2, ds2, ha2, ht2, hd2, he2⟩ := h'.2 w0 base U σ1 w1 b k cs ts1 ds1 hro hf he1.rel ht1 hd1 hU
  refine ⟨σ2, w2, ts2, ds2, ?_, ht2, hd2, he1.trans he2⟩
  rw [List.append_assoc]
  exact Arr.of_steps ha ha2
theorem exitTo_append {Y : List Item} (hY : ∀ x ∈ Y, ∀ id, x ≠ .inBlock id) : ∀ (id : Nat) (k : List Item), exitTo id (Y ++ k) = exitTo id k := by
  induction Y with
  | nil => intro id k; rfl
  | cons x Y ih =>
    intro id k
    have := ih (fun y hy => hY y (by simp [hy])) id k
    have hx := hY x (by simp)
    cases x <;> first | exact this | exact absurd rfl (hx _)
/-- an exit passes what is not a block's end -/
theorem Go1.exits (h : Go1 P ro self dfr rnd N X e s s') (he : e ≠ .nx) (hY : ∀ x ∈ Y, ∀ id, x ≠ .inBlock id) : Go1 P ro self dfr rnd N (X ++ Y) e s s' := by
  refine ⟨h.1, fun w0 base U σ w b k cs ts ds hro hf hr ht hd hU => ?_⟩
  obtain ⟨σ1, w1, ts1, ds1, ha, ht1, hd1, he1⟩ := h.2 w0 base U σ w b (Y ++ k) cs ts ds hro hf hr ht hd hU
  refine ⟨σ1, w1, ts1, ds1, ?_, ht1, hd1, he1⟩
  rw [List.append_assoc]
  cases e with
  | nx => exact absurd rfl he
  | ex id => obtain ⟨k', h1, h2⟩ := ha; exact ⟨k', h1, h2.trans (exitTo_append hY id k)⟩
  | rt => exact ha
/-- a step ahead -/
theorem Go1.step {Z : List Item} (hs : ∀ (w0 : World) (base U : Nat) (σ : Sub) (w : World) (b : Frame) (k : List Item) (cs : List Frame) (ts : Array Value) (ds : List Deferred), Rel w0 base U σ s.G w → TR σ s.T N ts →
      step P (lone (Fr b ts ds (Z ++ k)) cs w) = .next (lone (Fr b ts ds (X ++ k)) cs w)) (h : Go1 P ro self dfr rnd N X e s s') : Go1 P ro self dfr rnd N Z e s s' := by
  refine ⟨h.1, fun w0 base U σ w b k cs ts ds hro hf hr ht hd hU => ?_⟩
  obtain ⟨σ1, w1, ts1, ds1, ha, r⟩ := h.2 w0 base U σ w b k cs ts ds hro hf hr ht hd hU
  exact ⟨σ1, w1, ts1, ds1, Arr.of_steps (.one (hs w0 base U σ w b k cs ts ds hr ht)) ha, r⟩
theorem Go1.nil : Go1 P ro self dfr rnd N [] .nx s s :=
  ⟨Nat.le_refl _, fun _ _ _ σ w _ _ _ ts ds _ _ hr ht hd _ => ⟨σ, w, ts, ds, Steps.refl _ _, ht, hd, Ext.refl hr⟩⟩
end go
end Go.Ev

/-! Code is evaluated rightly, given its regions and its ranges over functions. -/
namespace Go.Ev
open Go Go.RowKit

theorem thenS_inv {r : Rs} {k : St → Rs} {e : Ex} {s' : St} (h : thenS r k = .ok e s') : (∃ s1, r = .ok .nx s1 ∧ k s1 = .ok e s') ∨ (r = .ok e s' ∧ e ≠ .nx) := by
  cases r with
  | no c => cases h
  | ok e1 s1 =>
    cases e1 with
    | nx => exact .inl ⟨s1, rfl, h⟩
    | ex id => cases h; exact .inr ⟨rfl, nofun⟩
    | rt => cases h; exact .inr ⟨rfl, nofun⟩

section code
variable {P : Program} {ro : Nat → Option CB} {call : CallF} {dfr rnd : Bool} {N : Nat} {self : FuncId} {region : Nat → List Oper → Bool → St → Rs}
theorem loopA_ok {ib : St → Rs} {c : Code} (hib : ∀ s e s', ib s = .ok e s' → Go1 P ro self dfr rnd N [.code c] e s s') : ∀ (n : Nat) (s : St) (e : Ex) (s' : St), loopA ib n s = .ok e s' → Go1 P ro self dfr rnd N [.code c, .inLoop c] e s s'
  | 0, s, e, s', h => by cases h
  | n + 1, s, e, s', h => by
    have h' : thenS (ib s) (loopA ib n) = .ok e s' := h
    rcases thenS_inv h' with ⟨s1, h1, h2⟩ | ⟨h1, h2⟩
    · have ih := loopA_ok hib n s1 e s' h2
      exact Go1.then (X := [.code c]) (Y := [.inLoop c]) (hib s _ s1 h1) (Go1.step (X := [.code c, .inLoop c]) (fun _ _ _ _ _ _ _ _ _ _ _ _ => st_inLoop) ih)
    · exact Go1.exits (X := [.code c]) (Y := [.inLoop c]) (hib s e s' h1) h2 (by intro x hx; simp at hx; subst hx; intro id; nofun)

theorem evalC_ok (hreg : ∀ id (ops : Array Oper) draw s e s', region id ops.toList draw s = .ok e s' → Go1 P ro self dfr rnd N [.code (.region id ops draw)] e s s')
    (hrf : ∀ f ps a bd s e s', rfA call rnd N self f ps a bd s = .ok e s' → Go1 P ro self dfr rnd N [.code (.rangeFunc f ps a bd)] e s s') :
    ∀ (c : Code) (s : St) (e : Ex) (s' : St), evalC call rnd N region self c s = .ok e s' → Go1 P ro self dfr rnd N [.code c] e s s' := by
  intro c
  induction c with
  | skip =>
    intro s e s' h
    cases h
    exact Go1.step (X := []) (fun _ _ _ _ _ _ _ _ _ _ _ _ => st_skip) Go1.nil
  | label l =>
    intro s e s' h
    cases h
    exact Go1.step (X := []) (fun _ _ _ _ _ _ _ _ _ _ _ _ => st_label) Go1.nil
  | region id ops draw => intro s e s' h; exact hreg id ops draw s e s' h
  | seq x y ihx ihy =>
    intro s e s' h
    have h' : thenS (evalC call rnd N region self x s) (evalC call rnd N region self y) = .ok e s' := h
    refine Go1.step (X := [.code x, .code y]) (fun _ _ _ _ _ _ _ _ _ _ _ _ => st_seq) ?_
    rcases thenS_inv h' with ⟨s1, h1, h2⟩ | ⟨h1, h2⟩
    · exact Go1.then (X := [.code x]) (Y := [.code y]) (ihx s _ s1 h1) (ihy s1 e s' h2)
    · exact Go1.exits (X := [.code x]) (Y := [.code y]) (ihx s e s' h1) h2 (by intro x hx; simp at hx; subst hx; intro id; nofun)
  | cond c x y ihx ihy =>
    intro s e s' h
    have h' : opd s.T c (.no 55) (fun v => asB v (.no 55) fun b => br b (evalC call rnd N region self x s) (evalC call rnd N region self y s)) = .ok e s' := h
    obtain ⟨v, hv, h1⟩ := opd_inv h' nofun
    obtain ⟨t, rfl, h2⟩ := asB_inv h1 nofun
    refine Go1.step (X := [.code (if t then x else y)]) (fun w0 base U σ w b k cs ts ds hr ht => ?_) ?_
    · have := hv.ok (act := ⟨ts, ds⟩) ht
      simp only [VR] at this
      exact st_cond this
    · rw [br_eq] at h2
      cases t
      · exact ihy s e s' h2
      · exact ihx s e s' h2
  | block id x ih =>
    intro s e s' h
    refine Go1.step (X := [.code x, .inBlock id]) (fun _ _ _ _ _ _ _ _ _ _ _ _ => st_block) ?_
    have h' : (match evalC call rnd N region self x s with
      | .ok e s => (match e with | .ex j => br (Nat.beq j id) (.ok .nx s) (.ok (.ex j) s) | e => .ok e s)
      | .no c => .no c : Rs) = .ok e s' := h
    split at h'
    · rename_i e1 s1 h1
      have h0 := ih s e1 s1 h1
      split at h'
      · rename_i j
        rw [br_eq] at h'
        refine ⟨?_, ?_⟩
        · split at h' <;> (cases h'; exact h0.1)
        · intro w0 base U σ w b k cs ts ds hro hf hr ht hd hU
          have hs1 : s1 = s' := by split at h' <;> (cases h'; rfl)
          subst hs1
          obtain ⟨σ1, w1, ts1, ds1, ⟨k', ha, hx⟩, r⟩ := h0.2 w0 base U σ w b (.inBlock id :: k) cs ts ds hro hf hr ht hd hU
          refine ⟨σ1, w1, ts1, ds1, ?_, r⟩
          split at h'
          · rename_i hj
            have := beq_iff.1 hj
            subst this
            cases h'
            have : exitTo j k' = some k := by rw [hx]; simp [exitTo]
            exact ha.trans (.one (st_exit this))
          · rename_i hj
            cases h'
            refine ⟨k', ha, ?_⟩
            rw [hx]
            have : ¬ (id = j) := fun e' => hj (beq_iff.2 e'.symm)
            simp [exitTo, this]
      · rename_i e2 hne
        cases h'
        cases e with
        | nx => exact Go1.then (X := [.code x]) (Y := [.inBlock id]) h0 (Go1.step (X := []) (fun _ _ _ _ _ _ _ _ _ _ _ _ => st_inBlock) Go1.nil)
        | ex j => exact absurd rfl (hne j)
        | rt =>
          refine ⟨h0.1, fun w0 base U σ w b k cs ts ds hro hf hr ht hd hU => ?_⟩
          obtain ⟨σ1, w1, ts1, ds1, ⟨k', ha⟩, r⟩ := h0.2 w0 base U σ w b (.inBlock id :: k) cs ts ds hro hf hr ht hd hU
          exact ⟨σ1, w1, ts1, ds1, ⟨k', ha⟩, r⟩
    · cases h'
  | loop x ih =>
    intro s e s' h
    exact Go1.step (X := [.code x, .inLoop x]) (fun _ _ _ _ _ _ _ _ _ _ _ _ => st_loop) (loopA_ok ih 1000000 s e s' h)
  | rangeFunc f ps a bd _ _ => intro s e s' h; exact hrf f ps a bd s e s' h
  | exit id =>
    intro s e s' h
    cases h
    exact ⟨Nat.le_refl _, fun w0 base U σ w b k cs ts ds hro hf hr ht hd hU => ⟨σ, w, ts, ds, ⟨k, Steps.refl _ _, rfl⟩, ht, hd, Ext.refl hr⟩⟩
  | scope x ih =>
    intro s e s' h
    have h0 := ih s e s' h
    refine Go1.step (X := [.code x, .inScope x]) (fun _ _ _ _ _ _ _ _ _ _ _ _ => st_scope) ?_
    cases he : e with
    | nx => subst he; exact Go1.then (X := [.code x]) (Y := [.inScope x]) h0 (Go1.step (X := []) (fun _ _ _ _ _ _ _ _ _ _ _ _ => st_inScope) Go1.nil)
    | ex id => subst he; exact Go1.exits (X := [.code x]) (Y := [.inScope x]) h0 nofun (by intro x hx; simp at hx; subst hx; intro id; nofun)
    | rt => subst he; exact Go1.exits (X := [.code x]) (Y := [.inScope x]) h0 nofun (by intro x hx; simp at hx; subst hx; intro id; nofun)
  | goto l => intro s e s' h; cases h
  | ret =>
    intro s e s' h
    cases h
    exact ⟨Nat.le_refl _, fun w0 base U σ w b k cs ts ds hro hf hr ht hd hU => ⟨σ, w, ts, ds, ⟨k, Steps.refl _ _⟩, ht, hd, Ext.refl hr⟩⟩
  | refuse why => intro s e s' h; cases h
end code
end Go.Ev

/-! One operation of a region: what the machine does, given the functions that are called. -/
namespace Go.Ev
open Go Go.RowKit

/-! ### Slots -/
theorem TR.put {σ : Sub} {T : Tr AV} {N : Nat} {ts : Array Value} {d : Nat} {v : AV} {x : Value} (h : TR σ T N ts) (hv : VR σ v x) (hd : d < N) : TR σ (Tr.set (pathOf d) T (some v)) N (ts.setIfInBounds d x) := by
  refine ⟨by simpa using h.1, fun i => ?_⟩
  rw [getP_set]
  by_cases e : i = d
  · subst e
    have hlt : i < ts.size := by rw [h.1]; exact hd
    simp [hlt, Array.getD]
    exact hv
  · have e' : pathOf i ≠ pathOf d := fun e'' => e (pathOf_inj e'')
    rw [if_neg e']
    have := h.2 i
    simp only [Array.getD_eq_getD_getElem?, Array.getElem?_setIfInBounds_ne (fun e'' => e e''.symm)] at this ⊢
    exact this
theorem setT_inv {R : Type} {N : Nat} {T : Tr AV} {d : Nat} {v : AV} {no r : R} {K : Tr AV → R} (h : setT N T d v no K = r) (hne : no ≠ r) : d < N ∧ K (Tr.set (pathOf d) T (some v)) = r := by
  unfold setT at h
  obtain ⟨h1, h2⟩ := br_inv h hne
  rw [setP_eq] at h2
  exact ⟨ble_iff.1 h1, h2⟩
theorem setD_inv {R : Type} {N : Nat} {T : Tr AV} {d : Option Nat} {v : AV} {no r : R} {K : Tr AV → R} (h : setD N T d v no K = r) (hne : no ≠ r) :
    ∃ T', K T' = r ∧ ∀ (σ : Sub) (ts : Array Value) (x : Value), TR σ T N ts → VR σ v x → TR σ T' N (putT ts d x) := by
  unfold setD at h
  rw [om_eq] at h
  cases d with
  | none => exact ⟨T, h, fun σ ts x ht _ => ht⟩
  | some d =>
    obtain ⟨h1, h2⟩ := setT_inv h hne
    exact ⟨_, h2, fun σ ts x ht hx => ht.put hx h1⟩

/-! ### What the machine does at an operation -/
section steps
variable {P : Program} {b : Frame} {ts : Array Value} {ds : List Deferred} {k : List Item} {cs : List Frame} {w w' : World} {ops : Array Oper} {i : Nat} {rest : List Nat} {o : Oper}
  (ho : ops[i]? = some o) (hw : Region.wanted o (yielded ops ts) = true) (hd : b.roundOf = none ∨ ∀ c, o.op ≠ .defer c)
include ho hw hd
theorem st_value {x : Value} (h : (execOp (Act.eval ⟨ts, ds⟩) o).run P w = .ok (.value x) w') :
    step P (lone (Fr b ts ds (.inRegion ops (i :: rest) :: k)) cs w) = .next (lone (Fr b (putT ts o.dst x) ds (.inRegion ops rest :: k)) cs w') := by
  have e : putT ts o.dst x = putT ts ((ops[i]?).bind (·.dst)) x := by rw [ho]; rfl
  rw [e, ← Fr_finish]
  exact step_lone_go (by rw [stG_op ho hw hd]; simp [stepG.apply, h])
theorem st_unit (h : (execOp (Act.eval ⟨ts, ds⟩) o).run P w = .ok .skip w') :
    step P (lone (Fr b ts ds (.inRegion ops (i :: rest) :: k)) cs w) = .next (lone (Fr b (putT ts o.dst undef) ds (.inRegion ops rest :: k)) cs w') := by
  have e : putT ts o.dst undef = putT ts ((ops[i]?).bind (·.dst)) undef := by rw [ho]; rfl
  rw [e, ← Fr_finish]
  exact step_lone_go (by rw [stG_op ho hw hd]; simp [stepG.apply, h])
theorem st_enter {f : FuncId} {args : Array Value} (h : (execOp (Act.eval ⟨ts, ds⟩) o).run P w = .ok (.enter f args) w') :
    step P (lone (Fr b ts ds (.inRegion ops (i :: rest) :: k)) cs w) = .next (lone (Frame.enter P f args .normal) (Fr b ts ds (.inRegion ops (i :: rest) :: k) :: cs) w') :=
  step_lone_go (by rw [stG_op ho hw hd]; simp [stepG.apply, h, Fr])
theorem st_round {l : Nat} {f : FuncId} {tm : Array Value} {a c : Code} (h : (execOp (Act.eval ⟨ts, ds⟩) o).run P w = .ok (.round l f tm a c) w') :
    step P (lone (Fr b ts ds (.inRegion ops (i :: rest) :: k)) cs w) = .next (lone (Frame.round l f tm a c .normal) (Fr b ts ds (.inRegion ops (i :: rest) :: k) :: cs) w') :=
  step_lone_go (by rw [stG_op ho hw hd]; simp [stepG.apply, h])
theorem st_defer {d : Deferred} (h : (execOp (Act.eval ⟨ts, ds⟩) o).run P w = .ok (.defer d) w') :
    step P (lone (Fr b ts ds (.inRegion ops (i :: rest) :: k)) cs w) = .next (lone (Fr b (putT ts o.dst undef) (d :: ds) (.inRegion ops rest :: k)) cs w') := by
  have e : putT ts o.dst undef = putT ts ((ops[i]?).bind (·.dst)) undef := by rw [ho]; rfl
  rw [e, ← Fr_finish]
  exact step_lone_go (by
    rw [stG_op ho hw hd]; simp only [stepG.apply, Sem.runT_eq, h, GStep.bare_after]
    rfl)
theorem st_recover (hk : b.kind = .deferred) (hr : b.roundOf = none) {c : Frame} {cs' : List Frame} (hc : cs = c :: cs') (hm : c.mode = .returning) (h : (execOp (Act.eval ⟨ts, ds⟩) o).run P w = .ok .recover w') :
    step P (lone (Fr b ts ds (.inRegion ops (i :: rest) :: k)) cs w) = .next (lone (Fr b (putT ts o.dst .nilIface) ds (.inRegion ops rest :: k)) cs w') := by
  have e : putT ts o.dst .nilIface = putT ts ((ops[i]?).bind (·.dst)) .nilIface := by rw [ho]; rfl
  rw [e, ← Fr_finish]
  subst hc
  have h1 : (Fr b ts ds (.inRegion ops (i :: rest) :: k)).roundOf = none := hr
  have h2 : tryRecover (Fr b ts ds (.inRegion ops (i :: rest) :: k)) (c :: cs') = none := by
    have : (Fr b ts ds (.inRegion ops (i :: rest) :: k)).kind = .deferred := hk
    unfold tryRecover
    rw [this]
    simp [hm]
  exact step_lone_go (by
    rw [stG_op ho hw hd]; simp only [stepG.apply, Sem.runT_eq, h, GStep.bare_after, h1, h2]
    rfl)
end steps

/-! ### Calls -/
def dKind (dfr : Bool) : CallKind := if dfr then .deferred else .normal
def CallOK (P : Program) (ro : Nat → Option CB) (who : Who) (args : List AV) (G : AG) (dfr : Bool) (v : AV) (G' : AG) : Prop :=
  G.nx.num ≤ G'.nx.num ∧ ∀ (w0 : World) (base U : Nat) (σ : Sub) (w : World) (as : Array Value), RoOK ro w0 base → Rel w0 base U σ G w → VRs σ args as.toList → G'.nx.num ≤ U →
    match who with
    | .fn f => (∃ fn, P.funcs[f]? = some fn ∧ fn.body.isSome = true) ∧ ∀ cs, (dfr = true → ∃ c rest, cs = c :: rest ∧ c.mode = .returning) →
        ∃ σ' w' x fr, Steps P (lone (Frame.enter P f as (dKind dfr)) cs w) (lone fr cs w') ∧ fr.mode = .returning ∧ fr.defers = [] ∧ fr.kind = dKind dfr ∧ fr.fn = f ∧
          (∃ fn, P.funcs[f]? = some fn ∧ (results fn fr.tmps).run P w' = .ok x w') ∧ VR σ' v x ∧ Ext w0 base U σ G w σ' G' w'
    | .yield b => ∀ n, σ.blk b = some n → ∃ f tm a c, (Instr.yield n as).run P w = .ok (.round n f tm a c) w ∧ ∀ fr cs,
        ∃ σ' w' x, Steps P (lone (Frame.round n f tm a c .normal) (fr :: cs) w) (lone (fr.finish x) cs w') ∧ VR σ' v x ∧ Ext w0 base U σ G w σ' G' w'
def CallsOK (P : Program) (ro : Nat → Option CB) (call : CallF) : Prop := ∀ who args G dfr v G', call who args G dfr = .ok v G' → CallOK P ro who args G dfr v G'

section call
variable {P : Program} {ro : Nat → Option CB} {call : CallF} 
theorem run_callFunc {f : FuncId} {fn : Func} {args : Array Value} {w : World} (hf : P.funcs[f]? = some fn) (hb : fn.body.isSome = true) (hn : fn.name ≠ "runtime.NumGoroutine") : (callFunc f args).run P w = .ok (.enter f args) w := by
  have hb' : fn.body ≠ none := fun e => by rw [e] at hb; cases hb
  simp [callFunc, hf, hb', hn]
/-- no function asks how many goroutines there are -/
def NoCount (P : Program) : Prop := ∀ (f : FuncId) (fn : Func), P.funcs[f]? = some fn → fn.name ≠ "runtime.NumGoroutine"

/-- the call of a function value from an operation: the machine enters, runs and comes back with the result -/
theorem callV_ok (hN : NoCount P) (hc : CallsOK P ro call) {f : AV} {args : List AV} {G G' : AG} {v : AV} (h : callV call f args G = .ok v G') :
    G.nx.num ≤ G'.nx.num ∧ ∀ (w0 : World) (base U : Nat) (σ : Sub) (w : World) (fv : Value) (as : Array Value), RoOK ro w0 base → Rel w0 base U σ G w → VR σ f fv → VRs σ args as.toList → G'.nx.num ≤ U →
      ∃ n, (do let d ← Deferred.ofValue fv as; invoke d.target d.args : Sem Next).run P w = .ok n w ∧
        ((∃ g bs, n = .enter g bs ∧ ∀ (c : Frame) (cs : List Frame), ∃ σ' w' x, Steps P (lone (Frame.enter P g bs .normal) (c :: cs) w) (lone (c.finish x) cs w') ∧ VR σ' v x ∧ Ext w0 base U σ G w σ' G' w') ∨
          (∃ l g tm a b, n = .round l g tm a b ∧ ∀ (c : Frame) (cs : List Frame), ∃ σ' w' x, Steps P (lone (Frame.round l g tm a b .normal) (c :: cs) w) (lone (c.finish x) cs w') ∧ VR σ' v x ∧ Ext w0 base U σ G w σ' G' w')) := by
  unfold callV at h
  split at h
  · rename_i g a c
    rw [appK_eq, appK_eq] at h
    obtain ⟨h1, ok⟩ := hc _ _ _ _ _ _ h
    refine ⟨h1, fun w0 base U σ w fv as hro hr hf ha hU => ?_⟩
    simp only [VR] at hf
    obtain ⟨xs, cap, hxs, hcap, rfl⟩ := hf
    have hall : VRs σ (a ++ args ++ c) (xs.toArray ++ as ++ cap.toArray).toList := by
      have := (hxs.app ha).app hcap
      simpa using this
    obtain ⟨⟨fn, hfn, hb⟩, run⟩ := ok w0 base U σ w (xs.toArray ++ as ++ cap.toArray) hro hr hall hU
    refine ⟨.enter g (xs.toArray ++ as ++ cap.toArray), ?_, .inl ⟨g, _, rfl, fun cf cs => ?_⟩⟩
    · simp only [Deferred.ofValue, Sem.run_bind, Sem.run_pure, Result.andThen_ok, invoke]
      exact run_callFunc hfn hb (hN g fn hfn)
    · obtain ⟨σ', w', x, fr, hs, hm, hd, hk, hff, hres, hv, he⟩ := run (cf :: cs) nofun
      refine ⟨σ', w', x, hs.trans (.one (step_leave_returned (P := P) (fr := fr) (v := x) ⟨hm, hd, hk, ?_⟩)), hv, he⟩
      rw [hff]
      exact hres
  · rename_i b
    obtain ⟨h1, ok⟩ := hc _ _ _ _ _ _ h
    refine ⟨h1, fun w0 base U σ w fv as hro hr hf ha hU => ?_⟩
    simp only [VR] at hf
    obtain ⟨n, hn, rfl⟩ := hf
    obtain ⟨g, tm, a, c, hy, run⟩ := ok w0 base U σ w as hro hr ha hU n hn
    refine ⟨_, ?_, .inr ⟨n, g, tm, a, c, rfl, run⟩⟩
    simp only [Deferred.ofValue, Sem.run_bind, Sem.run_pure, Result.andThen_ok, invoke]
    have : (#[] : Array Value) ++ as = as := by simp
    rw [this]
    exact hy
  · cases h

/-- what one operation of a region does; its operands are looked at as ρ tells -/
def OpGoV (P : Program) (ro : Nat → Option CB) (self : FuncId) (dfr rnd : Bool) (o : Oper) (T : Tr AV) (G : AG) (D : List ADef) (v : AV) (G' : AG) (D' : List ADef) : Prop :=
  G.nx.num ≤ G'.nx.num ∧ ∀ (w0 : World) (base U : Nat) (σ : Sub) (w : World) (b : Frame) (k : List Item) (cs : List Frame) (ts : Array Value) (ds : List Deferred) (ops : Array Oper) (i : Nat) (rest : List Nat) (ρ : Operand → Value),
    ops[i]? = some o → Region.wanted o (yielded ops ts) = true →
    RoOK ro w0 base → FrOK self dfr rnd b cs → Rel w0 base U σ G w → execOp ρ o = execOp (Act.eval ⟨ts, ds⟩) o → (∀ x a, OpdR T x a → VR σ a (ρ x)) → DR σ D ds → G'.nx.num ≤ U →
    ∃ σ' w' x ds', Steps P (lone (Fr b ts ds (.inRegion ops (i :: rest) :: k)) cs w) (lone (Fr b (putT ts o.dst x) ds' (.inRegion ops rest :: k)) cs w') ∧ VR σ' v x ∧ DR σ' D' ds' ∧ Ext w0 base U σ G w σ' G' w'

theorem kindO_call {op : Op} {c : Call} (h : kindO op = .call c) : op = .call c := by
  unfold kindO at h
  split at h <;> cases h
  rfl
theorem kindO_defer {op : Op} {c : Call} (h : kindO op = .defer c) : op = .defer c := by
  unfold kindO at h
  split at h <;> cases h
  rfl
theorem kindO_other {op : Op} (h : kindO op = .other) : ∀ c, op ≠ .defer c := by
  intro c e
  subst e
  cases h

end call
end Go.Ev

/-! Regions in a given order: every operation's step is right. -/
namespace Go.Ev
open Go Go.RowKit

section op
variable {P : Program} {ro : Nat → Option CB} {call : CallF} {self : FuncId} {dfr rnd : Bool} {N : Nat}
theorem vF_inv {D D' : List ADef} {r : Rf} {v : AV} {G' : AG} (h : vF D r = .ok v G' D') : r = .ok v G' ∧ D' = D := by
  unfold vF at h
  split at h
  · cases h; exact ⟨rfl, rfl⟩
  · cases h
theorem vO_inv {D D' : List ADef} {r : Ro} {v : AV} {G' : AG} (h : vO D r = .ok v G' D') : r = .ok v G' ∧ D' = D := by
  unfold vO at h
  split at h
  · cases h; exact ⟨rfl, rfl⟩
  · cases h

/-- an operation that calls nothing -/
theorem opGo_pure {o : Oper} {T : Tr AV} {G G' : AG} {D : List ADef} {v : AV} (hop : OpOK P ro T G o v G') (hnd : ∀ c, o.op ≠ .defer c) : OpGoV P ro self dfr rnd o T G D v G' D := by
  refine ⟨hop.1, fun w0 base U σ w b k cs ts ds ops i rest ρ ho hw hro hf hr hρe hρ hd hU => ?_⟩
  obtain ⟨σ', w', x, hy, hv, he⟩ := hop.2 w0 base U σ w ρ hro hr hρ hU
  rw [hρe] at hy
  refine ⟨σ', w', x, ds, ?_, hv, hd.mono he.le, he⟩
  rcases hy with hy | ⟨hy, rfl⟩
  · exact .one (st_value ho hw (.inr hnd) hy)
  · exact .one (st_unit ho hw (.inr hnd) hy)

theorem operV_ok (hN : NoCount P) (hc : CallsOK P ro call) {o : Oper} {T : Tr AV} {G G' : AG} {D D' : List ADef} {v : AV} (h : operV P ro call dfr rnd o T G D = .ok v G' D') : OpGoV P ro self dfr rnd o T G D v G' D' := by
  unfold operV at h
  split at h
  · -- a call
    rename_i c hk
    have hop := kindO_call hk
    have hnd : ∀ c, o.op ≠ .defer c := fun c' e' => by rw [hop] at e'; cases e'
    unfold oCall at h
    split at h
    · rename_i f hcal
      obtain ⟨fa, hfa, h1⟩ := opd_inv h nofun
      obtain ⟨args, hargs, h2⟩ := opds_inv h1 nofun
      obtain ⟨h3, rfl⟩ := vF_inv h2
      obtain ⟨hnx, ok⟩ := callV_ok hN hc h3
      refine ⟨hnx, fun w0 base U σ w b k cs ts ds ops i rest ρ ho hw hro hf hr hρe hρ hd hU => ?_⟩
      have has : VRs σ args (c.args.map ρ).toList := by
        rw [Array.toList_map]
        exact OpdsR.ok hρ hargs
      obtain ⟨n, hn, hor⟩ := ok w0 base U σ w _ _ hro hr (hρ f fa hfa) has hU
      have hexec : (execOp (Act.eval ⟨ts, ds⟩) o).run P w = .ok n w := by
        rw [← hρe, ← hn]
        simp only [execOp, hop, resolve, hcal]
      rcases hor with ⟨g, bs, rfl, run⟩ | ⟨l, g, tm, a, cc, rfl, run⟩
      · obtain ⟨σ', w', x, hs, hv, he'⟩ := run (Fr b ts ds (.inRegion ops (i :: rest) :: k)) cs
        refine ⟨σ', w', x, ds, ?_, hv, hd.mono he'.le, he'⟩
        refine .head (st_enter ho hw (.inr hnd) hexec) ?_
        rw [Fr_finish, ho] at hs
        exact hs
      · obtain ⟨σ', w', x, hs, hv, he'⟩ := run (Fr b ts ds (.inRegion ops (i :: rest) :: k)) cs
        refine ⟨σ', w', x, ds, ?_, hv, hd.mono he'.le, he'⟩
        refine .head (st_round ho hw (.inr hnd) hexec) ?_
        rw [Fr_finish, ho] at hs
        exact hs
    · cases h
    · rename_i bi hcal
      split at h
      · -- recover
        obtain ⟨hdf, h1⟩ := br_inv h nofun
        obtain ⟨hrn, h2⟩ := br_inv' h1 nofun
        cases h2
        refine ⟨Nat.le_refl _, fun w0 base U σ w b k cs ts ds ops i rest ρ ho hw hro hf hr hρe hρ hd hU => ?_⟩
        obtain ⟨hb, c', rest', hcs, hm⟩ := hf.2.2 hdf
        refine ⟨σ, w, .nilIface, ds, ?_, by simp only [VR], hd, Ext.refl hr⟩
        refine .one (st_recover ho hw (.inr hnd) hb (hf.2.1 hrn) hcs hm ?_)
        simp only [execOp, hop, resolve, hcal, Sem.run_bind, Sem.run_pure, Result.andThen_ok, invoke, builtin]
      · rename_i hnr
        obtain ⟨h3, rfl⟩ := vO_inv h
        obtain ⟨l, hl, h4⟩ := opds_inv h3 nofun
        have hok : OpOK P ro T G o v G' := by
          have := aBuiltin_ok (d := o.dst) (t0 := o.type) (pos := o.pos) (af := o.after) (g := o.guard) hcal hl h4
          have e : (⟨o.dst, .call c, o.type, o.pos, o.after, o.guard⟩ : Oper) = o := by rw [← hop]
          rw [e] at this
          exact this
        exact opGo_pure hok hnd
  · -- a deferred call
    rename_i c hk
    have hop := kindO_defer hk
    unfold oDefer at h
    obtain ⟨hrn, h⟩ := br_inv' h nofun
    split at h
    · rename_i f hcal
      obtain ⟨fa, hfa, h1⟩ := opd_inv h nofun
      obtain ⟨args, hargs, h2⟩ := opds_inv h1 nofun
      split at h2
      · rename_i g a c'
        rw [appK_eq, appK_eq] at h2
        cases h2
        refine ⟨Nat.le_refl _, fun w0 base U σ w b k cs ts ds ops i rest ρ ho hw hro hf hr hρe hρ hd hU => ?_⟩
        have has : VRs σ args (c.args.map ρ).toList := by
          rw [Array.toList_map]
          exact OpdsR.ok hρ hargs
        have hfv := hρ f _ hfa
        simp only [VR] at hfv
        obtain ⟨xs, cap, hxs, hcap, hfe⟩ := hfv
        refine ⟨σ, w, undef, { target := .fn (.func g) cap.toArray, args := xs.toArray ++ c.args.map ρ } :: ds, ?_, VR_undef σ, ?_, Ext.refl hr⟩
        · refine .one (st_defer ho hw (.inl (hf.2.1 hrn)) ?_)
          rw [← hρe]
          simp only [execOp, hop, resolve, hcal, hfe, Deferred.ofValue, Sem.run_bind, Sem.run_pure, Result.andThen_ok]
        · refine ⟨_, _, _, rfl, ?_, hd⟩
          have := (hxs.app has).app hcap
          simpa using this
      · cases h2
    · cases h
  · rename_i hk
    have hnd := kindO_other hk
    obtain ⟨h3, rfl⟩ := vO_inv h
    have hok : OpOK P ro T G o v G' := aop_ok (d := o.dst) (t0 := o.type) (pos := o.pos) (af := o.after) (g := o.guard) h3
    exact opGo_pure hok hnd

/-- what one operation of a region does to a state -/
def OpGo (P : Program) (ro : Nat → Option CB) (self : FuncId) (dfr rnd : Bool) (N : Nat) (o : Oper) (s s' : St) : Prop :=
  s.G.nx.num ≤ s'.G.nx.num ∧ ∀ (w0 : World) (base U : Nat) (σ : Sub) (w : World) (b : Frame) (k : List Item) (cs : List Frame) (ts : Array Value) (ds : List Deferred) (ops : Array Oper) (i : Nat) (rest : List Nat),
    ops[i]? = some o → Region.wanted o (yielded ops ts) = true →
    RoOK ro w0 base → FrOK self dfr rnd b cs → Rel w0 base U σ s.G w → TR σ s.T N ts → DR σ s.D ds → s'.G.nx.num ≤ U →
    ∃ σ' w' ts' ds', Steps P (lone (Fr b ts ds (.inRegion ops (i :: rest) :: k)) cs w) (lone (Fr b ts' ds' (.inRegion ops rest :: k)) cs w') ∧ TR σ' s'.T N ts' ∧ DR σ' s'.D ds' ∧ Ext w0 base U σ s.G w σ' s'.G w'

theorem oper1_ok (hN : NoCount P) (hc : CallsOK P ro call) {o : Oper} {s s' : St} {e : Ex} (h : oper1 P ro call dfr rnd N s o = .ok e s') : e = .nx ∧ OpGo P ro self dfr rnd N o s s' := by
  unfold oper1 at h
  split at h
  · rename_i v G' D' hv
    obtain ⟨T', h1, hT⟩ := setD_inv h nofun
    cases h1
    have hgo := operV_ok (self := self) hN hc hv
    refine ⟨rfl, hgo.1, fun w0 base U σ w b k cs ts ds ops i rest ho hw hro hf hr ht hd hU => ?_⟩
    obtain ⟨σ', w', x, ds', hs, hx, hd', he⟩ := hgo.2 w0 base U σ w b k cs ts ds ops i rest (Act.eval ⟨ts, ds⟩) ho hw hro hf hr rfl (fun x a ha => ha.ok (act := ⟨ts, ds⟩) ht) hd hU
    exact ⟨σ', w', _, ds', hs, hT σ' ts x (ht.mono he.le) hx, hd', he⟩
  · cases h
end op
end Go.Ev

/-! Regions in the order of the text. -/
namespace Go.Ev
open Go Go.RowKit

theorem TR.bool {σ : Sub} {T : Tr AV} {N : Nat} {ts : Array Value} (h : TR σ T N ts) {d : Nat} {t : Bool} (hd : getP (pathOf d) T = some (.bool t)) : ts[d]? = some (.bool t) := by
  have := h.2 d
  rw [hd] at this
  simp only [Option.getD, VR] at this
  rw [Array.getD_eq_getD_getElem?] at this
  cases hx : ts[d]? with
  | none => rw [hx] at this; cases this
  | some x => rw [hx] at this; rw [show x = .bool t from this]

theorem wantK_inv {R : Type} {T : Tr AV} {ops : Array Oper} {o : Oper} {no yes skip r : R} (h : wantK T ops.toList o.guard no yes skip = r) (hne : no ≠ r) :
    (yes = r ∧ ∀ (σ : Sub) (N : Nat) (ts : Array Value), TR σ T N ts → Region.wanted o (yielded ops ts) = true) ∨
    (skip = r ∧ ∀ (σ : Sub) (N : Nat) (ts : Array Value), TR σ T N ts → Region.wanted o (yielded ops ts) = false) := by
  unfold wantK at h
  rw [om_eq] at h
  cases hg : o.guard with
  | none =>
    rw [hg] at h
    exact .inl ⟨h, fun _ _ _ _ => by simp [Region.wanted, hg]⟩
  | some g =>
    obtain ⟨j, want⟩ := g
    rw [hg] at h
    simp only at h
    obtain ⟨q, hq, h1⟩ := om_inv h hne
    obtain ⟨d, hd, h2⟩ := om_inv h1 hne
    obtain ⟨v, hv, h3⟩ := om_inv h2 hne
    rw [nthL_eq] at hq
    have hq' : ops[j]? = some q := by simpa using hq
    split at h3
    · rename_i t
      have hy : ∀ (σ : Sub) (N : Nat) (ts : Array Value), TR σ T N ts → yielded ops ts j = some t := fun σ N ts ht => by
        simp only [yielded, hq', Option.bind_some, hd, ht.bool hv]
      rw [br_eq, br_eq, br_eq] at h3
      cases t <;> cases want <;> simp only [if_true, if_false, Bool.false_eq_true] at h3
      · exact .inl ⟨h3, fun σ N ts ht => by simp [Region.wanted, hg, hy σ N ts ht]⟩
      · exact .inr ⟨h3, fun σ N ts ht => by simp [Region.wanted, hg, hy σ N ts ht]⟩
      · exact .inr ⟨h3, fun σ N ts ht => by simp [Region.wanted, hg, hy σ N ts ht]⟩
      · exact .inl ⟨h3, fun σ N ts ht => by simp [Region.wanted, hg, hy σ N ts ht]⟩
    · exact absurd h3 hne

section ops
variable {P : Program} {ro : Nat → Option CB} {call : CallF} {self : FuncId} {dfr rnd : Bool} {N : Nat}
theorem opsA_ok (hN : NoCount P) (hc : CallsOK P ro call) {ops : Array Oper} : ∀ (l : List Oper) (is : List Nat) (s : St) (e : Ex) (s' : St), is.map (ops[·]?) = l.map some →
    opsA P ro call dfr rnd N ops.toList l s = .ok e s' → e = .nx ∧ Go1 P ro self dfr rnd N [.inRegion ops is] .nx s s'
  | [], [], s, e, s', _, h => by
    cases h
    exact ⟨rfl, Go1.step (X := []) (fun _ _ _ _ _ _ _ _ _ _ _ _ => st_regionEnd) Go1.nil⟩
  | [], i :: is, s, e, s', hi, h => by cases hi
  | o :: l, [], s, e, s', hi, h => by cases hi
  | o :: l, i :: is, s, e, s', hi, h => by
    have ho : ops[i]? = some o := by simpa using (List.cons.inj hi).1
    have hi' := (List.cons.inj hi).2
    have h' : wantK s.T ops.toList o.guard (.no 52) (thenS (oper1 P ro call dfr rnd N s o) (opsA P ro call dfr rnd N ops.toList l))
      (setD N s.T o.dst undefA (.no 53) fun T => opsA P ro call dfr rnd N ops.toList l ⟨T, s.G, s.D⟩) = .ok e s' := h
    rcases wantK_inv h' nofun with ⟨h1, hw⟩ | ⟨h1, hw⟩
    · rcases thenS_inv h1 with ⟨s1, h2, h3⟩ | ⟨h2, h3⟩
      · obtain ⟨_, hop⟩ := oper1_ok (self := self) hN hc h2
        obtain ⟨he, hg⟩ := opsA_ok hN hc l is s1 e s' hi' h3
        refine ⟨he, Nat.le_trans hop.1 hg.1, fun w0 base U σ w b k cs ts ds hro hf hr ht hd hU => ?_⟩
        have := hg.1
        obtain ⟨σ1, w1, ts1, ds1, hs, ht1, hd1, he1⟩ := hop.2 w0 base U σ w b k cs ts ds ops i is ho (hw σ N ts ht) hro hf hr ht hd (by omega)
        obtain ⟨σ2, w2, ts2, ds2, hs2, ht2, hd2, he2⟩ := hg.2 w0 base U σ1 w1 b k cs ts1 ds1 hro hf he1.rel ht1 hd1 hU
        exact ⟨σ2, w2, ts2, ds2, Arr.of_steps hs hs2, ht2, hd2, he1.trans he2⟩
      · exact absurd (oper1_ok (self := self) hN hc h2).1 h3
    · obtain ⟨T', h2, hT⟩ := setD_inv h1 nofun
      obtain ⟨he, hg⟩ := opsA_ok hN hc l is _ e s' hi' h2
      refine ⟨he, hg.1, fun w0 base U σ w b k cs ts ds hro hf hr ht hd hU => ?_⟩
      obtain ⟨σ2, w2, ts2, ds2, hs2, r⟩ := hg.2 w0 base U σ w b k cs (putT ts o.dst undef) ds hro hf hr (hT σ ts undef ht (VR_undef σ)) hd hU
      exact ⟨σ2, w2, ts2, ds2, Arr.of_steps (.one (st_opSkip ho (hw σ N ts ht))) hs2, r⟩

theorem range_map (ops : Array Oper) : (List.range ops.size).map (ops[·]?) = ops.toList.map some := by
  apply List.ext_getElem?
  intro i
  simp only [List.getElem?_map]
  by_cases h : i < ops.size
  · simp [h]
  · simp [h]
/-- a region that draws no order -/
theorem regionF_ok (hN : NoCount P) (hc : CallsOK P ro call) {id : Nat} {ops : Array Oper} {s s' : St} {e : Ex} (h : opsA P ro call dfr rnd N ops.toList ops.toList s = .ok e s') : Go1 P ro self dfr rnd N [.code (.region id ops false)] e s s' := by
  obtain ⟨rfl, hg⟩ := opsA_ok (self := self) hN hc ops.toList (List.range ops.size) s e s' (range_map ops) h
  exact Go1.step (X := [.inRegion ops (List.range ops.size)]) (fun _ _ _ _ _ _ _ _ _ _ _ _ => st_region) hg
end ops
end Go.Ev

/-! Functions: their frames, results and deferred calls. -/
namespace Go.Ev
open Go Go.RowKit

section drop
variable {w0 : World} {base : Nat} {U : Nat} {σ : Sub} {G : AG} {w : World}
/-- a block turns and is not spoken of any more -/
theorem Rel.dropSet (h : Rel w0 base U σ G w) {b : Pth} {n : Nat} {x : AB} (hb : G.get b = some x) (hn : σ.blk b = some n) (o' : Obj) :
    Ext w0 base U σ G w σ (G.set b none) { w with heap := w.heap.setIfInBounds n o' } := by
  obtain ⟨_, n', o, hn', hbn, ho, _⟩ := h.blk b x hb
  have : n' = n := Option.some.inj (hn'.symm.trans hn)
  subst this
  have hd := h.dropB hb
  have hget : ∀ j, (G.set b none).get j = if j = b then none else G.get j := AG.get_set none
  have hlive : ∀ j y, (G.set b none).get j = some y → j ≠ b ∧ G.get j = some y := by
    intro j y hj
    rw [hget] at hj
    split at hj
    · cases hj
    · exact ⟨‹_›, hj⟩
  refine ⟨Sub.le_refl σ, fun _ _ => rfl, Nat.le_refl _, ⟨below_set h.below hbn o', ?_, hd.rel.inj, hd.rel.undef, by simpa using h.bs⟩, by simp, ?_, ?_⟩
  · intro j y hj
    obtain ⟨hne, hj'⟩ := hlive j y hj
    obtain ⟨h1, m, om, hm, hbm, hom, hy⟩ := h.blk j y hj'
    refine ⟨h1, m, om, hm, hbm, ?_, hy⟩
    have hnm : n' ≠ m := fun e' => hne (h.inj j b y x m hj' hb hm (e' ▸ hn))
    show (w.heap.setIfInBounds n' o')[m]? = _
    rw [Array.getElem?_setIfInBounds_ne hnm]; exact hom
  · intro m hm hno
    show (w.heap.setIfInBounds n' o')[m]? = _
    rw [Array.getElem?_setIfInBounds_ne (fun e => hno b x hb (by rw [hn, e]))]
  · intro j y m hj hm
    exact .inl ⟨j, y, (hlive j y hj).2, hm⟩
end drop

section frame
variable {P : Program} {ro : Nat → Option CB}
/-- a frame's first slots -/
theorem args0_ok {R : Type} : ∀ (l : List AV) (i : Nat) (T : Tr AV) (K : Tr AV → R), ∃ T', args0 l i T K = K T' ∧
    ∀ (σ : Sub) (N : Nat) (ts : Array Value) (vs : List Value), TR σ T N ts → VRs σ l vs → i + l.length ≤ N → TR σ T' N (putL ts.toList i vs).toArray
  | [], i, T, K => ⟨T, rfl, fun σ N ts vs ht hv _ => by rw [VRs.nil_inv hv]; have : putL ts.toList i [] = ts.toList := by simp [putL]
                                                        rw [this]; exact ht⟩
  | a :: l, i, T, K => by
    obtain ⟨T', h1, h2⟩ := args0_ok l (i + 1) (Tr.set (pathOf i) T (some a)) K
    refine ⟨T', ?_, fun σ N ts vs ht hv hN => ?_⟩
    · rw [← h1]
      show setP (pathOf i) T (some a) (fun T => args0 l (i + 1) T K) = _
      rw [setP_eq]
    · obtain ⟨x, xs, rfl, hx, hs⟩ := hv.cons_inv
      simp only [List.length_cons] at hN
      have := h2 σ N (ts.setIfInBounds i x) xs (ht.put hx (by omega)) hs (by omega)
      rw [Array.toList_setIfInBounds, putL_snoc _ _ _ _ (by rw [Array.length_toList, ht.1]; omega)] at this
      exact this
theorem TR.start {σ : Sub} (N : Nat) : TR σ .e N (Array.replicate N undef) := ⟨by simp, fun i => by
  rw [getP_e]
  simp only [Option.getD, Array.getD_eq_getD_getElem?]
  by_cases h : i < N
  · simp [h]; exact VR_undef σ
  · simp [h]; exact VR_undef σ⟩

/-- one result -/
def oneRes (ts : Array Value) : ResultVar → Sem Value
  | .tmp t => pure (ts.getD t undef)
  | .cell a t => do loadVar t (← asAddr (ts.getD a undef))
/-- the results that a frame gives -/
theorem resK_ok {T : Tr AV} {G : AG} {no r : Rf} (hne : no ≠ r) : ∀ {l : List ResultVar} {K : List AV → Rf}, resK P ro T G l no K = r → ∃ vs, K vs = r ∧
    ∀ (w0 : World) (base U : Nat) (σ : Sub) (w : World) (N : Nat) (ts : Array Value), RoOK ro w0 base → Rel w0 base U σ G w → TR σ T N ts →
      ∃ xs, (l.mapM (oneRes ts)).run P w = .ok xs w ∧ VRs σ vs xs
  | [], K, h => ⟨[], h, fun w0 base U σ w N ts _ _ _ => ⟨[], by simp, VRs.nil⟩⟩
  | .tmp t :: l, K, h => by
    have h' : resK P ro T G l no (fun vs => K ((om (getP (pathOf t) T) undefA fun v => v) :: vs)) = r := h
    obtain ⟨vs, h1, ok⟩ := resK_ok hne h'
    refine ⟨_, h1, fun w0 base U σ w N ts hro hr ht => ?_⟩
    obtain ⟨xs, h2, h3⟩ := ok w0 base U σ w N ts hro hr ht
    refine ⟨ts.getD t undef :: xs, ?_, VRs.cons ?_ h3⟩
    · rw [List.mapM_cons]
      simp only [oneRes, Sem.run_bind, Sem.run_pure, Result.andThen_ok, h2]
    · have := ht.2 t
      rw [om_eq]
      cases hq : getP (pathOf t) T with
      | none => rw [hq] at this; exact this
      | some v => rw [hq] at this; exact this
  | .cell a t :: l, K, h => by
    have h' : om (mkTI P t) no (fun ti => om (getP (pathOf a) T) no fun p => loadA ro G ti p no fun v => resK P ro T G l no fun vs => K (v :: vs)) = r := h
    obtain ⟨ti, hti, h1⟩ := om_inv h' hne
    obtain ⟨d, i, z, htt⟩ := mkTI_ok hti
    obtain ⟨p, hp, h2⟩ := om_inv h1 hne
    obtain ⟨v, h3, okl⟩ := loadA_ok htt h2 hne
    obtain ⟨vs, h4, ok⟩ := resK_ok hne h3
    refine ⟨_, h4, fun w0 base U σ w N ts hro hr ht => ?_⟩
    obtain ⟨xs, h5, h6⟩ := ok w0 base U σ w N ts hro hr ht
    have hp' := ht.2 a
    rw [hp] at hp'
    obtain ⟨ad, y, e1, h7, h8⟩ := okl w0 base U σ w _ hro hr hp'
    refine ⟨y :: xs, ?_, VRs.cons h8 h6⟩
    rw [List.mapM_cons]
    simp only [oneRes, Sem.run_bind, e1, asAddr, Sem.run_pure, Result.andThen_ok, h7, h5]

def outOf (xs : List Value) : Value := match xs with | [x] => x | xs => .tuple xs.toArray
theorem run_results {fn : Func} {ts : Array Value} {w : World} {xs : List Value} (h : (fn.results.toList.mapM (oneRes ts)).run P w = .ok xs w) :
    (results fn ts).run P w = .ok (outOf xs) w := by
  have e : results fn ts = (do let vs ← fn.results.mapM (oneRes ts); pure (if h : vs.size = 1 then vs[0] else .tuple vs)) := by
    unfold results
    congr 1
  rw [e, Array.mapM_eq_mapM_toList]
  simp only [Sem.run_bind, Sem.run_map, h, Result.andThen_ok, Sem.run_pure]
  congr 1
  match xs with
  | [] => rfl
  | [x] => rfl
  | x :: y :: l => simp; rfl

/-! ### Deferred calls -/
theorem run_take {n : Nat} {w : World} (h : w.heap[n]? = some (.deferred (some []))) : (Instr.takeDeferred n).run P w = .ok [] { w with heap := w.heap.setIfInBounds n (.deferred none) } := by
  simp [Instr.takeDeferred, Sem.run_bind, getObj, setObj, Sem.run, h, Result.andThen]
theorem step_coll {fr : Frame} {cs : List Frame} {w w' : World} {d : Deferred} {r : Nat} {ds : List Deferred} (hm : fr.mode = .returning) (hd : fr.defers = d :: ds) (ht : d.target = .collected r) (hk : (Instr.takeDeferred r).run P w = .ok [] w') :
    step P (lone fr cs w) = .next (lone { fr with defers := ds } cs w') := by
  obtain ⟨t, a⟩ := d
  simp only at ht
  subst ht
  refine step_lone_go ?_
  simp [stepG, unwind, hm, hd, hk]
theorem step_callD {fr : Frame} {cs : List Frame} {w w' : World} {d : Deferred} {f : FuncId} {args : Array Value} {ds : List Deferred} (hm : fr.mode = .returning) (hd : fr.defers = d :: ds) (ht : ∃ g cap, d.target = .fn g cap) (hk : (invoke d.target d.args).run P w = .ok (.enter f args) w') :
    step P (lone fr cs w) = .next (lone (Frame.enter P f args .deferred) ({ fr with defers := ds } :: cs) w') := by
  obtain ⟨t, a⟩ := d
  obtain ⟨g, cap, ht⟩ := ht
  simp only at ht hk
  subst ht
  refine step_lone_go ?_
  simp [stepG, unwind, callDeferred, hm, hd, hk]
theorem step_leaveD {fr c : Frame} {cs : List Frame} {w : World} {v : Value} (hm : fr.mode = .returning) (hd : fr.defers = []) (hk : fr.kind = .deferred) (hf : ∃ fn, P.funcs[fr.fn]? = some fn ∧ (results fn fr.tmps).run P w = .ok v w) (hc : c.mode = .returning) :
    step P (lone fr (c :: cs) w) = .next (lone c cs w) := by
  obtain ⟨fn, hf, hr⟩ := hf
  exact step_lone_go (by simp [stepG, unwind, doReturn, hm, hd, hk, hf, hr, hc])

/-- the deferred calls of a frame that returns -/
theorem runD_ok (hN : NoCount P) {call : CallF} (hc : CallsOK P ro call) : ∀ {D : List ADef} {G : AG} {K : AG → Rf} {v : AV} {Gf : AG}, runD call D G K = .ok v Gf →
    ∃ G', K G' = .ok v Gf ∧ G.nx.num ≤ G'.nx.num ∧ ∀ (w0 : World) (base U : Nat) (σ : Sub) (w : World) (fr : Frame) (cs : List Frame), RoOK ro w0 base → Rel w0 base U σ G w → fr.mode = .returning → DR σ D fr.defers → G'.nx.num ≤ U →
      ∃ σ' w', Steps P (lone fr cs w) (lone { fr with defers := [] } cs w') ∧ Ext w0 base U σ G w σ' G' w'
  | [], G, K, v, Gf, h => ⟨G, h, Nat.le_refl _, fun w0 base U σ w fr cs hro hr hm hd hU => by
      have e : fr.defers = [] := hd
      have : ({ fr with defers := [] } : Frame) = fr := by rw [← e]
      rw [this]
      exact ⟨σ, w, Steps.refl _ _, Ext.refl hr⟩⟩
  | .call f args :: D, G, K, v, Gf, h => by
    have h' : (match call (.fn f) args G true with | .ok _ G => runD call D G K | .no c => .no c) = .ok v Gf := h
    split at h'
    · rename_i v1 G1 h1
      obtain ⟨hn1, ok1⟩ := hc _ _ _ _ _ _ h1
      obtain ⟨G', h2, hn2, ok2⟩ := runD_ok hN hc h'
      refine ⟨G', h2, Nat.le_trans hn1 hn2, fun w0 base U σ w fr cs hro hr hm hd hU => ?_⟩
      obtain ⟨cap, as, l', hfd, hv, hd'⟩ := hd
      obtain ⟨⟨fn, hfn, hb⟩, run⟩ := ok1 w0 base U σ w (as ++ cap) hro hr hv (by omega)
      obtain ⟨σ1, w1, x, fr1, hs, hm1, hd1, hk1, hf1, hres, _, he1⟩ := run ({ fr with defers := l' } :: cs) (fun _ => ⟨_, _, rfl, hm⟩)
      obtain ⟨σ2, w2, hs2, he2⟩ := ok2 w0 base U σ1 w1 { fr with defers := l' } cs hro he1.rel hm (hd'.mono he1.le) hU
      refine ⟨σ2, w2, ?_, he1.trans he2⟩
      refine .head (step_callD (w' := w) (f := f) (args := as ++ cap) hm hfd ⟨_, _, rfl⟩ ?_) (hs.trans (.head (step_leaveD (v := x) hm1 hd1 hk1 ?_ hm) hs2))
      · simp only [invoke]
        exact run_callFunc hfn hb (hN f fn hfn)
      · rw [hf1]; exact hres
    · cases h'
  | .coll b :: D, G, K, v, Gf, h => by
    have h' : om (G.get b) (.no 61) (fun x => match x with | .defd => G.setK b none fun G => runD call D G K | _ => .no 61) = .ok v Gf := h
    obtain ⟨x, hx, h1⟩ := om_inv h' nofun
    split at h1
    · rw [AG.setK_eq] at h1
      obtain ⟨G', h2, hn2, ok2⟩ := runD_ok hN hc h1
      refine ⟨G', h2, hn2, fun w0 base U σ w fr cs hro hr hm hd hU => ?_⟩
      obtain ⟨n, as, l', hfd, hn, hd'⟩ := hd
      obtain ⟨_, n', o, hn', _, ho, hbr⟩ := hr.blk b _ hx
      rw [hn] at hn'; cases hn'
      cases (show o = .deferred (some []) from hbr)
      have he1 := hr.dropSet hx hn (.deferred none)
      obtain ⟨σ2, w2, hs2, he2⟩ := ok2 w0 base U σ _ { fr with defers := l' } cs hro he1.rel hm hd' hU
      exact ⟨σ2, w2, .head (step_coll hm hfd rfl (run_take ho)) hs2, he1.trans he2⟩
    · cases h1

theorem st_end {b : Frame} {ts : Array Value} {ds : List Deferred} {cs : List Frame} {w : World} (h : b.roundOf = none) : step P (lone (Fr b ts ds []) cs w) = .next (lone { Fr b ts ds [] with mode := .returning } cs w) :=
  step_lone_go (by simp [stepG, stepG.exec, Fr, h])
theorem st_ret {b : Frame} {ts : Array Value} {ds : List Deferred} {k : List Item} {cs : List Frame} {w : World} (h : b.roundOf = none) : step P (lone (Fr b ts ds (.code .ret :: k)) cs w) = .next (lone { Fr b ts ds (.code .ret :: k) with mode := .returning } cs w) :=
  step_lone_go (by simp [stepG, stepG.exec, Fr, h])

/-- a function's body in its frame -/
theorem fnBody_ok (hN : NoCount P) {call : CallF} (hc : CallsOK P ro call) {f : FuncId} {args : List AV} {G G' : AG} {dfr : Bool} {v : AV} {fn : Func} {c : Code} (hfn : P.funcs[f]? = some fn) (hbody : fn.body = some c)
    {region : Nat → Nat → List Oper → Bool → St → Rs} (hev : ∀ (N : Nat) (s : St) (e : Ex) (s' : St), evalC call false N (region N) f c s = .ok e s' → Go1 P ro f dfr false N [.code c] e s s')
    (h : (args0 args 0 .e fun T => fN (lenL args) fun na => fN (br (Nat.ble na fn.ntmps) fn.ntmps na) fun N =>
          match evalC call false N (region N) f c ⟨T, G, []⟩ with
          | .ok e s => (match e with
            | .nx | .rt => runD call s.D s.G fun G => resK P ro s.T G fn.results.toList (.no 64) fun vs => (match vs with | [v] => .ok v G | vs => .ok (.tup vs) G)
            | _ => .no 65)
          | .no c => .no c) = .ok v G') : CallOK P ro (.fn f) args G dfr v G' := by
  obtain ⟨T, h1, hT⟩ := args0_ok args 0 .e (fun T => fN (lenL args) fun na => fN (br (Nat.ble na fn.ntmps) fn.ntmps na) fun N =>
          match evalC call false N (region N) f c ⟨T, G, []⟩ with
          | .ok e s => (match e with
            | .nx | .rt => runD call s.D s.G fun G => resK P ro s.T G fn.results.toList (.no 64) fun vs => (match vs with | [v] => .ok v G | vs => .ok (.tup vs) G)
            | _ => .no 65)
          | .no c => .no c)
  rw [h1, fN_eq, fN_eq, lenL_eq, br_eq] at h
  have hmax : (if Nat.ble args.length fn.ntmps = true then fn.ntmps else args.length) = args.length + (fn.ntmps - args.length) := by
    split
    · rename_i q; have := ble_iff.1 q; omega
    · rename_i q
      have : ¬ (args.length ≤ fn.ntmps) := fun e => q (ble_iff.2 e)
      omega
  rw [hmax] at h
  split at h
  · rename_i e s hes
    have hgo := hev _ _ _ _ hes
    have he : e = .nx ∨ e = .rt := by
      split at h
      · exact .inl rfl
      · exact .inr rfl
      · cases h
    have h2 : (runD call s.D s.G fun G => resK P ro s.T G fn.results.toList (.no 64) fun vs => (match vs with | [v] => .ok v G | vs => .ok (.tup vs) G)) = .ok v G' := by
      rcases he with rfl | rfl <;> exact h
    obtain ⟨G2, h3, hn2, okD⟩ := runD_ok hN hc h2
    obtain ⟨vs, h4, okR⟩ := resK_ok (P := P) (ro := ro) (T := s.T) (no := .no 64) (r := .ok v G') nofun h3
    have hGG : G2 = G' := by split at h4 <;> (cases h4; rfl)
    subst hGG
    have hvv : ∀ (σ : Sub) (xs : List Value), VRs σ vs xs → VR σ v (outOf xs) := by
      intro σ xs hxs
      split at h4
      · cases h4
        obtain ⟨x, xs', rfl, hx, hs⟩ := hxs.cons_inv
        rw [VRs.nil_inv hs]
        exact hx
      · rename_i hne
        cases h4
        have hl := hxs.len
        match xs, hl, hxs with
        | [], _, hxs => show VR σ _ (.tuple _); simp only [VR]; exact ⟨[], hxs, rfl⟩
        | [x], hl, hxs =>
          exfalso
          match vs, hne, hl with
          | [a], hne, _ => exact hne a rfl
        | x :: y :: l, _, hxs => show VR σ _ (.tuple _); simp only [VR]; exact ⟨_, hxs, rfl⟩
    refine ⟨Nat.le_trans hgo.1 hn2, fun w0 base U σ w as hro hr ha hU => ⟨⟨fn, hfn, by rw [hbody]; rfl⟩, fun cs hcs => ?_⟩⟩
    have hal := ha.len
    have hsz : as.size = args.length := by simpa using hal
    let b0 := Frame.enter P f as (dKind dfr)
    let ts0 : Array Value := as ++ Array.replicate (fn.ntmps - as.size) undef
    have hb0 : b0 = Fr b0 ts0 [] ([.code c] ++ []) := by
      simp [b0, ts0, Frame.enter, Fr, hfn, hbody]
    have hts : TR σ T (args.length + (fn.ntmps - args.length)) ts0 := by
      have := hT σ (args.length + (fn.ntmps - args.length)) (Array.replicate (args.length + (fn.ntmps - args.length)) undef) as.toList (TR.start _) ha (by omega)
      have e : (putL (Array.replicate (args.length + (fn.ntmps - args.length)) undef).toList 0 as.toList).toArray = ts0 := by
        apply Array.ext'
        simp [putL, ts0, hsz]
      rw [e] at this
      exact this
    have hfr : FrOK f dfr false b0 cs := ⟨rfl, fun _ => rfl, fun hdf => ⟨by simp [b0, Frame.enter, dKind, hdf], hcs hdf⟩⟩
    obtain ⟨σ1, w1, ts1, ds1, harr, ht1, hd1, he1⟩ := hgo.2 w0 base U σ w b0 [] cs ts0 [] hro hfr hr hts rfl (by omega)
    rw [← hb0] at harr
    have hret : ∃ k', Steps P (lone b0 cs w) (lone { Fr b0 ts1 ds1 k' with mode := .returning } cs w1) := by
      rcases he with rfl | rfl
      · exact ⟨[], harr.trans (.one (st_end rfl))⟩
      · obtain ⟨k', hk'⟩ := harr
        exact ⟨.code .ret :: k', hk'.trans (.one (st_ret rfl))⟩
    obtain ⟨k', hret⟩ := hret
    obtain ⟨σ2, w2, hs2, he2⟩ := okD w0 base U σ1 w1 { Fr b0 ts1 ds1 k' with mode := .returning } cs hro he1.rel rfl hd1 hU
    obtain ⟨xs, hx1, hx2⟩ := okR w0 base U σ2 w2 _ ts1 hro he2.rel (ht1.mono he2.le)
    exact ⟨σ2, w2, _, _, hret.trans hs2, rfl, rfl, rfl, rfl, ⟨fn, hfn, run_results hx1⟩, hvv σ2 xs hx2, he1.trans he2⟩
  · cases h
end frame
end Go.Ev

/-! Ranges over functions and their rounds. -/
namespace Go.Ev
open Go Go.RowKit

theorem Fr_atR (b : Frame) (ts : Array Value) (ds : List Deferred) (k : List Item) : Fr b ts ds k = b.atR ⟨ts, ds⟩ k := rfl

section rf
variable {P : Program} {ro : Nat → Option CB}

/-! ### The loop itself -/
theorem stepR_rangeRound {b : Frame} {a : Act} {k : List Item} {cs : List Frame} {w : World} {g : Operand} {ps : Array Tmp} {assign body : Code} {l : Nat} {mark : List Deferred} {w₁ w₁' w₂ : World} {d : Deferred} {l' : Nat} {f : FuncId} {tm : Array Value} {c1 c2 : Code}
    (he : (Instr.enterLoop b.fn a.tmps ps assign body b.roundOf).run P w = .ok (l, mark) w₁)
    (hres : (resolve a.eval (rangeCall g l) 0).run P w₁ = .ok d w₁') (hinv : (invoke d.target d.args).run P w₁' = .ok (.round l' f tm c1 c2) w₂) :
    step P (lone (b.atR a (.code (.rangeFunc g ps assign body) :: k)) cs w) =
      .next (lone (Frame.round l' f tm c1 c2 .normal) (b.atR { a with defers := mark ++ a.defers } (.inRangeFunc l :: k) :: cs) w₂) :=
  step_lone_go (by
    have hev := Frame.eval_atR b { a with defers := mark ++ a.defers } (.inRangeFunc l :: k)
    simp only [Frame.atR] at hev
    have hres' : Sem.run P (resolve ({ tmps := a.tmps, defers := mark ++ a.defers } : Act).eval { callee := .value g, args := #[.const (.func (.yield l) #[] #[])], argTypes := #[] } 0) w₁ = .ok d w₁' := hres
    simp [stepG, stepG.exec, Frame.atR, Sem.runT_eq, he, GStep.bare_after, stepG.apply, hev, Sem.run_bind, hres', hinv, Result.andThen])
theorem rfA_ok (hN : NoCount P) {call : CallF} (hc : CallsOK P ro call) {self : FuncId} {dfr rnd : Bool} {N : Nat} {f : Operand} {ps : Array Tmp} {a c : Code} {s s' : St} {e : Ex}
    (h : rfA call rnd N self f ps a c s = .ok e s') : Go1 P ro self dfr rnd N [.code (.rangeFunc f ps a c)] e s s' := by
  unfold rfA at h
  obtain ⟨hrn, h⟩ := br_inv' h nofun
  obtain ⟨fa, hfa, h⟩ := opd_inv h nofun
  rw [AG.newK_eq, AG.newK_eq] at h
  split at h
  · rename_i v1 G1 h1
    obtain ⟨hn1, ok1⟩ := callV_ok hN hc h1
    obtain ⟨x, hx, h2⟩ := om_inv h nofun
    split at h2
    · rename_i st pend fn T N' ps' a' c' d'
      have hfin : ∃ st', st' ≠ .busy ∧ st = st' ∧ (AG.setK G1 (s.G.new .defd).nx (some (.loop .exhausted pend fn T N' ps' a' c' d')) fun G => om pend (Rs.ok .nx ⟨s.T, G, .coll s.G.nx :: s.D⟩) fun c => om (exOf c) (.no 59) fun e => .ok e ⟨s.T, G, .coll s.G.nx :: s.D⟩) = .ok e s' := by
        split at h2
        · cases h2
        · rename_i hne
          exact ⟨st, fun e' => hne e', rfl, h2⟩
      obtain ⟨st', hst, rfl, h3⟩ := hfin
      rw [AG.setK_eq, om_eq] at h3
      have hs' : s' = ⟨s.T, G1.set (s.G.new .defd).nx (some (.loop .exhausted pend fn T N' ps' a' c' d')), .coll s.G.nx :: s.D⟩ ∧ ((pend = none ∧ e = .nx) ∨ (∃ cc, pend = some cc ∧ exOf cc = some e)) := by
        cases pend with
        | none => simp only at h3; cases h3; exact ⟨rfl, .inl ⟨rfl, rfl⟩⟩
        | some cc =>
          simp only at h3
          obtain ⟨e1, he1, h4⟩ := om_inv h3 nofun
          cases h4
          exact ⟨rfl, .inr ⟨cc, rfl, he1⟩⟩
      obtain ⟨rfl, hpe⟩ := hs'
      have hnxa : (s.G.new AB.defd).nx.num = s.G.nx.num + 1 := Pth.num_suc _
      have hnxb : ∀ y, ((s.G.new AB.defd).new y).nx.num = s.G.nx.num + 2 := fun y => by
        have : ((s.G.new AB.defd).new y).nx.num = (s.G.new AB.defd).nx.num + 1 := Pth.num_suc _
        omega
      rw [hnxb] at hn1
      have hG1 : ∀ y, (G1.set (s.G.new .defd).nx y).nx.num = G1.nx.num := fun _ => rfl
      refine ⟨by rw [hG1]; omega, fun w0 base U σ w b k cs ts ds hro hf hr ht hd hU => ?_⟩
      rw [hG1] at hU
      have hb := hf.2.1 hrn
      -- the two blocks
      have e1 := hr.newB (c := 0) (x := .defd) (o := .deferred (some [])) (by omega) rfl
      let σ1 := σ.upd s.G.nx w.heap.size 0
      let w1 : World := { w with heap := w.heap.push (.deferred (some [])) }
      have hsz1 : w1.heap.size = w.heap.size + 1 := by simp [w1]
      have hσ2 := Sub.upd_le (e1.rel.undef (s.G.new .defd).nx (Nat.le_refl _) (by omega)) w1.heap.size 0
      have e2 := e1.rel.newB (c := 0) (x := .loop .ready none self s.T N ps a c s.G.nx) (o := .loop { state := .ready, pending := none, fn := self, tmps := ts, params := ps, assign := a, body := c, defers := w.heap.size }) (by omega)
        ⟨ts, w.heap.size, (hσ2.1 _ _ (Sub.upd_at ..)).1, rfl, (ht.mono e1.le).mono hσ2⟩
      have e12 := e1.trans e2
      have hbd : (σ1.upd (s.G.new .defd).nx w1.heap.size 0).blk (s.G.new .defd).nx = some w1.heap.size := Sub.upd_at ..
      obtain ⟨n, hn, hor⟩ := ok1 w0 base U _ _ (Act.eval ⟨ts, ds⟩ f) #[.func (.yield w1.heap.size) #[] #[]] hro e12.rel (VR.mono e12.le _ _ (hfa.ok (act := ⟨ts, ds⟩) ht))
        (VRs.cons (by simp only [VR]; exact ⟨_, hbd, rfl⟩) VRs.nil) hU
      have henter : (Instr.enterLoop b.fn ts ps a c b.roundOf).run P w = .ok (w.heap.size + 1, [{ target := .collected w.heap.size, args := #[] }]) { w1 with heap := w1.heap.push (.loop { state := .ready, pending := none, fn := self, tmps := ts, params := ps, assign := a, body := c, defers := w.heap.size }) } := by
        rw [hb, run_enterLoop_outer, hf.1]
        rfl
      have hres : ∃ dd, (Deferred.ofValue (Act.eval ⟨ts, ds⟩ f) #[.func (.yield w1.heap.size) #[] #[]]).run P { w1 with heap := w1.heap.push (.loop { state := .ready, pending := none, fn := self, tmps := ts, params := ps, assign := a, body := c, defers := w.heap.size }) } = .ok dd { w1 with heap := w1.heap.push (.loop { state := .ready, pending := none, fn := self, tmps := ts, params := ps, assign := a, body := c, defers := w.heap.size }) } ∧ (invoke dd.target dd.args).run P { w1 with heap := w1.heap.push (.loop { state := .ready, pending := none, fn := self, tmps := ts, params := ps, assign := a, body := c, defers := w.heap.size }) } = .ok n { w1 with heap := w1.heap.push (.loop { state := .ready, pending := none, fn := self, tmps := ts, params := ps, assign := a, body := c, defers := w.heap.size }) } := by
        rw [Sem.run_bind] at hn
        unfold Deferred.ofValue at hn ⊢
        split at hn
        · exact ⟨_, rfl, hn⟩
        · exact ⟨_, rfl, hn⟩
        · cases hn
      obtain ⟨dd, hd1, hd2⟩ := hres
      rcases hor with ⟨g, bs, rfl, run⟩ | ⟨l, g, tm, a1, c1, rfl, run⟩
      · have hstep := stepR_rangeFunc (P := P) (b := b) (a := ⟨ts, ds⟩) (k := k) (cs := cs) (w := w) (g := f) (ps := ps) (assign := a) (body := c) henter (d := dd) (by
            simp only [resolve, List.map_toArray, List.map_cons, List.map_nil, Act.eval]
            rw [hsz1] at hd1
            exact hd1) hd2
        obtain ⟨σ3, w3, y, hs, _, e3⟩ := run (b.atR { tmps := ts, defers := [{ target := .collected w.heap.size, args := #[] }] ++ ds } (.inRangeFunc (w.heap.size + 1) :: k)) cs
        rw [finish_atR_inRangeFunc] at hs
        -- the loop ends
        obtain ⟨_, m, o, hm, _, ho, tsl, nl, hnl, rfl, htl⟩ := e3.rel.blk _ _ hx
        have hm' : m = w.heap.size + 1 := by
          have := (e3.le.1 _ _ hbd).1
          rw [hm] at this
          rw [← hsz1]
          exact (Option.some.inj this)
        subst hm'
        have hend := run_endLoop (P := P) ho hst
        have e4 := e3.rel.setB hx hm (x' := .loop .exhausted pend fn T N' ps' a' c' d') (o' := .loop { state := .exhausted, pending := pend, fn := fn, tmps := tsl, params := ps', assign := a', body := c', defers := nl }) ⟨tsl, nl, hnl, rfl, htl⟩
        have e1234 := (e12.trans e3).trans e4
        have hdef : (σ1.upd (s.G.new .defd).nx w1.heap.size 0).blk s.G.nx = some w.heap.size := (hσ2.1 _ _ (Sub.upd_at ..)).1
        refine ⟨σ3, _, ts, { target := .collected w.heap.size, args := #[] } :: ds, ?_, ht.mono e1234.le, ⟨w.heap.size, #[], ds, rfl, (e3.le.1 _ _ hdef).1, hd.mono e1234.le⟩, e1234⟩
        have hsteps : Steps P (lone (Fr b ts ds ([.code (.rangeFunc f ps a c)] ++ k)) cs w) (lone (b.atR { tmps := ts, defers := [{ target := .collected w.heap.size, args := #[] }] ++ ds } ((pend.map Item.code).toList ++ k)) cs _) :=
          .head hstep (hs.trans (.one (stepR_endRangeFunc hend)))
        rcases hpe with ⟨rfl, rfl⟩ | ⟨cc, rfl, hcc⟩
        · exact hsteps
        · cases cc <;> simp only [exOf] at hcc <;> first | (cases hcc; done) | skip
          · cases hcc; exact ⟨k, hsteps, rfl⟩
          · cases hcc; exact ⟨k, hsteps⟩
      · have hstep := stepR_rangeRound (P := P) (b := b) (a := ⟨ts, ds⟩) (k := k) (cs := cs) (w := w) (g := f) (ps := ps) (assign := a) (body := c) henter (d := dd) (by
            simp only [resolve, List.map_toArray, List.map_cons, List.map_nil, Act.eval]
            rw [hsz1] at hd1
            exact hd1) hd2
        obtain ⟨σ3, w3, y, hs, _, e3⟩ := run (b.atR { tmps := ts, defers := [{ target := .collected w.heap.size, args := #[] }] ++ ds } (.inRangeFunc (w.heap.size + 1) :: k)) cs
        rw [finish_atR_inRangeFunc] at hs
        -- the loop ends
        obtain ⟨_, m, o, hm, _, ho, tsl, nl, hnl, rfl, htl⟩ := e3.rel.blk _ _ hx
        have hm' : m = w.heap.size + 1 := by
          have := (e3.le.1 _ _ hbd).1
          rw [hm] at this
          rw [← hsz1]
          exact (Option.some.inj this)
        subst hm'
        have hend := run_endLoop (P := P) ho hst
        have e4 := e3.rel.setB hx hm (x' := .loop .exhausted pend fn T N' ps' a' c' d') (o' := .loop { state := .exhausted, pending := pend, fn := fn, tmps := tsl, params := ps', assign := a', body := c', defers := nl }) ⟨tsl, nl, hnl, rfl, htl⟩
        have e1234 := (e12.trans e3).trans e4
        have hdef : (σ1.upd (s.G.new .defd).nx w1.heap.size 0).blk s.G.nx = some w.heap.size := (hσ2.1 _ _ (Sub.upd_at ..)).1
        refine ⟨σ3, _, ts, { target := .collected w.heap.size, args := #[] } :: ds, ?_, ht.mono e1234.le, ⟨w.heap.size, #[], ds, rfl, (e3.le.1 _ _ hdef).1, hd.mono e1234.le⟩, e1234⟩
        have hsteps : Steps P (lone (Fr b ts ds ([.code (.rangeFunc f ps a c)] ++ k)) cs w) (lone (b.atR { tmps := ts, defers := [{ target := .collected w.heap.size, args := #[] }] ++ ds } ((pend.map Item.code).toList ++ k)) cs _) :=
          .head hstep (hs.trans (.one (stepR_endRangeFunc hend)))
        rcases hpe with ⟨rfl, rfl⟩ | ⟨cc, rfl, hcc⟩
        · exact hsteps
        · cases cc <;> simp only [exOf] at hcc <;> first | (cases hcc; done) | skip
          · cases hcc; exact ⟨k, hsteps, rfl⟩
          · cases hcc; exact ⟨k, hsteps⟩
    · cases h2
  · cases h

/-! ### A round -/
theorem layA_inv {N : Nat} {no r : Rf} (hne : no ≠ r) : ∀ {ps : List Nat} {args : List AV} {T : Tr AV} {K : Tr AV → Rf}, layA N ps args T no K = r → ∃ T', K T' = r ∧
    ∀ (σ : Sub) (ts : Array Value) (vs : List Value), TR σ T N ts → VRs σ args vs → TR σ T' N ((ps.zip vs).foldl (fun tmps (p : Nat × Value) => tmps.setIfInBounds p.1 p.2) ts)
  | [], args, T, K, h => ⟨T, h, fun σ ts vs ht _ => by simpa using ht⟩
  | p :: ps, [], T, K, h => absurd h hne
  | p :: ps, a :: args, T, K, h => by
    have h' : setT N T p a no (fun T => layA N ps args T no K) = r := h
    obtain ⟨hp, h1⟩ := setT_inv h' hne
    obtain ⟨T', h2, ok⟩ := layA_inv hne h1
    refine ⟨T', h2, fun σ ts vs ht hv => ?_⟩
    obtain ⟨x, xs, rfl, hx, hs⟩ := hv.cons_inv
    rw [List.zip_cons_cons, List.foldl_cons]
    exact ok σ _ xs (ht.put hx hp) hs
theorem midA_inv {b : Pth} {r : Rs} {K : St → Rf} {v : AV} {G' : AG} (h : midA b r K = .ok v G') :
    ∃ s pend fn T N ps a c d, r = .ok .nx s ∧ s.G.get b = some (.loop .ready pend fn T N ps a c d) ∧ K ⟨s.T, s.G.set b (some (.loop .busy pend fn T N ps a c d)), s.D⟩ = .ok v G' := by
  unfold midA at h
  split at h
  · split at h
    · obtain ⟨x, hx, h1⟩ := om_inv h nofun
      split at h1
      · split at h1
        · rw [AG.setK_eq] at h1
          exact ⟨_, _, _, _, _, _, _, _, _, rfl, hx, h1⟩
        · cases h1
      · cases h1
    · cases h
  · cases h
/-- how a round ends -/
def endsOf : Ex → LoopState × Option Code × Bool
  | .nx => (.ready, none, true)
  | .ex j => (.done, some (.exit j), false)
  | .rt => (.done, some .ret, false)
theorem endA_inv {b : Pth} {r : Rs} {v : AV} {G' : AG} (h : endA b r = .ok v G') :
    ∃ e s st pend fn T N ps a c d, r = .ok e s ∧ s.G.get b = some (.loop st pend fn T N ps a c d) ∧ v = .bool (endsOf e).2.2 ∧ G' = s.G.set b (some (.loop (endsOf e).1 (endsOf e).2.1 fn T N ps a c d)) := by
  unfold endA at h
  split at h
  · obtain ⟨x, hx, h1⟩ := om_inv h nofun
    split at h1
    · split at h1
      · rw [AG.setK_eq] at h1; cases h1; exact ⟨_, _, _, _, _, _, _, _, _, _, _, rfl, hx, rfl, rfl⟩
      · rw [AG.setK_eq] at h1; cases h1; exact ⟨_, _, _, _, _, _, _, _, _, _, _, rfl, hx, rfl, rfl⟩
      · rw [AG.setK_eq] at h1; cases h1; exact ⟨_, _, _, _, _, _, _, _, _, _, _, rfl, hx, rfl, rfl⟩
    · cases h1
  · cases h
theorem zip_foldl (ps : Array Nat) (as : Array Value) (ts : Array Value) : (ps.zip as).foldl (fun tmps (t, a) => tmps.setIfInBounds t a) ts = (ps.toList.zip as.toList).foldl (fun tmps (p : Nat × Value) => tmps.setIfInBounds p.1 p.2) ts := by
  rw [← Array.foldl_toList, Array.toList_zip]

theorem yield_ok {call : CallF} {b : Pth} {args : List AV} {G G' : AG} {v : AV} {ev : FuncId → Nat → Code → St → Rs}
    (hev : ∀ (self : FuncId) (N : Nat) (c : Code) (s : St) (e : Ex) (s' : St), ev self N c s = .ok e s' → Go1 P ro self false true N [.code c] e s s')
    (h : om (G.get b) (.no 67) (fun x => (match x with
      | .loop st _ fn T N ps assign body _ => (match st with
        | .ready => br (Nat.beq (lenL args) ps.size)
          (layA N ps.toList args T (.no 71) fun T => midA b (ev fn N assign ⟨T, G, []⟩) fun s => endA b (ev fn N body s))
          (.no 71)
        | _ => .no 72)
      | _ => .no 67)) = .ok v G') : CallOK P ro (.yield b) args G false v G' := by
  obtain ⟨x, hx, h1⟩ := om_inv h nofun
  split at h1
  · rename_i st pend0 fn T N ps asg bdy df
    split at h1
    · obtain ⟨hlen, h2⟩ := br_inv h1 nofun
      obtain ⟨T', h3, hT⟩ := layA_inv (no := .no 71) (r := .ok v G') nofun h2
      obtain ⟨s1, pend1, fn1, T1, N1, ps1, a1, c1, d1, hasg, hb1, h4⟩ := midA_inv h3
      obtain ⟨e, s2, st2, pend2, fn2, T2, N2, ps2, a2, c2, d2, hbd, hb2, rfl, rfl⟩ := endA_inv h4
      have g1 := hev _ _ _ _ _ _ hasg
      have g2 := hev _ _ _ _ _ _ hbd
      have n1 := g1.1
      have n2 := g2.1
      have hlen' : args.length = ps.size := by rw [← lenL_eq]; exact beq_iff.1 hlen
      refine ⟨Nat.le_trans n1 n2, fun w0 base U σ w as hro hr ha hU n hn => ?_⟩
      obtain ⟨_, n', o, hn', _, ho, tsl, nl, hnl, rfl, htl⟩ := hr.blk b _ hx
      rw [hn] at hn'; cases hn'
      have hy := run_yield (P := P) (args := as) ho (by
        have := ha.len
        simp only [Array.length_toList] at this
        rw [this, hlen'])
      refine ⟨_, _, _, _, hy, fun fr cs => ?_⟩
      simp only
      rw [zip_foldl]
      have ht1 := hT σ tsl as.toList htl ha
      let b0 : Frame := Frame.round n fn ((ps.toList.zip as.toList).foldl (fun tmps (p : Nat × Value) => tmps.setIfInBounds p.1 p.2) tsl) asg bdy .normal
      have hb0 : b0 = Fr b0 ((ps.toList.zip as.toList).foldl (fun tmps (p : Nat × Value) => tmps.setIfInBounds p.1 p.2) tsl) [] ([.code asg] ++ [.beginRound, .code bdy]) := rfl
      have hfr : FrOK fn false true b0 (fr :: cs) := ⟨rfl, nofun, nofun⟩
      obtain ⟨σ1, w1, ts1, ds1, harr1, htt1, hdd1, e1⟩ := g1.2 w0 base U σ w b0 [.beginRound, .code bdy] (fr :: cs) _ [] hro hfr hr ht1 rfl (by
        have : (s1.G.set b (some (.loop .busy pend1 fn1 T1 N1 ps1 a1 c1 d1))).nx.num = s1.G.nx.num := rfl
        have h5 : (s2.G.set b (some (.loop (endsOf e).1 (endsOf e).2.1 fn2 T2 N2 ps2 a2 c2 d2))).nx.num = s2.G.nx.num := rfl
        have h6 : s1.G.nx.num ≤ s2.G.nx.num := n2
        omega)
      rw [← hb0] at harr1
      have hnb1 := (e1.le.1 b n hn).1
      obtain ⟨_, m1, o1, hm1, _, ho1, tsl1, nl1, hnl1, rfl, htl1⟩ := e1.rel.blk b _ hb1
      rw [hnb1] at hm1; cases hm1
      have hbeg := run_beginRound (P := P) ho1 rfl
      have e2 := e1.rel.setB hb1 hnb1 (x' := .loop .busy pend1 fn1 T1 N1 ps1 a1 c1 d1) (o' := .loop { state := .busy, pending := pend1, fn := fn1, tmps := tsl1, params := ps1, assign := a1, body := c1, defers := nl1 }) ⟨tsl1, nl1, hnl1, rfl, htl1⟩
      have hsb : step P (lone (Fr b0 ts1 ds1 ([.beginRound] ++ [.code bdy])) (fr :: cs) w1) = .next (lone (Fr b0 ts1 ds1 [.code bdy]) (fr :: cs) _) := stepR_beginRound (P := P) (b := b0) (a := ⟨ts1, ds1⟩) (k := [.code bdy]) (cs := fr :: cs) rfl hbeg
      obtain ⟨σ3, w3, ts3, ds3, harr3, htt3, hdd3, e3⟩ := g2.2 w0 base U σ1 _ b0 [] (fr :: cs) ts1 ds1 hro hfr e2.rel htt1 hdd1 hU
      have hnb3 := (e3.le.1 b n hnb1).1
      obtain ⟨_, m3, o3, hm3, _, ho3, tsl3, nl3, hnl3, rfl, htl3⟩ := e3.rel.blk b _ hb2
      rw [hnb3] at hm3; cases hm3
      have hendr : ∀ j, (Instr.endRound n j).run P w3 = _ := fun j => run_endRound (P := P) j ho3
      have e4 := e3.rel.setB hb2 hnb3 (x' := .loop (endsOf e).1 (endsOf e).2.1 fn2 T2 N2 ps2 a2 c2 d2) (o' := .loop { state := (endsOf e).1, pending := (endsOf e).2.1, fn := fn2, tmps := tsl3, params := ps2, assign := a2, body := c2, defers := nl3 }) ⟨tsl3, nl3, hnl3, rfl, htl3⟩
      refine ⟨σ3, _, .bool (endsOf e).2.2, ?_, by simp only [VR], ((e1.trans e2).trans e3).trans e4⟩
      refine Steps.trans harr1 (.head hsb ?_)
      cases e with
      | nx =>
        have := stepR_round_end (P := P) (b := b0) (a := ⟨ts3, ds3⟩) (c := fr) (cs := cs) rfl rfl (hendr none)
        exact Steps.trans harr3 (.one this)
      | ex j =>
        obtain ⟨k', hk1, hk2⟩ := harr3
        have := stepR_round_exit (P := P) (b := b0) (a := ⟨ts3, ds3⟩) (k := k') (c := fr) (cs := cs) (id := j) rfl rfl (by rw [hk2]; rfl) (hendr _)
        exact Steps.trans hk1 (.one this)
      | rt =>
        obtain ⟨k', hk1⟩ := harr3
        have := stepR_round_ret (P := P) (b := b0) (a := ⟨ts3, ds3⟩) (k := k') (c := fr) (cs := cs) rfl rfl (hendr _)
        exact Steps.trans hk1 (.one this)
    · cases h1
  · cases h1
end rf
end Go.Ev

/-! All calls: what the evaluator finds, the machine does. -/
namespace Go.Ev
open Go Go.RowKit

section all
variable {P : Program} {ro : Nat → Option CB} {ctr : FuncId → Option (List AV → AG → Rf)} {regionF : CallF → Bool → Bool → Nat → FuncId → Nat → List Oper → Bool → St → Rs}
/-- a way of running regions that is right -/
def RegionsOK (P : Program) (ro : Nat → Option CB) (regionF : CallF → Bool → Bool → Nat → FuncId → Nat → List Oper → Bool → St → Rs) : Prop :=
  ∀ call, CallsOK P ro call → ∀ dfr rnd N self id (ops : Array Oper) draw s e s', regionF call dfr rnd N self id ops.toList draw s = .ok e s' → Go1 P ro self dfr rnd N [.code (.region id ops draw)] e s s'
def CtrOK (P : Program) (ro : Nat → Option CB) (ctr : FuncId → Option (List AV → AG → Rf)) : Prop :=
  ∀ f k, ctr f = some k → ∀ args G v G', k args G = .ok v G' → CallOK P ro (.fn f) args G false v G'

theorem fnOf_some {f : FuncId} {fn : Func} (h : fnOf P f = some fn) : P.funcs[f]? = some fn := by
  unfold fnOf at h
  rw [nthL_eq] at h
  simpa using h

theorem callN_ok (hN : NoCount P) (hctr : CtrOK P ro ctr) (hreg : RegionsOK P ro regionF) : ∀ n, CallsOK P ro (callN P ro ctr regionF n)
  | 0 => fun who args G dfr v G' h => by cases h
  | n + 1 => fun who args G dfr v G' h => by
    have ih := callN_ok hN hctr hreg n
    have hev : ∀ (dfr rnd : Bool) (self : FuncId) (N : Nat) (c : Code) (s : St) (e : Ex) (s' : St), evalC (callN P ro ctr regionF n) rnd N (regionF (callN P ro ctr regionF n) dfr rnd N self) self c s = .ok e s' → Go1 P ro self dfr rnd N [.code c] e s s' :=
      fun dfr rnd self N c s e s' h => evalC_ok (fun id ops draw s e s' h => hreg _ ih dfr rnd N self id ops draw s e s' h) (fun f ps a bd s e s' h => rfA_ok hN ih h) c s e s' h
    cases who with
    | fn f =>
      have h' : om (ctr f)
        (om (fnOf P f) (.no 63) fun fn => om fn.body (.no 1000) fun c =>
          args0 args 0 .e fun T => fN (lenL args) fun na => fN (br (Nat.ble na fn.ntmps) fn.ntmps na) fun N =>
          match evalC (callN P ro ctr regionF n) false N (regionF (callN P ro ctr regionF n) dfr false N f) f c ⟨T, G, []⟩ with
          | .ok e s => (match e with
            | .nx | .rt => runD (callN P ro ctr regionF n) s.D s.G fun G => resK P ro s.T G fn.results.toList (.no 64) fun vs => (match vs with | [v] => .ok v G | vs => .ok (.tup vs) G)
            | _ => .no 65)
          | .no c => .no c)
        (fun k => br dfr (.no 66) (k args G)) = .ok v G' := h
      rw [om_eq] at h'
      cases hk : ctr f with
      | some k =>
        rw [hk] at h'
        obtain ⟨hd, h1⟩ := br_inv' h' nofun
        subst hd
        exact hctr f k hk args G v G' h1
      | none =>
        rw [hk] at h'
        obtain ⟨fn, hfn, h1⟩ := om_inv h' nofun
        obtain ⟨c, hb, h2⟩ := om_inv h1 nofun
        exact fnBody_ok hN ih (fnOf_some hfn) hb (region := fun N => regionF (callN P ro ctr regionF n) dfr false N f) (fun N s e s' h => hev dfr false f N c s e s' h) h2
    | yield b =>
      have h' : br dfr (.no 74) (om (G.get b) (.no 67) fun x => (match x with
        | .loop st _ fn T N ps assign body _ => (match st with
          | .ready => br (Nat.beq (lenL args) ps.size)
            (layA N ps.toList args T (.no 71) fun T => midA b (evalC (callN P ro ctr regionF n) true N (regionF (callN P ro ctr regionF n) false true N fn) fn assign ⟨T, G, []⟩) fun s => endA b (evalC (callN P ro ctr regionF n) true N (regionF (callN P ro ctr regionF n) false true N fn) fn body s))
            (.no 71)
          | _ => .no 72)
        | _ => .no 67)) = .ok v G' := h
      obtain ⟨hd, h1⟩ := br_inv' h' nofun
      subst hd
      exact yield_ok (call := callN P ro ctr regionF n) (ev := fun self N c s => evalC (callN P ro ctr regionF n) true N (regionF (callN P ro ctr regionF n) false true N self) self c s) (fun self N c s e s' h => hev false true self N c s e s' h) h1
end all

/-! ### A whole call -/
/-- a start that knows nothing -/
noncomputable def G0 : AG := ⟨.e, .h⟩
theorem Rel.start {w : World} {base : Nat} (hb : base ≤ w.heap.size) (U : Nat) : Rel w base U ⟨fun _ => none, fun _ => 0, fun _ => none⟩ G0 w :=
  ⟨⟨rfl, rfl, rfl, Nat.le_refl _, fun _ _ => rfl⟩, fun b x h => (by unfold AG.get G0 at h; rw [getP_e] at h; cases h), fun b b' x x' n h => (by unfold AG.get G0 at h; rw [getP_e] at h; cases h), fun _ _ _ => rfl, hb⟩

/-- a call without arguments that the evaluator finds true -/
theorem calls_true {P : Program} {ro : Nat → Option CB} {call : CallF} (hc : CallsOK P ro call) {f : FuncId} {G' : AG} (h : call (.fn f) [] G0 false = .ok (.bool true) G') (w : World) (hro : RoOK ro w w.heap.size) :
    Calls P f #[] w fun e w' => e = .returned (.bool true) ∧ Below w.heap.size w w' := by
  obtain ⟨_, ok⟩ := hc _ _ _ _ _ _ h
  obtain ⟨_, run⟩ := ok w w.heap.size G'.nx.num _ w #[] hro (Rel.start (Nat.le_refl _) _) VRs.nil (Nat.le_refl _)
  intro cs
  obtain ⟨σ', w', x, fr, hs, hm, hd, hk, hf, hres, hv, he⟩ := run cs nofun
  simp only [VR] at hv
  subst hv
  refine ⟨.returned (.bool true), w', fr, ⟨rfl, he.rel.below⟩, hs, hf, hm, hd, hk, ?_⟩
  rw [hf]; exact hres
end Go.Ev

