/- Regions that draw their order: evaluated once, in the order of the text, and checked so that every order gives the same. -/
import Derived.Test.YtnipnoffofoedaaGreatDoorEvD
import Derived.Orders
namespace Go.Ev
open Go Go.RowKit

/-! ### What does not hang on the run: ancestors, slots -/
/-- does an edge bind in every order -/
def bindsA (e : Edge) : Bool := Region.binds .any e
/-- the ancestors of an operation, as bits: those of its edges, and their own -/
def maskE (acc : List Nat) : List Edge → Option Nat
  | [] => some 0
  | e :: es => if bindsA e then (match acc[e.on]?, maskE acc es with | some a, some r => some (Nat.lor (Nat.lor (2 ^ e.on) a) r) | _, _ => none) else maskE acc es
def masksGo : List Oper → List Nat → Option (List Nat)
  | [], acc => some acc
  | o :: l, acc => match maskE acc o.after.toList with | some m => masksGo l (acc ++ [m]) | none => none
def tmpsOf (l : List Operand) : List Nat := l.filterMap fun | .tmp t => some t | _ => none
/-- the slots that an operation looks at -/
def looksO (ops : List Oper) (o : Oper) : List Nat :=
  tmpsOf o.op.operands.toList ++ (match o.guard with | some (g, _) => ((ops[g]?).bind (·.dst)).toList | none => [])
/-- the slots of two operations have nothing to do with one another -/
def apartO (ops : List Oper) (x y : Oper) : Bool :=
  (match x.dst with | some d => !(looksO ops y).contains d && y.dst != some d | none => true) && (match y.dst with | some d => !(looksO ops x).contains d | none => true)
/-- every two operations with a slot in common are ordered -/
def apartOne (ops : List Oper) (y : Oper) (m : Nat) : List Oper → Nat → Bool
  | [], _ => true
  | x :: l, j => (m.testBit j || apartO ops x y) && apartOne ops y m l (j + 1)
def apartAll (ops : List Oper) : List Oper → List Nat → List Oper → Bool
  | [], _, _ => true
  | y :: l, m :: ms, seen => apartOne ops y m seen 0 && apartAll ops l ms (seen ++ [y])
  | _, [], _ => false
def isSel (op : Op) : Bool := match op with | .select _ _ => true | _ => false
/-- the masks of a region whose slots are in order -/
def maskOK (ops : List Oper) : Option (List Nat) :=
  match masksGo ops [] with
  | some ms => if apartAll ops ops ms [] && ops.all (fun o => !isSel o.op) then some ms else none
  | none => none

inductive Cls where
  | pl   -- a value, and nothing else
  | nw   -- a new block
  | act
def clsO (op : Op) : Cls := match op with
  | .move _ | .assign _ | .pick .. | .load .. | .nilCheck _ | .binOp .. | .unOp .. | .convert .. | .sliceToArrayPointer .. | .makeInterface .. | .makeFunc .. | .slice .. | .fieldAddr .. | .field .. | .indexAddr .. | .index ..
  | .lookup .. | .typeAssert .. | .extract .. | .build .. => .pl
  | .alloc _ | .box .. | .buildSlice .. | .makeSlice .. | .makeMap .. => .nw
  | .call { callee := .builtin .len, .. } => .pl
  | .call { callee := .builtin .cap, .. } => .pl
  | .call { callee := .builtin .min, .. } => .pl
  | .call { callee := .builtin .max, .. } => .pl
  | _ => .act
/-- an operation that reads the memory and turns nothing -/
def isRead (op : Op) : Bool := match op with
  | .load .. | .lookup .. | .binOp .. => true
  | .call { callee := .builtin .len, .. } => true
  | _ => false
def countN : List Oper → Nat
  | [] => 0
  | o :: l => (match clsO o.op with | .nw => 1 | _ => 0) + countN l

/-! ### Values that are the same -/
mutual
noncomputable def eqAV : AV → AV → Bool
  | .int j x, .int k y => kEq j k && iEq x y
  | .bool x, .bool y => x == y
  | .str x, .str y => x == y
  | .nilp, .nilp => true
  | .ptr b o, .ptr c p => pEq b c && o == p
  | .gptr b o, .gptr c p => b == c && o == p
  | .nils, .nils => true
  | .sl b o n (.ex c), .sl b' o' n' (.ex c') => pEq b b' && o == o' && n == n' && c == c'
  | .sl b o n (.op c), .sl b' o' n' (.op c') => pEq b b' && o == o' && n == n' && c == c'
  | .agg l, .agg m => eqAVs l m
  | .tup l, .tup m => eqAVs l m
  | .nili, .nili => true
  | .iface t x, .iface u y => t == u && eqAV x y
  | .nilf, .nilf => true
  | .map b, .map c => pEq b c
  | .nilm, .nilm => true
  | .func f a c, .func g b d => f == g && eqAVs a b && eqAVs c d
  | _, _ => false
noncomputable def eqAVs : List AV → List AV → Bool
  | [], [] => true
  | a :: l, b :: m => eqAV a b && eqAVs l m
  | _, _ => false
end

/-! ### The run -/
/-- the slots of an operation's operands, and no others -/
noncomputable def restrT (T : Tr AV) (l : List Operand) : Tr AV :=
  List.rec .e (fun x _ r => match x with | .tmp t => om (getP (pathOf t) T) r fun v => setP (pathOf t) r (some v) fun r => r | _ => r) l
abbrev Pend := List (Nat × Pth × AB)
abbrev Opn := List (Nat × Oper × Tr AV × AV)
abbrev Hist := List (Nat × AG)
noncomputable def sucN {R : Type} (n : Nat) : Pth → (Pth → R) → R := Nat.rec (motive := fun _ => Pth → (Pth → R) → R) (fun p K => K p) (fun _ ih p K => sucK p fun q => ih q K) n
/-- blocks are laid into the memory, those that stand among the ancestors -/
noncomputable def adopt {R : Type} (m : Nat) (p : Pend) : AG → (AG → Pend → R) → R :=
  List.rec (motive := fun _ => AG → (AG → Pend → R) → R) (fun G K => K G []) (fun q _ ih G K => br (Nat.testBit m q.1) (G.setK q.2.1 (some q.2.2) fun G => ih G K) (ih G fun G r => K G (q :: r))) p
noncomputable def adoptAll {R : Type} (p : Pend) : AG → (AG → R) → R :=
  List.rec (motive := fun _ => AG → (AG → R) → R) (fun G K => K G) (fun q _ ih G K => G.setK q.2.1 (some q.2.2) fun G => ih G K) p

section draw
variable (P : Program) (ro : Nat → Option CB) (call : CallF) (dfr rnd : Bool) (N : Nat)
/-- a value read in a memory is v -/
noncomputable def sameIn {R : Type} (o : Oper) (T : Tr AV) (G : AG) (v : AV) (no yes : R) : R := match aop o.op P ro T G with
  | .ok u _ => br (eqAV v u) yes no
  | .no _ => no
/-- at all stages back to the last ancestor -/
noncomputable def backTo {R : Type} (o : Oper) (T : Tr AV) (v : AV) (m : Nat) (h : Hist) (no yes : R) : R :=
  List.rec (motive := fun _ => R) yes (fun q _ ih => sameIn P ro o T q.2 v no (br (Nat.testBit m q.1) yes ih)) h
/-- after an operation that acts: the reads that may still come -/
noncomputable def reRead {R : Type} (m : Nat) (G : AG) (l : Opn) (no : R) : (Opn → R) → R :=
  List.rec (motive := fun _ => (Opn → R) → R) (fun K => K []) (fun q _ ih K => br (Nat.testBit m q.1) (ih K) (sameIn P ro q.2.1 q.2.2.1 G q.2.2.2 no (ih fun r => K (q :: r)))) l

noncomputable def drawA (ops : List Oper) (l : List (Oper × Nat)) : Nat → Tr AV → AG → List ADef → Pth → Pend → Opn → Hist → Nat → Rs :=
  List.rec (motive := fun _ => Nat → Tr AV → AG → List ADef → Pth → Pend → Opn → Hist → Nat → Rs)
    (fun _ T G D _ p _ _ _ => adoptAll p G fun G => .ok .nx ⟨T, G, D⟩)
    (fun om _ ih i T G D pool p opn hist xs => wantK T ops om.1.guard (.no 80)
      (match clsO om.1.op with
        | .pl => (match aop om.1.op P ro (restrT T om.1.op.operands.toList) ⟨.e, .h⟩ with
          | .ok v G' => br (pEq G'.nx .h) (setD N T om.1.dst v (.no 81) fun T => ih (Nat.succ i) T G D pool p opn hist xs) (.no 82)
          | .no _ => (match aop om.1.op P ro (restrT T om.1.op.operands.toList) G with
            | .ok v _ => br (isRead om.1.op) (backTo P ro om.1 (restrT T om.1.op.operands.toList) v om.2 hist (.no 83) (setD N T om.1.dst v (.no 81) fun T' =>
                ih (Nat.succ i) T' G D pool p ((i, om.1, restrT T om.1.op.operands.toList, v) :: opn) hist xs)) (.no 89)
            | .no c => .no c))
        | .nw => (match aop om.1.op P ro (restrT T om.1.op.operands.toList) ⟨.e, pool⟩ with
          | .ok v G' => sucK pool fun pool' => br (pEq G'.nx pool') (Go.Ev.om (G'.get pool) (.no 84) fun x => setD N T om.1.dst v (.no 81) fun T => ih (Nat.succ i) T G D pool' ((i, pool, x) :: p) opn hist xs) (.no 82)
          | .no c => .no c)
        | .act => br (Nat.beq (Nat.land xs om.2) xs) (adopt om.2 p G fun G p =>
            match operV P ro call dfr rnd om.1 (restrT T om.1.op.operands.toList) G D with
            | .ok v G D => reRead P ro om.2 G opn (.no 85) fun opn => setD N T om.1.dst v (.no 81) fun T => fN (Nat.lor xs (Nat.pow 2 i)) fun xs => ih (Nat.succ i) T G D pool p opn ((i, G) :: hist) xs
            | .no c => .no c) (.no 86))
      (setD N T om.1.dst undefA (.no 87) fun T => ih (Nat.succ i) T G D pool p opn hist xs)) l
end draw

/-- regions, whether they draw their order or not -/
noncomputable def regionD (P : Program) (ro : Nat → Option CB) : CallF → Bool → Bool → Nat → FuncId → Nat → List Oper → Bool → St → Rs :=
  fun call dfr rnd N _ _ ops draw s => br draw
    (Go.Ev.om (maskOK ops) (.no 88) fun ms => sucN (countN ops) s.G.nx fun nx => drawA P ro call dfr rnd N ops (ops.zip ms) 0 s.T ⟨s.G.t, nx⟩ s.D s.G.nx [] [] [(ops.length, ⟨s.G.t, nx⟩)] 0)
    (opsA P ro call dfr rnd N ops ops s)
end Go.Ev

/-! What is needed to show that a region's order does not matter: ancestors, slots, memories that are moved on. -/
namespace Go.Ev
open Go Go.RowKit

/-! ### Ancestors -/
theorem maskE_spec {acc : List Nat} : ∀ {es : List Edge} {m : Nat}, maskE acc es = some m →
    (∀ e ∈ es, bindsA e = true → e.on < acc.length) ∧ (∀ j, m.testBit j = true → ∃ e ∈ es, bindsA e = true ∧ (e.on = j ∨ ∃ a, acc[e.on]? = some a ∧ a.testBit j = true))
  | [], m, h => by cases h; exact ⟨fun e he => (by cases he), fun j hj => by simp at hj⟩
  | e :: es, m, h => by
    unfold maskE at h
    by_cases hb : bindsA e = true
    · rw [if_pos hb] at h
      split at h
      · rename_i a r ha hr
        cases h
        obtain ⟨h1, h2⟩ := maskE_spec hr
        refine ⟨fun e' he' hb' => ?_, fun j hj => ?_⟩
        · rcases List.mem_cons.1 he' with rfl | he'
          · exact (List.getElem?_eq_some_iff.1 ha).1
          · exact h1 e' he' hb'
        · have hj' : (2 ^ e.on ||| a ||| r).testBit j = true := hj
          rw [Nat.testBit_or, Nat.testBit_or, Bool.or_eq_true, Bool.or_eq_true] at hj'
          rcases hj' with (hj' | hj') | hj'
          · rw [Nat.testBit_two_pow] at hj'
            exact ⟨e, by simp, hb, .inl (of_decide_eq_true hj')⟩
          · exact ⟨e, by simp, hb, .inr ⟨a, ha, hj'⟩⟩
          · obtain ⟨e', he', h3, h4⟩ := h2 j hj'
            exact ⟨e', by simp [he'], h3, h4⟩
      · cases h
    · rw [if_neg hb] at h
      obtain ⟨h1, h2⟩ := maskE_spec h
      refine ⟨fun e' he' hb' => ?_, fun j hj => ?_⟩
      · rcases List.mem_cons.1 he' with rfl | he'
        · exact absurd hb' hb
        · exact h1 e' he' hb'
      · obtain ⟨e', he', h3, h4⟩ := h2 j hj
        exact ⟨e', by simp [he'], h3, h4⟩
theorem masksGo_spec : ∀ {l : List Oper} {acc ms : List Nat}, masksGo l acc = some ms → ms.length = acc.length + l.length ∧ (∀ j, j < acc.length → ms[j]? = acc[j]?) ∧
    ∀ k o, l[k]? = some o → ∃ m, ms[acc.length + k]? = some m ∧ maskE (ms.take (acc.length + k)) o.after.toList = some m
  | [], acc, ms, h => by cases h; exact ⟨by simp, fun _ _ => rfl, fun k o hk => by simp at hk⟩
  | o :: l, acc, ms, h => by
    unfold masksGo at h
    split at h
    · rename_i m hm
      obtain ⟨h1, h2, h3⟩ := masksGo_spec h
      have hpre : ∀ j, j < acc.length → ms[j]? = acc[j]? := fun j hj => by
        rw [h2 j (by simp; omega), List.getElem?_append_left hj]
      have htake : ms.take acc.length = acc := by
        apply List.ext_getElem?
        intro j
        by_cases hj : j < acc.length
        · rw [List.getElem?_take_of_lt hj, hpre j hj]
        · rw [List.getElem?_eq_none (by simp; omega), List.getElem?_eq_none (by omega)]
      refine ⟨by simp at h1 ⊢; omega, hpre, fun k o' hk => ?_⟩
      cases k with
      | zero =>
        cases hk
        refine ⟨m, ?_, ?_⟩
        · rw [Nat.add_zero, h2 _ (by simp)]; simp
        · rw [Nat.add_zero, htake]; exact hm
      | succ k =>
        obtain ⟨m', h4, h5⟩ := h3 k o' hk
        have e : (acc ++ [m]).length + k = acc.length + (k + 1) := by simp; omega
        rw [e] at h4 h5
        exact ⟨m', h4, h5⟩
    · cases h

/-- what is known of a region whose masks are in order -/
structure MaskFacts (ops : List Oper) (ms : List Nat) : Prop where
  len : ms.length = ops.length
  back : ∀ (i : Nat) (o : Oper), ops[i]? = some o → ∀ e ∈ o.after.toList, bindsA e = true → e.on < i
  anc : ∀ (i : Nat) (o : Oper) (m : Nat), ops[i]? = some o → ms[i]? = some m → ∀ j, m.testBit j = true → ∃ e ∈ o.after.toList, bindsA e = true ∧ (e.on = j ∨ ∃ a, ms[e.on]? = some a ∧ a.testBit j = true)
  apart : ∀ (i : Nat) (o : Oper) (m : Nat), ops[i]? = some o → ms[i]? = some m → ∀ (j : Nat) (x : Oper), j < i → ops[j]? = some x → m.testBit j = true ∨ apartO ops x o = true
  sel : ∀ o ∈ ops, isSel o.op = false

theorem apartOne_spec {ops : List Oper} {y : Oper} {m : Nat} : ∀ {l : List Oper} {j : Nat}, apartOne ops y m l j = true → ∀ k x, l[k]? = some x → m.testBit (j + k) = true ∨ apartO ops x y = true
  | [], j, h, k, x, hk => by simp at hk
  | z :: l, j, h, k, x, hk => by
    unfold apartOne at h
    rw [Bool.and_eq_true, Bool.or_eq_true] at h
    cases k with
    | zero => cases hk; exact h.1
    | succ k =>
      have := apartOne_spec h.2 k x hk
      rw [show j + (k + 1) = j + 1 + k by omega]
      exact this
theorem apartAll_spec {ops : List Oper} : ∀ {l : List Oper} {ms : List Nat} {seen : List Oper}, apartAll ops l ms seen = true → ∀ k o m, l[k]? = some o → ms[k]? = some m → ∀ j x, j < seen.length + k → (seen ++ l)[j]? = some x → m.testBit j = true ∨ apartO ops x o = true
  | [], ms, seen, h, k, o, m, hk, _, j, x, _, _ => by simp at hk
  | y :: l, [], seen, h, _, _, _, _, _, _, _, _, _ => by simp [apartAll] at h
  | y :: l, m0 :: ms, seen, h, k, o, m, hk, hm, j, x, hj, hx => by
    unfold apartAll at h
    rw [Bool.and_eq_true] at h
    cases k with
    | zero =>
      cases hk
      cases hm
      rw [List.getElem?_append_left (by omega)] at hx
      have := apartOne_spec h.1 j x hx
      rwa [Nat.zero_add] at this
    | succ k =>
      have e : (seen ++ [y]) ++ l = seen ++ y :: l := by simp
      exact apartAll_spec h.2 k o m hk hm j x (by simp; omega) (by rw [e]; exact hx)
theorem maskOK_spec {ops : List Oper} {ms : List Nat} (h : maskOK ops = some ms) : MaskFacts ops ms := by
  unfold maskOK at h
  split at h
  · rename_i ms' hms
    split at h
    · rename_i hc
      cases h
      rw [Bool.and_eq_true] at hc
      obtain ⟨h1, _, h3⟩ := masksGo_spec hms
      have hlen : ms.length = ops.length := by simpa using h1
      have hE : ∀ i o, ops[i]? = some o → ∃ m, ms[i]? = some m ∧ maskE (ms.take i) o.after.toList = some m := fun i o ho => by
        have := h3 i o ho
        simpa using this
      refine ⟨hlen, fun i o ho e he hb => ?_, fun i o m ho hm j hj => ?_, fun i o m ho hm j x hj hx => ?_, fun o ho => ?_⟩
      · obtain ⟨m, hm, hE'⟩ := hE i o ho
        have := (maskE_spec hE').1 e he hb
        rw [List.length_take] at this; omega
      · obtain ⟨m', hm', hE'⟩ := hE i o ho
        rw [hm] at hm'; cases hm'
        obtain ⟨e, he, hb, hor⟩ := (maskE_spec hE').2 j hj
        have hlt := (maskE_spec hE').1 e he hb
        have hlt' : e.on < i := by simp at hlt; omega
        rcases hor with rfl | ⟨a, ha, haj⟩
        · exact ⟨e, he, hb, .inl rfl⟩
        · rw [List.getElem?_take_of_lt hlt'] at ha
          exact ⟨e, he, hb, .inr ⟨a, ha, haj⟩⟩
      · exact apartAll_spec hc.1 i o m ho hm j x (by simpa using hj) (by simpa using hx)
      · have := List.all_eq_true.1 hc.2 o ho
        simpa using this
    · cases h
  · cases h

/-- the ancestor relation -/
def Anc (ms : List Nat) (i j : Nat) : Prop := ∃ m, ms[i]? = some m ∧ Nat.testBit m j = true
section facts
variable {ops : List Oper} {ms : List Nat} (F : MaskFacts ops ms)
include F
theorem MaskFacts.lt : ∀ (i : Nat) {j : Nat}, Anc ms i j → j < i := by
  intro i
  induction i using Nat.strongRecOn with
  | _ i ih =>
    intro j ⟨m, hm, hj⟩
    have hi : i < ms.length := (List.getElem?_eq_some_iff.1 hm).1
    obtain ⟨o, ho⟩ : ∃ o, ops[i]? = some o := ⟨_, List.getElem?_eq_getElem (by rw [← F.len]; exact hi)⟩
    obtain ⟨e, he, hb, hor⟩ := F.anc i o m ho hm j hj
    have hlt := F.back i o ho e he hb
    rcases hor with rfl | ⟨a, ha, haj⟩
    · exact hlt
    · exact Nat.lt_trans (ih e.on hlt ⟨a, ha, haj⟩) hlt
/-- in a set that holds what its members' edges name, an operation's ancestors stand if its own edges do -/
theorem MaskFacts.closed {D : Nat → Prop} (hD : ∀ i, D i → ∀ o, ops[i]? = some o → ∀ e ∈ o.after.toList, bindsA e = true → D e.on) : ∀ (i : Nat) (o : Oper), ops[i]? = some o → (∀ e ∈ o.after.toList, bindsA e = true → D e.on) → ∀ j, Anc ms i j → D j := by
  intro i
  induction i using Nat.strongRecOn with
  | _ i ih =>
    intro o ho hi j ⟨m, hm, hj⟩
    obtain ⟨e, he, hb, hor⟩ := F.anc i o m ho hm j hj
    have hlt := F.back i o ho e he hb
    have hDe := hi e he hb
    rcases hor with rfl | ⟨a, ha, haj⟩
    · exact hDe
    · have hl : e.on < ops.length := by
        have := (List.getElem?_eq_some_iff.1 ho).1
        omega
      exact ih e.on hlt _ (List.getElem?_eq_getElem hl) (fun e' he' hb' => hD e.on hDe _ (List.getElem?_eq_getElem hl) e' he' hb') j ⟨a, ha, haj⟩
end facts

/-! ### Slots: the value of the last writer that is done -/
section slots
variable (ops : List Oper) (v : Nat → AV) (T0 : Tr AV)
/-- what slot t holds when the operations of D below k are done -/
noncomputable def slotV (D : Nat → Bool) (t : Nat) : Nat → AV
  | 0 => (getP (pathOf t) T0).getD undefA
  | k + 1 => if D k = true ∧ (ops[k]?).bind (·.dst) = some t then v k else slotV D t k
theorem slotV_congr {D D' : Nat → Bool} {t : Nat} : ∀ {k : Nat}, (∀ j, j < k → (ops[j]?).bind (·.dst) = some t → D j = D' j) → slotV ops v T0 D t k = slotV ops v T0 D' t k
  | 0, _ => rfl
  | k + 1, h => by
    unfold slotV
    rw [slotV_congr (fun j hj => h j (by omega))]
    by_cases hd : (ops[k]?).bind (·.dst) = some t
    · rw [h k (by omega) hd]
    · simp [hd]
/-- one more is done, and no later writer is -/
theorem slotV_put {D : Nat → Bool} {i : Nat} {t : Nat} (hd : (ops[i]?).bind (·.dst) = some t) : ∀ {k : Nat}, i < k → (∀ j, i < j → j < k → (ops[j]?).bind (·.dst) = some t → D j = false) → slotV ops v T0 (fun j => j == i || D j) t k = v i
  | 0, h, _ => by omega
  | k + 1, h, hl => by
    unfold slotV
    by_cases e : k = i
    · subst e; simp [hd]
    · rw [slotV_put hd (by omega) (fun j h1 h2 => hl j h1 (by omega))]
      rw [if_neg]
      intro ⟨h1, h2⟩
      have := hl k (by omega) (by omega) h2
      simp [e, this] at h1
theorem slotV_other {D : Nat → Bool} {i : Nat} {t : Nat} (hd : (ops[i]?).bind (·.dst) ≠ some t) (k : Nat) : slotV ops v T0 (fun j => j == i || D j) t k = slotV ops v T0 D t k :=
  slotV_congr ops v T0 fun j _ hj => by
    by_cases e : j = i
    · subst e; exact absurd hj hd
    · simp [e]
end slots

/-! ### Memories that are moved on -/
section mem
variable {w0 : World} {base U : Nat} {σ : Sub} {G : AG} {w : World}
/-- the world goes on where nothing is spoken of -/
theorem Rel.move (h : Rel w0 base U σ G w) {σ' : Sub} {w' : World} (hle : σ.le σ') (hb : Below base w0 w') (hs : w.heap.size ≤ w'.heap.size) (hheap : ∀ n, n < w.heap.size → w'.heap[n]? = w.heap[n]?) (hud : ∀ b : Pth, G.nx.num ≤ b.num → b.num < U → σ'.blk b = none) : Rel w0 base U σ' G w' := by
  refine ⟨hb, fun b x hx => ?_, fun b b' x x' n hx hx' hn hn' => ?_, hud, Nat.le_trans h.bs hs⟩
  · obtain ⟨h1, n, o, hn, hbn, ho, hbr⟩ := h.blk b x hx
    exact ⟨h1, n, o, (hle.1 b n hn).1, hbn, by rw [hheap n (lt_of_heap ho)]; exact ho, BR.mono hle ⟨n, hn⟩ hbr⟩
  · obtain ⟨_, m, _, hm, _⟩ := h.blk b x hx
    obtain ⟨_, m', _, hm', _⟩ := h.blk b' x' hx'
    have e1 := (hle.1 b m hm).1
    have e2 := (hle.1 b' m' hm').1
    rw [hn] at e1
    rw [hn'] at e2
    cases e1; cases e2
    exact h.inj b b' x x' n hx hx' hm hm'
/-- a block that waits is spoken of from now on -/
theorem Rel.adopt (h : Rel w0 base U σ G w) {id : Pth} {n : Nat} {x : AB} {o : Obj} (hid : id.num < G.nx.num) (hn : σ.blk id = some n) (hbn : base ≤ n) (ho : w.heap[n]? = some o) (hx : BR σ id x o) (hfree : ∀ b y, G.get b = some y → b ≠ id → σ.blk b ≠ some n) : Rel w0 base U σ (G.set id (some x)) w := by
  have hget : ∀ j, (G.set id (some x)).get j = if j = id then some x else G.get j := AG.get_set (some x)
  refine ⟨h.below, fun b y hy => ?_, fun b b' y y' m hy hy' hm hm' => ?_, h.undef, h.bs⟩
  · rw [hget] at hy
    split at hy
    · rename_i e; subst e; cases hy; exact ⟨hid, n, o, hn, hbn, ho, hx⟩
    · exact h.blk b y hy
  · rw [hget] at hy hy'
    split at hy
    · rename_i e
      split at hy'
      · rename_i e'; rw [e, e']
      · rename_i e'
        subst e
        rw [hn] at hm; cases hm
        exact absurd hm' (hfree b' y' hy' e')
    · rename_i e
      split at hy'
      · rename_i e'
        subst e'
        rw [hn] at hm'; cases hm'
        exact absurd hm (hfree b y hy e)
      · exact h.inj b b' y y' m hy hy' hm hm'
/-- a memory of which nothing is known -/
theorem Rel.empty (h : Rel w0 base U σ G w) (id : Pth) {U' : Nat} (hu : ∀ b : Pth, id.num ≤ b.num → b.num < U' → σ.blk b = none) : Rel w0 base U' σ ⟨.e, id⟩ w :=
  ⟨h.below, fun b x hx => (by unfold AG.get at hx; rw [getP_e] at hx; cases hx), fun b b' x x' n hx => (by unfold AG.get at hx; rw [getP_e] at hx; cases hx), hu, h.bs⟩
end mem

/-! ### Slots of the operands only -/
theorem restrT_tmp (T : Tr AV) (t : Nat) : ∀ l : List Operand, getP (pathOf t) (restrT T l) = if t ∈ tmpsOf l then getP (pathOf t) T else none
  | [] => by unfold restrT; simp [tmpsOf, getP_e]
  | x :: l => by
    have ih := restrT_tmp T t l
    cases x with
    | tmp u =>
      have e : restrT T (.tmp u :: l) = om (getP (pathOf u) T) (restrT T l) fun v => setP (pathOf u) (restrT T l) (some v) fun r => r := rfl
      have ht : tmpsOf (.tmp u :: l) = u :: tmpsOf l := rfl
      rw [e, ht, om_eq]
      by_cases hu : t = u
      · subst hu
        cases hq : getP (pathOf t) T with
        | none => simp only; rw [ih, hq]; simp
        | some v => simp only; rw [setP_eq, getP_set]; simp
      · have hne : pathOf t ≠ pathOf u := fun e' => hu (pathOf_inj e')
        cases hq : getP (pathOf u) T with
        | none => simp only; rw [ih]; simp [hu]
        | some v => simp only; rw [setP_eq, getP_set, if_neg hne, ih]; simp [hu]
    | const v => exact ih
    | global g => exact ih
    | func f => exact ih
theorem mem_tmpsOf {l : List Operand} {t : Nat} : t ∈ tmpsOf l ↔ Operand.tmp t ∈ l := by
  unfold tmpsOf
  rw [List.mem_filterMap]
  constructor
  · rintro ⟨x, hx, h⟩
    cases x <;> simp at h
    subst h; exact hx
  · intro h
    exact ⟨_, h, rfl⟩
/-- operands looked at where the slots of the operands are right -/
def rhoOf (l : List Operand) (ts : Array Value) : Operand → Value
  | .tmp t => if t ∈ tmpsOf l then ts.getD t undef else undef
  | x => Act.eval ⟨ts, []⟩ x
theorem rhoOf_ok {σ : Sub} {T : Tr AV} {ts : Array Value} {l : List Operand} (h : ∀ t ∈ tmpsOf l, VR σ ((getP (pathOf t) T).getD undefA) (ts.getD t undef)) : ∀ x a, OpdR (restrT T l) x a → VR σ a (rhoOf l ts x) := by
  intro x a ha
  cases x with
  | tmp t =>
    simp only [OpdR] at ha
    subst ha
    rw [restrT_tmp]
    unfold rhoOf
    by_cases ht : t ∈ tmpsOf l
    · simp only [ht, if_true]; exact h t ht
    · simp only [ht, if_false]; exact VR_undef σ
  | const v => exact ofV_ok ha
  | global g => simp only [OpdR] at ha; subst ha; simp only [VR, rhoOf, Act.eval]
  | func f => simp only [OpdR] at ha; subst ha; simp only [VR, rhoOf, Act.eval]; exact ⟨[], [], VRs.nil, VRs.nil, rfl⟩
theorem rhoOf_exec {o : Oper} (hs : isSel o.op = false) (ts : Array Value) (ds : List Deferred) : execOp (rhoOf o.op.operands.toList ts) o = execOp (Act.eval ⟨ts, ds⟩) o := by
  refine execOp_congr o (fun cs b e => by rw [e] at hs; cases hs) fun x hx => ?_
  cases x with
  | tmp t =>
    have : t ∈ tmpsOf o.op.operands.toList := mem_tmpsOf.2 (by simpa using hx)
    simp [rhoOf, this, Act.eval]
  | _ => rfl
end Go.Ev

/-! A region that draws its order: what must hold of its operations so that every order gives the same. -/
namespace Go.Ev
open Go Go.RowKit

/-- what an operation of a region came to -/
inductive Kd where
  | skip
  | pl
  | ld
  | nw (id : Pth) (x : AB)
  | act (Gp G : AG) (D : List ADef)

/-- what the operations of a region came to, one after the other in the text -/
structure Plan where
  T : Nat → Tr AV
  v : Nat → AV
  kd : Nat → Kd
  G0 : AG
  D0 : List ADef
def Plan.isAct (p : Plan) (i : Nat) : Prop := ∃ Gp G D, p.kd i = .act Gp G D
/-- the memory after an operation that acts, or at the start -/
def Plan.mem (p : Plan) (q : Option Nat) : AG := match q with
  | none => p.G0
  | some x => match p.kd x with | .act _ G _ => G | _ => p.G0
def Plan.dfs (p : Plan) (q : Option Nat) : List ADef := match q with
  | none => p.D0
  | some x => match p.kd x with | .act _ _ D => D | _ => p.D0
def Plan.stage (p : Plan) (q : Option Nat) : Prop := ∀ x, q = some x → p.isAct x
/-- does an operation lie behind a stage -/
def behind (q : Option Nat) (y : Nat) : Prop := ∀ x, q = some x → x < y
noncomputable def adoptL (L : Pend) (G : AG) : AG := L.foldl (fun G (q : Nat × Pth × AB) => G.set q.2.1 (some q.2.2)) G

structure PlanOK (P : Program) (ro : Nat → Option CB) (call : CallF) (dfr rnd : Bool) (N : Nat) (ops : Array Oper) (ms : List Nat) (p : Plan) (T0 : Tr AV) (lo : Nat) (s' : St) : Prop where
  F : MaskFacts ops.toList ms
  t0 : p.T 0 = T0
  tn : p.T ops.size = s'.T
  tstep : ∀ i o, ops[i]? = some o → (∀ d, o.dst = some d → d < N) ∧ ∀ t, getP (pathOf t) (p.T (i + 1)) = if o.dst = some t then some (p.v i) else getP (pathOf t) (p.T i)
  skip : ∀ i o, ops[i]? = some o → p.kd i = .skip → p.v i = undefA ∧ ∀ (σ : Sub) (ts : Array Value), (∀ t ∈ looksO ops.toList o, VR σ ((getP (pathOf t) (p.T i)).getD undefA) (ts.getD t undef)) → Region.wanted o (yielded ops ts) = false
  want : ∀ i o, ops[i]? = some o → p.kd i ≠ .skip → ∀ (σ : Sub) (ts : Array Value), (∀ t ∈ looksO ops.toList o, VR σ ((getP (pathOf t) (p.T i)).getD undefA) (ts.getD t undef)) → Region.wanted o (yielded ops ts) = true
  pl : ∀ i o, ops[i]? = some o → p.kd i = .pl → (∀ c, o.op ≠ .defer c) ∧ ∃ G', aop o.op P ro (restrT (p.T i) o.op.operands.toList) ⟨.e, .h⟩ = .ok (p.v i) G' ∧ G'.nx = .h
  ld : ∀ i o, ops[i]? = some o → p.kd i = .ld → isRead o.op = true ∧ ∀ q, p.stage q → (∀ x, q = some x → x < ops.size) → (∀ y, p.isAct y → ¬ behind q y → ¬ Anc ms y i) → (∀ y, p.isAct y → behind q y → ¬ Anc ms i y) → ∃ G', aop o.op P ro (restrT (p.T i) o.op.operands.toList) (p.mem q) = .ok (p.v i) G'
  nw : ∀ i o id x, ops[i]? = some o → p.kd i = .nw id x → (∀ c, o.op ≠ .defer c) ∧ lo ≤ id.num ∧ id.num < p.G0.nx.num ∧ ∃ G', aop o.op P ro (restrT (p.T i) o.op.operands.toList) ⟨.e, id⟩ = .ok (p.v i) G' ∧ G'.nx = id.suc ∧ G'.get id = some x
  inj : ∀ i j id x y, p.kd i = .nw id x → p.kd j = .nw id y → i = j
  act : ∀ i o Gp G D, ops[i]? = some o → p.kd i = .act Gp G D → (∀ y, y < i → p.isAct y → Anc ms i y) ∧ G.nx.num ≤ s'.G.nx.num ∧ p.G0.nx.num ≤ Gp.nx.num ∧ ∃ q L, p.stage q ∧ (∀ x, q = some x → x < i) ∧ (∀ y, y < i → p.isAct y → ¬ behind q y) ∧
    operV P ro call dfr rnd o (restrT (p.T i) o.op.operands.toList) Gp (p.dfs q) = .ok (p.v i) G D ∧ Gp = adoptL L (p.mem q) ∧ L.Pairwise (fun a b => a.1 ≠ b.1) ∧ (∀ j id x, (j, id, x) ∈ L ↔ p.kd j = .nw id x ∧ Anc ms i j ∧ ∀ y, y < i → p.isAct y → ¬ Anc ms y j)
  kdn : ∀ i, p.kd i ≠ .skip → i < ops.size
  fin : ∃ q L, p.stage q ∧ (∀ y, p.isAct y → ¬ behind q y) ∧ s'.D = p.dfs q ∧ s'.G = adoptL L (p.mem q) ∧ L.Pairwise (fun a b => a.1 ≠ b.1) ∧ (∀ j id x, (j, id, x) ∈ L ↔ p.kd j = .nw id x ∧ ∀ y, p.isAct y → ¬ Anc ms y j)
  lo0 : lo ≤ p.G0.nx.num
  g0 : p.G0.nx.num ≤ s'.G.nx.num

section ext
variable {w0 : World} {base U : Nat} {σ0 σ σ' : Sub} {Gs G : AG} {ws w w' : World}
/-- the world goes on, blocks of the pool are laid -/
theorem Ext.goOn (X : Ext w0 base U σ0 Gs ws σ G w) (hle : σ.le σ') (hsame : ∀ b : Pth, b.num < Gs.nx.num ∨ G.nx.num ≤ b.num → σ'.blk b = σ.blk b) (hb : Below base w0 w') (hs : w.heap.size ≤ w'.heap.size) (hheap : ∀ n, n < w.heap.size → w'.heap[n]? = w.heap[n]?) : Ext w0 base U σ0 Gs ws σ' G w' where
  le := Sub.le_trans X.le hle
  same b hb' := by rw [hsame b hb', X.same b hb']
  nx := X.nx
  rel := X.rel.move hle hb hs hheap (fun b h1 h2 => by rw [hsame b (.inr h1)]; exact X.rel.undef b h1 h2)
  hs := Nat.le_trans X.hs hs
  fr n hn hno := by rw [hheap n (Nat.lt_of_lt_of_le hn X.hs)]; exact X.fr n hn hno
  nw b x n hx hn := by
    obtain ⟨_, m, _, hm, _⟩ := X.rel.blk b x hx
    have := (hle.1 b m hm).1
    rw [hn] at this
    cases this
    exact X.nw b x n hx hm
/-- what waits -/
structure Waits (base : Nat) (ws : World) (σ : Sub) (G : AG) (w : World) (id : Pth) (x : AB) : Prop where
  num : id.num < G.nx.num
  ex : ∃ n o, σ.blk id = some n ∧ base ≤ n ∧ ws.heap.size ≤ n ∧ w.heap[n]? = some o ∧ BR σ id x o ∧ ∀ b y, G.get b = some y → σ.blk b ≠ some n
theorem Ext.adopt (X : Ext w0 base U σ0 Gs ws σ G w) {id : Pth} {x : AB} (h : Waits base ws σ G w id x) : Ext w0 base U σ0 Gs ws σ (G.set id (some x)) w := by
  obtain ⟨hnum, n, o, hn, hbn, hws, ho, hx, hfree⟩ := h
  refine ⟨X.le, X.same, X.nx, X.rel.adopt hnum hn hbn ho hx (fun b y hb _ => hfree b y hb), X.hs, X.fr, fun b y m hy hm => ?_⟩
  have hget : (G.set id (some x)).get b = if b = id then some x else G.get b := AG.get_set (some x) b
  rw [hget] at hy
  split at hy
  · rename_i e
    subst e
    rw [hn] at hm; cases hm
    exact .inr hws
  · exact X.nw b y m hy hm
theorem adoptL_nx : ∀ (L : Pend) (G : AG), (adoptL L G).nx = G.nx
  | [], _ => rfl
  | _ :: L, G => adoptL_nx L (G.set _ _)
theorem adoptL_get : ∀ (L : Pend) (G : AG) (b : Pth) (y : AB), (adoptL L G).get b = some y → (∃ j x, (j, b, x) ∈ L) ∨ G.get b = some y
  | [], _, _, _, h => .inr h
  | q :: L, G, b, y, h => by
    rcases adoptL_get L (G.set q.2.1 (some q.2.2)) b y h with ⟨j, x, hj⟩ | h'
    · exact .inl ⟨j, x, by simp [hj]⟩
    · have hget : (G.set q.2.1 (some q.2.2)).get b = if b = q.2.1 then some q.2.2 else G.get b := AG.get_set (some q.2.2) b
      rw [hget] at h'
      split at h'
      · rename_i e
        subst e
        exact .inl ⟨q.1, q.2.2, by simp⟩
      · exact .inr h'
/-- many of them -/
theorem Ext.adoptL : ∀ (L : Pend) {G : AG}, Ext w0 base U σ0 Gs ws σ G w → (∀ j id x, (j, id, x) ∈ L → Waits base ws σ G w id x) →
    L.Pairwise (fun a b => σ.blk a.2.1 ≠ σ.blk b.2.1) → Ext w0 base U σ0 Gs ws σ (Go.Ev.adoptL L G) w
  | [], _, X, _, _ => X
  | q :: L, G, X, hw, hd => by
    obtain ⟨j, id, x⟩ := q
    have hq := hw j id x (by simp)
    rw [List.pairwise_cons] at hd
    refine Ext.adoptL L (X.adopt hq) (fun j' id' x' h' => ?_) hd.2
    obtain ⟨hnum, n, o, hn, hbn, hws, ho, hx, hfree⟩ := hw j' id' x' (by simp [h'])
    refine ⟨hnum, n, o, hn, hbn, hws, ho, hx, fun b y hy => ?_⟩
    have hget : (G.set id (some x)).get b = if b = id then some x else G.get b := AG.get_set (some x) b
    rw [hget] at hy
    split at hy
    · rename_i e
      subst e
      intro e'
      exact hd.1 (j', id', x') h' (by rw [e', hn])
    · exact hfree b y hy
end ext
end Go.Ev

/-! A region that draws its order: the machine at one operation, whichever it is. -/
namespace Go.Ev
open Go Go.RowKit

/-- reads turn nothing -/
theorem isRead_pure {P : Program} {ro : Nat → Option CB} {T : Tr AV} {G G' : AG} {v : AV} {op : Op} (hr : isRead op = true) (h : aop op P ro T G = .ok v G') : G' = G := by
  cases op <;> first | (cases hr; done) | skip
  case load t a =>
    have h' : aLoad t a P ro T G = .ok v G' := h
    obtain ⟨ti, hti, h1⟩ := om_inv h' nofun
    obtain ⟨d, i, z, ht⟩ := mkTI_ok hti
    obtain ⟨p, _, h2⟩ := opd_inv h1 nofun
    obtain ⟨u, h3, _⟩ := loadA_ok ht h2 nofun
    cases h3; rfl
  case lookup t m k ok =>
    have h' : aLookup t m k ok P ro T G = .ok v G' := h
    obtain ⟨a, _, h1⟩ := opd_inv h' nofun
    obtain ⟨b, _, h2⟩ := opd_inv h1 nofun
    obtain ⟨u, h3, _⟩ := lookupA_ok h2 nofun
    cases h3; rfl
  case binOp op t x y u =>
    have h' : aBin op t x y u P ro T G = .ok v G' := h
    obtain ⟨a, _, h1⟩ := opd_inv h' nofun
    obtain ⟨b, _, h2⟩ := opd_inv h1 nofun
    obtain ⟨u, h3, _⟩ := binA_ok h2 nofun
    cases h3; rfl
  case call c =>
    have h' : aCall c P ro T G = .ok v G' := h
    obtain ⟨callee, args, argTypes⟩ := c
    cases callee <;> first | (cases hr; done) | skip
    rename_i bi
    cases bi <;> first | (cases hr; done) | skip
    obtain ⟨l, _, h1⟩ := opds_inv (show opds T args.toList (.no 29) (fun l => aBuiltin .len argTypes.toList l P ro T G) = .ok v G' from h') nofun
    unfold aBuiltin at h1
    simp only at h1
    split at h1
    · obtain ⟨t, _, h2⟩ := om_inv h1 nofun
      obtain ⟨n, h3, _⟩ := lenTA_ok h2 nofun
      cases h3; rfl
    · cases h1

section inv
variable {P : Program} {ro : Nat → Option CB} {call : CallF} {self : FuncId} {dfr rnd : Bool} {N : Nat} {ops : Array Oper} {ms : List Nat} {p : Plan} {T0 : Tr AV} {lo : Nat} {s' : St}
/-- where the machine is when the operations of D are done -/
structure Inv (ops : Array Oper) (ms : List Nat) (p : Plan) (T0 : Tr AV) (N : Nat) (w0 : World) (base U : Nat) (σ0 : Sub) (Gs : AG) (ws : World) (D : Nat → Bool) (q : Option Nat) (σ : Sub) (w : World) (ts : Array Value) (ds : List Deferred) : Prop where
  closed : ∀ i, D i = true → ∀ o, ops.toList[i]? = some o → ∀ e ∈ o.after.toList, bindsA e = true → D e.on = true
  stg : p.stage q
  stgD : ∀ x, q = some x → D x = true
  stgB : ∀ y, p.isAct y → D y = true → ¬ behind q y
  ext : Ext w0 base U σ0 Gs ws σ (p.mem q) w
  dr : DR σ (p.dfs q) ds
  size : ts.size = N
  slots : ∀ t, VR σ (slotV ops.toList p.v T0 D t ops.size) (ts.getD t undef)
  waits : ∀ j id x, p.kd j = .nw id x → D j = true → (∀ y, p.isAct y → D y = true → ¬ Anc ms y j) → Waits base ws σ (p.mem q) w id x
  bnd : ∀ j id x, p.kd j = .nw id x → D j = true → ∃ n, σ.blk id = some n ∧ n < w.heap.size
  dist : ∀ j id x j' id' x', p.kd j = .nw id x → p.kd j' = .nw id' x' → D j = true → D j' = true → j ≠ j' → σ.blk id ≠ σ.blk id'
  fresh : ∀ j id x, p.kd j = .nw id x → D j = false → σ.blk id = none

variable (PO : PlanOK P ro call dfr rnd N ops ms p T0 lo s')
omit PO in
theorem slotV_ge {v : Nat → AV} {D : Nat → Bool} {t i : Nat} {ol : List Oper} : ∀ k, (∀ j, i ≤ j → j < i + k → (ol[j]?).bind (·.dst) = some t → D j = false) → slotV ol v T0 D t (i + k) = slotV ol v T0 D t i
  | 0, _ => rfl
  | k + 1, h => by
    have e : slotV ol v T0 D t (i + (k + 1)) = if D (i + k) = true ∧ (ol[i + k]?).bind (·.dst) = some t then v (i + k) else slotV ol v T0 D t (i + k) := rfl
    rw [e, if_neg, slotV_ge k (fun j h1 h2 h3 => h j h1 (by omega) h3)]
    intro ⟨h1, h2⟩
    have := h (i + k) (by omega) (by omega) h2
    rw [this] at h1; cases h1
include PO
theorem slotT (t : Nat) : ∀ i, i ≤ ops.size → (getP (pathOf t) (p.T i)).getD undefA = slotV ops.toList p.v T0 (fun j => decide (j < i)) t i := by
  intro i
  induction i with
  | zero => intro _; rw [PO.t0]; rfl
  | succ i ih =>
    intro h
    have ih := ih (by omega)
    obtain ⟨o, ho⟩ : ∃ o, ops[i]? = some o := ⟨_, Array.getElem?_eq_getElem (by omega)⟩
    have := (PO.tstep i o ho).2 t
    unfold slotV
    rw [this]
    have ho' : (ops.toList[i]?).bind (·.dst) = o.dst := by simp [ho]
    rw [ho']
    by_cases hd : o.dst = some t
    · simp [hd]
    · rw [if_neg hd, if_neg (by simp [hd]), ih]
      exact slotV_congr _ _ _ fun j hj _ => by simp [hj]; omega

/-- what an operation looks at is what the text says -/
theorem inv_looks {w0 : World} {base U : Nat} {σ0 : Sub} {Gs : AG} {ws : World} {D : Nat → Bool} {q : Option Nat} {σ : Sub} {w : World} {ts : Array Value} {ds : List Deferred} (I : Inv ops ms p T0 N w0 base U σ0 Gs ws D q σ w ts ds)
    {i : Nat} {o : Oper} (ho : ops[i]? = some o) (hD : D i = false) (hready : ∀ e ∈ o.after.toList, bindsA e = true → D e.on = true) :
    (∀ j, Anc ms i j → D j = true) ∧ (∀ y, D y = true → y < ops.size → ¬ Anc ms y i) ∧
    (∀ t ∈ looksO ops.toList o, VR σ ((getP (pathOf t) (p.T i)).getD undefA) (ts.getD t undef)) ∧
    (∀ (σ' : Sub) (x : Value), σ.le σ' → VR σ' (p.v i) x → ∀ t, VR σ' (slotV ops.toList p.v T0 (fun j => j == i || D j) t ops.size) ((putT ts o.dst x).getD t undef)) := by
  have ho' : ops.toList[i]? = some o := by simpa using ho
  have hi : i < ops.size := (Array.getElem?_eq_some_iff.1 ho).1
  have hanc : ∀ j, Anc ms i j → D j = true := PO.F.closed (D := fun j => D j = true) (fun k hk o' ho'' e he hb => I.closed k hk o' ho'' e he hb) i o ho' hready
  have hdesc : ∀ y, D y = true → y < ops.size → ¬ Anc ms y i := fun y hy hyl ha => by
    obtain ⟨oy, hoy⟩ : ∃ oy, ops.toList[y]? = some oy := ⟨_, List.getElem?_eq_getElem (by simpa using hyl)⟩
    have := PO.F.closed (D := fun j => D j = true) (fun k hk o' ho'' e he hb => I.closed k hk o' ho'' e he hb) y oy hoy (fun e he hb => I.closed y hy oy hoy e he hb) i ha
    rw [hD] at this; cases this
  have hmask : ∀ j, j < ops.size → ∃ m, ms[j]? = some m := fun j hj => ⟨_, List.getElem?_eq_getElem (by rw [PO.F.len]; simpa using hj)⟩
  refine ⟨hanc, hdesc, fun t ht => ?_, fun σ' x hle hx t => ?_⟩
  · rw [slotT PO t i (by omega)]
    have h1 := I.slots t
    have e1 : slotV ops.toList p.v T0 D t ops.size = slotV ops.toList p.v T0 (fun j => decide (j < i)) t ops.size := slotV_congr _ _ _ fun j hj hd => by
      obtain ⟨oj, hoj⟩ : ∃ oj, ops.toList[j]? = some oj := ⟨_, List.getElem?_eq_getElem (by simpa using hj)⟩
      rw [hoj] at hd
      have hdj : oj.dst = some t := hd
      rcases Nat.lt_trichotomy j i with hlt | heq | hgt
      · obtain ⟨m, hm⟩ := hmask i hi
        rcases PO.F.apart i o m ho' hm j oj hlt hoj with h2 | h2
        · rw [hanc j ⟨m, hm, h2⟩]; simp [hlt]
        · unfold apartO at h2
          rw [hdj] at h2
          simp at h2
          exact absurd ht h2.1.1
      · subst heq; rw [hD]; simp
      · obtain ⟨m, hm⟩ := hmask j hj
        rcases PO.F.apart j oj m hoj hm i o hgt ho' with h2 | h2
        · cases hDj : D j with
          | false => simp; omega
          | true => exact absurd ⟨m, hm, h2⟩ (hdesc j hDj hj)
        · unfold apartO at h2
          rw [hdj] at h2
          simp at h2
          exact absurd ht h2.2
    have e2 : slotV ops.toList p.v T0 (fun j => decide (j < i)) t ops.size = slotV ops.toList p.v T0 (fun j => decide (j < i)) t i := by
      have := slotV_ge (T0 := T0) (v := p.v) (D := fun j => decide (j < i)) (t := t) (i := i) (ol := ops.toList) (ops.size - i) (fun j h1 _ _ => by simp; omega)
      rw [show i + (ops.size - i) = ops.size by omega] at this
      exact this
    rw [← e2, ← e1]
    exact h1
  · have hdst : (ops.toList[i]?).bind (·.dst) = o.dst := by rw [ho']; rfl
    by_cases hd : o.dst = some t
    · have hN := (PO.tstep i o ho).1 t hd
      rw [slotV_put ops.toList p.v T0 (hdst.trans hd) hi (fun j h1 h2 h3 => by
        obtain ⟨oj, hoj⟩ : ∃ oj, ops.toList[j]? = some oj := ⟨_, List.getElem?_eq_getElem (by simpa using h2)⟩
        rw [hoj] at h3
        have hdj : oj.dst = some t := h3
        obtain ⟨m, hm⟩ := hmask j h2
        rcases PO.F.apart j oj m hoj hm i o h1 ho' with h4 | h4
        · cases hDj : D j with
          | false => rfl
          | true => exact absurd ⟨m, hm, h4⟩ (hdesc j hDj h2)
        · unfold apartO at h4
          rw [hd, hdj] at h4
          simp at h4)]
      rw [hd]
      have hlt : t < ts.size := by rw [I.size]; exact hN
      simp only [putT, Array.getD_eq_getD_getElem?, Array.getElem?_setIfInBounds_self_of_lt hlt, Option.getD_some]
      exact hx
    · rw [slotV_other ops.toList p.v T0 (by rw [hdst]; exact hd)]
      have h1 := VR.mono hle _ _ (I.slots t)
      cases hod : o.dst with
      | none => simpa [putT] using h1
      | some d =>
        have hne : d ≠ t := fun e => hd (by rw [hod, e])
        simp only [putT, Array.getD_eq_getD_getElem?, Array.getElem?_setIfInBounds_ne hne] at h1 ⊢
        exact h1
end inv
end Go.Ev

/-! A region that draws its order: one operation more is done. -/
namespace Go.Ev
open Go Go.RowKit

section step
variable {P : Program} {ro : Nat → Option CB} {call : CallF} {self : FuncId} {dfr rnd : Bool} {N : Nat} {ops : Array Oper} {ms : List Nat} {p : Plan} {T0 : Tr AV} {lo : Nat} {s' : St}
variable {w0 : World} {base U : Nat} {σ0 : Sub} {Gs : AG} {ws : World} {D : Nat → Bool} {q : Option Nat} {σ : Sub} {w : World} {ts : Array Value} {ds : List Deferred}

theorem Waits.keep {G G' : AG} {σ' : Sub} {w' : World} {id : Pth} {x : AB} (h : Waits base ws σ G w id x) (hle : σ.le σ') (hnx : G.nx.num ≤ G'.nx.num)
    (hheap : ∀ n, n < w.heap.size → (∀ b y, G.get b = some y → σ.blk b ≠ some n) → σ.blk id = some n → w'.heap[n]? = w.heap[n]?) (hlive : ∀ b y n, G'.get b = some y → σ'.blk b = some n → n < w.heap.size → σ.blk id = some n → ∃ b' y', G.get b' = some y' ∧ σ.blk b' = some n) : Waits base ws σ' G' w' id x := by
  obtain ⟨hnum, n, o, hn, hbn, hws, ho, hx, hfree⟩ := h
  have hlt := lt_of_heap ho
  refine ⟨Nat.lt_of_lt_of_le hnum hnx, n, o, (hle.1 id n hn).1, hbn, hws, by rw [hheap n hlt hfree hn]; exact ho, BR.mono hle ⟨n, hn⟩ hx, fun b y hb e => ?_⟩
  obtain ⟨b', y', hb', e'⟩ := hlive b y n hb e hlt hn
  exact hfree b' y' hb' e'

variable (PO : PlanOK P ro call dfr rnd N ops ms p T0 lo s')
include PO
/-- after an operation that does not act -/
theorem inv_calm (I : Inv ops ms p T0 N w0 base U σ0 Gs ws D q σ w ts ds) {i : Nat} {o : Oper} (ho : ops[i]? = some o) (hD : D i = false) (hready : ∀ e ∈ o.after.toList, bindsA e = true → D e.on = true)
    (hna : ¬ p.isAct i) {σ' : Sub} {w' : World} {x : Value} (hle : σ.le σ') (hx : VR σ' (p.v i) x) (hext : Ext w0 base U σ0 Gs ws σ' (p.mem q) w') (hs : w.heap.size ≤ w'.heap.size)
    (hkeep : ∀ n, n < w.heap.size → (∀ b y, (p.mem q).get b = some y → σ.blk b ≠ some n) → w'.heap[n]? = w.heap[n]?)
    (hblk : ∀ b : Pth, b.num < p.G0.nx.num → (∀ id x, p.kd i = .nw id x → b ≠ id) → σ'.blk b = σ.blk b)
    (hnew : ∀ id y, p.kd i = .nw id y → Waits base ws σ' (p.mem q) w' id y ∧ ∃ n, σ'.blk id = some n ∧ w.heap.size ≤ n ∧ n < w'.heap.size) :
    Inv ops ms p T0 N w0 base U σ0 Gs ws (fun j => j == i || D j) q σ' w' (putT ts o.dst x) ds := by
  obtain ⟨_, _, _, hput⟩ := inv_looks PO I ho hD hready
  have hor : ∀ j, (j == i || D j) = true → j = i ∨ D j = true := fun j hj => by simpa using hj
  have hnum : ∀ j id y, p.kd j = .nw id y → id.num < p.G0.nx.num := fun j id y hk => by
    have hj := PO.kdn j (by rw [hk]; nofun)
    exact (PO.nw j _ id y (Array.getElem?_eq_getElem hj) hk).2.2.1
  refine ⟨fun j hj oj hoj e he hb => ?_, I.stg, fun y hy => by simp [I.stgD y hy], fun y hy hyD => ?_, hext, I.dr.mono hle, ?_, hput σ' x hle hx, fun j id y hk hj hw => ?_, fun j id y hk hj => ?_, fun j id y j' id' y' hk hk' hj hj' hne => ?_, fun j id y hk hj => ?_⟩
  · rcases hor j hj with rfl | hj
    · have e' : oj = o := by
        have : ops.toList[j]? = some o := by simpa using ho
        rw [hoj] at this; cases this; rfl
      subst e'
      simp [hready e he hb]
    · simp [I.closed j hj oj hoj e he hb]
  · rcases hor y hyD with rfl | hyD
    · exact absurd hy hna
    · exact I.stgB y hy hyD
  · cases o.dst <;> simp [putT, I.size]
  · rcases hor j hj with rfl | hj
    · exact (hnew id y hk).1
    · have h0 := I.waits j id y hk hj (fun z hz hzD => hw z hz (by simp [hzD]))
      refine h0.keep hle (Nat.le_refl _) (fun n hn hf _ => hkeep n hn hf) (fun b z n hb hbn _ _ => ?_)
      obtain ⟨_, m, _, hm, _⟩ := I.ext.rel.blk b z hb
      have := (hle.1 b m hm).1
      rw [hbn] at this; cases this
      exact ⟨b, z, hb, hm⟩
  · rcases hor j hj with rfl | hj
    · obtain ⟨_, n, h1, _, h2⟩ := hnew id y hk
      exact ⟨n, h1, h2⟩
    · obtain ⟨n, h1, h2⟩ := I.bnd j id y hk hj
      exact ⟨n, (hle.1 id n h1).1, Nat.lt_of_lt_of_le h2 hs⟩
  · rcases hor j hj with rfl | hj
    · rcases hor j' hj' with rfl | hj'
      · exact absurd rfl hne
      · obtain ⟨_, n, h1, h2, _⟩ := hnew id y hk
        obtain ⟨m, h3, h4⟩ := I.bnd j' id' y' hk' hj'
        rw [h1, (hle.1 id' m h3).1]
        intro e; cases e; omega
    · obtain ⟨m, h3, h4⟩ := I.bnd j id y hk hj
      rcases hor j' hj' with rfl | hj'
      · obtain ⟨_, n, h1, h2, _⟩ := hnew id' y' hk'
        rw [h1, (hle.1 id m h3).1]
        intro e; cases e; omega
      · obtain ⟨m', h5, h6⟩ := I.bnd j' id' y' hk' hj'
        have := I.dist j id y j' id' y' hk hk' hj hj' hne
        rw [(hle.1 id m h3).1, (hle.1 id' m' h5).1, ← h3, ← h5]
        exact this
  · have hji : j ≠ i ∧ D j = false := by simpa using hj
    rw [hblk id (hnum j id y hk) (fun id' x' hk' e => hji.1 (PO.inj j i id y x' hk (e ▸ hk')))]
    exact I.fresh j id y hk hji.2

/-- after an operation that acts -/
theorem inv_act (hN : NoCount P) (hc : CallsOK P ro call) (I : Inv ops ms p T0 N w0 base U σ0 Gs ws D q σ w ts ds) {i : Nat} {o : Oper} (ho : ops[i]? = some o) (hD : D i = false) (hDn : ∀ y, D y = true → y < ops.size) (hready : ∀ e ∈ o.after.toList, bindsA e = true → D e.on = true)
    {Gp G : AG} {Dn : List ADef} (hk : p.kd i = .act Gp G Dn) {b : Frame} {k : List Item} {cs : List Frame} {rest : List Nat} (hro : RoOK ro w0 base) (hf : FrOK self dfr rnd b cs) (hU : s'.G.nx.num ≤ U) :
    ∃ q' σ' w' ts' ds', Steps P (lone (Fr b ts ds (.inRegion ops (i :: rest) :: k)) cs w) (lone (Fr b ts' ds' (.inRegion ops rest :: k)) cs w') ∧ Inv ops ms p T0 N w0 base U σ0 Gs ws (fun j => j == i || D j) q' σ' w' ts' ds' := by
  obtain ⟨hanc, hdesc, hlk, hput⟩ := inv_looks PO I ho hD hready
  obtain ⟨hbef, hnxG, hnxp, q2, L, hst2, hq2, hall2, hv, rfl, hpw, hL⟩ := PO.act i o Gp G Dn ho hk
  have hor : ∀ j, (j == i || D j) = true → j = i ∨ D j = true := fun j hj => by simpa using hj
  have hnotb : ∀ (q : Option Nat) (y : Nat), ¬ behind q y → ∃ x, q = some x ∧ y ≤ x := fun q y h => by
    cases q with
    | none => exact absurd (fun x hx => by cases hx) h
    | some x =>
      refine ⟨x, rfl, ?_⟩
      apply Nat.le_of_not_lt
      intro hlt
      exact h (fun z hz => by cases hz; exact hlt)
  have hactD : ∀ y, p.isAct y → D y = true → y < i := fun y hy hyD => by
    rcases Nat.lt_trichotomy y i with h | h | h
    · exact h
    · subst h; rw [hD] at hyD; cases hyD
    · obtain ⟨Gp', G', D', hk'⟩ := hy
      have hyn := hDn y hyD
      have := (PO.act y _ Gp' G' D' (Array.getElem?_eq_getElem hyn) hk').1 i h ⟨_, _, _, hk⟩
      exact absurd this (hdesc y hyD hyn)
  have hqq : q2 = q := by
    cases q with
    | none =>
      cases q2 with
      | none => rfl
      | some x2 =>
        have hx2 := hst2 x2 rfl
        have hx2i := hq2 x2 rfl
        have := I.stgB x2 hx2 (hanc x2 (hbef x2 hx2i hx2))
        exact absurd (fun x hx => by cases hx) this
    | some x =>
      have hx := I.stg x rfl
      have hxD := I.stgD x rfl
      obtain ⟨x2, rfl, hle⟩ := hnotb q2 x (hall2 x (hactD x hx hxD) hx)
      have hx2 := hst2 x2 rfl
      obtain ⟨x3, h3, hle3⟩ := hnotb (some x) x2 (I.stgB x2 hx2 (hanc x2 (hbef x2 (hq2 x2 rfl) hx2)))
      cases h3
      rw [Nat.le_antisymm hle hle3]
  subst hqq
  have hwaits : ∀ j id x, (j, id, x) ∈ L → Waits base ws σ (p.mem q2) w id x := fun j id x hj => by
    obtain ⟨h1, h2, h3⟩ := (hL j id x).1 hj
    exact I.waits j id x h1 (hanc j h2) (fun y hy hyD => h3 y (hactD y hy hyD) hy)
  have hLd : L.Pairwise (fun a b => σ.blk a.2.1 ≠ σ.blk b.2.1) := by
    refine List.Pairwise.imp_of_mem (fun {a b} ha hb hne => ?_) hpw
    obtain ⟨ja, ia, xa⟩ := a
    obtain ⟨jb, ib, xb⟩ := b
    obtain ⟨h1, h2, _⟩ := (hL ja ia xa).1 ha
    obtain ⟨h4, h5, _⟩ := (hL jb ib xb).1 hb
    exact I.dist ja ia xa jb ib xb h1 h4 (hanc ja h2) (hanc jb h5) hne
  have hext := Ext.adoptL L I.ext hwaits hLd
  have hgo := operV_ok (self := self) hN hc hv
  have hsel : isSel o.op = false := PO.F.sel o (Array.mem_toList_iff.2 (Array.mem_of_getElem? ho))
  have hopl : ∀ t ∈ tmpsOf o.op.operands.toList, VR σ ((getP (pathOf t) (p.T i)).getD undefA) (ts.getD t undef) := fun t ht => hlk t (by unfold looksO; exact List.mem_append.2 (.inl ht))
  obtain ⟨σ', w', x, ds', hs, hx, hd', hE⟩ := hgo.2 w0 base U σ w b k cs ts ds ops i rest (rhoOf o.op.operands.toList ts) ho (PO.want i o ho (by rw [hk]; nofun) σ ts hlk) hro hf hext.rel (rhoOf_exec hsel ts ds) (rhoOf_ok hopl) I.dr (Nat.le_trans hnxG hU)
  have hmem : p.mem (some i) = G := by simp [Plan.mem, hk]
  have hdfs : p.dfs (some i) = Dn := by simp [Plan.dfs, hk]
  have hle := hE.le
  have hni : ∀ j id y, p.kd j = .nw id y → j ≠ i := fun j id y h e => by subst e; rw [hk] at h; cases h
  have hnum : ∀ j id y, p.kd j = .nw id y → id.num < p.G0.nx.num := fun j id y hk => by
    have hj := PO.kdn j (by rw [hk]; nofun)
    exact (PO.nw j _ id y (Array.getElem?_eq_getElem hj) hk).2.2.1
  refine ⟨some i, σ', w', _, ds', hs, fun j hj oj hoj e he hb => ?_, fun y hy => (by cases hy; exact ⟨_, _, _, hk⟩), fun y hy => (by cases hy; simp), fun y hy hyD => ?_, ?_, ?_, ?_, hput σ' x hle hx, fun j id y hkj hj hw => ?_, fun j id y hkj hj => ?_, fun j id y j' id' y' hkj hkj' hj hj' hne => ?_, fun j id y hkj hj => ?_⟩
  · rcases hor j hj with rfl | hj
    · have e' : oj = o := by
        have : ops.toList[j]? = some o := by simpa using ho
        rw [hoj] at this; cases this; rfl
      subst e'
      simp [hready e he hb]
    · simp [I.closed j hj oj hoj e he hb]
  · rcases hor y hyD with rfl | hyD
    · exact fun h => absurd (h y rfl) (Nat.lt_irrefl _)
    · have := hactD y hy hyD
      exact fun h => absurd (h i rfl) (by omega)
  · rw [hmem]; exact hext.trans hE
  · rw [hdfs]; exact hd'
  · cases o.dst <;> simp [putT, I.size]
  · have hji := hni j id y hkj
    have hjD : D j = true := (hor j hj).resolve_left hji
    have h0 := I.waits j id y hkj hjD (fun z hz hzD => hw z hz (by simp [hzD]))
    have hnanc : ¬ Anc ms i j := hw i ⟨_, _, _, hk⟩ (by simp)
    have hinL : ∀ j2 b2 x2, (j2, b2, x2) ∈ L → σ.blk b2 ≠ σ.blk id := fun j2 b2 x2 h2 => by
      obtain ⟨h3, h4, _⟩ := (hL j2 b2 x2).1 h2
      exact I.dist j2 b2 x2 j id y h3 hkj (hanc j2 h4) hjD (fun e => by subst e; exact hnanc h4)
    rw [hmem]
    have hnx1 : (p.mem q2).nx.num ≤ G.nx.num := by
      have := hE.nx
      rwa [adoptL_nx] at this
    refine h0.keep hle hnx1 (fun n hn hfr hid => ?_) (fun b2 z n hb2 hbn hlt hid => ?_)
    · refine hE.fr n hn fun b2 z hz e => ?_
      rcases adoptL_get L (p.mem q2) b2 z hz with ⟨j2, x2, h2⟩ | h2
      · exact hinL j2 b2 x2 h2 (by rw [e, hid])
      · exact hfr b2 z h2 e
    · rcases hE.nw b2 z n hb2 hbn with ⟨b3, x3, h3, h4⟩ | h3
      · rcases adoptL_get L (p.mem q2) b3 x3 h3 with ⟨j2, x2, h2⟩ | h2
        · exact absurd (by rw [h4, hid]) (hinL j2 b3 x2 h2)
        · exact ⟨b3, x3, h2, h4⟩
      · omega
  · have hjD : D j = true := (hor j hj).resolve_left (hni j id y hkj)
    obtain ⟨n, h1, h2⟩ := I.bnd j id y hkj hjD
    exact ⟨n, (hle.1 id n h1).1, Nat.lt_of_lt_of_le h2 hE.hs⟩
  · have hjD : D j = true := (hor j hj).resolve_left (hni j id y hkj)
    have hjD' : D j' = true := (hor j' hj').resolve_left (hni j' id' y' hkj')
    obtain ⟨m, h3, h4⟩ := I.bnd j id y hkj hjD
    obtain ⟨m', h5, h6⟩ := I.bnd j' id' y' hkj' hjD'
    have := I.dist j id y j' id' y' hkj hkj' hjD hjD' hne
    rw [(hle.1 id m h3).1, (hle.1 id' m' h5).1, ← h3, ← h5]
    exact this
  · have hji : j ≠ i ∧ D j = false := by simpa using hj
    have := hE.same id (.inl (Nat.lt_of_lt_of_le (hnum j id y hkj) hnxp))
    rw [this]
    exact I.fresh j id y hkj hji.2
end step
end Go.Ev

/-! A region that draws its order: every order gives the same. -/
namespace Go.Ev
open Go Go.RowKit

section step
variable {P : Program} {ro : Nat → Option CB} {call : CallF} {self : FuncId} {dfr rnd : Bool} {N : Nat} {ops : Array Oper} {ms : List Nat} {p : Plan} {T0 : Tr AV} {lo : Nat} {s' : St}
variable {w0 : World} {base U : Nat} {σ0 : Sub} {Gs : AG} {ws : World} {D : Nat → Bool} {q : Option Nat} {σ : Sub} {w : World} {ts : Array Value} {ds : List Deferred}
variable (PO : PlanOK P ro call dfr rnd N ops ms p T0 lo s')
include PO
theorem inv_step (hN : NoCount P) (hc : CallsOK P ro call) (hGs : Gs.nx.num ≤ lo) (I : Inv ops ms p T0 N w0 base U σ0 Gs ws D q σ w ts ds) {i : Nat} {o : Oper} (ho : ops[i]? = some o) (hD : D i = false) (hDn : ∀ y, D y = true → y < ops.size) (hready : ∀ e ∈ o.after.toList, bindsA e = true → D e.on = true)
    {b : Frame} {k : List Item} {cs : List Frame} {rest : List Nat} (hro : RoOK ro w0 base) (hf : FrOK self dfr rnd b cs) (hU : s'.G.nx.num ≤ U) :
    ∃ q' σ' w' ts' ds', Steps P (lone (Fr b ts ds (.inRegion ops (i :: rest) :: k)) cs w) (lone (Fr b ts' ds' (.inRegion ops rest :: k)) cs w') ∧ Inv ops ms p T0 N w0 base U σ0 Gs ws (fun j => j == i || D j) q' σ' w' ts' ds' := by
  obtain ⟨hanc, hdesc, hlk, hput⟩ := inv_looks PO I ho hD hready
  have hsel : isSel o.op = false := PO.F.sel o (Array.mem_toList_iff.2 (Array.mem_of_getElem? ho))
  have hopl : ∀ t ∈ tmpsOf o.op.operands.toList, VR σ ((getP (pathOf t) (p.T i)).getD undefA) (ts.getD t undef) := fun t ht => hlk t (by unfold looksO; exact List.mem_append.2 (.inl ht))
  have hρ := rhoOf_ok hopl
  have hρe := rhoOf_exec hsel ts ds
  have hrel := I.ext.rel
  have run : ∀ {σ' : Sub} {w' : World} {x : Value}, (∀ c, o.op ≠ .defer c) → p.kd i ≠ .skip → Yields ((execOp (rhoOf o.op.operands.toList ts) o).run P w) x w' →
      Steps P (lone (Fr b ts ds (.inRegion ops (i :: rest) :: k)) cs w) (lone (Fr b (putT ts o.dst x) ds (.inRegion ops rest :: k)) cs w') := fun {σ' w' x} hnd hsk hy => by
    rw [hρe] at hy
    have hw := PO.want i o ho hsk σ ts hlk
    rcases hy with hy | ⟨hy, rfl⟩
    · exact .one (st_value ho hw (.inr hnd) hy)
    · exact .one (st_unit ho hw (.inr hnd) hy)
  cases hk : p.kd i with
  | skip =>
    obtain ⟨hv, hw⟩ := PO.skip i o ho hk
    refine ⟨q, σ, w, putT ts o.dst undef, ds, .one (st_opSkip ho (hw σ ts hlk)), ?_⟩
    exact inv_calm PO I ho hD hready (fun ⟨_, _, _, h⟩ => by rw [hk] at h; cases h) (Sub.le_refl σ) (by rw [hv]; exact VR_undef σ) I.ext (Nat.le_refl _) (fun _ _ _ => rfl) (fun _ _ _ => rfl) (fun id y h => by rw [hk] at h; cases h)
  | pl =>
    obtain ⟨hnd, G', hop, hnx⟩ := PO.pl i o ho hk
    have hok := aop_ok (d := o.dst) (t0 := o.type) (pos := o.pos) (af := o.after) (g := o.guard) hop
    have h1 : (Pth.h).num = 1 := rfl
    obtain ⟨σ', w', x, hy, hx, hE⟩ := hok.2 w0 base 1 σ w (rhoOf o.op.operands.toList ts) hro (hrel.empty .h (fun b' h2 h3 => by rw [h1] at h2; omega)) hρ (by rw [hnx, h1]; exact Nat.le_refl _)
    have hblk : ∀ b' : Pth, σ'.blk b' = σ.blk b' := fun b' => hE.same b' (.inr (by rw [hnx, h1]; exact Pth.num_pos b'))
    have hheap : ∀ n, n < w.heap.size → w'.heap[n]? = w.heap[n]? := fun n hn => hE.fr n hn (fun b' y h => by unfold AG.get at h; rw [getP_e] at h; cases h)
    refine ⟨q, σ', w', putT ts o.dst x, ds, run (σ' := σ') hnd (by rw [hk]; nofun) hy, ?_⟩
    exact inv_calm PO I ho hD hready (fun ⟨_, _, _, h⟩ => by rw [hk] at h; cases h) hE.le hx (I.ext.goOn hE.le (fun b' _ => hblk b') hE.rel.below hE.hs hheap) hE.hs (fun n hn _ => hheap n hn) (fun b' _ _ => hblk b') (fun id y h => by rw [hk] at h; cases h)
  | ld =>
    obtain ⟨hrd, hst⟩ := PO.ld i o ho hk
    have hnd : ∀ c, o.op ≠ .defer c := fun c e => by rw [e] at hrd; cases hrd
    obtain ⟨G', hop⟩ := hst q I.stg (fun x hx => hDn x (I.stgD x hx)) (fun y hy hb ha => by
        cases q with
        | none => exact hb (fun x hx => by cases hx)
        | some x =>
          have hxD := I.stgD x rfl
          have hxn := hDn x hxD
          have hle : y ≤ x := Nat.le_of_not_lt fun h => hb (fun z hz => by cases hz; exact h)
          have hyD : D y = true := by
            rcases Nat.lt_or_eq_of_le hle with h | h
            · obtain ⟨Gp, G, Dn, hkx⟩ := I.stg x rfl
              have := (PO.act x _ Gp G Dn (Array.getElem?_eq_getElem hxn) hkx).1 y h hy
              exact PO.F.closed (D := fun j => D j = true) (fun k hk o' ho'' e he hb => I.closed k hk o' ho'' e he hb) x ops[x] (by simp [hxn]) (fun e he hb => I.closed x hxD ops[x] (by simp [hxn]) e he hb) y this
            · rw [h]; exact hxD
          exact hdesc y hyD (hDn y hyD) ha) (fun y hy hb ha => I.stgB y hy (hanc y ha) hb)
    have hG := isRead_pure hrd hop
    subst hG
    have hok := aop_ok (d := o.dst) (t0 := o.type) (pos := o.pos) (af := o.after) (g := o.guard) hop
    have hmU : (p.mem q).nx.num ≤ U := by
      refine Nat.le_trans ?_ hU
      cases q with
      | none => exact PO.g0
      | some x =>
        obtain ⟨Gp, G, Dn, hkx⟩ := I.stg x rfl
        have hxn := hDn x (I.stgD x rfl)
        have := (PO.act x _ Gp G Dn (Array.getElem?_eq_getElem hxn) hkx).2.1
        simpa [Plan.mem, hkx] using this
    obtain ⟨σ', w', x, hy, hx, hE⟩ := hok.2 w0 base U σ w (rhoOf o.op.operands.toList ts) hro hrel hρ hmU
    have hblk : ∀ b' : Pth, σ'.blk b' = σ.blk b' := fun b' => hE.same b' (by omega)
    refine ⟨q, σ', w', putT ts o.dst x, ds, run (σ' := σ') hnd (by rw [hk]; nofun) hy, ?_⟩
    exact inv_calm PO I ho hD hready (fun ⟨_, _, _, h⟩ => by rw [hk] at h; cases h) hE.le hx (I.ext.trans hE) hE.hs (fun n hn hfr => hE.fr n hn hfr) (fun b' _ _ => hblk b') (fun id y h => by rw [hk] at h; cases h)
  | nw id y =>
    obtain ⟨hnd, hlo, hnum, G', hop, hnx, hget⟩ := PO.nw i o id y ho hk
    have hok := aop_ok (d := o.dst) (t0 := o.type) (pos := o.pos) (af := o.after) (g := o.guard) hop
    have h1 : G'.nx.num = id.num + 1 := by rw [hnx]; exact Pth.num_suc _
    have hfresh := I.fresh i id y hk hD
    obtain ⟨σ', w', x, hy, hx, hE⟩ := hok.2 w0 base (id.num + 1) σ w (rhoOf o.op.operands.toList ts) hro (hrel.empty id (fun b' h2 h3 => by
        have : b' = id := Pth.num_inj (by omega)
        rw [this]; exact hfresh)) hρ (by omega)
    have hblk : ∀ b' : Pth, b' ≠ id → σ'.blk b' = σ.blk b' := fun b' hne => hE.same b' (by
      have : b'.num ≠ id.num := fun e => hne (Pth.num_inj e)
      rw [h1]
      show b'.num < id.num ∨ _
      omega)
    have hheap : ∀ n, n < w.heap.size → w'.heap[n]? = w.heap[n]? := fun n hn => hE.fr n hn (fun b' y h => by unfold AG.get at h; rw [getP_e] at h; cases h)
    obtain ⟨_, n, o', hn, hbn, ho', hbr⟩ := hE.rel.blk id y hget
    have hnew : w.heap.size ≤ n := by
      rcases hE.nw id y n hget hn with ⟨b0, x0, h2, _⟩ | h2
      · unfold AG.get at h2; rw [getP_e] at h2; cases h2
      · exact h2
    have hmemnx : p.G0.nx.num ≤ (p.mem q).nx.num := by
      cases q with
      | none => exact Nat.le_refl _
      | some x =>
        obtain ⟨Gp, G, Dn, hkx⟩ := I.stg x rfl
        have hxn := hDn x (I.stgD x rfl)
        obtain ⟨_, _, h3, q2, L, _, _, _, hv, _⟩ := PO.act x _ Gp G Dn (Array.getElem?_eq_getElem hxn) hkx
        have := (operV_ok (self := self) hN hc hv).1
        have e : p.mem (some x) = G := by simp [Plan.mem, hkx]
        rw [e]; omega
    refine ⟨q, σ', w', putT ts o.dst x, ds, run (σ' := σ') hnd (by rw [hk]; nofun) hy, ?_⟩
    refine inv_calm PO I ho hD hready (fun ⟨_, _, _, h⟩ => by rw [hk] at h; cases h) hE.le hx (I.ext.goOn hE.le (fun b' hb' => hblk b' (fun e => by subst e; omega)) hE.rel.below hE.hs hheap) hE.hs (fun n hn _ => hheap n hn) (fun b' _ hne => hblk b' (hne id y hk)) (fun id' y' h => ?_)
    rw [hk] at h
    cases h
    refine ⟨⟨Nat.lt_of_lt_of_le hnum hmemnx, n, o', hn, hbn, Nat.le_trans I.ext.hs hnew, ho', hbr, fun b' z hz e => ?_⟩, n, hn, hnew, lt_of_heap ho'⟩
    obtain ⟨_, m, om, hm, _, hom, _⟩ := I.ext.rel.blk b' z hz
    have h5 := lt_of_heap hom
    have h6 := (hE.le.1 b' m hm).1
    rw [e] at h6; cases h6
    omega
  | act Gp G Dn => exact inv_act PO hN hc I ho hD hDn hready hk hro hf hU
end step
end Go.Ev

/-! A region that draws its order: from its start to its end, whatever is drawn. -/
namespace Go.Ev
open Go Go.RowKit

/-- how many of the first k are done -/
def cntD (D : Nat → Bool) : Nat → Nat
  | 0 => 0
  | k + 1 => cntD D k + (if D k then 1 else 0)
theorem cntD_le (D : Nat → Bool) : ∀ k, cntD D k ≤ k
  | 0 => Nat.le_refl _
  | k + 1 => by have := cntD_le D k; unfold cntD; split <;> omega
theorem cntD_all {D : Nat → Bool} : ∀ {k}, cntD D k = k → ∀ j, j < k → D j = true
  | 0, _, j, hj => by omega
  | k + 1, h, j, hj => by
    have := cntD_le D k
    unfold cntD at h
    split at h
    · rename_i hk
      by_cases e : j = k
      · subst e; exact hk
      · exact cntD_all (k := k) (by omega) j (by omega)
    · omega
theorem cntD_put {D : Nat → Bool} {i : Nat} (hD : D i = false) : ∀ {k}, cntD (fun j => j == i || D j) k = cntD D k + (if i < k then 1 else 0)
  | 0 => by simp [cntD]
  | k + 1 => by
    unfold cntD
    rw [cntD_put hD]
    by_cases e : k = i
    · subst e; simp [hD]
    · have e1 : (k == i) = false := by simpa using e
      by_cases hlt : i < k
      · have : i < k + 1 := by omega
        simp only [e1, Bool.false_or, hlt, this, if_true]; omega
      · have : ¬ i < k + 1 := by omega
        simp only [e1, Bool.false_or, hlt, this, if_false]; omega

section lin
variable {P : Program} {ro : Nat → Option CB} {call : CallF} {self : FuncId} {dfr rnd : Bool} {N : Nat} {ops : Array Oper} {ms : List Nat} {p : Plan} {T0 : Tr AV} {lo : Nat} {s' : St}
variable {w0 : World} {base U : Nat} {σ0 : Sub} {Gs : AG} {ws : World}

theorem mem_ready {listed : Array Bool} {i : Nat} : i ∈ Region.ready .any ops listed ↔ ∃ o, ops[i]? = some o ∧ listed.getD i true = false ∧ ∀ e ∈ o.after.toList, bindsA e = true → listed.getD e.on false = true := by
  unfold Region.ready
  rw [List.mem_filter, List.mem_range, Bool.and_eq_true, Bool.not_eq_true']
  constructor
  · rintro ⟨h1, h2, h3⟩
    refine ⟨_, Array.getElem?_eq_getElem h1, h2, fun e he hb => ?_⟩
    rw [Array.getElem?_eq_getElem h1] at h3
    simp only [Option.map_some, Option.getD_some, Array.all_eq_true_iff_forall_mem] at h3
    have := h3 e (Array.mem_toList_iff.1 he)
    have hb' : Region.binds .any e = true := hb
    rw [hb'] at this
    simpa using this
  · rintro ⟨o, ho, h2, h3⟩
    refine ⟨(Array.getElem?_eq_some_iff.1 ho).1, h2, ?_⟩
    rw [ho]
    simp only [Option.map_some, Option.getD_some, Array.all_eq_true_iff_forall_mem]
    intro e he
    cases hb : Region.binds .any e with
    | false => rfl
    | true => simpa using h3 e (Array.mem_toList_iff.2 he) hb

variable (PO : PlanOK P ro call dfr rnd N ops ms p T0 lo s')
include PO
theorem lin_go (hN : NoCount P) (hc : CallsOK P ro call) (hGs : Gs.nx.num ≤ lo) {b : Frame} {k : List Item} {cs : List Frame} (hro : RoOK ro w0 base) (hf : FrOK self dfr rnd b cs) (hU : s'.G.nx.num ≤ U) :
    ∀ (fuel t : Nat) (listed : Array Bool) (q : Option Nat) (σ : Sub) (w : World) (ts : Array Value) (ds : List Deferred), listed.size = ops.size → fuel + cntD (fun j => listed.getD j false) ops.size = ops.size →
      Inv ops ms p T0 N w0 base U σ0 Gs ws (fun j => listed.getD j false) q σ w ts ds →
      ∃ D q' σ' w' ts' ds', Steps P (lone (Fr b ts ds (.inRegion ops (Region.linearise.go .any ops fuel t listed []) :: k)) cs w) (lone (Fr b ts' ds' (.inRegion ops [] :: k)) cs w') ∧ Inv ops ms p T0 N w0 base U σ0 Gs ws D q' σ' w' ts' ds' ∧ (∀ j, j < ops.size → D j = true) ∧ (∀ j, D j = true → j < ops.size) := by
  have hDn : ∀ (listed : Array Bool), listed.size = ops.size → ∀ y, listed.getD y false = true → y < ops.size := fun listed hs y hy => by
    rw [← hs]
    apply Nat.lt_of_not_le
    intro hle
    rw [Array.getD_eq_getD_getElem?, Array.getElem?_eq_none hle] at hy
    cases hy
  intro fuel
  induction fuel with
  | zero =>
    intro t listed q σ w ts ds hs hcn I
    simp only [Region.linearise.go, List.reverse_nil]
    exact ⟨_, q, σ, w, ts, ds, Steps.refl _ _, I, cntD_all (by omega), hDn listed hs⟩
  | succ fuel ih =>
    intro t listed q σ w ts ds hs hcn I
    simp only [Region.linearise.go]
    change ∃ D q' σ' w' ts' ds', Steps P (lone (Fr b ts ds (.inRegion ops (match (Region.ready .any ops listed)[t % (Region.ready .any ops listed).length]? with
      | some i => Region.linearise.go .any ops fuel (t / (Region.ready .any ops listed).length) (listed.setIfInBounds i true) [i]
      | none => [].reverse) :: k)) cs w) _ ∧ _
    cases hi : (Region.ready .any ops listed)[t % (Region.ready .any ops listed).length]? with
    | none =>
      have hnil : Region.ready .any ops listed = [] := by
        cases hr : Region.ready .any ops listed with
        | nil => rfl
        | cons x xs =>
          rw [hr] at hi
          have hlt : t % (x :: xs).length < (x :: xs).length := Nat.mod_lt _ (by simp)
          simp at hi
          simp at hlt
          omega
      have hall : ∀ j, j < ops.size → listed.getD j false = true := by
        intro j
        induction j using Nat.strongRecOn with
        | _ j ihj =>
          intro hj
          cases hl : listed.getD j false with
          | true => rfl
          | false =>
            exfalso
            have : j ∈ Region.ready .any ops listed := mem_ready.2 ⟨_, Array.getElem?_eq_getElem hj, by
                have hjs : j < listed.size := by omega
                simp only [Array.getD_eq_getD_getElem?, Array.getElem?_eq_getElem hjs, Option.getD_some] at hl ⊢
                exact hl, fun e he hb => by
              have hlt := PO.F.back j ops[j] (by simp [hj]) e he hb
              exact ihj e.on hlt (by omega)⟩
            rw [hnil] at this
            cases this
      exact ⟨_, q, σ, w, ts, ds, Steps.refl _ _, I, hall, hDn listed hs⟩
    | some i =>
      obtain ⟨o, ho, h1, h2⟩ := mem_ready.1 (List.mem_of_getElem? hi)
      have hin : i < ops.size := (Array.getElem?_eq_some_iff.1 ho).1
      have his : i < listed.size := by omega
      have hD : listed.getD i false = false := by
        simp only [Array.getD_eq_getD_getElem?, Array.getElem?_eq_getElem his, Option.getD_some] at h1 ⊢
        exact h1
      simp only
      rw [linearise_go_acc, List.reverse_singleton, List.singleton_append]
      obtain ⟨q', σ', w', ts', ds', hst, hI⟩ := inv_step (self := self) PO hN hc hGs I ho hD (hDn listed hs) h2 (b := b) (k := k) (cs := cs) (rest := Region.linearise.go .any ops fuel (t / (Region.ready .any ops listed).length) (listed.setIfInBounds i true) []) hro hf hU
      have hfun : (fun j => j == i || listed.getD j false) = fun j => (listed.setIfInBounds i true).getD j false := by
        funext j
        by_cases e : j = i
        · subst e; simp [his]
        · have e' : i ≠ j := fun e'' => e e''.symm
          simp only [Array.getD_eq_getD_getElem?, Array.getElem?_setIfInBounds_ne e']
          simp [e]
      have hcn' := cntD_put (D := fun j => listed.getD j false) (i := i) hD (k := ops.size)
      rw [hfun] at hI hcn'
      rw [if_pos hin] at hcn'
      obtain ⟨D, q2, σ2, w2, ts2, ds2, hs2, r⟩ := ih _ _ q' σ' w' ts' ds' (by simpa using hs) (by omega) hI
      exact ⟨D, q2, σ2, w2, ts2, ds2, hst.trans hs2, r⟩

/-- the whole region -/
theorem plan_go (hN : NoCount P) (hc : CallsOK P ro call) (hm : P.follows .mixedOrders = true) {id : Nat} {s : St} (hT : T0 = s.T) (hlo : lo = s.G.nx.num) (hG0 : p.G0.t = s.G.t) (hD0 : p.D0 = s.D) : Go1 P ro self dfr rnd N [.code (.region id ops true)] .nx s s' := by
  subst hT hlo
  refine ⟨Nat.le_trans PO.lo0 PO.g0, fun w0 base U σ w b k cs ts ds hro hf hr ht hd hU => ?_⟩
  let w1 : World := { w with drawn := w.drawn + 1 }
  have hr1 : Rel w0 base U σ s.G w1 := hr.drawn (w.drawn + 1)
  have hget : ∀ b', p.G0.get b' = s.G.get b' := fun b' => by unfold AG.get; rw [hG0]
  have hrel0 : Rel w0 base U σ p.G0 w1 := ⟨hr1.below, fun b' x hx => by
      rw [hget] at hx
      obtain ⟨h1, r⟩ := hr1.blk b' x hx
      exact ⟨Nat.lt_of_lt_of_le h1 PO.lo0, r⟩, fun b1 b2 x1 x2 n h1 h2 => by rw [hget] at h1 h2; exact hr1.inj b1 b2 x1 x2 n h1 h2, fun b' h1 h2 => hr1.undef b' (Nat.le_trans PO.lo0 h1) h2, hr1.bs⟩
  have hext0 : Ext w0 base U σ s.G w1 σ p.G0 w1 := ⟨Sub.le_refl σ, fun _ _ => rfl, PO.lo0, hrel0, Nat.le_refl _, fun _ _ _ => rfl, fun b' x n hx hn => .inl ⟨b', x, by rw [← hget]; exact hx, hn⟩⟩
  have hrep : ∀ j, (Array.replicate ops.size false).getD j false = false := fun j => by
    rw [Array.getD_eq_getD_getElem?]
    by_cases h : j < ops.size
    · simp [h]
    · simp [h]
  have hslot0 : ∀ (D : Nat → Bool), (∀ j, D j = false) → ∀ t k, slotV ops.toList p.v s.T D t k = (getP (pathOf t) s.T).getD undefA := fun D hD t k => by
    induction k with
    | zero => rfl
    | succ k ih => unfold slotV; rw [if_neg (by rw [hD]; intro h; cases h.1), ih]
  have hcnt0 : cntD (fun j => (Array.replicate ops.size false).getD j false) ops.size = 0 := by
    have : ∀ k, cntD (fun j => (Array.replicate ops.size false).getD j false) k = 0 := fun k => by
      induction k with
      | zero => rfl
      | succ k ih => unfold cntD; rw [ih, hrep]; rfl
    exact this _
  have I0 : Inv ops ms p s.T N w0 base U σ s.G w1 (fun j => (Array.replicate ops.size false).getD j false) none σ w1 ts ds :=
    ⟨fun i hi => (by rw [hrep] at hi; cases hi), fun x hx => (by cases hx), fun x hx => (by cases hx), fun y _ hy => (by rw [hrep] at hy; cases hy), hext0, (by show DR σ p.D0 ds; rw [hD0]; exact hd), ht.1,
      fun t => (by rw [hslot0 _ hrep]; exact ht.2 t), fun j id x _ hj => (by rw [hrep] at hj; cases hj), fun j id x _ hj => (by rw [hrep] at hj; cases hj), fun j id x j' id' x' _ _ hj => (by rw [hrep] at hj; cases hj), fun j id x hk _ => by
        have hj := PO.kdn j (by rw [hk]; nofun)
        obtain ⟨_, h1, h2, _⟩ := PO.nw j _ id x (Array.getElem?_eq_getElem hj) hk
        exact hr.undef id h1 (Nat.lt_of_lt_of_le h2 (Nat.le_trans PO.g0 hU))⟩
  have hstep : step P (lone (Fr b ts ds ([.code (.region id ops true)] ++ k)) cs w) = .next (lone (Fr b ts ds (.inRegion ops (Region.linearise.go .any ops ops.size (w.tape w.drawn (.order b.fn id)) (Array.replicate ops.size false) []) :: k)) cs w1) := by
    have := st_draw (P := P) (b := b) (ts := ts) (ds := ds) (k := k) (cs := cs) (w := w) (id := id) (ops := ops)
    simp only [Region.schedule, hm, Bool.true_or, if_true, Region.linearise] at this
    exact this
  obtain ⟨D, q, σ', w', ts', ds', hs, I, hall, hDn⟩ := lin_go (self := self) PO hN hc (Nat.le_refl _) (b := b) (k := k) (cs := cs) hro hf hU ops.size (w.tape w.drawn (.order b.fn id)) _ none σ w1 ts ds (by simp) (by rw [hcnt0]; rfl) I0
  obtain ⟨q2, L, hst2, hall2, hD', hG', hpw, hL⟩ := PO.fin
  have hactn : ∀ y, p.isAct y → y < ops.size := fun y ⟨_, _, _, hk⟩ => PO.kdn y (by rw [hk]; nofun)
  have hnotb : ∀ (q : Option Nat) (y : Nat), ¬ behind q y → ∃ x, q = some x ∧ y ≤ x := fun q y h => by
    cases q with
    | none => exact absurd (fun x hx => by cases hx) h
    | some x =>
      refine ⟨x, rfl, Nat.le_of_not_lt fun hlt => h (fun z hz => by cases hz; exact hlt)⟩
  have hqq : q2 = q := by
    cases q with
    | none =>
      cases q2 with
      | none => rfl
      | some x2 =>
        have hx2 := hst2 x2 rfl
        exact absurd (fun x hx => by cases hx) (I.stgB x2 hx2 (hall x2 (hactn x2 hx2)))
    | some x =>
      have hx := I.stg x rfl
      obtain ⟨x2, rfl, hle⟩ := hnotb q2 x (hall2 x hx)
      have hx2 := hst2 x2 rfl
      obtain ⟨x3, h3, hle3⟩ := hnotb (some x) x2 (I.stgB x2 hx2 (hall x2 (hactn x2 hx2)))
      cases h3
      rw [Nat.le_antisymm hle hle3]
  subst hqq
  have hnwn : ∀ j id x, p.kd j = .nw id x → D j = true := fun j id x hk => hall j (PO.kdn j (by rw [hk]; nofun))
  have hfin : Ext w0 base U σ s.G w1 σ' s'.G w' := by
    rw [hG']
    refine Ext.adoptL L I.ext (fun j id x hj => ?_) (List.Pairwise.imp_of_mem (fun {a b} ha hb hne => ?_) hpw)
    · obtain ⟨h1, h2⟩ := (hL j id x).1 hj
      exact I.waits j id x h1 (hnwn j id x h1) (fun y hy _ => h2 y hy)
    · obtain ⟨ja, ia, xa⟩ := a
      obtain ⟨jb, ib, xb⟩ := b
      have h1 := ((hL ja ia xa).1 ha).1
      have h2 := ((hL jb ib xb).1 hb).1
      exact I.dist ja ia xa jb ib xb h1 h2 (hnwn _ _ _ h1) (hnwn _ _ _ h2) hne
  refine ⟨σ', w', ts', ds', Steps.head hstep (hs.trans (.one st_regionEnd)), ⟨I.size, fun t => ?_⟩, by rw [hD']; exact I.dr, (Ext.drawn hr _).trans hfin⟩
  have h1 := I.slots t
  have h2 := slotT PO t ops.size (Nat.le_refl _)
  rw [PO.tn] at h2
  rw [h2, slotV_congr ops.toList p.v s.T (D' := D) (fun j hj _ => by simp [hj, hall j hj])]
  exact h1
end lin
end Go.Ev

