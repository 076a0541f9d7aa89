/- An evaluator of the model's code over an abstract memory: its data, its trees, and how abstract values stand for values. Generic: no program is named. -/
import Derived.Calls
import Derived.Below
import Derived.Laws.Sem
namespace Go.Ev
open Go

/-! ### Small words for the kernel -/

/-- 'if' on a Bool, one unfolding. -/
@[reducible] noncomputable def br {α : Type} (c : Bool) (t e : α) : α := Bool.rec e t c
theorem br_true {α : Type} (t e : α) : br true t e = t := rfl
theorem br_false {α : Type} (t e : α) : br false t e = e := rfl
theorem br_eq {α : Type} (c : Bool) (t e : α) : br c t e = if c then t else e := by cases c <;> rfl

/-- a number made a numeral before it is handed on -/
noncomputable def fN {R : Type} (n : Nat) (K : Nat → R) : R := Nat.rec (K 0) (fun m _ => K (Nat.succ m)) n
theorem fN_eq {R : Type} (n : Nat) (K : Nat → R) : fN n K = K n := by cases n <;> rfl
noncomputable def fI {R : Type} (n : Int) (K : Int → R) : R := Int.rec (fun a => fN a fun a => K (Int.ofNat a)) (fun a => fN a fun a => K (Int.negSucc a)) n
theorem fI_eq {R : Type} (n : Int) (K : Int → R) : fI n K = K n := by cases n <;> simp [fI, fN_eq]
noncomputable def fB {R : Type} (b : Bool) (K : Bool → R) : R := Bool.rec (K false) (K true) b
theorem fB_eq {R : Type} (b : Bool) (K : Bool → R) : fB b K = K b := by cases b <;> rfl
noncomputable def om {α R : Type} (x : Option α) (n : R) (s : α → R) : R := Option.rec n s x
theorem om_eq {α R : Type} (x : Option α) (n : R) (s : α → R) : om x n s = match x with | some a => s a | none => n := by cases x <;> rfl

/-! ### Trees keyed by paths -/

/-- a number from 1 on, by its binary digits, the least one first -/
inductive Pth where
  | h
  | l (p : Pth)
  | r (p : Pth)
def Pth.num : Pth → Nat
  | .h => 1
  | .l p => 2 * p.num
  | .r p => 2 * p.num + 1
theorem Pth.num_pos : ∀ p : Pth, 1 ≤ p.num
  | .h => Nat.le_refl _
  | .l p => by have := p.num_pos; simp only [Pth.num]; omega
  | .r p => by simp only [Pth.num]; omega
theorem Pth.num_inj : ∀ {p q : Pth}, p.num = q.num → p = q
  | .h, .h, _ => rfl
  | .h, .l q, e => by have := q.num_pos; simp only [Pth.num] at e; omega
  | .h, .r q, e => by have := q.num_pos; simp only [Pth.num] at e; omega
  | .l p, .h, e => by have := p.num_pos; simp only [Pth.num] at e; omega
  | .r p, .h, e => by have := p.num_pos; simp only [Pth.num] at e; omega
  | .l p, .l q, e => by rw [Pth.num_inj (p := p) (q := q) (by simp only [Pth.num] at e; omega)]
  | .r p, .r q, e => by rw [Pth.num_inj (p := p) (q := q) (by simp only [Pth.num] at e; omega)]
  | .l p, .r q, e => by simp only [Pth.num] at e; omega
  | .r p, .l q, e => by simp only [Pth.num] at e; omega
instance : DecidableEq Pth := fun p q => decidable_of_iff (p.num = q.num) ⟨Pth.num_inj, fun h => by rw [h]⟩
noncomputable def sucK {R : Type} (p : Pth) : (Pth → R) → R :=
  Pth.rec (motive := fun _ => (Pth → R) → R) (fun K => K (.l .h)) (fun p _ K => K (.r p)) (fun _ ih K => ih fun q => K (.l q)) p
noncomputable def Pth.suc (p : Pth) : Pth := sucK p id
theorem Pth.suc_r (p : Pth) : (Pth.r p).suc = .l p.suc := by
  have key : ∀ (p : Pth) (f : Pth → Pth), sucK p f = f (sucK p id) := by
    intro p
    induction p with
    | h => intro f; rfl
    | l p _ => intro f; rfl
    | r p ih => intro f; show sucK p (fun q => f (.l q)) = f (sucK p fun q => Pth.l q); rw [ih, ih (fun q => Pth.l q)]
  show sucK p (fun q => Pth.l q) = _
  rw [key]; rfl
theorem sucK_eq {R : Type} (p : Pth) : ∀ K : Pth → R, sucK p K = K p.suc := by
  induction p with
  | h => intro K; rfl
  | l p _ => intro K; rfl
  | r p ih => intro K; show sucK p (fun q => K (.l q)) = _; rw [ih, Pth.suc_r]
theorem Pth.num_suc (p : Pth) : p.suc.num = p.num + 1 := by
  induction p with
  | h => rfl
  | l p _ => rfl
  | r p ih => rw [Pth.suc_r]; simp only [Pth.num]; rw [ih]; omega
noncomputable def pEq (p : Pth) : Pth → Bool :=
  Pth.rec (motive := fun _ => Pth → Bool) (fun q => Pth.rec true (fun _ _ => false) (fun _ _ => false) q) (fun _ ih q => Pth.rec false (fun q _ => ih q) (fun _ _ => false) q) (fun _ ih q => Pth.rec false (fun _ _ => false) (fun q _ => ih q) q) p
theorem pEq_iff (p : Pth) : ∀ q, pEq p q = true ↔ p = q := by
  induction p with
  | h => intro q; cases q <;> simp [pEq]
  | l p ih => intro q; cases q with
    | h => simp [pEq]
    | l q => show pEq p q = true ↔ _; rw [ih]; simp
    | r q => simp [pEq]
  | r p ih => intro q; cases q with
    | h => simp [pEq]
    | l q => simp [pEq]
    | r q => show pEq p q = true ↔ _; rw [ih]; simp

/-- the path of a slot -/
noncomputable def pathF (f : Nat) : Nat → Pth := Nat.rec (motive := fun _ => Nat → Pth) (fun _ => .h) (fun _ ih k => Bool.rec (Bool.rec (.r (ih (Nat.div k 2))) (.l (ih (Nat.div k 2))) (Nat.beq (Nat.mod k 2) 0)) .h (Nat.beq k 1)) f
noncomputable def pathOf (t : Nat) : Pth := pathF (Nat.succ t) (Nat.succ t)
theorem pathF_num (f : Nat) : ∀ k, 1 ≤ k → k < 2 ^ f → (pathF f k).num = k := by
  induction f with
  | zero => intro k h1 h2; simp at h2; omega
  | succ f ih =>
    intro k h1 h2
    have e : pathF (f + 1) k = Bool.rec (Bool.rec (.r (pathF f (k / 2))) (.l (pathF f (k / 2))) (Nat.beq (k % 2) 0)) .h (Nat.beq k 1) := rfl
    rw [e]
    have h3 : k / 2 < 2 ^ f := by rw [Nat.pow_succ] at h2; omega
    cases e1 : Nat.beq k 1 with
    | true => have := Nat.eq_of_beq_eq_true e1; subst this; rfl
    | false =>
      have n1 : k ≠ 1 := fun h => by subst h; simp at e1
      cases e2 : Nat.beq (k % 2) 0 with
      | true =>
        have := Nat.eq_of_beq_eq_true e2
        show (Pth.l (pathF f (k / 2))).num = k
        simp only [Pth.num]
        rw [ih _ (by omega) h3]; omega
      | false =>
        have : k % 2 ≠ 0 := fun h => by rw [h] at e2; simp at e2
        show (Pth.r (pathF f (k / 2))).num = k
        simp only [Pth.num]
        rw [ih _ (by omega) h3]; omega
theorem pathOf_num (t : Nat) : (pathOf t).num = t + 1 := pathF_num (t + 1) (t + 1) (by omega) Nat.lt_two_pow_self
theorem pathOf_inj {t u : Nat} (h : pathOf t = pathOf u) : t = u := by
  have := congrArg Pth.num h
  rw [pathOf_num, pathOf_num] at this; omega

inductive Tr (α : Type) where
  | e
  | n (l : Tr α) (v : Option α) (r : Tr α)

section tree
variable {α R : Type}
noncomputable def getP (p : Pth) : Tr α → Option α :=
  Pth.rec (motive := fun _ => Tr α → Option α)
    (fun t => Tr.rec none (fun _ v _ _ _ => v) t)
    (fun _ ih t => Tr.rec none (fun l _ _ _ _ => ih l) t)
    (fun _ ih t => Tr.rec none (fun _ _ r _ _ => ih r) t) p
noncomputable def hE (x : Option α) (K : Tr α → R) : R := K (.n .e x .e)
noncomputable def hN (l : Tr α) (_ : Option α) (r : Tr α) (_ _ : Option α → (Tr α → R) → R) (x : Option α) (K : Tr α → R) : R := K (.n l x r)
/-- a value is put (or none), the whole tree in normal form -/
noncomputable def setP (p : Pth) : Tr α → Option α → (Tr α → R) → R :=
  Pth.rec (motive := fun _ => Tr α → Option α → (Tr α → R) → R)
    (fun t => Tr.rec (motive := fun _ => Option α → (Tr α → R) → R) hE hN t)
    (fun _ ih t => Tr.rec (motive := fun _ => Option α → (Tr α → R) → R) (fun x K => ih .e x fun l => K (.n l none .e)) (fun l v r _ _ x K => ih l x fun l => K (.n l v r)) t)
    (fun _ ih t => Tr.rec (motive := fun _ => Option α → (Tr α → R) → R) (fun x K => ih .e x fun r => K (.n .e none r)) (fun l v r _ _ x K => ih r x fun r => K (.n l v r)) t) p
def Tr.set : Pth → Tr α → Option α → Tr α
  | .h, .e, x => .n .e x .e
  | .h, .n l _ r, x => .n l x r
  | .l p, .e, x => .n (Tr.set p .e x) none .e
  | .l p, .n l v r, x => .n (Tr.set p l x) v r
  | .r p, .e, x => .n .e none (Tr.set p .e x)
  | .r p, .n l v r, x => .n l v (Tr.set p r x)
theorem setP_eq (p : Pth) : ∀ (t : Tr α) (x : Option α) (K : Tr α → R), setP p t x K = K (Tr.set p t x) := by
  induction p with
  | h => intro t x K; cases t <;> rfl
  | l p ih => intro t x K; cases t with
    | e => show setP p .e x (fun l => K (.n l none .e)) = _; rw [ih]; rfl
    | n l v r => show setP p l x (fun l => K (.n l v r)) = _; rw [ih]; rfl
  | r p ih => intro t x K; cases t with
    | e => show setP p .e x (fun r => K (.n .e none r)) = _; rw [ih]; rfl
    | n l v r => show setP p r x (fun r => K (.n l v r)) = _; rw [ih]; rfl
theorem getP_e (p : Pth) : getP p (.e : Tr α) = none := by cases p <;> rfl
theorem getP_set (p : Pth) : ∀ (t : Tr α) (q : Pth) (x : Option α), getP q (Tr.set p t x) = if q = p then x else getP q t := by
  induction p with
  | h =>
    intro t q x
    cases t with
    | e => cases q with
      | h => rfl
      | l q => rw [if_neg (by simp)]; show getP q (.e : Tr α) = _; rw [getP_e, getP_e]
      | r q => rw [if_neg (by simp)]; show getP q (.e : Tr α) = _; rw [getP_e, getP_e]
    | n l v r => cases q with
      | h => rfl
      | l q => rw [if_neg (by simp)]; rfl
      | r q => rw [if_neg (by simp)]; rfl
  | l p ih =>
    intro t q x
    cases t with
    | e => cases q with
      | h => rw [if_neg (by simp)]; rfl
      | l q => show getP q (Tr.set p .e x) = _; rw [ih, getP_e, getP_e]; simp
      | r q => rw [if_neg (by simp)]; show getP q (.e : Tr α) = _; rw [getP_e, getP_e]
    | n l v r => cases q with
      | h => rw [if_neg (by simp)]; rfl
      | l q =>
        show getP q (Tr.set p l x) = _
        rw [ih]
        by_cases e : q = p
        · subst e; rw [if_pos rfl, if_pos rfl]
        · rw [if_neg e, if_neg (by simpa using e)]; rfl
      | r q => rw [if_neg (by simp)]; rfl
  | r p ih =>
    intro t q x
    cases t with
    | e => cases q with
      | h => rw [if_neg (by simp)]; rfl
      | l q => rw [if_neg (by simp)]; show getP q (.e : Tr α) = _; rw [getP_e, getP_e]
      | r q => show getP q (Tr.set p .e x) = _; rw [ih, getP_e, getP_e]; simp
    | n l v r => cases q with
      | h => rw [if_neg (by simp)]; rfl
      | l q => rw [if_neg (by simp)]; rfl
      | r q =>
        show getP q (Tr.set p r x) = _
        rw [ih]
        by_cases e : q = p
        · subst e; rw [if_pos rfl, if_pos rfl]
        · rw [if_neg e, if_neg (by simpa using e)]; rfl
end tree

/-! ### Lists, in normal form -/
section lists
variable {α R : Type}
/-- the first n, and the rest -/
noncomputable def takeK (n : Nat) : List α → (List α → R) → R :=
  Nat.rec (motive := fun _ => List α → (List α → R) → R) (fun _ K => K []) (fun _ ih l => List.rec (motive := fun _ => (List α → R) → R) (fun K => K []) (fun a r _ K => ih r fun x => K (a :: x)) l) n
theorem takeK_eq (n : Nat) : ∀ (l : List α) (K : List α → R), takeK n l K = K (l.take n) := by
  induction n with
  | zero => intro l K; rfl
  | succ n ih =>
    intro l K
    cases l with
    | nil => rfl
    | cons a r => show takeK n r (fun x => K (a :: x)) = _; rw [ih]; rfl
/-- just n of them, or not at all -/
noncomputable def takeX (n : Nat) (no : R) : List α → (List α → R) → R :=
  Nat.rec (motive := fun _ => List α → (List α → R) → R) (fun _ K => K []) (fun _ ih l => List.rec (motive := fun _ => (List α → R) → R) (fun _ => no) (fun a r _ K => ih r fun x => K (a :: x)) l) n
theorem takeX_eq (n : Nat) (no : R) : ∀ (l : List α) (K : List α → R), takeX n no l K = if n ≤ l.length then K (l.take n) else no := by
  induction n with
  | zero => intro l K; rw [if_pos (Nat.zero_le _)]; rfl
  | succ n ih =>
    intro l K
    cases l with
    | nil => rw [if_neg (by simp)]; rfl
    | cons a r =>
      show takeX n no r (fun x => K (a :: x)) = _
      rw [ih]
      by_cases h : n ≤ r.length
      · rw [if_pos h, if_pos (by simpa using h)]; rfl
      · rw [if_neg h, if_neg (by simpa using h)]
noncomputable def dropL (n : Nat) : List α → List α :=
  Nat.rec (motive := fun _ => List α → List α) (fun l => l) (fun _ ih l => List.rec [] (fun _ r _ => ih r) l) n
theorem dropL_eq (n : Nat) : ∀ (l : List α), dropL n l = l.drop n := by
  induction n with
  | zero => intro l; rfl
  | succ n ih =>
    intro l
    cases l with
    | nil => rfl
    | cons a r => show dropL n r = _; rw [ih]; rfl
noncomputable def appK (l : List α) : List α → (List α → R) → R :=
  List.rec (motive := fun _ => List α → (List α → R) → R) (fun m K => K m) (fun a _ ih m K => ih m fun x => K (a :: x)) l
theorem appK_eq (l : List α) : ∀ (m : List α) (K : List α → R), appK l m K = K (l ++ m) := by
  induction l with
  | nil => intro m K; rfl
  | cons a r ih => intro m K; show appK r m (fun x => K (a :: x)) = _; rw [ih]; rfl
/-- the elements from i on are replaced by those of a list -/
def putL (l : List α) (i : Nat) (x : List α) : List α := l.take i ++ x ++ l.drop (i + x.length)
/-- over the first of a list -/
noncomputable def overX (no : R) (x : List α) : List α → (List α → R) → R :=
  List.rec (motive := fun _ => List α → (List α → R) → R) (fun l K => K l) (fun a _ ih l => List.rec (motive := fun _ => (List α → R) → R) (fun _ => no) (fun _ r _ K => ih r fun y => K (a :: y)) l) x
theorem overX_eq (no : R) (x : List α) : ∀ (l : List α) (K : List α → R), overX no x l K = if x.length ≤ l.length then K (x ++ l.drop x.length) else no := by
  induction x with
  | nil => intro l K; rw [if_pos (by simp)]; rfl
  | cons a x ih =>
    intro l K
    cases l with
    | nil => rw [if_neg (by simp)]; rfl
    | cons b r =>
      show overX no x r (fun y => K (a :: y)) = _
      rw [ih]
      by_cases h : x.length ≤ r.length
      · rw [if_pos h, if_pos (by simpa using h)]; rfl
      · rw [if_neg h, if_neg (by simpa using h)]
/-- the elements from i on are replaced, where there are so many -/
noncomputable def putX (no : R) (x : List α) (i : Nat) : List α → (List α → R) → R :=
  Nat.rec (motive := fun _ => List α → (List α → R) → R) (overX no x) (fun _ ih l => List.rec (motive := fun _ => (List α → R) → R) (fun _ => no) (fun a r _ K => ih r fun y => K (a :: y)) l) i
theorem putX_eq (no : R) (x : List α) (i : Nat) : ∀ (l : List α) (K : List α → R), putX no x i l K = if i + x.length ≤ l.length ∧ i ≤ l.length then K (putL l i x) else no := by
  induction i with
  | zero => intro l K; show overX no x l K = _; rw [overX_eq]; simp [putL]
  | succ i ih =>
    intro l K
    cases l with
    | nil => rw [if_neg (by simp)]; rfl
    | cons a r =>
      show putX no x i r (fun y => K (a :: y)) = _
      rw [ih]
      by_cases h : i + x.length ≤ r.length ∧ i ≤ r.length
      · rw [if_pos h, if_pos (by simp only [List.length_cons]; omega)]
        simp [putL, Nat.succ_add]
      · rw [if_neg h, if_neg (by simp only [List.length_cons]; omega)]
noncomputable def lenL (l : List α) : Nat := List.rec 0 (fun _ _ n => Nat.succ n) l
theorem lenL_eq (l : List α) : lenL l = l.length := by
  induction l with
  | nil => rfl
  | cons a r ih => show Nat.succ (lenL r) = _; rw [ih]; rfl
noncomputable def nthL (l : List α) : Nat → Option α :=
  List.rec (motive := fun _ => Nat → Option α) (fun _ => none) (fun a _ ih i => Nat.rec (some a) (fun j _ => ih j) i) l
theorem nthL_eq (l : List α) : ∀ i, nthL l i = l[i]? := by
  induction l with
  | nil => intro i; rfl
  | cons a r ih =>
    intro i
    cases i with
    | zero => rfl
    | succ j => show nthL r j = _; rw [ih]; simp
theorem putL_length (l : List α) (i : Nat) (x : List α) (h : i + x.length ≤ l.length) : (putL l i x).length = l.length := by
  simp [putL]; omega
end lists

/-! ### Abstract values -/

/-- A slice's capacity: known; or what lies behind the k-th element of a row of unknown length. -/
inductive ACap where
  | ex (n : Nat)
  | op (k : Nat)

inductive AV where
  | int (k : IntKind) (n : Int)
  | bool (b : Bool)
  | str (s : List UInt8)
  | nilp
  | ptr (b : Pth) (o : Nat)
  | gptr (g o : Nat)
  | nils
  | sl (b : Pth) (o len : Nat) (c : ACap)
  | emp
  | agg (l : List AV)
  | tup (l : List AV)
  | nili
  | iface (t : TypeId) (v : AV)
  | nilf
  | func (f : FuncId) (first captured : List AV)
  | yield (b : Pth)
  | map (b : Pth)
  | nilm
  | sym (i : Nat)

/-- Where abstract blocks lie; how many elements an open row has; what symbols stand for. -/
structure Sub where
  blk : Pth → Option Nat
  cap : Pth → Nat
  sy : Nat → Option Value

def Sub.le (σ τ : Sub) : Prop := (∀ b n, σ.blk b = some n → τ.blk b = some n ∧ τ.cap b = σ.cap b) ∧ τ.sy = σ.sy
theorem Sub.le_refl (σ : Sub) : σ.le σ := ⟨fun _ _ h => ⟨h, rfl⟩, rfl⟩
theorem Sub.le_trans {σ τ υ : Sub} (h : σ.le τ) (k : τ.le υ) : σ.le υ :=
  ⟨fun b n hb => ⟨(k.1 b n (h.1 b n hb).1).1, ((k.1 b n (h.1 b n hb).1).2).trans (h.1 b n hb).2⟩, k.2.trans h.2⟩

def capR (σ : Sub) (b : Pth) : ACap → Nat → Prop
  | .ex n, cp => cp = n
  | .op k, cp => cp + k = σ.cap b

mutual
def VR (σ : Sub) : AV → Value → Prop
  | .int k n, v => v = .int k n
  | .bool b, v => v = .bool b
  | .str s, v => v = .string ⟨s.toArray⟩
  | .nilp, v => v = .pointer none
  | .ptr b o, v => ∃ n, σ.blk b = some n ∧ v = .pointer (some ⟨n, o, none⟩)
  | .gptr g o, v => v = .pointer (some ⟨g, o, none⟩)
  | .nils, v => v = .slice none 0 0
  | .sl b o len c, v => ∃ n cp, σ.blk b = some n ∧ capR σ b c cp ∧ len ≤ cp ∧ v = .slice (some ⟨n, o, none⟩) len cp
  | .emp, v => ∃ a cp, v = .slice (some a) 0 cp
  | .agg l, v => ∃ cs, VRs σ l cs ∧ (∀ c ∈ cs, c.oneCell' = true) ∧ v = .agg cs.toArray
  | .tup l, v => ∃ cs, VRs σ l cs ∧ v = .tuple cs.toArray
  | .nili, v => v = .nilIface
  | .iface t x, v => ∃ y, VR σ x y ∧ v = .iface t y
  | .nilf, v => v = .nilFunc
  | .func f a c, v => ∃ as cs, VRs σ a as ∧ VRs σ c cs ∧ v = .func (.func f) as.toArray cs.toArray
  | .yield b, v => ∃ n, σ.blk b = some n ∧ v = .func (.yield n) #[] #[]
  | .map b, v => ∃ n, σ.blk b = some n ∧ v = .map (some n)
  | .nilm, v => v = .map none
  | .sym i, v => σ.sy i = some v ∧ v.oneCell' = true
def VRs (σ : Sub) : List AV → List Value → Prop
  | [], l => l = []
  | a :: as, l => ∃ v vs, l = v :: vs ∧ VR σ a v ∧ VRs σ as vs
end

mutual
theorem VR.mono {σ τ : Sub} (h : σ.le τ) : ∀ (a : AV) (v : Value), VR σ a v → VR τ a v
  | .int _ _, _, hv => by simp only [VR] at hv ⊢; exact hv
  | .bool _, _, hv => by simp only [VR] at hv ⊢; exact hv
  | .str _, _, hv => by simp only [VR] at hv ⊢; exact hv
  | .nilp, _, hv => by simp only [VR] at hv ⊢; exact hv
  | .ptr b o, v, hv => by
    simp only [VR] at hv ⊢
    obtain ⟨n, hn, rfl⟩ := hv
    exact ⟨n, (h.1 b n hn).1, rfl⟩
  | .gptr _ _, _, hv => by simp only [VR] at hv ⊢; exact hv
  | .nils, _, hv => by simp only [VR] at hv ⊢; exact hv
  | .sl b o len c, v, hv => by
    simp only [VR] at hv ⊢
    obtain ⟨n, cp, hn, hc, hl, rfl⟩ := hv
    refine ⟨n, cp, (h.1 b n hn).1, ?_, hl, rfl⟩
    cases c with
    | ex m => exact hc
    | op k => simp only [capR] at hc ⊢; rw [(h.1 b n hn).2]; exact hc
  | .emp, _, hv => by simp only [VR] at hv ⊢; exact hv
  | .agg l, v, hv => by
    simp only [VR] at hv ⊢
    obtain ⟨cs, hcs, h1, rfl⟩ := hv
    exact ⟨cs, VRs.mono h l cs hcs, h1, rfl⟩
  | .tup l, v, hv => by
    simp only [VR] at hv ⊢
    obtain ⟨cs, hcs, rfl⟩ := hv
    exact ⟨cs, VRs.mono h l cs hcs, rfl⟩
  | .nili, _, hv => by simp only [VR] at hv ⊢; exact hv
  | .iface t x, v, hv => by
    simp only [VR] at hv ⊢
    obtain ⟨y, hy, rfl⟩ := hv
    exact ⟨y, VR.mono h x y hy, rfl⟩
  | .nilf, _, hv => by simp only [VR] at hv ⊢; exact hv
  | .func f a c, v, hv => by
    simp only [VR] at hv ⊢
    obtain ⟨as, cs, ha, hc, rfl⟩ := hv
    exact ⟨as, cs, VRs.mono h a as ha, VRs.mono h c cs hc, rfl⟩
  | .yield b, v, hv => by
    simp only [VR] at hv ⊢
    obtain ⟨n, hn, rfl⟩ := hv
    exact ⟨n, (h.1 b n hn).1, rfl⟩
  | .map b, v, hv => by
    simp only [VR] at hv ⊢
    obtain ⟨n, hn, rfl⟩ := hv
    exact ⟨n, (h.1 b n hn).1, rfl⟩
  | .nilm, _, hv => by simp only [VR] at hv ⊢; exact hv
  | .sym i, v, hv => by simp only [VR] at hv ⊢; rw [h.2]; exact hv
theorem VRs.mono {σ τ : Sub} (h : σ.le τ) : ∀ (l : List AV) (vs : List Value), VRs σ l vs → VRs τ l vs
  | [], _, hv => by simp only [VRs] at hv ⊢; exact hv
  | a :: as, vs, hv => by
    simp only [VRs] at hv ⊢
    obtain ⟨v, ws, rfl, h1, h2⟩ := hv
    exact ⟨v, ws, rfl, VR.mono h a v h1, VRs.mono h as ws h2⟩
end

section VRs
variable {σ : Sub}
theorem VRs.nil : VRs σ [] [] := by simp only [VRs]
theorem VRs.cons {a : AV} {as : List AV} {v : Value} {vs : List Value} (h : VR σ a v) (hs : VRs σ as vs) : VRs σ (a :: as) (v :: vs) := by
  simp only [VRs]; exact ⟨v, vs, rfl, h, hs⟩
theorem VRs.cons_inv {a : AV} {as : List AV} {vs : List Value} (h : VRs σ (a :: as) vs) : ∃ w ws, vs = w :: ws ∧ VR σ a w ∧ VRs σ as ws := by
  simpa only [VRs] using h
theorem VRs.nil_inv {vs : List Value} (h : VRs σ [] vs) : vs = [] := by simpa only [VRs] using h
theorem VRs.len : ∀ {l : List AV} {vs : List Value}, VRs σ l vs → vs.length = l.length
  | [], vs, h => by rw [VRs.nil_inv h]; rfl
  | a :: as, vs, h => by obtain ⟨w, ws, rfl, _, hs⟩ := h.cons_inv; simp [hs.len]
theorem VRs.app : ∀ {l m : List AV} {vs ws : List Value}, VRs σ l vs → VRs σ m ws → VRs σ (l ++ m) (vs ++ ws)
  | [], m, vs, ws, h, k => by rw [VRs.nil_inv h]; exact k
  | a :: as, m, vs, ws, h, k => by obtain ⟨x, xs, rfl, hx, hs⟩ := h.cons_inv; exact VRs.cons hx (hs.app k)
theorem VRs.take : ∀ (n : Nat) {l : List AV} {vs : List Value}, VRs σ l vs → VRs σ (l.take n) (vs.take n)
  | 0, _, _, _ => VRs.nil
  | _ + 1, [], vs, h => by rw [VRs.nil_inv h]; exact VRs.nil
  | n + 1, a :: as, vs, h => by obtain ⟨x, xs, rfl, hx, hs⟩ := h.cons_inv; exact VRs.cons hx (hs.take n)
theorem VRs.drop : ∀ (n : Nat) {l : List AV} {vs : List Value}, VRs σ l vs → VRs σ (l.drop n) (vs.drop n)
  | 0, _, _, h => h
  | _ + 1, [], vs, h => by rw [VRs.nil_inv h]; exact VRs.nil
  | n + 1, a :: as, vs, h => by obtain ⟨x, xs, rfl, hx, hs⟩ := h.cons_inv; exact hs.drop n
theorem VRs.get : ∀ {l : List AV} {vs : List Value} (i : Nat) {a : AV}, VRs σ l vs → l[i]? = some a → ∃ v, vs[i]? = some v ∧ VR σ a v
  | [], vs, i, a, h, hi => by simp at hi
  | b :: as, vs, 0, a, h, hi => by obtain ⟨x, xs, rfl, hx, hs⟩ := h.cons_inv; simp at hi; subst hi; exact ⟨x, rfl, hx⟩
  | b :: as, vs, i + 1, a, h, hi => by
    obtain ⟨x, xs, rfl, hx, hs⟩ := h.cons_inv
    simp at hi
    simpa using hs.get i hi
theorem VRs.put {l x : List AV} {vs ws : List Value} (i : Nat) (h : VRs σ l vs) (k : VRs σ x ws) : VRs σ (putL l i x) (putL vs i ws) := by
  unfold putL
  rw [k.len]
  exact ((h.take i).app k).app (h.drop _)
end VRs

attribute [irreducible] getP setP sucK Pth.suc pathF pathOf pEq takeK takeX overX putX dropL appK lenL nthL fN fI fB om

end Go.Ev

/-! The evaluator's abstract memory, what it says of a world, and the memory operations of the model over it. -/
namespace Go.Ev
open Go Go.RowKit

/-- the frozen range of a block -/
inductive Fz where
  | no
  | rng (lo hi : Nat)
  | atEnd
  | any

structure CB where
  el : TypeId
  es : Nat
  op : Bool
  fz : Fz
  cs : List AV

inductive AB where
  | cells (c : CB)
  | map (es : List (AV × AV × Nat)) (clock : Nat)
  | siter (s : List UInt8) (pos : Nat)
  | miter (m : Option Pth) (since : Nat) (seen : List Nat) (stepped : Nat)
  | loop (st : LoopState) (pend : Option Code) (fn : FuncId) (tm : Tr AV) (N : Nat) (params : Array Tmp) (assign body : Code) (df : Pth)
  | defd

structure AG where
  t : Tr AB
  nx : Pth
noncomputable def AG.get (G : AG) (b : Pth) : Option AB := getP b G.t
noncomputable def AG.set (G : AG) (b : Pth) (x : Option AB) : AG := ⟨Tr.set b G.t x, G.nx⟩
noncomputable def AG.setK {R : Type} (G : AG) (b : Pth) (x : Option AB) (K : AG → R) : R := setP b G.t x fun t => K ⟨t, G.nx⟩
theorem AG.setK_eq {R : Type} (G : AG) (b : Pth) (x : Option AB) (K : AG → R) : G.setK b x K = K (G.set b x) := by unfold AG.setK; rw [setP_eq]; rfl
/-- a new block -/
noncomputable def AG.new (G : AG) (x : AB) : AG := ⟨Tr.set G.nx G.t (some x), G.nx.suc⟩
noncomputable def AG.newK {R : Type} (G : AG) (x : AB) (K : Pth → AG → R) : R := setP G.nx G.t (some x) fun t => sucK G.nx fun m => K G.nx ⟨t, m⟩
theorem AG.newK_eq {R : Type} (G : AG) (x : AB) (K : Pth → AG → R) : G.newK x K = K G.nx (G.new x) := by
  unfold AG.newK
  rw [setP_eq, sucK_eq]; rfl
theorem AG.get_set {G : AG} {b : Pth} (x : Option AB) (j : Pth) : (G.set b x).get j = if j = b then x else G.get j := getP_set b G.t j x
theorem AG.get_new {G : AG} (x : AB) (j : Pth) : (G.new x).get j = if j = G.nx then some x else G.get j := getP_set G.nx G.t j (some x)

def undefA : AV := .tup []
/-- a frame's slots -/
def TR (σ : Sub) (T : Tr AV) (N : Nat) (ts : Array Value) : Prop := ts.size = N ∧ ∀ i, VR σ ((getP (pathOf i) T).getD undefA) (ts.getD i undef)
theorem TR.mono {σ τ : Sub} (h : σ.le τ) {T : Tr AV} {N : Nat} {ts : Array Value} (k : TR σ T N ts) : TR τ T N ts := ⟨k.1, fun i => VR.mono h _ _ (k.2 i)⟩

def FzR (f : Fz) (size : Nat) (r : Nat × Nat) : Prop :=
  match f with
  | .no => r = (0, 0)
  | .rng lo hi => r = (lo, hi)
  | .atEnd => r = (size, size + 1)
  | .any => r = (0, 0) ∨ r = (size, size + 1)

def ERs (σ : Sub) : List (AV × AV × Nat) → List MapEntry → Prop
  | [], l => l = []
  | (k, v, n) :: es, l => ∃ k' v' r, l = { key := k', val := v', born := n } :: r ∧ VR σ k k' ∧ VR σ v v' ∧ ERs σ es r
theorem ERs.mono {σ τ : Sub} (h : σ.le τ) : ∀ {es : List (AV × AV × Nat)} {l : List MapEntry}, ERs σ es l → ERs τ es l
  | [], _, k => k
  | (a, b, n) :: es, l, k => by
    obtain ⟨k', v', r, rfl, h1, h2, h3⟩ := k
    exact ⟨k', v', r, rfl, VR.mono h _ _ h1, VR.mono h _ _ h2, ERs.mono h h3⟩

/-- what an abstract block says of a block -/
def BR (σ : Sub) (b : Pth) : AB → Obj → Prop
  | .cells c, o => ∃ vs ex f, o = .cells (vs ++ ex).toArray c.el f ∧ VRs σ c.cs vs ∧ (∀ x ∈ vs, x.oneCell' = true) ∧ (c.op = false → ex = []) ∧ (c.op = true → (vs ++ ex).length = σ.cap b * c.es) ∧ FzR c.fz (vs ++ ex).length f
  | .map es clock, o => ∃ l, o = .map l.toArray clock ∧ ERs σ es l
  | .siter s pos, o => o = .stringIter ⟨s.toArray⟩ pos
  | .miter m since seen stepped, o => ∃ m', o = .mapIter m' since seen.toArray stepped ∧ (match m with | none => m' = none | some x => ∃ n, σ.blk x = some n ∧ m' = some n)
  | .loop st pend fn tm N params assign body df, o => ∃ ts n, σ.blk df = some n ∧ o = .loop { state := st, pending := pend, fn, tmps := ts, params, assign, body, defers := n } ∧ TR σ tm N ts
  | .defd, o => o = .deferred (some [])

theorem BR.mono {σ τ : Sub} (h : σ.le τ) {b : Pth} (hb : ∃ n, σ.blk b = some n) : ∀ {x : AB} {o : Obj}, BR σ b x o → BR τ b x o
  | .cells c, o, k => by
    obtain ⟨vs, ex, f, ho, h1, h2, h3, h4, h5⟩ := k
    obtain ⟨n, hn⟩ := hb
    exact ⟨vs, ex, f, ho, VRs.mono h _ _ h1, h2, h3, fun ho => by rw [(h.1 b n hn).2]; exact h4 ho, h5⟩
  | .map es clock, o, k => by obtain ⟨l, ho, h1⟩ := k; exact ⟨l, ho, ERs.mono h h1⟩
  | .siter s pos, o, k => k
  | .miter m since seen stepped, o, k => by
    obtain ⟨m', ho, h1⟩ := k
    refine ⟨m', ho, ?_⟩
    cases m with
    | none => exact h1
    | some x => obtain ⟨n, hn, e⟩ := h1; exact ⟨n, (h.1 x n hn).1, e⟩
  | .loop st pend fn tm N params assign body df, o, k => by
    obtain ⟨ts, n, hn, ho, ht⟩ := k
    exact ⟨ts, n, (h.1 df n hn).1, ho, ht.mono h⟩
  | .defd, o, k => k

section rel
variable (w0 : World) (base : Nat)

/-- An abstract memory stands for a world: what it knows is there; all else above 'base' is not spoken of; below it all is as it was. -/
structure Rel (U : Nat) (σ : Sub) (G : AG) (w : World) : Prop where
  below : Below base w0 w
  blk : ∀ b x, G.get b = some x → b.num < G.nx.num ∧ ∃ n o, σ.blk b = some n ∧ base ≤ n ∧ w.heap[n]? = some o ∧ BR σ b x o
  inj : ∀ b b' x x' n, G.get b = some x → G.get b' = some x' → σ.blk b = some n → σ.blk b' = some n → b = b'
  undef : ∀ b : Pth, G.nx.num ≤ b.num → b.num < U → σ.blk b = none
  bs : base ≤ w.heap.size

/-- from one abstract state to another -/
structure Ext (U : Nat) (σ : Sub) (G : AG) (w : World) (σ' : Sub) (G' : AG) (w' : World) : Prop where
  le : σ.le σ'
  same : ∀ b : Pth, b.num < G.nx.num ∨ G'.nx.num ≤ b.num → σ'.blk b = σ.blk b
  nx : G.nx.num ≤ G'.nx.num
  rel : Rel w0 base U σ' G' w'
  hs : w.heap.size ≤ w'.heap.size
  fr : ∀ n, n < w.heap.size → (∀ b x, G.get b = some x → σ.blk b ≠ some n) → w'.heap[n]? = w.heap[n]?
  nw : ∀ b x n, G'.get b = some x → σ'.blk b = some n → (∃ b₀ x₀, G.get b₀ = some x₀ ∧ σ.blk b₀ = some n) ∨ w.heap.size ≤ n
end rel

section
variable {w0 : World} {base : Nat} {U : Nat} {σ : Sub} {G : AG} {w : World}
theorem Ext.refl (h : Rel w0 base U σ G w) : Ext w0 base U σ G w σ G w :=
  ⟨Sub.le_refl σ, fun _ _ => rfl, Nat.le_refl _, h, Nat.le_refl _, fun _ _ _ => rfl, fun b x _ hb hn => .inl ⟨b, x, hb, hn⟩⟩
theorem Ext.trans {σ' σ'' : Sub} {G' G'' : AG} {w' w'' : World} (h : Ext w0 base U σ G w σ' G' w') (k : Ext w0 base U σ' G' w' σ'' G'' w'') : Ext w0 base U σ G w σ'' G'' w'' where
  le := Sub.le_trans h.le k.le
  same b hb := by
    have h1 := h.nx
    have h2 := k.nx
    rw [k.same b (by omega), h.same b (by omega)]
  nx := Nat.le_trans h.nx k.nx
  rel := k.rel
  hs := Nat.le_trans h.hs k.hs
  fr n hn hno := by
    rw [k.fr n (Nat.lt_of_lt_of_le hn h.hs) ?_, h.fr n hn hno]
    intro b x hb hs
    rcases h.nw b x n hb hs with ⟨b₀, x₀, h0, hs0⟩ | hlt
    · exact hno b₀ x₀ h0 hs0
    · omega
  nw b x n hb hs := by
    rcases k.nw b x n hb hs with ⟨b₀, x₀, h0, hs0⟩ | hlt
    · exact h.nw b₀ x₀ n h0 hs0
    · exact .inr (Nat.le_trans h.hs hlt)

/-- a draw turns nothing that is spoken of -/
theorem Rel.drawn (h : Rel w0 base U σ G w) (d : Nat) : Rel w0 base U σ G { w with drawn := d } :=
  ⟨⟨h.below.os, h.below.tape, h.below.output, h.below.size, h.below.block⟩, h.blk, h.inj, h.undef, h.bs⟩
theorem Ext.drawn (h : Rel w0 base U σ G w) (d : Nat) : Ext w0 base U σ G w σ G { w with drawn := d } :=
  ⟨Sub.le_refl σ, fun _ _ => rfl, Nat.le_refl _, h.drawn d, Nat.le_refl _, fun _ _ _ => rfl, fun b x _ hb hn => .inl ⟨b, x, hb, hn⟩⟩
end
end Go.Ev

/-! The model's memory operations over the evaluator's abstract memory: loads, stores, new blocks. -/
namespace Go.Ev
open Go Go.RowKit

section plain
variable {P : Program}

theorem cell_at {w : World} {n : Nat} {cs : List Value} {el : TypeId} {f : Nat × Nat} (h : w.heap[n]? = some (.cells cs.toArray el f)) (k : Nat) :
    w.cell? ⟨n, k, none⟩ = cs[k]? := by
  simp [World.cell?, h]
theorem frozen_at {w : World} {n : Nat} {cs : Array Value} {el : TypeId} {f : Nat × Nat} (h : w.heap[n]? = some (.cells cs el f)) (k : Nat) :
    w.frozen? ⟨n, k, none⟩ = (decide (f.1 ≤ k) && decide (k < f.2)) := by
  obtain ⟨lo, hi⟩ := f
  simp [World.frozen?, h]
theorem shape_at {w : World} {n : Nat} {cs : Array Value} {el : TypeId} {f : Nat × Nat} (h : w.heap[n]? = some (.cells cs el f)) :
    w.shape? n = some (el, cs.size) := by
  simp [World.shape?, h]
theorem add_mk (n o i : Nat) : Addr.add ⟨n, o, none⟩ i = ⟨n, o + i, none⟩ := by
  unfold Addr.add
  by_cases h : i = 0
  · subst h; simp
  · rw [if_neg h]

theorem run_loadCellsFrom {w : World} {n o : Nat} {cs : List Value} {el : TypeId} {f : Nat × Nat} (h : w.heap[n]? = some (.cells cs.toArray el f)) :
    ∀ (k i : Nat) (acc : Array Value), o + i + k ≤ cs.length → (loadCellsFrom ⟨n, o, none⟩ i k acc).run P w = .ok (acc ++ ((cs.drop (o + i)).take k).toArray) w := by
  intro k
  induction k with
  | zero => intro i acc _; simp [loadCellsFrom]
  | succ k ih =>
    intro i acc hk
    have hlt : o + i < cs.length := by omega
    have hc : w.cell? (Addr.add ⟨n, o, none⟩ i) = some cs[o + i] := by
      rw [add_mk, cell_at h]; simp [hlt]
    simp only [loadCellsFrom, Sem.run_bind, run_load, hc, Result.andThen_ok]
    rw [ih (i + 1) _ (by omega), List.drop_eq_getElem_cons hlt, List.take_succ_cons]
    congr 1
    apply Array.ext'
    simp [Nat.add_assoc]
theorem run_loadCells {w : World} {n o k : Nat} {cs : List Value} {el : TypeId} {f : Nat × Nat} (h : w.heap[n]? = some (.cells cs.toArray el f)) (hk : o + k ≤ cs.length) :
    (loadCells ⟨n, o, none⟩ k).run P w = .ok ((cs.drop o).take k).toArray w := by
  unfold loadCells
  rw [run_loadCellsFrom h k 0 #[] (by omega)]
  simp

/-- a world in which one block's cells have turned -/
def withCells (w : World) (n : Nat) (cs : List Value) (el : TypeId) (f : Nat × Nat) : World := { w with heap := w.heap.setIfInBounds n (.cells cs.toArray el f) }

theorem lt_of_heap {w : World} {n : Nat} {o : Obj} (h : w.heap[n]? = some o) : n < w.heap.size := (Array.getElem?_eq_some_iff.1 h).1

theorem putL_snoc {α : Type} (l : List α) (i : Nat) (v : α) (r : List α) (h : i < l.length) : putL (l.set i v) (i + 1) r = putL l i (v :: r) := by
  unfold putL
  apply List.ext_getElem?
  intro j
  have e1 : ((l.set i v).take (i + 1)) = l.take i ++ [v] := by
    rw [List.take_succ_eq_append_getElem (by simpa using h), List.take_set_of_le (Nat.le_refl _)]
    simp
  have e2 : (l.set i v).drop (i + 1 + r.length) = l.drop (i + (v :: r).length) := by
    rw [List.drop_set_of_lt (by omega)]
    congr 1
    simp only [List.length_cons]
    omega
  rw [e1, e2]
  simp

theorem run_storeCells : ∀ (ws : List Value) (w : World) (n o i : Nat) (cs : List Value) (el : TypeId) (f : Nat × Nat), w.heap[n]? = some (.cells cs.toArray el f) →
    o + i + ws.length ≤ cs.length → (∀ j, j < ws.length → ¬ (f.1 ≤ o + i + j ∧ o + i + j < f.2)) → (∀ v ∈ ws, v.oneCell' = true) →
    (storeCells ⟨n, o, none⟩ ws i).run P w = .ok () (withCells w n (putL cs (o + i) ws) el f) := by
  intro ws
  induction ws with
  | nil =>
    intro w n o i cs el f h hl hf h1
    have hn := lt_of_heap h
    have : withCells w n (putL cs (o + i) []) el f = w := by
      unfold withCells
      have e : putL cs (o + i) [] = cs := by simp [putL]
      rw [e]
      have : w.heap.setIfInBounds n (.cells cs.toArray el f) = w.heap := by
        apply Array.ext_getElem?
        intro j
        rw [Array.getElem?_setIfInBounds]
        by_cases hj : n = j
        · subst hj; rw [if_pos rfl, if_pos hn, h]
        · rw [if_neg hj]
      rw [this]
    simp [storeCells, this]
  | cons v ws ih =>
    intro w n o i cs el f h hl hf h1
    have hn := lt_of_heap h
    simp only [List.length_cons] at hl
    have hlt : o + i < cs.length := by omega
    have hc : w.cell? ⟨n, o + i, none⟩ = some cs[o + i] := by rw [cell_at h]; simp [hlt]
    have hz : w.frozen? ⟨n, o + i, none⟩ = false := by
      rw [frozen_at h]
      have := hf 0 (by simp)
      simp only [Nat.add_zero] at this
      rw [Bool.eq_false_iff]
      simpa using this
    have hset : w.setCell ⟨n, o + i, none⟩ v = withCells w n (cs.set (o + i) v) el f := by
      unfold World.setCell withCells
      congr 1
      apply Array.ext_getElem?
      intro j
      rw [Array.getElem?_setIfInBounds, Array.getElem?_modify]
      by_cases hj : n = j
      · subst hj; rw [if_pos rfl, if_pos rfl, if_pos hn, h]; simp
      · rw [if_neg hj, if_neg hj]
    simp only [storeCells, Sem.run_bind, add_mk]
    rw [run_store P w _ v .plain (h1 v (by simp))]
    simp only [hc, hz, Bool.false_eq_true, if_false, Result.andThen_ok]
    rw [hset]
    have hw' : (withCells w n (cs.set (o + i) v) el f).heap[n]? = some (.cells (cs.set (o + i) v).toArray el f) := by
      simp [withCells, hn]
    rw [ih _ n o (i + 1) _ el f hw' (by simp; omega) (fun j hj => by
      have := hf (j + 1) (by simp; omega)
      rw [show o + (i + 1) + j = o + i + (j + 1) by omega]; exact this) (fun x hx => h1 x (by simp [hx]))]
    rw [show o + (i + 1) = o + i + 1 by omega, putL_snoc cs (o + i) v ws hlt]
    congr 1
    unfold withCells
    congr 1
    simp
end plain

section rel
variable {P : Program} {w0 : World} {base : Nat} {U : Nat} {σ : Sub} {G : AG} {w : World}

theorem Rel.cells (h : Rel w0 base U σ G w) {b : Pth} {c : CB} (hb : G.get b = some (.cells c)) :
    ∃ n vs ex f, σ.blk b = some n ∧ base ≤ n ∧ w.heap[n]? = some (.cells (vs ++ ex).toArray c.el f) ∧ VRs σ c.cs vs ∧ (∀ x ∈ vs, x.oneCell' = true) ∧ (c.op = false → ex = []) ∧
      (c.op = true → (vs ++ ex).length = σ.cap b * c.es) ∧ FzR c.fz (vs ++ ex).length f := by
  obtain ⟨_, n, o, hn, hbn, ho, vs, ex, f, rfl, h1, h2, h3, h4, h5⟩ := h.blk b _ hb
  exact ⟨n, vs, ex, f, hn, hbn, ho, h1, h2, h3, h4, h5⟩

theorem below_set {a w : World} {B n : Nat} (h : Below B a w) (hn : B ≤ n) (o : Obj) : Below B a { w with heap := w.heap.setIfInBounds n o } :=
  ⟨h.os, h.tape, h.output, by simpa using h.size, fun k hk => by
    show (w.heap.setIfInBounds n o)[k]? = _
    rw [Array.getElem?_setIfInBounds_ne (by omega)]
    exact h.block k hk⟩

/-- a block turns in place -/
theorem Rel.setB (h : Rel w0 base U σ G w) {b : Pth} {n : Nat} {x x' : AB} {o' : Obj} (hb : G.get b = some x) (hn : σ.blk b = some n) (hx : BR σ b x' o') :
    Ext w0 base U σ G w σ (G.set b (some x')) { w with heap := w.heap.setIfInBounds n o' } := by
  have hlt := (h.blk b x hb).1
  obtain ⟨_, n', o, hn', hbn, ho, hx0⟩ := h.blk b x hb
  have : n' = n := Option.some.inj (hn'.symm.trans hn)
  subst this
  have hnl := lt_of_heap ho
  have hget : ∀ j, (G.set b (some x')).get j = if j = b then some x' else G.get j := AG.get_set (some x')
  have hlive : ∀ j y, (G.set b (some x')).get j = some y → ∃ y', G.get j = some y' := by
    intro j y hj
    rw [hget] at hj
    split at hj
    · rename_i e; subst e; exact ⟨x, hb⟩
    · exact ⟨y, hj⟩
  refine ⟨Sub.le_refl σ, fun _ _ => rfl, Nat.le_refl _, ⟨below_set h.below hbn o', ?_, ?_, h.undef, by simpa using h.bs⟩, by simp, ?_, ?_⟩
  · intro j y hj
    rw [hget] at hj
    split at hj
    · rename_i e; subst e
      cases hj
      exact ⟨hlt, n', o', hn, hbn, by simp [hnl], hx⟩
    · rename_i e
      obtain ⟨h1, m, om, hm, hbm, hom, hy⟩ := h.blk j y hj
      refine ⟨h1, m, om, hm, hbm, ?_, hy⟩
      have hne : n' ≠ m := fun e' => e (h.inj j b y x m hj hb hm (e' ▸ hn))
      show (w.heap.setIfInBounds n' o')[m]? = _
      rw [Array.getElem?_setIfInBounds_ne hne]; exact hom
  · intro j j' y y' m hj hj' hm hm'
    obtain ⟨z, hz⟩ := hlive j y hj
    obtain ⟨z', hz'⟩ := hlive j' y' hj'
    exact h.inj j j' z z' m hz hz' hm hm'
  · intro m hm hno
    show (w.heap.setIfInBounds n' o')[m]? = _
    rw [Array.getElem?_setIfInBounds_ne (fun e => hno b x hb (by rw [hn, e]))]
  · intro j y m hj hm
    obtain ⟨z, hz⟩ := hlive j y hj
    exact .inl ⟨j, z, hz, hm⟩

/-- a block is not spoken of any more -/
theorem Rel.dropB (h : Rel w0 base U σ G w) {b : Pth} {x : AB} (hb : G.get b = some x) : Ext w0 base U σ G w σ (G.set b none) w := by
  have hlt := (h.blk b x hb).1
  have hget : ∀ j, (G.set b none).get j = if j = b then none else G.get j := AG.get_set none
  have hlive : ∀ j y, (G.set b none).get j = some y → G.get j = some y := by
    intro j y hj
    rw [hget] at hj
    split at hj
    · cases hj
    · exact hj
  exact ⟨Sub.le_refl σ, fun _ _ => rfl, Nat.le_refl _, ⟨h.below, fun j y hj => h.blk j y (hlive j y hj), fun j j' y y' m hj hj' => h.inj j j' y y' m (hlive _ _ hj) (hlive _ _ hj'), h.undef, h.bs⟩,
    Nat.le_refl _, fun _ _ _ => rfl, fun j y m hj hm => .inl ⟨j, y, hlive j y hj, hm⟩⟩

def Sub.upd (σ : Sub) (b : Pth) (n c : Nat) : Sub := { blk := fun i => if i = b then some n else σ.blk i, cap := fun i => if i = b then c else σ.cap i, sy := σ.sy }
theorem Sub.upd_le {σ : Sub} {b : Pth} (h : σ.blk b = none) (n c : Nat) : σ.le (σ.upd b n c) :=
  ⟨fun i m hi => by
    have : i ≠ b := fun e => by subst e; rw [h] at hi; cases hi
    simp [Sub.upd, this, hi], rfl⟩
theorem Sub.upd_at (σ : Sub) (b : Pth) (n c : Nat) : (σ.upd b n c).blk b = some n := by simp [Sub.upd]
theorem Sub.upd_cap (σ : Sub) (b : Pth) (n c : Nat) : (σ.upd b n c).cap b = c := by simp [Sub.upd]
theorem Sub.upd_ne (σ : Sub) {b i : Pth} (n c : Nat) (h : i ≠ b) : (σ.upd b n c).blk i = σ.blk i := by simp [Sub.upd, h]

/-- an abstract block for a block of the world that no other one stands for: a new one, or one that was let go -/
theorem Rel.newAt (h : Rel w0 base U σ G w) {w' : World} {n c : Nat} {x : AB} {o : Obj} (hU : G.nx.num < U) (hbelow : Below base w0 w') (hs : w.heap.size ≤ w'.heap.size)
    (hbn : base ≤ n) (ho : w'.heap[n]? = some o) (hfree : ∀ b y, G.get b = some y → σ.blk b ≠ some n) (hsame : ∀ m, m ≠ n → m < w.heap.size → w'.heap[m]? = w.heap[m]?)
    (hx : BR (σ.upd G.nx n c) G.nx x o) :
    Rel w0 base U (σ.upd G.nx n c) (G.new x) w' ∧ σ.le (σ.upd G.nx n c) := by
  have hud : σ.blk G.nx = none := h.undef _ (Nat.le_refl _) hU
  have hle := Sub.upd_le hud n c
  have hget : ∀ j, (G.new x).get j = if j = G.nx then some x else G.get j := AG.get_new x
  have hold : ∀ j y, (G.new x).get j = some y → j ≠ G.nx → G.get j = some y := by
    intro j y hj hne
    rw [hget, if_neg hne] at hj; exact hj
  have hsn : (G.new x).nx.num = G.nx.num + 1 := Pth.num_suc _
  refine ⟨⟨hbelow, ?_, ?_, ?_, Nat.le_trans h.bs hs⟩, hle⟩
  · intro j y hj
    by_cases e : j = G.nx
    · subst e
      rw [hget, if_pos rfl] at hj
      cases hj
      exact ⟨by rw [hsn]; exact Nat.lt_succ_self _, n, o, Sub.upd_at .., hbn, ho, hx⟩
    · have hj' := hold j y hj e
      obtain ⟨h1, m, om, hm, hbm, hom, hy⟩ := h.blk j y hj'
      refine ⟨by rw [hsn]; exact Nat.lt_succ_of_lt h1, m, om, by rw [Sub.upd_ne _ _ _ e]; exact hm, hbm, ?_, BR.mono hle ⟨m, hm⟩ hy⟩
      rw [hsame m (fun e' => hfree j y hj' (e' ▸ hm)) (lt_of_heap hom)]; exact hom
  · intro j j' y y' m hj hj' hm hm'
    by_cases e : j = G.nx
    · by_cases e' : j' = G.nx
      · rw [e, e']
      · subst e
        rw [Sub.upd_at] at hm
        rw [Sub.upd_ne _ _ _ e'] at hm'
        cases hm
        exact absurd hm' (hfree j' y' (hold _ _ hj' e'))
    · by_cases e' : j' = G.nx
      · subst e'
        rw [Sub.upd_at] at hm'
        rw [Sub.upd_ne _ _ _ e] at hm
        cases hm'
        exact absurd hm (hfree j y (hold _ _ hj e))
      · rw [Sub.upd_ne _ _ _ e] at hm
        rw [Sub.upd_ne _ _ _ e'] at hm'
        exact h.inj j j' y y' m (hold _ _ hj e) (hold _ _ hj' e') hm hm'
  · intro j hj hjU
    rw [hsn] at hj
    rw [Sub.upd_ne _ _ _ (fun e => by subst e; omega)]
    exact h.undef j (by omega) hjU

/-- a new block -/
theorem Rel.newB (h : Rel w0 base U σ G w) {c : Nat} {x : AB} {o : Obj} (hU : G.nx.num < U) (hx : BR (σ.upd G.nx w.heap.size c) G.nx x o) :
    Ext w0 base U σ G w (σ.upd G.nx w.heap.size c) (G.new x) { w with heap := w.heap.push o } := by
  have hfree : ∀ b y, G.get b = some y → σ.blk b ≠ some w.heap.size := fun b y hb e => by
    obtain ⟨_, m, om, hm, _, hom, _⟩ := h.blk b y hb
    have := lt_of_heap hom
    rw [hm] at e; cases e; omega
  have hb' : Below base w0 { w with heap := w.heap.push o } := h.below.trans ⟨rfl, rfl, rfl, by simp, fun k hk => by
    show (w.heap.push o)[k]? = _
    rw [Array.getElem?_push_lt (Nat.lt_of_lt_of_le hk h.bs)]
    exact (Array.getElem?_eq_getElem _).symm⟩
  obtain ⟨hr, hle⟩ := h.newAt (w' := { w with heap := w.heap.push o }) (n := w.heap.size) (c := c) (x := x) (o := o) hU hb' (by simp) h.bs (by simp) hfree
    (fun m hm hlt => by
      show (w.heap.push o)[m]? = _
      rw [Array.getElem?_push_lt hlt]
      exact (Array.getElem?_eq_getElem _).symm) hx
  have hsn : (G.new x).nx.num = G.nx.num + 1 := Pth.num_suc _
  refine ⟨hle, ?_, by rw [hsn]; exact Nat.le_succ _, hr, by simp, ?_, ?_⟩
  · intro j hj
    rw [hsn] at hj
    exact Sub.upd_ne _ _ _ (fun e => by subst e; omega)
  · intro m hm _
    show (w.heap.push o)[m]? = _
    rw [Array.getElem?_push_lt hm]
    exact (Array.getElem?_eq_getElem _).symm
  · intro j y m hj hm
    have hget : ∀ j, (G.new x).get j = if j = G.nx then some x else G.get j := AG.get_new x
    by_cases e : j = G.nx
    · subst e
      rw [Sub.upd_at] at hm
      cases hm
      exact .inr (Nat.le_refl _)
    · rw [Sub.upd_ne _ _ _ e] at hm
      rw [hget, if_neg e] at hj
      exact .inl ⟨j, y, hj, hm⟩
end rel
end Go.Ev

/-! The evaluator's operations: what one operation of the model does over the abstract memory. -/
namespace Go.Ev
open Go Go.RowKit

/-! ### Types, told shortly -/
structure FI where
  off : Nat
  ty : TypeId
  sz : Nat
  blank : Bool
inductive TK where
  | int (k : IntKind)
  | bool
  | str
  | ptr (e : TypeId)
  | slice (e : TypeId)
  | arr (n : Nat) (e : TypeId)
  | struct (fs : List FI)
  | map (k e : TypeId)
  | iface
  | func
  | other
structure TI where
  k : TK
  size : Nat
  bytes : Nat
  agg : Bool
  zero : List AV

def ofV : Value → Option AV
  | .int k n => some (.int k n)
  | .bool b => some (.bool b)
  | .string s => some (.str s.data.toList)
  | .pointer none => some .nilp
  | .slice none 0 0 => some .nils
  | .map none => some .nilm
  | .nilFunc => some .nilf
  | .nilIface => some .nili
  | .func (.func f) ⟨[]⟩ ⟨[]⟩ => some (.func f [] [])
  | .tuple ⟨[]⟩ => some (.tup [])
  | _ => none

noncomputable def isOne : AV → Bool
  | .agg _ | .tup _ => false
  | _ => true
noncomputable def ofVs (l : List Value) : Option (List AV) :=
  List.rec (some []) (fun v _ r => om (ofV v) none fun a => br (isOne a) (om r none fun as => some (a :: as)) none) l

noncomputable def mkTK (P : Program) (d : TypeDesc) : TK :=
  match d with
  | .int k => .int k
  | .bool => .bool
  | .string => .str
  | .pointer e => .ptr e
  | .slice e => .slice e
  | .array n e => .arr n e
  | .struct fs => .struct (fs.toList.map fun f => ⟨f.offset, f.type, P.cellsOf f.type, f.name == "_"⟩)
  | .map k e => .map k e
  | .interface _ => .iface
  | .func _ _ _ => .func
  | _ => .other
noncomputable def TK.isAgg : TK → Bool
  | .arr _ _ | .struct _ => true
  | _ => false
noncomputable def isAggV : Value → Bool
  | .agg _ => true
  | _ => false
noncomputable def mkTI (P : Program) (t : TypeId) : Option TI :=
  om (P.underlying t) none fun d => om (P.info? t) none fun i => om i.zero none fun z => om (ofVs z.cells.toList) none fun zs =>
    br (br (isAggV z) (mkTK P d).isAgg (br (mkTK P d).isAgg false true)) (some ⟨mkTK P d, i.size, i.bytes, (mkTK P d).isAgg, zs⟩) none

/-! ### The operations -/
inductive Ro where
  | ok (v : AV) (G : AG)
  | no (c : Nat)

section ops
variable {R : Type}

noncomputable def opd (T : Tr AV) (x : Operand) (no : R) (K : AV → R) : R :=
  match x with
  | .tmp t => om (getP (pathOf t) T) (K undefA) K
  | .const v => om (ofV v) no K
  | .global g => K (.gptr g 0)
  | .func f => K (.func f [] [])
noncomputable def opds (T : Tr AV) (l : List Operand) (no : R) : (List AV → R) → R :=
  List.rec (motive := fun _ => (List AV → R) → R) (fun K => K []) (fun x _ ih K => opd T x no fun a => ih fun as => K (a :: as)) l
noncomputable def opt (T : Tr AV) (x : Option Operand) (no : R) (K : Option AV → R) : R := om x (K none) fun x => opd T x no fun a => K (some a)

noncomputable def asI (v : AV) (no : R) (K : IntKind → Int → R) : R := match v with | .int k n => K k n | _ => no
noncomputable def asN (v : AV) (no : R) (K : Nat → R) : R := match v with | .int _ n => Int.rec (fun a => K a) (fun _ => no) n | _ => no
noncomputable def asB (v : AV) (no : R) (K : Bool → R) : R := match v with | .bool b => K b | _ => no
noncomputable def asL (v : AV) (no : R) (K : List AV → R) : R := match v with | .agg l => K l | _ => no
noncomputable def cellsA : AV → List AV
  | .agg l => l
  | v => [v]

noncomputable def kMax : IntKind → Nat
  | .i8 => 127 | .i16 => 32767 | .i32 => 2147483647 | .i64 => 9223372036854775807 | .u8 => 255 | .u16 => 65535 | .u32 => 4294967295 | .u64 => 18446744073709551615
noncomputable def kMin : IntKind → Nat     -- how many numbers below 0
  | .i8 => 128 | .i16 => 32768 | .i32 => 2147483648 | .i64 => 9223372036854775808 | _ => 0
noncomputable def inR (k : IntKind) (n : Int) : Bool := Int.rec (fun a => Nat.ble a (kMax k)) (fun a => Nat.ble (Nat.succ a) (kMin k)) n
noncomputable def wrapK (k : IntKind) (n : Int) (K : Int → R) : R := fI n fun n => br (inR k n) (K n) (fI (k.wrap n) K)
noncomputable def kBits : IntKind → Nat
  | .i8 | .u8 => 8 | .i16 | .u16 => 16 | .i32 | .u32 => 32 | .i64 | .u64 => 64
noncomputable def kEq (a b : IntKind) : Bool := match a, b with
  | .i8, .i8 | .i16, .i16 | .i32, .i32 | .i64, .i64 | .u8, .u8 | .u16, .u16 | .u32, .u32 | .u64, .u64 => true
  | _, _ => false
noncomputable def iLt (a b : Int) : Bool :=
  Int.rec (fun x => Int.rec (fun y => Nat.ble (Nat.succ x) y) (fun _ => false) b) (fun x => Int.rec (fun _ => true) (fun y => Nat.ble (Nat.succ y) x) b) a
noncomputable def iEq (a b : Int) : Bool :=
  Int.rec (fun x => Int.rec (fun y => Nat.beq x y) (fun _ => false) b) (fun x => Int.rec (fun _ => false) (fun y => Nat.beq y x) b) a
noncomputable def natOf (n : Int) (no : R) (K : Nat → R) : R := Int.rec (fun a => K a) (fun _ => no) n

/-! integer operations, one each -/
noncomputable def iAdd (k : IntKind) (a b : Int) (_ : R) (K : AV → R) : R := wrapK k (Int.add a b) fun n => K (.int k n)
noncomputable def iSub (k : IntKind) (a b : Int) (_ : R) (K : AV → R) : R := wrapK k (Int.sub a b) fun n => K (.int k n)
noncomputable def iMul (k : IntKind) (a b : Int) (_ : R) (K : AV → R) : R := wrapK k (Int.mul a b) fun n => K (.int k n)
noncomputable def iQuo (k : IntKind) (a b : Int) (no : R) (K : AV → R) : R := br (iEq b 0) no (wrapK k (Int.tdiv a b) fun n => K (.int k n))
noncomputable def iRem (k : IntKind) (a b : Int) (no : R) (K : AV → R) : R := br (iEq b 0) no (fI (Int.tmod a b) fun n => K (.int k n))
noncomputable def iBits (f : Nat → Nat → Nat) (k : IntKind) (a b : Int) (no : R) (K : AV → R) : R :=
  br (inR k a) (br (inR k b) (natOf a no fun x => natOf b no fun y => fN (f x y) fun z => K (.int k (Int.ofNat z))) no) no
noncomputable def iNone (_ : IntKind) (_ _ : Int) (no : R) (_ : AV → R) : R := no
noncomputable def iEql (_ : IntKind) (a b : Int) (_ : R) (K : AV → R) : R := fB (iEq a b) fun r => K (.bool r)
noncomputable def iNeq (_ : IntKind) (a b : Int) (_ : R) (K : AV → R) : R := fB (br (iEq a b) false true) fun r => K (.bool r)
noncomputable def iLss (_ : IntKind) (a b : Int) (_ : R) (K : AV → R) : R := fB (iLt a b) fun r => K (.bool r)
noncomputable def iLeq (_ : IntKind) (a b : Int) (_ : R) (K : AV → R) : R := fB (br (iLt b a) false true) fun r => K (.bool r)
noncomputable def iGtr (_ : IntKind) (a b : Int) (_ : R) (K : AV → R) : R := fB (iLt b a) fun r => K (.bool r)
noncomputable def iGeq (_ : IntKind) (a b : Int) (_ : R) (K : AV → R) : R := fB (br (iLt a b) false true) fun r => K (.bool r)
noncomputable def pow2 (k : IntKind) (y : Nat) : Nat := Nat.pow 2 (br (Nat.ble y (kBits k)) y (kBits k))
noncomputable def iShl (k : IntKind) (a b : Int) (no : R) (K : AV → R) : R := natOf b no fun y => wrapK k (Int.mul a (Int.ofNat (pow2 k y))) fun n => K (.int k n)
noncomputable def iShr (k : IntKind) (a b : Int) (no : R) (K : AV → R) : R := natOf b no fun y => natOf a no fun x => fN (Nat.div x (pow2 k y)) fun z => K (.int k (Int.ofNat z))
noncomputable def intOp (op : BinOp) : IntKind → Int → Int → R → (AV → R) → R :=
  BinOp.rec (motive := fun _ => IntKind → Int → Int → R → (AV → R) → R) iAdd iSub iMul iQuo iRem (iBits Nat.land) (iBits Nat.lor) (iBits Nat.xor) iShl iShr iNone iEql iNeq iLss iLeq iGtr iGeq op
/-- operations at which the kinds may differ -/
noncomputable def isShift (op : BinOp) : Bool := match op with | .shl => true | .shr => true | _ => false
noncomputable def bEq (a b : UInt8) : Bool := Nat.beq a.toNat b.toNat
noncomputable def bLt (a b : UInt8) : Bool := Nat.ble (Nat.succ a.toNat) b.toNat
noncomputable def sEq (a : List UInt8) : List UInt8 → Bool :=
  List.rec (motive := fun _ => List UInt8 → Bool) (fun b => List.rec true (fun _ _ _ => false) b) (fun x _ ih b => List.rec false (fun y r _ => br (bEq x y) (ih r) false) b) a
noncomputable def sLt (a : List UInt8) : List UInt8 → Bool :=
  List.rec (motive := fun _ => List UInt8 → Bool) (fun b => List.rec false (fun _ _ _ => true) b) (fun x _ ih b => List.rec false (fun y r _ => br (bLt x y) true (br (bEq x y) (ih r) false)) b) a
noncomputable def strOp (op : BinOp) (a b : List UInt8) (no : R) (K : AV → R) : R :=
  match op with
  | .add => br (Nat.ble (Nat.add (lenL a) (lenL b)) 1000000) (appK a b fun c => K (.str c)) no
  | .eql => fB (sEq a b) fun r => K (.bool r)
  | .neq => fB (sEq a b) fun r => K (.bool (br r false true))
  | .lss => fB (sLt a b) fun r => K (.bool r)
  | .leq => fB (sLt a b) fun l => fB (sEq a b) fun e => K (.bool (br l true e))
  | .gtr => fB (sLt a b) fun l => fB (sEq a b) fun e => K (.bool (br l false (br e false true)))
  | .geq => fB (sLt a b) fun l => K (.bool (br l false true))
  | _ => no

/-- a part of an aggregate's cells -/
noncomputable def partK (ti : TI) (l : List AV) (off : Nat) (no : R) (K : AV → R) : R :=
  br ti.agg (takeK ti.size (dropL off l) fun x => K (.agg x)) (om (nthL l off) no K)

/-- a block of cells that is not frozen, an address into it -/
noncomputable def plainB (G : AG) (b : Pth) : Bool :=
  om (G.get b) false fun x => match x with | .cells c => (match c.fz with | .no => true | _ => false) | _ => false

/-! '==' of two values of a type -/
abbrev EqT (R : Type) := TypeId → AV → AV → R → (Bool → R) → R
noncomputable def eqI (a b : AV) (no : R) (K : Bool → R) : R := asI a no fun j x => asI b no fun k y => br (kEq j k) (K (iEq x y)) no
noncomputable def eqB (a b : AV) (no : R) (K : Bool → R) : R := asB a no fun x => asB b no fun y => K (br x y (br y false true))
noncomputable def eqS (a b : AV) (no : R) (K : Bool → R) : R := match a with | .str x => (match b with | .str y => K (sEq x y) | _ => no) | _ => no
noncomputable def eqP (P : Program) (G : AG) (e : TypeId) (a b : AV) (no : R) (K : Bool → R) : R := match a with
  | .nilp => (match b with | .nilp => K true | .ptr _ _ => K false | .gptr _ _ => K false | _ => no)
  | .gptr _ _ => (match b with | .nilp => K false | _ => no)
  | .ptr x o => (match b with
    | .nilp => K false
    | .ptr y p => om (mkTI P e) no fun te => br (Nat.beq te.size 0) no (br (pEq x y) (K (Nat.beq o p)) (br (plainB G x) (br (plainB G y) (K false) no) no))
    | _ => no)
  | _ => no
noncomputable def eqN (a b : AV) (no : R) (K : Bool → R) : R := match a with
  | .nils => (match b with | .nils => K true | .sl _ _ _ _ => K false | .emp => K false | _ => no)
  | .sl _ _ _ _ => (match b with | .nils => K false | _ => no)
  | .emp => (match b with | .nils => K false | _ => no)
  | _ => no
noncomputable def eqM (a b : AV) (no : R) (K : Bool → R) : R := match a with
  | .nilm => (match b with | .nilm => K true | .map _ => K false | _ => no)
  | .map _ => (match b with | .nilm => K false | _ => no)
  | _ => no
noncomputable def eqF (a b : AV) (no : R) (K : Bool → R) : R := match a with
  | .nilf => (match b with | .nilf => K true | .func _ _ _ => K false | _ => no)
  | .func _ _ _ => (match b with | .nilf => K false | _ => no)
  | _ => no
noncomputable def eqIf (P : Program) (ih : EqT R) (a b : AV) (no : R) (K : Bool → R) : R := match a with
  | .nili => (match b with | .nili => K true | .iface _ _ => K false | _ => no)
  | .iface t x => (match b with
    | .nili => K false
    | .iface u y => br (Nat.beq t u) (br (om (P.info? t) false fun i => i.comparable) (ih t x y no K) no) (K false)
    | _ => no)
  | _ => no
noncomputable def eqFs (P : Program) (ih : EqT R) (xs ys : List AV) (no : R) (K : Bool → R) (fs : List FI) : R :=
  List.rec (motive := fun _ => R) (K true) (fun f _ r =>
    br f.blank r (om (mkTI P f.ty) no fun tf => partK tf xs f.off no fun x => partK tf ys f.off no fun y => ih f.ty x y no fun q => br q r (K false))) fs
noncomputable def eqAs (ih : EqT R) (te : TI) (e : TypeId) (xs ys : List AV) (no : R) (K : Bool → R) (n : Nat) : Nat → R :=
  Nat.rec (motive := fun _ => Nat → R) (fun _ => K true) (fun _ r i => partK te xs (Nat.mul i te.size) no fun x => partK te ys (Nat.mul i te.size) no fun y => ih e x y no fun q => br q (r (Nat.succ i)) (K false)) n
noncomputable def eqStep (P : Program) (G : AG) (ih : EqT R) : EqT R := fun t a b no K =>
  om (mkTI P t) no fun ti =>
  match ti.k with
  | .int _ => eqI a b no K
  | .bool => eqB a b no K
  | .str => eqS a b no K
  | .ptr e => eqP P G e a b no K
  | .slice _ => eqN a b no K
  | .map _ _ => eqM a b no K
  | .func => eqF a b no K
  | .iface => eqIf P ih a b no K
  | .struct fs => asL a no fun xs => asL b no fun ys => br (P.stoodInHeld t) no (eqFs P ih xs ys no K fs)
  | .arr n e => asL a no fun xs => asL b no fun ys => om (mkTI P e) no fun te => eqAs ih te e xs ys no K n 0
  | _ => no
noncomputable def eqT (P : Program) (G : AG) (fuel : Nat) : EqT R := Nat.rec (motive := fun _ => EqT R) (fun _ _ _ no _ => no) (fun _ ih => eqStep P G ih) fuel

noncomputable def isConstO : Operand → Bool | .const _ => true | _ => false

/-- '==' and '!=' of other values than integers and strings -/
noncomputable def eqlK (P : Program) (G : AG) (op : BinOp) (t : TypeId) (a b : AV) (no : R) (K : AV → R) : R :=
  match op with
  | .eql => eqT P G 20 t a b no fun r => fB r fun r => K (.bool r)
  | .neq => eqT P G 20 t a b no fun r => fB r fun r => K (.bool (br r false true))
  | _ => no
noncomputable def binInt (op : BinOp) (b : AV) (no : R) (K : AV → R) (j : IntKind) (p : Int) : R :=
  asI b no fun k q => br (br (isShift op) true (kEq j k)) (intOp op j p q no K) no
noncomputable def binStr (op : BinOp) (b : AV) (no : R) (K : AV → R) (p : List UInt8) : R := match b with | .str q => strOp op p q no K | _ => no
noncomputable def binNil (P : Program) (G : AG) (op : BinOp) (t : TypeId) (x y : Operand) (b : AV) (no : R) (K : AV → R) : R :=
  match b with
  | .nili => br (br (isConstO x) true (isConstO y)) (eqlK P G op t .nili .nili no K) no
  | .iface u v => eqlK P G op t .nili (.iface u v) no K
  | _ => no
noncomputable def binAgg (P : Program) (G : AG) (op : BinOp) (t : TypeId) (a b : AV) (no : R) (K : AV → R) : R := 
  match b with
  | .agg l => br (P.eqGuardType P.depth t) no (eqlK P G op t a (.agg l) no K)
  | _ => no
/-- a binary operation -/
noncomputable def binA (P : Program) (G : AG) (op : BinOp) (t : TypeId) (x y : Operand) (a b : AV) (no : R) (K : AV → R) : R :=
  match a with
  | .int j p => binInt op b no K j p
  | .str p => binStr op b no K p
  | .nili => binNil P G op t x y b no K
  | .agg l => binAgg P G op t (.agg l) b no K
  | .tup _ => no
  | .sym _ => no
  | a => eqlK P G op t a b no K

/-- the cells of a block from an offset on -/
noncomputable def ldC (ro : Nat → Option CB) (G : AG) (p : AV) (no : R) (K : CB → Nat → R) : R :=
  match p with
  | .ptr b o => om (G.get b) no fun x => (match x with | .cells c => K c o | _ => no)
  | .gptr g o => om (ro g) no fun c => K c o
  | _ => no
noncomputable def loadA (ro : Nat → Option CB) (G : AG) (ti : TI) (p : AV) (no : R) (K : AV → R) : R :=
  ldC ro G p no fun c o => br ti.agg (takeX ti.size no (dropL o c.cs) fun l => K (.agg l)) (om (nthL c.cs o) no K)

/-- may the cells from lo on be written -/
noncomputable def mayW (f : Fz) (o : Nat) (l : List AV) : Bool :=
  match f with
  | .no => true
  | .rng lo hi => br (Nat.ble (Nat.add o (lenL l)) lo) true (Nat.ble hi o)
  | .atEnd => true
  | .any => true
noncomputable def stC (G : AG) (b : Pth) (o : Nat) (l : List AV) (no : R) (K : AG → R) : R :=
  om (G.get b) no fun x => match x with
    | .cells c => br (mayW c.fz o l) (putX no l o c.cs fun cs => G.setK b (some (.cells ⟨c.el, c.es, c.op, c.fz, cs⟩)) K) no
    | _ => no
noncomputable def storeA (G : AG) (ti : TI) (p v : AV) (no : R) (K : AG → R) : R :=
  match p with
  | .ptr b o => (match v with
    | .agg l => br (Nat.beq (lenL l) ti.size) (stC G b o l no K) no
    | .tup _ => no
    | v => br (Nat.beq ti.size 1) (stC G b o [v] no K) no)
  | _ => no

noncomputable def repK (n : Nat) (z : List AV) (K : List AV → R) : R :=
  Nat.rec (motive := fun _ => (List AV → R) → R) (fun K => K []) (fun _ ih K => ih fun l => appK z l K) n K
noncomputable def newCells (G : AG) (el : TypeId) (es : Nat) (l : List AV) (K : Pth → AG → R) : R :=
  G.newK (.cells ⟨el, es, false, .no, l⟩) K

/-- the places of a literal's parts are filled -/
noncomputable def fillK (T : Tr AV) (place : Nat → Option (Nat × Nat)) (ps : List (Nat × Operand)) (no : R) : List AV → (List AV → R) → R :=
  List.rec (motive := fun _ => List AV → (List AV → R) → R) (fun l K => K l)
    (fun p _ ih l K => om (place p.1) no fun q => opd T p.2 no fun v =>
      match v with
      | .agg x => br (Nat.beq (lenL x) q.2) (putX no x q.1 l fun l => ih l K) no
      | .tup _ => no
      | v => br (Nat.beq 1 q.2) (putX no [v] q.1 l fun l => ih l K) no) ps

noncomputable def boundK (v : Option AV) (d y : Nat) (no : R) (K : Nat → R) : R := om v (K d) fun v => asN v no fun i => br (Nat.ble i y) (K i) no

noncomputable def boundH (hi mx : Option AV) (len m : Nat) (no : R) (K : Nat → R) : R := om hi (om mx (K len) fun _ => no) fun v => asN v no fun i => br (Nat.ble i m) (K i) no

/-! s[lo:hi:max] -/
noncomputable def slStr (s : List UInt8) (lo hi mx : Option AV) (no : R) (K : AV → R) : R :=
  om mx (fN (lenL s) fun n => boundH hi mx n n no fun h => boundK lo 0 h no fun l => takeK (Nat.sub h l) (dropL l s) fun s => K (.str s)) fun _ => no
/-- a piece of a row whose capacity is known -/
noncomputable def slEx (sz : Nat) (b : Pth) (o len cap : Nat) (lo hi mx : Option AV) (no : R) (K : AV → R) : R :=
  boundK mx cap cap no fun m => boundH hi mx len m no fun h => boundK lo 0 h no fun l =>
    fN (br (Nat.beq m l) o (Nat.add o (Nat.mul l sz))) fun o => fN (Nat.sub h l) fun n => fN (Nat.sub m l) fun c => K (.sl b o n (.ex c))
noncomputable def slOp (sz : Nat) (b : Pth) (o len k : Nat) (lo hi mx : Option AV) (no : R) (K : AV → R) : R :=
  om mx (boundH hi mx len len no fun h => boundK lo 0 h no fun l =>
      br (Nat.beq l 0) (K (.sl b o h (.op k))) (br (Nat.ble (Nat.succ l) len) (fN (Nat.add o (Nat.mul l sz)) fun o => fN (Nat.sub h l) fun n => fN (Nat.add k l) fun k => K (.sl b o n (.op k))) (K .emp)))
    fun mv => asN mv no fun m => br (Nat.ble m len) (boundH hi mx len m no fun h => boundK lo 0 h no fun l =>
      fN (br (Nat.beq m l) o (Nat.add o (Nat.mul l sz))) fun o => fN (Nat.sub h l) fun n => fN (Nat.sub m l) fun c => K (.sl b o n (.ex c))) no
noncomputable def slSl (sz : Nat) (x : AV) (lo hi mx : Option AV) (no : R) (K : AV → R) : R := match x with
  | .sl b o len c => (match c with
    | .ex cap => slEx sz b o len cap lo hi mx no K
    | .op k => slOp sz b o len k lo hi mx no K)
  | .nils => boundK mx 0 0 no fun m => boundH hi mx 0 m no fun h => boundK lo 0 h no fun _ => K .nils
  | .emp => om mx (boundH hi mx 0 0 no fun _ => boundK lo 0 0 no fun _ => K .emp) fun _ => no
  | _ => no
noncomputable def sliceA (P : Program) (t : TypeId) (x : AV) (lo hi mx : Option AV) (no : R) (K : AV → R) : R :=
  om (mkTI P t) no fun ti =>
  match ti.k with
  | .str => (match x with | .str s => slStr s lo hi mx no K | _ => no)
  | .slice e => om (mkTI P e) no fun te => slSl te.size x lo hi mx no K
  | .arr n e => om (mkTI P e) no fun te => (match x with | .ptr b o => slEx te.size b o n n lo hi mx no K | _ => no)
  | _ => no

noncomputable def indexAddrA (P : Program) (t : TypeId) (x i : AV) (no : R) (K : AV → R) : R :=
  om (mkTI P t) no fun ti => asN i no fun i =>
  match ti.k with
  | .arr n e => om (mkTI P e) no fun te => br (Nat.ble (Nat.succ i) n) (match x with
    | .ptr b o => fN (Nat.add o (Nat.mul i te.size)) fun o => K (.ptr b o)
    | .gptr b o => fN (Nat.add o (Nat.mul i te.size)) fun o => K (.gptr b o)
    | _ => no) no
  | .slice e => om (mkTI P e) no fun te => (match x with
    | .sl b o len _ => br (Nat.ble (Nat.succ i) len) (fN (Nat.add o (Nat.mul i te.size)) fun o => K (.ptr b o)) no
    | _ => no)
  | _ => no
noncomputable def indexA (P : Program) (t : TypeId) (x i : AV) (no : R) (K : AV → R) : R :=
  om (mkTI P t) no fun ti => asN i no fun i =>
  match ti.k with
  | .arr n e => om (mkTI P e) no fun te => br (Nat.ble (Nat.succ i) n) (asL x no fun l => partK te l (Nat.mul i te.size) no K) no
  | .str => (match x with
    | .str s => om (nthL s i) no fun c => fN c.toNat fun n => K (.int .u8 (Int.ofNat n))
    | _ => no)
  | _ => no
noncomputable def fieldAddrA (P : Program) (t : TypeId) (x : AV) (f : Nat) (no : R) (K : AV → R) : R :=
  om (mkTI P t) no fun ti => match ti.k with
  | .struct fs => om (nthL fs f) no fun f => br (Nat.beq f.sz 0) no (match x with
    | .ptr b o => fN (Nat.add o f.off) fun o => K (.ptr b o)
    | .gptr b o => fN (Nat.add o f.off) fun o => K (.gptr b o)
    | _ => no)
  | _ => no
noncomputable def fieldA (P : Program) (t : TypeId) (x : AV) (f : Nat) (no : R) (K : AV → R) : R :=
  om (mkTI P t) no fun ti => match ti.k with
  | .struct fs => om (nthL fs f) no fun f => om (mkTI P f.ty) no fun tf => asL x no fun l => partK tf l f.off no K
  | _ => no

/-- the cells of a slice that is read, or of a string's bytes -/
noncomputable def strCells (s : List UInt8) : Nat → (List AV → R) → R :=
  List.rec (motive := fun _ => Nat → (List AV → R) → R) (fun _ K => K []) (fun c _ ih n => Nat.rec (motive := fun _ => (List AV → R) → R) (fun K => K []) (fun m _ K => fN c.toNat fun z => ih m fun l => K (.int .u8 (Int.ofNat z) :: l)) n) s
noncomputable def firstA (ro : Nat → Option CB) (G : AG) (size n : Nat) (x : AV) (no : R) (K : List AV → R) : R :=
  match x with
  | .sl b o _ _ => ldC ro G (.ptr b o) no fun c o => takeX (Nat.mul n size) no (dropL o c.cs) K
  | .nils => br (Nat.beq n 0) (K []) no
  | .emp => br (Nat.beq n 0) (K []) no
  | .str s => br (Nat.beq size 1) (br (Nat.ble n (lenL s)) (strCells s n K) no) no
  | _ => no
noncomputable def lenA (x : AV) (no : R) (K : Nat → R) : R :=
  match x with
  | .sl _ _ n _ => K n
  | .nils => K 0
  | .emp => K 0
  | .str s => fN (lenL s) K
  | _ => no

/-- a row that has grown: what was in it, and what is appended, in a new block of unknown length -/
noncomputable def growA (G : AG) (e : TypeId) (size need : Nat) (fz : Fz) (old new : List AV) (no : R) (K : AV → AG → R) : R :=
  br (Nat.ble need 1000000) (appK old new fun cs => G.newK (.cells ⟨e, size, true, fz, cs⟩) fun b G => K (.sl b 0 need (.op 0)) G) no
noncomputable def fzOn (f : Fz) : Fz := match f with | .no => .no | _ => .any
noncomputable def isRng (f : Fz) : Bool := match f with | .rng _ _ => true | _ => false
noncomputable def appEx (ro : Nat → Option CB) (G : AG) (e : TypeId) (size : Nat) (b : Pth) (o len cap n : Nat) (x : AV) (no : R) (K : AV → AG → R) : R :=
  fN (Nat.add len n) fun need => br (Nat.ble need cap)
    (firstA ro G size n x no fun new => stC G b (Nat.add o (Nat.mul len size)) new no fun G => K (.sl b o need (.ex cap)) G)
    (firstA ro G size len (.sl b o len (.ex cap)) no fun old => firstA ro G size n x no fun new => growA G e size need .no old new no K)
/-- of a row of unknown length: the old block is not spoken of any more -/
noncomputable def appOp (ro : Nat → Option CB) (G : AG) (e : TypeId) (size : Nat) (b : Pth) (o len k n : Nat) (x : AV) (no : R) (K : AV → AG → R) : R :=
  br (Nat.beq n 0) (K (.sl b o len (.op k)) G) (br (Nat.beq o 0) (br (Nat.beq k 0) (om (G.get b) no fun bx => match bx with
    | .cells c => br c.op (br (Nat.beq c.es size) (br (isRng c.fz) no (takeX (Nat.mul len size) no c.cs fun old => firstA ro G size n x no fun new => fN (Nat.add len n) fun need =>
        br (Nat.beq c.el e) (G.setK b none fun G => growA G e size need (fzOn c.fz) old new no K) no)) no) no
    | _ => no) no) no)
/-- is the second argument's type none of integers -/
noncomputable def noZeros (P : Program) (ts : List TypeId) : Bool := om (nthL ts 1) true fun u => om (mkTI P u) false fun tu => match tu.k with | .int _ => false | _ => true
noncomputable def appendA (P : Program) (ro : Nat → Option CB) (G : AG) (ts : List TypeId) (s x : AV) (no : R) (K : AV → AG → R) : R :=
  om (nthL ts 0) no fun t => om (mkTI P t) no fun ti => br (noZeros P ts) (match ti.k with
  | .slice e => om (mkTI P e) no fun te => br (Nat.beq te.bytes 0) no (br (Nat.ble te.bytes 100000) (br (Nat.beq (lenL te.zero) te.size) (lenA x no fun n => match s with
    | .nils => br (Nat.beq n 0) (K .nils G) (firstA ro G te.size n x no fun new => growA G e te.size n .no [] new no K)
    | .sl b o len c => (match c with
      | .ex cap => appEx ro G e te.size b o len cap n x no K
      | .op k => appOp ro G e te.size b o len k n x no K)
    | _ => no) no) no)
  | _ => no) no

noncomputable def copyA (P : Program) (ro : Nat → Option CB) (G : AG) (ts : List TypeId) (d s : AV) (no : R) (K : AV → AG → R) : R :=
  om (nthL ts 0) no fun t => om (mkTI P t) no fun ti => match ti.k with
  | .slice e => om (mkTI P e) no fun te => lenA s no fun m => (match d with
    | .sl b o len _ => fN (br (Nat.ble m len) m len) fun n => firstA ro G te.size n s no fun l => stC G b o l no fun G => K (.int .i64 (Int.ofNat n)) G
    | .nils => K (.int .i64 0) G
    | .emp => K (.int .i64 0) G
    | _ => no)
  | _ => no

/-! maps -/
noncomputable def keyFs (P : Program) (ih : TypeId → AV → R → R → R) (l : List AV) (no K : R) (fs : List FI) : R :=
  List.rec (motive := fun _ => R) K (fun f _ r => br f.blank r (om (mkTI P f.ty) no fun tf => partK tf l f.off no fun x => ih f.ty x no r)) fs
noncomputable def keyStep (P : Program) (ih : TypeId → AV → R → R → R) : TypeId → AV → R → R → R := fun t v no K =>
  om (mkTI P t) no fun ti => match ti.k with
      | .int _ => K
      | .str => K
      | .bool => K
      | .struct fs => asL v no fun l => keyFs P ih l no K fs
      | _ => no
noncomputable def keyK (P : Program) (fuel : Nat) : TypeId → AV → R → R → R :=
  Nat.rec (motive := fun _ => TypeId → AV → R → R → R) (fun _ _ no _ => no) (fun _ ih => keyStep P ih) fuel
/-- the place of a key among the entries -/
noncomputable def findA (P : Program) (G : AG) (t : TypeId) (k : AV) (es : List (AV × AV × Nat)) (no : R) : Nat → (Option (Nat × AV) → R) → R :=
  List.rec (motive := fun _ => Nat → (Option (Nat × AV) → R) → R) (fun _ K => K none)
    (fun e _ ih i K => eqT P G 20 t k e.1 no fun q => br q (K (some (i, e.2.1))) (ih (Nat.succ i) K)) es
noncomputable def putE (i : Nat) (v : AV) : List (AV × AV × Nat) → (List (AV × AV × Nat) → R) → R :=
  Nat.rec (motive := fun _ => List (AV × AV × Nat) → (List (AV × AV × Nat) → R) → R) (fun l K => List.rec (K []) (fun e r _ => K ((e.1, v, e.2.2) :: r)) l)
    (fun _ ih l K => List.rec (K []) (fun e r _ => ih r fun x => K (e :: x)) l) i
noncomputable def delE (i : Nat) : List (AV × AV × Nat) → (List (AV × AV × Nat) → R) → R :=
  Nat.rec (motive := fun _ => List (AV × AV × Nat) → (List (AV × AV × Nat) → R) → R) (fun l K => List.rec (K []) (fun _ r _ => K r) l)
    (fun _ ih l K => List.rec (K []) (fun e r _ => ih r fun x => K (e :: x)) l) i

noncomputable def mapOf (G : AG) (m : AV) (no : R) (K : List (AV × AV × Nat) → Nat → R) : R :=
  match m with
  | .nilm => K [] 0
  | .map b => om (G.get b) no fun x => (match x with | .map es c => K es c | _ => no)
  | _ => no
noncomputable def zeroA (ti : TI) (no : R) (K : AV → R) : R := br ti.agg (K (.agg ti.zero)) (om (nthL ti.zero 0) no K)
noncomputable def lookupA (P : Program) (G : AG) (t : TypeId) (m k : AV) (ok : Bool) (no : R) (K : AV → R) : R :=
  om (mkTI P t) no fun ti => match ti.k with
  | .map kt e => om (mkTI P e) no fun te => mapOf G m no fun es _ => keyK P 20 kt k no <| findA P G kt k es no 0 fun r =>
      om r (zeroA te no fun z => br ok (K (.tup [z, .bool false])) (K z)) fun p => br ok (K (.tup [p.2, .bool true])) (K p.2)
  | _ => no
/-- are two keys the same bits -/
noncomputable def sameA (a b : AV) : Bool := match a with
  | .int j x => (match b with | .int k y => br (kEq j k) (iEq x y) false | _ => false)
  | .str x => (match b with | .str y => sEq x y | _ => false)
  | .bool x => (match b with | .bool y => br x y (br y false true) | _ => false)
  | _ => false
noncomputable def mapUpdateA (P : Program) (G : AG) (t : TypeId) (m k v : AV) (no : R) (K : AG → R) : R :=
  om (mkTI P t) no fun ti => match ti.k with
  | .map kt _ => (match m with
    | .map b => mapOf G m no fun es c => keyK P 20 kt k no <| findA P G kt k es no 0 fun r =>
        om r (appK es [(k, v, c)] fun es => fN (Nat.succ c) fun c => G.setK b (some (.map es c)) K)
          fun p => om (nthL es p.1) no fun e => br (sameA k e.1) (putE p.1 v es fun es => G.setK b (some (.map es c)) K) no
    | _ => no)
  | _ => no
noncomputable def deleteA (P : Program) (G : AG) (ts : List TypeId) (m k : AV) (no : R) (K : AG → R) : R :=
  om (nthL ts 0) no fun t => om (mkTI P t) no fun ti => match ti.k with
  | .map kt _ => keyK P 20 kt k no (match m with
    | .nilm => K G
    | .map b => mapOf G m no fun es c => findA P G kt k es no 0 fun r => om r (K G) fun p => delE p.1 es fun es => G.setK b (some (.map es c)) K
    | _ => no)
  | _ => no

noncomputable def lenTA (P : Program) (G : AG) (t : TypeId) (x : AV) (no : R) (K : Nat → R) : R :=
  om (mkTI P t) no fun ti => match ti.k with
  | .str => (match x with | .str s => fN (lenL s) K | _ => no)
  | .slice _ => (match x with | .sl _ _ n _ => K n | .nils => K 0 | .emp => K 0 | _ => no)
  | .arr n _ => K n
  | .ptr a => om (mkTI P a) no fun ta => (match ta.k with | .arr n _ => K n | _ => no)
  | .map _ _ => mapOf G x no fun es _ => fN (lenL es) K
  | _ => no

noncomputable def capA (P : Program) (t : TypeId) (x : AV) (no : R) (K : Nat → R) : R :=
  om (mkTI P t) no fun ti => match ti.k with
  | .slice _ => (match x with | .sl _ _ _ c => (match c with | .ex n => K n | _ => no) | .nils => K 0 | _ => no)
  | _ => no

noncomputable def bytesStr (l : List AV) (no : R) : (List UInt8 → R) → R :=
  List.rec (motive := fun _ => (List UInt8 → R) → R) (fun K => K []) (fun v _ ih K => match v with
    | .int .u8 n => natOf n no fun n => br (Nat.ble n 255) (ih fun l => K (UInt8.ofNat n :: l)) no
    | _ => no) l
noncomputable def strBytes (s : List UInt8) : (List AV → R) → R :=
  List.rec (motive := fun _ => (List AV → R) → R) (fun K => K []) (fun c _ ih K => fN c.toNat fun n => ih fun l => K (.int .u8 (Int.ofNat n) :: l)) s
noncomputable def isU8 (P : Program) (e : TypeId) : Bool := om (mkTI P e) false fun te => match te.k with | .int .u8 => true | _ => false
noncomputable def convertA (P : Program) (ro : Nat → Option CB) (G : AG) (src dst : TypeId) (x : AV) (no : R) (K : AV → AG → R) : R :=
  om (mkTI P src) no fun ts => om (mkTI P dst) no fun td =>
  match td.k with
  | .int k => asI x no fun _ n => wrapK k n fun n => K (.int k n) G
  | .str => (match x with
    | .str s => K (.str s) G
    | _ => (match ts.k with
      | .slice e => br (isU8 P e) (lenA x no fun n => firstA ro G 1 n x no fun l => bytesStr l no fun s => K (.str s) G) no
      | _ => no))
  | .slice e => (match x with
    | .str s => br (isU8 P e) (fN (lenL s) fun n => strBytes s fun l => G.newK (.cells ⟨e, 1, true, .atEnd, l⟩) fun b G => K (.sl b 0 n (.op 0)) G) no
    | _ => no)
  | _ => no

noncomputable def unA (op : UnOp) (x : AV) (no : R) (K : AV → R) : R :=
  match op, x with
  | .not, .bool b => K (.bool (br b false true))
  | .neg, .int k n => wrapK k (Int.sub 0 n) fun n => K (.int k n)
  | .xor, .int k n => (match k with
    | .u8 | .u16 | .u32 | .u64 => natOf n no fun n => br (Nat.ble n (kMax k)) (fN (Nat.sub (kMax k) n) fun n => K (.int k (Int.ofNat n))) no
    | _ => no)
  | _, _ => no

noncomputable def minmaxA (mx : Bool) (l : List AV) (no : R) (K : AV → R) : R :=
  List.rec (motive := fun _ => R) no (fun v r _ => asI v no fun k n =>
    List.rec (motive := fun _ => Int → R) (fun n => K (.int k n)) (fun v _ ih n => asI v no fun _ m => fB (br mx (iLt n m) (iLt m n)) fun q => ih (br q m n)) r n) l

/-! one operation each -/
abbrev AopT := Program → (Nat → Option CB) → Tr AV → AG → Ro
noncomputable def aNo (c : Nat) : AopT := fun _ _ _ _ => .no c
noncomputable def aMove (x : Operand) : AopT := fun _ _ T G => opd T x (.no 1) fun a => .ok a G
noncomputable def aPick (c a b : Operand) : AopT := fun _ _ T G => opd T c (.no 2) fun c => asB c (.no 2) fun c => br c (opd T a (.no 2) fun a => .ok a G) (opd T b (.no 2) fun b => .ok b G)
noncomputable def aAlloc (e : TypeId) : AopT := fun P _ _ G => om (mkTI P e) (.no 3) fun te => newCells G e te.size te.zero fun b G => .ok (.ptr b 0) G
noncomputable def aBox (e : TypeId) (x : Operand) : AopT := fun P _ T G => om (mkTI P e) (.no 4) fun te => opd T x (.no 4) fun v => match v with
      | .agg l => newCells G e te.size l fun b G => .ok (.ptr b 0) G
      | .tup _ => .no 4
      | v => newCells G e te.size [v] fun b G => .ok (.ptr b 0) G
noncomputable def allInfo (P : Program) (fs : List FI) : Bool := List.rec true (fun f _ r => om (P.info? f.ty) false fun _ => r) fs
noncomputable def aBuild (t : TypeId) (ps : Array (Nat × Operand)) : AopT := fun P _ T G => om (mkTI P t) (.no 5) fun ti => match ti.k with
      | .struct fs => br (allInfo P fs) (fillK T (fun i => om (nthL fs i) none fun f => some (f.off, f.sz)) ps.toList (.no 5) ti.zero fun l => .ok (.agg l) G) (.no 5)
      | .arr _ e => om (mkTI P e) (.no 5) fun te => fillK T (fun i => some (Nat.mul i te.size, te.size)) ps.toList (.no 5) ti.zero fun l => .ok (.agg l) G
      | _ => .no 5
noncomputable def aBuildSlice (t : TypeId) (n : Nat) (ps : Array (Nat × Operand)) : AopT := fun P _ T G => om (mkTI P t) (.no 6) fun ti => match ti.k with
      | .slice e => om (mkTI P e) (.no 6) fun te => br (Nat.ble (Nat.mul n te.size) 16777216) (br (Nat.beq (lenL te.zero) te.size) (repK n te.zero fun z => fillK T (fun i => some (Nat.mul i te.size, te.size)) ps.toList (.no 6) z fun l =>
          newCells G e te.size l fun b G => .ok (.sl b 0 n (.ex n)) G) (.no 6)) (.no 6)
      | _ => .no 6
noncomputable def aLoad (t : TypeId) (a : Operand) : AopT := fun P ro T G => om (mkTI P t) (.no 7) fun ti => opd T a (.no 7) fun a => loadA ro G ti a (.no 7) fun v => .ok v G
noncomputable def aStore (t : TypeId) (a x : Operand) : AopT := fun P _ T G => om (mkTI P t) (.no 8) fun ti => opd T a (.no 8) fun a => opd T x (.no 8) fun x => storeA G ti a x (.no 8) fun G => .ok undefA G
noncomputable def aNilCheck (x : Operand) : AopT := fun _ _ T G => opd T x (.no 9) fun v => match v with
      | .ptr _ _ => .ok v G
      | .gptr _ _ => .ok v G
      | .func _ _ _ => .ok v G
      | .iface _ _ => .ok v G
      | _ => .no 9
noncomputable def aBin (op : BinOp) (t : TypeId) (x y : Operand) (_ : TypeId) : AopT := fun P _ T G => opd T x (.no 10) fun a => opd T y (.no 10) fun b => binA P G op t x y a b (.no 10) fun v => .ok v G
noncomputable def aUn (op : UnOp) (_ : TypeId) (x : Operand) : AopT := fun _ _ T G => opd T x (.no 11) fun a => unA op a (.no 11) fun v => .ok v G
noncomputable def aConv (s d : TypeId) (x : Operand) : AopT := fun P ro T G => opd T x (.no 12) fun a => convertA P ro G s d a (.no 12) .ok
noncomputable def aS2A (t : TypeId) (x : Operand) : AopT := fun P _ T G => om (mkTI P t) (.no 13) fun ti => opd T x (.no 13) fun a => match ti.k with
      | .arr n _ => (match a with | .sl b o len _ => br (Nat.ble n len) (.ok (.ptr b o) G) (.no 13) | _ => .no 13)
      | _ => .no 13
noncomputable def aMkI (t : TypeId) (x : Operand) : AopT := fun P _ T G => om (mkTI P t) (.no 14) fun ti => match ti.k with | .iface => .no 14 | _ => opd T x (.no 14) fun a => .ok (.iface t a) G
noncomputable def aMkF (fn : Fn) (a c : Array Operand) : AopT := fun _ _ T G => match fn with | .func f => opds T a.toList (.no 15) fun a => opds T c.toList (.no 15) fun c => .ok (.func f a c) G | _ => .no 15
noncomputable def aMkM (_ : TypeId) (r : Option Operand) : AopT := fun _ _ _ G => om r (G.newK (.map [] 0) fun b G => .ok (.map b) G) fun _ => .no 16
noncomputable def aMkS (t : TypeId) (l c : Operand) : AopT := fun P _ T G => om (mkTI P t) (.no 17) fun ti => match ti.k with
      | .slice e => om (mkTI P e) (.no 17) fun te => opd T l (.no 17) fun l => asN l (.no 17) fun l => opd T c (.no 17) fun c => asN c (.no 17) fun c =>
          br (Nat.ble c 1000000) (br (Nat.ble l c) (br (Nat.ble te.bytes 100000) (br (Nat.beq (lenL te.zero) te.size) (repK c te.zero fun z => newCells G e te.size z fun b G => .ok (.sl b 0 l (.ex c)) G) (.no 17)) (.no 17)) (.no 17)) (.no 17)
      | _ => .no 17
noncomputable def aSlice (t : TypeId) (x : Operand) (lo hi mx : Option Operand) : AopT := fun P _ T G => opd T x (.no 18) fun a => opt T lo (.no 18) fun lo => opt T hi (.no 18) fun hi => opt T mx (.no 18) fun mx => sliceA P t a lo hi mx (.no 18) fun v => .ok v G
noncomputable def aFAddr (t : TypeId) (x : Operand) (f : Nat) : AopT := fun P _ T G => opd T x (.no 19) fun a => fieldAddrA P t a f (.no 19) fun v => .ok v G
noncomputable def aField (t : TypeId) (x : Operand) (f : Nat) : AopT := fun P _ T G => opd T x (.no 20) fun a => fieldA P t a f (.no 20) fun v => .ok v G
noncomputable def aIAddr (t : TypeId) (x i : Operand) : AopT := fun P _ T G => opd T x (.no 21) fun a => opd T i (.no 21) fun i => indexAddrA P t a i (.no 21) fun v => .ok v G
noncomputable def aIndex (t : TypeId) (x i : Operand) : AopT := fun P _ T G => opd T x (.no 22) fun a => opd T i (.no 22) fun i => indexA P t a i (.no 22) fun v => .ok v G
noncomputable def aLookup (t : TypeId) (x k : Operand) (ok : Bool) : AopT := fun P _ T G => opd T x (.no 23) fun a => opd T k (.no 23) fun k => lookupA P G t a k ok (.no 23) fun v => .ok v G
noncomputable def aMapUp (t : TypeId) (m k x : Operand) : AopT := fun P _ T G => opd T m (.no 24) fun m => opd T k (.no 24) fun k => opd T x (.no 24) fun x => mapUpdateA P G t m k x (.no 24) fun G => .ok undefA G
noncomputable def aAssert (x : Operand) (_ t : TypeId) (ok : Bool) : AopT := fun P _ T G => om (mkTI P t) (.no 25) fun ti => opd T x (.no 25) fun a => match ti.k with
      | .iface => .no 25
      | _ => (match a with
        | .iface u v => br (Nat.beq u t) (br ok (.ok (.tup [v, .bool true]) G) (.ok v G)) (br ok (zeroA ti (.no 25) fun z => .ok (.tup [z, .bool false]) G) (.no 25))
        | .nili => br ok (zeroA ti (.no 25) fun z => .ok (.tup [z, .bool false]) G) (.no 25)
        | _ => .no 25)
noncomputable def aExtract (x : Operand) (i : Nat) : AopT := fun _ _ T G => opd T x (.no 26) fun a => match a with | .tup l => om (nthL l i) (.no 26) fun v => .ok v G | _ => .no 26
noncomputable def aRange (t : TypeId) (x : Operand) : AopT := fun P _ T G => om (mkTI P t) (.no 27) fun ti => opd T x (.no 27) fun a => match ti.k, a with
      | .str, .str s => G.newK (.siter s 0) fun b G => .ok (.ptr b 0) G
      | .map _ _, .nilm => G.newK (.miter none 0 [] 0) fun b G => .ok (.ptr b 0) G
      | .map _ _, .map m => om (G.get m) (.no 27) fun x => (match x with | .map _ c => G.newK (.miter (some m) c [] c) fun b G => .ok (.ptr b 0) G | _ => .no 27)
      | _, _ => .no 27
noncomputable def aNext (it : Operand) (str : Bool) : AopT := fun _ _ T G => opd T it (.no 28) fun a => match a with
      | .ptr r o => br (Nat.beq o 0) (om (G.get r) (.no 28) fun x => (match x with
        | .siter s pos => br str (om (nthL s pos) (.ok (.tup [.bool false]) G)
            (fun c => br (bLt c 128) (fN c.toNat fun n => fN (Nat.succ pos) fun q => G.setK r (some (.siter s q)) fun G => .ok (.tup [.bool true, .int .i64 (Int.ofNat pos), .int .i32 (Int.ofNat n)]) G) (.no 28)))
            (.no 28)
        | .miter m since seen _ => br str (.no 28) (om m (.ok (.tup [.bool false]) G) fun m => om (G.get m) (.no 28) fun x => (match x with
          | .map es c => (match es with
            | [] => .ok (.tup [.bool false]) G
            | [e] => (match seen with
              | [] => br (Nat.ble (Nat.succ e.2.2) since) (G.setK r (some (.miter (some m) since [e.2.2] c)) fun G => .ok (.tup [.bool true, e.1, e.2.1]) G) (.no 28)
              | [z] => br (Nat.beq z e.2.2) (.ok (.tup [.bool false]) G) (.no 28)
              | _ => .no 28)
            | _ => .no 28)
          | _ => .no 28))
        | _ => .no 28)) (.no 28)
      | _ => .no 28
noncomputable def aBuiltin (b : Builtin) (ts : List TypeId) (l : List AV) : AopT := fun P ro _ G => match b with
        | .append => (match l with | [s, x] => appendA P ro G ts s x (.no 30) .ok | _ => .no 30)
        | .len => (match l with | [x] => om (nthL ts 0) (.no 31) fun t => lenTA P G t x (.no 31) fun n => .ok (.int .i64 (Int.ofNat n)) G | _ => .no 31)
        | .cap => (match l with | [x] => om (nthL ts 0) (.no 32) fun t => capA P t x (.no 32) fun n => .ok (.int .i64 (Int.ofNat n)) G | _ => .no 32)
        | .copy => (match l with | [d, s] => copyA P ro G ts d s (.no 33) .ok | _ => .no 33)
        | .max => minmaxA true l (.no 35) fun v => .ok v G
        | .min => minmaxA false l (.no 36) fun v => .ok v G
        | .delete => (match l with | [m, k] => deleteA P G ts m k (.no 34) fun G => .ok undefA G | _ => .no 34)
        | _ => .no 37
noncomputable def aCall (c : Call) : AopT := fun P ro T G => match c.callee with
      | .builtin b => opds T c.args.toList (.no 29) fun l => aBuiltin b c.argTypes.toList l P ro T G
      | _ => .no 38

/-- all operations but calls of functions, and 'defer' -/
noncomputable def aop (op : Op) : AopT :=
  Op.rec (motive := fun _ => AopT) aMove aMove aPick aAlloc aBox aBuild aBuildSlice aMapUp aLoad aStore (fun _ => aNo 39) (fun _ => aNo 39) aNilCheck aBin aUn aConv aS2A aMkI aMkF aMkM (fun _ _ => aNo 39) aMkS aSlice
    aFAddr aField aIAddr aIndex aLookup aMapUp (fun _ _ _ => aNo 39) (fun _ _ _ _ => aNo 39) (fun _ _ => aNo 27) (fun _ _ => aNo 28) (fun _ => aNo 39) aAssert aExtract aCall (fun _ => aNo 39) (fun _ => aNo 39) (fun _ => aNo 39) (fun _ _ => aNo 39) (fun _ _ _ => aNo 39) (fun _ _ => aNo 39) op
end ops
end Go.Ev

/-! The evaluator of code: regions in the order of the text, loops, calls, deferred calls, ranges over functions. -/
namespace Go.Ev
open Go Go.RowKit

inductive Ex where
  | nx
  | ex (id : Nat)
  | rt
inductive ADef where
  | call (f : FuncId) (args : List AV)
  | coll (b : Pth)
structure St where
  T : Tr AV
  G : AG
  D : List ADef
inductive Rs where
  | ok (e : Ex) (s : St)
  | no (c : Nat)
inductive Rv where
  | ok (v : AV) (G : AG) (D : List ADef)
  | no (c : Nat)
inductive Rf where
  | ok (v : AV) (G : AG)
  | no (c : Nat)
/-- who is called -/
inductive Who where
  | fn (f : FuncId)
  | yield (b : Pth)
abbrev CallF := Who → List AV → AG → Bool → Rf

noncomputable def fnOf (P : Program) (f : FuncId) : Option Func := nthL P.funcs.toList f
noncomputable def setT {R : Type} (N : Nat) (T : Tr AV) (d : Nat) (v : AV) (no : R) (K : Tr AV → R) : R :=
  br (Nat.ble (Nat.succ d) N) (setP (pathOf d) T (some v) K) no
noncomputable def setD {R : Type} (N : Nat) (T : Tr AV) (d : Option Nat) (v : AV) (no : R) (K : Tr AV → R) : R := om d (K T) fun d => setT N T d v no K

/-- is an operation wanted: its guard -/
noncomputable def wantK {R : Type} (T : Tr AV) (ops : List Oper) (g : Option (Nat × Bool)) (no : R) (yes skip : R) : R :=
  om g yes fun g => om (nthL ops g.1) no fun o => om o.dst no fun d => om (getP (pathOf d) T) no fun v => match v with
    | .bool b => br b (br g.2 yes skip) (br g.2 skip yes)
    | _ => no

section code
variable (P : Program) (ro : Nat → Option CB) (call : CallF) (dfr rnd : Bool) (N : Nat)

/-- the call of a function value -/
noncomputable def callV (f : AV) (args : List AV) (G : AG) : Rf :=
  match f with
  | .func f a c => appK a args fun l => appK l c fun l => call (.fn f) l G false
  | .yield b => call (.yield b) args G false
  | _ => .no 40
/-- what an operation gives: a value, the memory, the deferred calls -/
noncomputable def vF (D : List ADef) (r : Rf) : Rv := match r with
    | .ok v G => .ok v G D
    | .no c => .no c
noncomputable def vO (D : List ADef) (r : Ro) : Rv := match r with
    | .ok v G => .ok v G D
    | .no c => .no c
/-- calls -/
noncomputable def oCall (c : Call) (T : Tr AV) (G : AG) (D : List ADef) : Rv := match c.callee with
    | .value f => opd T f (.no 42) fun f => opds T c.args.toList (.no 42) fun args => vF D (callV call f args G)
    | .invoke _ _ => .no 43
    | .builtin b => (match b with
      | .recover => br dfr (br rnd (.no 46) (.ok .nili G D)) (.no 46)
      | b => vO D (opds T c.args.toList (.no 29) fun l => aBuiltin b c.argTypes.toList l P ro T G))
noncomputable def oDefer (c : Call) (T : Tr AV) (G : AG) (D : List ADef) : Rv := br rnd (.no 47) (match c.callee with
    | .value f => opd T f (.no 48) fun f => opds T c.args.toList (.no 48) fun args => (match f with
      | .func f a c => appK a args fun l => appK l c fun l => .ok undefA G (.call f l :: D)
      | _ => .no 50)
    | _ => .no 51)
/-- what kind of operation -/
inductive OK3 where
  | call (c : Call)
  | defer (c : Call)
  | other
noncomputable def kindO (op : Op) : OK3 := match op with | .call c => .call c | .defer c => .defer c | _ => .other
/-- one operation -/
noncomputable def operV (o : Oper) (T : Tr AV) (G : AG) (D : List ADef) : Rv :=
  match kindO o.op with
  | .call c => oCall P ro call dfr rnd c T G D
  | .defer c => oDefer rnd c T G D
  | .other => vO D (aop o.op P ro T G)
/-- one operation, its result laid into its slot -/
noncomputable def oper1 (s : St) (o : Oper) : Rs :=
  match operV P ro call dfr rnd o s.T s.G s.D with
  | .ok v G D => setD N s.T o.dst v (.no 41) fun T => .ok .nx ⟨T, G, D⟩
  | .no c => .no c

noncomputable def thenS (r : Rs) (k : St → Rs) : Rs := match r with
  | .ok e s => (match e with | .nx => k s | e => .ok e s)
  | .no c => .no c
/-- the operations of a region, one after the other -/
noncomputable def opsA (ops : List Oper) (l : List Oper) : St → Rs :=
  List.rec (motive := fun _ => St → Rs) (fun s => .ok .nx s)
    (fun o _ ih s => wantK s.T ops o.guard (.no 52)
      (thenS (oper1 P ro call dfr rnd N s o) ih)
      (setD N s.T o.dst undefA (.no 53) fun T => ih ⟨T, s.G, s.D⟩)) l

noncomputable def loopA (body : St → Rs) (n : Nat) : St → Rs :=
  Nat.rec (motive := fun _ => St → Rs) (fun _ => .no 54) (fun _ ih s => thenS (body s) ih) n

variable (region : Nat → List Oper → Bool → St → Rs) (self : FuncId)
noncomputable def exOf (c : Code) : Option Ex := match c with | .exit id => some (.ex id) | .ret => some .rt | _ => none
/-- a range over a function -/
noncomputable def rfA (f : Operand) (params : Array Tmp) (assign body : Code) (s : St) : Rs := br rnd (.no 56) <| opd s.T f (.no 57) fun f =>
      s.G.newK .defd fun d G => G.newK (.loop .ready none self s.T N params assign body d) fun b G =>
      (match callV call f [.yield b] G with
        | .ok _ G => om (G.get b) (.no 58) fun x => (match x with
          | .loop st pend fn T N ps a bd d' => (match st with
            | .busy => .no 58
            | _ => G.setK b (some (.loop .exhausted pend fn T N ps a bd d')) fun G =>
                om pend (.ok .nx ⟨s.T, G, .coll d :: s.D⟩) fun c => om (exOf c) (.no 59) fun e => .ok e ⟨s.T, G, .coll d :: s.D⟩)
          | _ => .no 58)
        | .no c => .no c)
noncomputable def evalC (c : Code) : St → Rs :=
  Code.rec (motive := fun _ => St → Rs)
    (fun s => .ok .nx s)                                                     -- skip
    (fun id ops draw s => region id ops.toList draw s)                          -- region
    (fun _ _ ia ib s => thenS (ia s) ib)                                         -- seq
    (fun c _ _ ia ib s => opd s.T c (.no 55) fun v => asB v (.no 55) fun b => br b (ia s) (ib s))   -- cond
    (fun id _ ib s => match ib s with                                            -- block
      | .ok e s => (match e with | .ex j => br (Nat.beq j id) (.ok .nx s) (.ok (.ex j) s) | e => .ok e s)
      | .no c => .no c)
    (fun _ ib s => loopA ib 1000000 s)                                             -- loop
    (fun f params assign body _ _ s => rfA call rnd N self f params assign body s)            -- rangeFunc
    (fun id s => .ok (.ex id) s)                                               -- exit
    (fun _ ib s => ib s)                                                     -- scope
    (fun _ s => .ok .nx s)                                                    -- label
    (fun _ _ => .no 73)                                                        -- goto
    (fun s => .ok .rt s)                                                      -- ret
    (fun _ _ => .no 60) c                                                     -- refuse
end code

/-- a frame's first slots -/
noncomputable def args0 {R : Type} (l : List AV) : Nat → Tr AV → (Tr AV → R) → R :=
  List.rec (motive := fun _ => Nat → Tr AV → (Tr AV → R) → R) (fun _ T K => K T) (fun a _ ih i T K => setP (pathOf i) T (some a) fun T => ih (Nat.succ i) T K) l
/-- the deferred calls of a frame -/
noncomputable def runD (call : CallF) (ds : List ADef) : AG → (AG → Rf) → Rf :=
  List.rec (motive := fun _ => AG → (AG → Rf) → Rf) (fun G K => K G) (fun d _ ih G K => match d with
    | .call f args => (match call (.fn f) args G true with | .ok _ G => ih G K | .no c => .no c)
    | .coll b => om (G.get b) (.no 61) fun x => (match x with | .defd => G.setK b none fun G => ih G K | _ => .no 61)) ds
noncomputable def resK (P : Program) (ro : Nat → Option CB) (T : Tr AV) (G : AG) (l : List ResultVar) (no : Rf) : (List AV → Rf) → Rf :=
  List.rec (motive := fun _ => (List AV → Rf) → Rf) (fun K => K []) (fun r _ ih K => match r with
    | .tmp t => ih fun vs => K ((om (getP (pathOf t) T) undefA fun v => v) :: vs)
    | .cell a t => om (mkTI P t) no fun ti => om (getP (pathOf a) T) no fun p => loadA ro G ti p no fun v => ih fun vs => K (v :: vs)) l

/-- a round of a range over a function: its values are laid; the round begins; it ends -/
noncomputable def layA (N : Nat) (ps : List Nat) : List AV → Tr AV → Rf → (Tr AV → Rf) → Rf :=
  List.rec (motive := fun _ => List AV → Tr AV → Rf → (Tr AV → Rf) → Rf) (fun _ T _ K => K T)
    (fun p _ ih args T no K => List.rec no (fun a r _ => setT N T p a no fun T => ih r T no K) args) ps
noncomputable def midA (b : Pth) (r : Rs) (K : St → Rf) : Rf := match r with
  | .ok e s => (match e with
    | .nx => om (s.G.get b) (.no 68) fun x => (match x with
      | .loop st pend fn T N ps assign body d => (match st with
        | .ready => s.G.setK b (some (.loop .busy pend fn T N ps assign body d)) fun G => K ⟨s.T, G, s.D⟩
        | _ => .no 68)
      | _ => .no 68)
    | _ => .no 70)
  | .no c => .no c
noncomputable def endA (b : Pth) (r : Rs) : Rf := match r with
  | .ok e s => om (s.G.get b) (.no 69) fun x => (match x with
    | .loop _ _ fn T N ps assign body d => (match e with
      | .nx => s.G.setK b (some (.loop .ready none fn T N ps assign body d)) fun G => .ok (.bool true) G
      | .ex j => s.G.setK b (some (.loop .done (some (.exit j)) fn T N ps assign body d)) fun G => .ok (.bool false) G
      | .rt => s.G.setK b (some (.loop .done (some .ret) fn T N ps assign body d)) fun G => .ok (.bool false) G)
    | _ => .no 69)
  | .no c => .no c

section call
variable (P : Program) (ro : Nat → Option CB) (ctr : FuncId → Option (List AV → AG → Rf))
variable (regionF : CallF → Bool → Bool → Nat → FuncId → Nat → List Oper → Bool → St → Rs)

noncomputable def callN (n : Nat) : CallF :=
  Nat.rec (motive := fun _ => CallF) (fun _ _ _ _ => .no 62) (fun _ ih who args G dfr =>
    match who with
    | .fn f => om (ctr f)
        (om (fnOf P f) (.no 63) fun fn => om fn.body (.no 1000) fun c =>
          args0 args 0 .e fun T => fN (lenL args) fun na => fN (br (Nat.ble na fn.ntmps) fn.ntmps na) fun N =>
          match evalC ih false N (regionF ih dfr false N f) f c ⟨T, G, []⟩ with
          | .ok e s => (match e with
            | .nx | .rt => runD ih s.D s.G fun G => resK P ro s.T G fn.results.toList (.no 64) fun vs => (match vs with | [v] => .ok v G | vs => .ok (.tup vs) G)
            | _ => .no 65)
          | .no c => .no c)
        fun k => br dfr (.no 66) (k args G)
    | .yield b => br dfr (.no 74) (om (G.get b) (.no 67) fun x => (match x with
      | .loop st _ fn T N ps assign body _ => (match st with
        | .ready => br (Nat.beq (lenL args) ps.size)
          (layA N ps.toList args T (.no 71) fun T => midA b (evalC ih true N (regionF ih false true N fn) fn assign ⟨T, G, []⟩) fun s => endA b (evalC ih true N (regionF ih false true N fn) fn body s))
          (.no 71)
        | _ => .no 72)
      | _ => .no 67))) n

/-- regions in the order of the text (right only where no order is drawn) -/
noncomputable def region0 (P : Program) (ro : Nat → Option CB) : CallF → Bool → Bool → Nat → FuncId → Nat → List Oper → Bool → St → Rs :=
  fun call dfr rnd N _ _ ops _ s => opsA P ro call dfr rnd N ops ops s
end call
end Go.Ev

