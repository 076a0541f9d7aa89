/- A call that was evaluated once, over a memory that holds its arguments alone, is a contract wherever its arguments read so. -/
import Derived.Test.YtnipnoffofoedaaGreatDoorEvF
namespace Go.Ev
open Go Go.RowKit

/-! ### Values that name no block -/
mutual
noncomputable def plainAV : AV → Bool
  | .int _ _ => true
  | .bool _ => true
  | .str _ => true
  | .nilp => true
  | .gptr _ _ => true
  | .nils => true
  | .nili => true
  | .nilf => true
  | .nilm => true
  | .agg l => plainAVs l
  | .tup l => plainAVs l
  | .iface _ v => plainAV v
  | _ => false
noncomputable def plainAVs : List AV → Bool
  | [] => true
  | a :: l => plainAV a && plainAVs l
end
mutual
theorem plainAV_any {σ τ : Sub} : ∀ (a : AV) (v : Value), plainAV a = true → VR σ a v → VR τ a v
  | .int _ _, _, _, h => by simp only [VR] at h ⊢; exact h
  | .bool _, _, _, h => by simp only [VR] at h ⊢; exact h
  | .str _, _, _, h => by simp only [VR] at h ⊢; exact h
  | .nilp, _, _, h => by simp only [VR] at h ⊢; exact h
  | .gptr _ _, _, _, h => by simp only [VR] at h ⊢; exact h
  | .nils, _, _, h => by simp only [VR] at h ⊢; exact h
  | .nili, _, _, h => by simp only [VR] at h ⊢; exact h
  | .nilf, _, _, h => by simp only [VR] at h ⊢; exact h
  | .nilm, _, _, h => by simp only [VR] at h ⊢; exact h
  | .agg l, v, p, h => by
    simp only [VR] at h ⊢
    obtain ⟨cs, h1, h2, rfl⟩ := h
    exact ⟨cs, plainAVs_any l cs (by simpa only [plainAV] using p) h1, h2, rfl⟩
  | .tup l, v, p, h => by
    simp only [VR] at h ⊢
    obtain ⟨cs, h1, rfl⟩ := h
    exact ⟨cs, plainAVs_any l cs (by simpa only [plainAV] using p) h1, rfl⟩
  | .iface t x, v, p, h => by
    simp only [VR] at h ⊢
    obtain ⟨y, h1, rfl⟩ := h
    exact ⟨y, plainAV_any x y (by simpa only [plainAV] using p) h1, rfl⟩
  | .ptr _ _, _, p, _ => by simp [plainAV] at p
  | .sl _ _ _ _, _, p, _ => by simp [plainAV] at p
  | .emp, _, p, _ => by simp [plainAV] at p
  | .func _ _ _, _, p, _ => by simp [plainAV] at p
  | .yield _, _, p, _ => by simp [plainAV] at p
  | .map _, _, p, _ => by simp [plainAV] at p
  | .sym _, _, p, _ => by simp [plainAV] at p
theorem plainAVs_any {σ τ : Sub} : ∀ (l : List AV) (vs : List Value), plainAVs l = true → VRs σ l vs → VRs τ l vs
  | [], vs, _, h => by simp only [VRs] at h ⊢; exact h
  | a :: l, vs, p, h => by
    simp only [VRs] at h ⊢
    rw [plainAVs, Bool.and_eq_true] at p
    obtain ⟨v, ws, rfl, h1, h2⟩ := h
    exact ⟨v, ws, rfl, plainAV_any a v p.1 h1, plainAVs_any l ws p.2 h2⟩
end

/-! ### Blocks under other names -/
abbrev Rn := List (Pth × Pth)
noncomputable def lkp : Rn → Pth → Option Pth
  | [], _ => none
  | (c, b) :: l, x => br (pEq c x) (some b) (lkp l x)
noncomputable def lkE (ρ : Rn) (c b : Pth) : Bool := match lkp ρ c with | some b' => pEq b' b | none => false
theorem lkE_ok {ρ : Rn} {c b : Pth} (h : lkE ρ c b = true) : lkp ρ c = some b := by
  unfold lkE at h
  split at h
  · rename_i b' hb; rw [hb, (pEq_iff _ _).1 h]
  · cases h
noncomputable def eqCp : ACap → ACap → Bool
  | .ex n, .ex m => Nat.beq n m
  | .op n, .op m => Nat.beq n m
  | _, _ => false
theorem eqCp_ok {a b : ACap} (h : eqCp a b = true) : a = b := by
  cases a <;> cases b <;> simp [eqCp] at h <;> rw [h]
mutual
/-- a value, where the blocks have other names -/
noncomputable def renAV (ρ : Rn) : AV → AV → Bool
  | .sl c o n k, .sl b o' n' k' => lkE ρ c b && (Nat.beq o o' && (Nat.beq n n' && eqCp k k'))
  | .ptr c o, .ptr b o' => lkE ρ c b && Nat.beq o o'
  | .map c, .map b => lkE ρ c b
  | .agg l, .agg m => renAVs ρ l m
  | .tup l, .tup m => renAVs ρ l m
  | .iface t x, .iface u y => Nat.beq t u && renAV ρ x y
  | .func f a c, .func g b d => Nat.beq f g && (renAVs ρ a b && renAVs ρ c d)
  | a, b => plainAV a && eqAV a b
noncomputable def renAVs (ρ : Rn) : List AV → List AV → Bool
  | [], [] => true
  | a :: l, b :: m => renAV ρ a b && renAVs ρ l m
  | _, _ => false
end
/-- the places under the other names -/
noncomputable def Sub.ren (σ : Sub) (ρ : Rn) : Sub := ⟨fun c => (lkp ρ c).bind σ.blk, fun c => (lkp ρ c).elim 0 σ.cap, σ.sy⟩
/-- two namings that agree -/
def RnOK (ρ : Rn) (τ σ : Sub) : Prop := ∀ c b, lkp ρ c = some b → τ.blk c = σ.blk b ∧ τ.cap c = σ.cap b
theorem ren_rnOK (ρ : Rn) (σ : Sub) : RnOK ρ (σ.ren ρ) σ := fun c b h => by simp [Sub.ren, h]
theorem renPlain {σ τ : Sub} {a b : AV} {v : Value} (h : (plainAV a && eqAV a b) = true) : VR τ a v ↔ VR σ b v := by
  rw [Bool.and_eq_true] at h
  rw [← eqAV_ok _ _ h.2]
  exact ⟨plainAV_any _ _ h.1, plainAV_any _ _ h.1⟩
mutual
theorem renAV_ok {σ τ : Sub} {ρ : Rn} (hU : RnOK ρ τ σ) : ∀ (a b : AV) (v : Value), renAV ρ a b = true → (VR τ a v ↔ VR σ b v)
  | .sl c o n k, b, v, h => by
    cases b with
    | sl b o' n' k' =>
      simp only [renAV, Bool.and_eq_true] at h
      obtain ⟨h1, h2, h3, h4⟩ := h
      have hl := hU _ _ (lkE_ok h1)
      have e2 := Nat.eq_of_beq_eq_true h2
      have e3 := Nat.eq_of_beq_eq_true h3
      have e4 := eqCp_ok h4
      subst e2 e3 e4
      simp only [VR]
      rw [hl.1]
      have : ∀ cp, capR τ c k cp ↔ capR σ b k cp := fun cp => by
        cases k with
        | ex _ => exact Iff.rfl
        | op j => simp only [capR]; rw [hl.2]
      simp only [this]
    | _ => simp [renAV, plainAV] at h
  | .ptr c o, b, v, h => by
    cases b with
    | ptr b o' =>
      simp only [renAV, Bool.and_eq_true] at h
      have hl := hU _ _ (lkE_ok h.1)
      have e2 := Nat.eq_of_beq_eq_true h.2
      subst e2
      simp only [VR]
      rw [hl.1]
    | _ => simp [renAV, plainAV] at h
  | .map c, b, v, h => by
    cases b with
    | map b =>
      simp only [renAV] at h
      have hl := hU _ _ (lkE_ok h)
      simp only [VR]
      rw [hl.1]
    | _ => simp [renAV, plainAV] at h
  | .agg l, b, v, h => by
    cases b with
    | agg m =>
      simp only [renAV] at h
      simp only [VR, renAVs_ok hU l m _ h]
    | _ => simp [renAV, plainAV, eqAV] at h
  | .tup l, b, v, h => by
    cases b with
    | tup m =>
      simp only [renAV] at h
      simp only [VR, renAVs_ok hU l m _ h]
    | _ => simp [renAV, plainAV, eqAV] at h
  | .iface t x, b, v, h => by
    cases b with
    | iface u y =>
      simp only [renAV, Bool.and_eq_true] at h
      have e := Nat.eq_of_beq_eq_true h.1
      subst e
      simp only [VR, renAV_ok hU x y _ h.2]
    | _ => simp [renAV, plainAV, eqAV] at h
  | .func f a c, b, v, h => by
    cases b with
    | func g b d =>
      simp only [renAV, Bool.and_eq_true] at h
      obtain ⟨h1, h2, h3⟩ := h
      have e := Nat.eq_of_beq_eq_true h1
      subst e
      simp only [VR, renAVs_ok hU a b _ h2, renAVs_ok hU c d _ h3]
    | _ => simp [renAV, plainAV] at h
  | .int _ _, b, v, h => by refine renPlain ?_; revert h; cases b <;> simp [renAV]
  | .bool _, b, v, h => by refine renPlain ?_; revert h; cases b <;> simp [renAV]
  | .str _, b, v, h => by refine renPlain ?_; revert h; cases b <;> simp [renAV]
  | .nilp, b, v, h => by refine renPlain ?_; revert h; cases b <;> simp [renAV]
  | .gptr _ _, b, v, h => by refine renPlain ?_; revert h; cases b <;> simp [renAV]
  | .nils, b, v, h => by refine renPlain ?_; revert h; cases b <;> simp [renAV]
  | .emp, b, v, h => by revert h; cases b <;> simp [renAV, plainAV]
  | .nili, b, v, h => by refine renPlain ?_; revert h; cases b <;> simp [renAV]
  | .nilf, b, v, h => by refine renPlain ?_; revert h; cases b <;> simp [renAV]
  | .yield _, b, v, h => by revert h; cases b <;> simp [renAV, plainAV]
  | .nilm, b, v, h => by refine renPlain ?_; revert h; cases b <;> simp [renAV]
  | .sym _, b, v, h => by revert h; cases b <;> simp [renAV, plainAV]
theorem renAVs_ok {σ τ : Sub} {ρ : Rn} (hU : RnOK ρ τ σ) : ∀ (l m : List AV) (vs : List Value), renAVs ρ l m = true → (VRs τ l vs ↔ VRs σ m vs)
  | [], m, vs, h => by
    cases m with
    | nil => simp only [VRs]
    | cons _ _ => simp [renAVs] at h
  | a :: l, m, vs, h => by
    cases m with
    | nil => simp [renAVs] at h
    | cons b m =>
      simp only [renAVs, Bool.and_eq_true] at h
      simp only [VRs, renAV_ok hU a b _ h.1, renAVs_ok hU l m _ h.2]
end

/-! ### Blocks -/
noncomputable def eqFz : Fz → Fz → Bool
  | .no, .no => true
  | .rng a b, .rng c d => Nat.beq a c && Nat.beq b d
  | .atEnd, .atEnd => true
  | .any, .any => true
  | _, _ => false
theorem eqFz_ok {a b : Fz} (h : eqFz a b = true) : a = b := by
  cases a <;> cases b <;> simp [eqFz] at h <;> try rfl
  rw [h.1, h.2]
noncomputable def renEs (ρ : Rn) : List (AV × AV × Nat) → List (AV × AV × Nat) → Bool
  | [], [] => true
  | a :: l, b :: m => renAV ρ a.1 b.1 && (renAV ρ a.2.1 b.2.1 && (Nat.beq a.2.2 b.2.2 && renEs ρ l m))
  | _, _ => false
/-- a block, where the blocks have other names -/
noncomputable def renAB (ρ : Rn) : AB → AB → Bool
  | .cells c, .cells d => Nat.beq c.el d.el && (Nat.beq c.es d.es && (br c.op d.op (br d.op false true) && (eqFz c.fz d.fz && renAVs ρ c.cs d.cs)))
  | .map es n, .map es' n' => Nat.beq n n' && renEs ρ es es'
  | _, _ => false
theorem renEs_ok {σ τ : Sub} {ρ : Rn} (hU : RnOK ρ τ σ) : ∀ (l m : List (AV × AV × Nat)) (es : List MapEntry), renEs ρ l m = true → (ERs τ l es ↔ ERs σ m es)
  | [], m, es, h => by
    cases m with
    | nil => simp only [ERs]
    | cons _ _ => simp [renEs] at h
  | a :: l, m, es, h => by
    cases m with
    | nil => simp [renEs] at h
    | cons b m =>
      obtain ⟨a1, a2, a3⟩ := a
      obtain ⟨b1, b2, b3⟩ := b
      simp only [renEs, Bool.and_eq_true] at h
      obtain ⟨h1, h2, h3, h4⟩ := h
      have e := Nat.eq_of_beq_eq_true h3
      subst e
      simp only [ERs, renAV_ok hU a1 b1 _ h1, renAV_ok hU a2 b2 _ h2, renEs_ok hU l m _ h4]
theorem renAB_ok {σ τ : Sub} {ρ : Rn} (hU : RnOK ρ τ σ) {c b : Pth} (hcb : lkp ρ c = some b) {y x : AB} {o : Obj} (h : renAB ρ y x = true) : BR τ c y o ↔ BR σ b x o := by
  cases y with
  | cells y =>
    cases x with
    | cells x =>
      simp only [renAB, Bool.and_eq_true] at h
      obtain ⟨h1, h2, h3, h4, h5⟩ := h
      have e1 := Nat.eq_of_beq_eq_true h1
      have e2 := Nat.eq_of_beq_eq_true h2
      have e3 : y.op = x.op := by revert h3; cases y.op <;> cases x.op <;> simp [br]
      have e4 := eqFz_ok h4
      simp only [BR, e1, e2, e3, e4, renAVs_ok hU y.cs x.cs _ h5, (hU _ _ hcb).2]
    | _ => simp [renAB] at h
  | map es n =>
    cases x with
    | map es' n' =>
      simp only [renAB, Bool.and_eq_true] at h
      have e1 := Nat.eq_of_beq_eq_true h.1
      simp only [BR, e1, renEs_ok hU es es' _ h.2]
    | _ => simp [renAB] at h
  | _ => cases x <;> simp [renAB] at h
end Go.Ev

/-! A call that was evaluated once is a contract: the theorem. -/
namespace Go.Ev
open Go Go.RowKit

/-- a memory of a few blocks -/
noncomputable def memT : List (Pth × AB) → Tr AB
  | [] => .e
  | q :: l => Tr.set q.1 (memT l) (some q.2)
theorem memT_mem : ∀ {Hs : List (Pth × AB)} {c : Pth} {y : AB}, getP c (memT Hs) = some y → (c, y) ∈ Hs
  | [], c, y, h => by rw [memT, getP_e] at h; cases h
  | q :: l, c, y, h => by
    rw [memT, getP_set] at h
    split at h
    · rename_i e; subst e; cases h; simp
    · exact List.mem_cons_of_mem _ (memT_mem h)

/-! ### The names -/
noncomputable def addR (ρ : Rn) (c b : Pth) : Rn := Go.Ev.om (lkp ρ c) ((c, b) :: ρ) fun _ => ρ
mutual
noncomputable def colAV : AV → AV → Rn → Rn
  | .sl c _ _ _, .sl b _ _ _, ρ => addR ρ c b
  | .ptr c _, .ptr b _, ρ => addR ρ c b
  | .map c, .map b, ρ => addR ρ c b
  | .agg l, .agg m, ρ => colAVs l m ρ
  | .tup l, .tup m, ρ => colAVs l m ρ
  | .iface _ x, .iface _ y, ρ => colAV x y ρ
  | .func _ a c, .func _ b d, ρ => colAVs c d (colAVs a b ρ)
  | _, _, ρ => ρ
noncomputable def colAVs : List AV → List AV → Rn → Rn
  | a :: l, b :: m, ρ => colAVs l m (colAV a b ρ)
  | _, _, ρ => ρ
end
noncomputable def colEs : List (AV × AV × Nat) → List (AV × AV × Nat) → Rn → Rn
  | a :: l, b :: m, ρ => colEs l m (colAV a.2.1 b.2.1 (colAV a.1 b.1 ρ))
  | _, _, ρ => ρ
noncomputable def colAB : AB → AB → Rn → Rn
  | .cells c, .cells d, ρ => colAVs c.cs d.cs ρ
  | .map l _, .map m _, ρ => colEs l m ρ
  | _, _, ρ => ρ
noncomputable def colHs (G : AG) : List (Pth × AB) → Rn → Rn
  | [], ρ => ρ
  | q :: l, ρ => colHs G l (Go.Ev.om (lkp ρ q.1) ρ fun b => Go.Ev.om (G.get b) ρ fun x => colAB q.2 x ρ)

/-! ### What is looked at -/
noncomputable def isIn (c : Pth) : List (Pth × AB) → Bool
  | [] => false
  | q :: l => br (pEq q.1 c) true (isIn c l)
theorem isIn_ok {c : Pth} : ∀ {Hs : List (Pth × AB)}, isIn c Hs = true → ∃ y, getP c (memT Hs) = some y
  | [], h => by cases h
  | q :: l, h => by
    rw [memT]
    rw [isIn, br_eq] at h
    rw [getP_set]
    split
    · exact ⟨_, rfl⟩
    · rename_i hne
      split at h
      · rename_i he; exact absurd ((pEq_iff _ _).1 he).symm hne
      · exact isIn_ok h
noncomputable def hasV (b : Pth) : Rn → Bool
  | [] => false
  | q :: l => br (pEq q.2 b) true (hasV b l)
theorem hasV_no {b : Pth} : ∀ {ρ : Rn}, hasV b ρ = false → ∀ c, lkp ρ c ≠ some b
  | [], _, c, h => by simp [lkp] at h
  | q :: l, hv, c, h => by
    rw [hasV, br_eq] at hv
    split at hv
    · cases hv
    · rename_i hne
      rw [lkp, br_eq] at h
      split at h
      · cases h
        exact hne ((pEq_iff _ _).2 rfl)
      · exact hasV_no hv c h
noncomputable def injR (Hs : List (Pth × AB)) : Rn → Bool
  | [] => true
  | q :: l => isIn q.1 Hs && (br (hasV q.2 l) false true && injR Hs l)
theorem injR_ok {Hs : List (Pth × AB)} : ∀ {ρ : Rn}, injR Hs ρ = true → (∀ c b, lkp ρ c = some b → ∃ y, getP c (memT Hs) = some y) ∧ (∀ c c' b, lkp ρ c = some b → lkp ρ c' = some b → c = c')
  | [], _ => ⟨fun c b h => (by simp [lkp] at h), fun c c' b h => (by simp [lkp] at h)⟩
  | q :: l, h => by
    rw [injR, Bool.and_eq_true, Bool.and_eq_true] at h
    obtain ⟨h1, h2, h3⟩ := h
    have h2' : hasV q.2 l = false := by revert h2; cases hasV q.2 l <;> simp [br]
    obtain ⟨i1, i2⟩ := injR_ok h3
    refine ⟨fun c b hc => ?_, fun c c' b hc hc' => ?_⟩
    · rw [lkp, br_eq] at hc
      split at hc
      · rename_i he
        rw [← (pEq_iff _ _).1 he]
        exact isIn_ok h1
      · exact i1 c b hc
    · rw [lkp, br_eq] at hc hc'
      split at hc
      · rename_i he
        cases hc
        split at hc'
        · rename_i he'
          rw [← (pEq_iff _ _).1 he, ← (pEq_iff _ _).1 he']
        · exact absurd hc' (hasV_no h2' c')
      · split at hc'
        · rename_i he'
          cases hc'
          exact absurd hc (hasV_no h2' c)
        · exact i2 c c' b hc hc'
noncomputable def blksR (ρ : Rn) (G : AG) : List (Pth × AB) → Bool
  | [] => true
  | q :: l => br (Go.Ev.om (lkp ρ q.1) false fun b => Go.Ev.om (G.get b) false fun x => renAB ρ q.2 x) (blksR ρ G l) false
theorem blksR_ok {ρ : Rn} {G : AG} : ∀ {Hs : List (Pth × AB)}, blksR ρ G Hs = true → ∀ c y, (c, y) ∈ Hs → ∃ b x, lkp ρ c = some b ∧ G.get b = some x ∧ renAB ρ y x = true
  | [], _, c, y, h => by cases h
  | q :: l, h, c, y, hm => by
    rw [blksR, br_eq] at h
    split at h
    · rename_i h1
      rcases List.mem_cons.1 hm with rfl | hm
      · obtain ⟨b, hb, h2⟩ := om_inv h1 nofun
        obtain ⟨x, hx, h3⟩ := om_inv h2 nofun
        exact ⟨b, x, hb, hx, h3⟩
      · exact blksR_ok h c y hm
    · cases h
/-- the arguments, and the memory that they reach, read as those of the memo -/
noncomputable def memM (as : List AV) (Hs : List (Pth × AB)) (args : List AV) (G : AG) : Bool :=
  (fun ρ => br (renAVs ρ as args) (br (injR Hs ρ) (blksR ρ G Hs) false) false) (colHs G Hs (colAVs as args []))

section memo
variable {P : Program} {ro : Nat → Option CB}
theorem memo_ok {f : FuncId} {as : List AV} {Hs : List (Pth × AB)} {nx : Pth} {r : AV} {H' : AG} (hcall : CallOK P ro (.fn f) as ⟨memT Hs, nx⟩ false r H') (hr : plainAV r = true)
    (hkeep : ∀ c y, (c, y) ∈ Hs → H'.get c = some y ∧ c.num < nx.num) {args : List AV} {G : AG} (hm : memM as Hs args G = true) : CallOK P ro (.fn f) args G false r G := by
  obtain ⟨ρ, hρ⟩ : ∃ ρ, ρ = colHs G Hs (colAVs as args []) := ⟨_, rfl⟩
  unfold memM at hm
  simp only at hm
  rw [← hρ, br_eq, br_eq] at hm
  split at hm
  · rename_i h1
    split at hm
    · rename_i h2
      obtain ⟨i1, i2⟩ := injR_ok h2
      have hb := blksR_ok hm
      refine ⟨Nat.le_refl _, fun w0 base U σ w av hro hR hav hU => ?_⟩
      have kn : ∀ c b, lkp ρ c = some b → ∃ x n o, G.get b = some x ∧ σ.blk b = some n ∧ base ≤ n ∧ w.heap[n]? = some o ∧ BR σ b x o := fun c b hcb => by
        obtain ⟨y, hy⟩ := i1 c b hcb
        obtain ⟨b', x, hb', hx, _⟩ := hb c y (memT_mem hy)
        rw [hcb] at hb'; cases hb'
        obtain ⟨_, n, o, r⟩ := hR.blk b x hx
        exact ⟨x, n, o, hx, r⟩
      have hτ : RnOK ρ (σ.ren ρ) σ := ren_rnOK ρ σ
      have RH : Rel w0 base H'.nx.num (σ.ren ρ) ⟨memT Hs, nx⟩ w := by
        refine ⟨hR.below, fun c y hy => ?_, fun c c' y y' n hy hy' hn hn' => ?_, fun c h3 h4 => ?_, hR.bs⟩
        · have hin := memT_mem hy
          obtain ⟨b, x, hcb, hx, hyx⟩ := hb c y hin
          obtain ⟨_, n, o, hn, hbn, ho, hbr⟩ := hR.blk b x hx
          exact ⟨(hkeep c y hin).2, n, o, by rw [(hτ c b hcb).1]; exact hn, hbn, ho, (renAB_ok hτ hcb hyx).2 hbr⟩
        · obtain ⟨b, x, hcb, hx, _⟩ := hb c y (memT_mem hy)
          obtain ⟨b', x', hcb', hx', _⟩ := hb c' y' (memT_mem hy')
          rw [(hτ c b hcb).1] at hn
          rw [(hτ c' b' hcb').1] at hn'
          have := hR.inj b b' x x' n hx hx' hn hn'
          subst this
          exact i2 c c' b hcb hcb'
        · cases hl : lkp ρ c with
          | none => simp [Sub.ren, hl]
          | some b =>
            obtain ⟨y, hy⟩ := i1 c b hl
            have := (hkeep c y (memT_mem hy)).2
            have h3' : nx.num ≤ c.num := h3
            omega
      have hargs : VRs (σ.ren ρ) as av.toList := (renAVs_ok hτ as args _ h1).2 hav
      obtain ⟨hfn, run⟩ := hcall.2 w0 base H'.nx.num (σ.ren ρ) w av hro RH hargs (Nat.le_refl _)
      refine ⟨hfn, fun cs hcs => ?_⟩
      obtain ⟨σ2, w', x, fr, hs, hmd, hd, hk, hf, hres, hv, he⟩ := run cs hcs
      have hσ2 : RnOK ρ σ2 σ := fun c b hcb => by
        obtain ⟨x, n, o, hx, hn, _⟩ := kn c b hcb
        have h3 := he.le.1 c n (by rw [(hτ c b hcb).1]; exact hn)
        rw [h3.1, h3.2, hn, (hτ c b hcb).2]
        exact ⟨rfl, rfl⟩
      have hfr : ∀ n, n < w.heap.size → (∀ c b, lkp ρ c = some b → σ.blk b ≠ some n) → w'.heap[n]? = w.heap[n]? := fun n hn hno => he.fr n hn fun c y hy => by
        obtain ⟨b, x, hcb, hx, _⟩ := hb c y (memT_mem hy)
        rw [(hτ c b hcb).1]
        exact hno c b hcb
      refine ⟨σ, w', x, fr, hs, hmd, hd, hk, hf, hres, plainAV_any r x hr hv, ⟨Sub.le_refl σ, fun _ _ => rfl, Nat.le_refl _, ⟨he.rel.below, fun b z hz => ?_, hR.inj, hR.undef, he.rel.bs⟩, he.hs, fun n hn hno => ?_, fun b z n hz hn => .inl ⟨b, z, hz, hn⟩⟩⟩
      · obtain ⟨hlt, n, o, hn, hbn, ho, hbr⟩ := hR.blk b z hz
        refine ⟨hlt, n, ?_⟩
        by_cases hex : ∃ c, lkp ρ c = some b
        · obtain ⟨c, hcb⟩ := hex
          obtain ⟨y, hy⟩ := i1 c b hcb
          have hin := memT_mem hy
          obtain ⟨b', x', hcb', hx', hyx⟩ := hb c y hin
          rw [hcb] at hcb'; cases hcb'
          rw [hz] at hx'; cases hx'
          obtain ⟨_, n', o', hn', _, ho', hbr'⟩ := he.rel.blk c y (hkeep c y hin).1
          rw [(hσ2 c b hcb).1, hn] at hn'
          cases hn'
          exact ⟨o', hn, hbn, ho', (renAB_ok hσ2 hcb hyx).1 hbr'⟩
        · refine ⟨o, hn, hbn, ?_, hbr⟩
          rw [hfr n (lt_of_heap ho) (fun c b' hcb' hn' => ?_)]
          · exact ho
          · obtain ⟨x', n', o', hx', _⟩ := kn c b' hcb'
            have := hR.inj b' b x' z n hx' hz hn' hn
            subst this
            exact hex ⟨c, hcb'⟩
      · refine hfr n hn fun c b hcb => ?_
        obtain ⟨x', n', o', hx', _⟩ := kn c b hcb
        exact hno b x' hx'
    · cases hm
  · cases hm

end memo
end Go.Ev

/-! A call that was evaluated once is a contract: what the kernel is asked; contracts side by side. -/
namespace Go.Ev
open Go Go.RowKit

noncomputable def eqEs : List (AV × AV × Nat) → List (AV × AV × Nat) → Bool
  | [], [] => true
  | a :: l, b :: m => eqAV a.1 b.1 && (eqAV a.2.1 b.2.1 && (Nat.beq a.2.2 b.2.2 && eqEs l m))
  | _, _ => false
theorem eqEs_ok : ∀ {l m : List (AV × AV × Nat)}, eqEs l m = true → l = m
  | [], [], _ => rfl
  | [], _ :: _, h => by cases h
  | _ :: _, [], h => by cases h
  | (a1, a2, a3) :: l, (b1, b2, b3) :: m, h => by
    simp only [eqEs, Bool.and_eq_true] at h
    obtain ⟨h1, h2, h3, h4⟩ := h
    rw [eqAV_ok _ _ h1, eqAV_ok _ _ h2, eqEs_ok h4, show a3 = b3 from Nat.eq_of_beq_eq_true h3]
/-- the same block, of cells or a map -/
noncomputable def eqAB : AB → AB → Bool
  | .cells c, .cells d => Nat.beq c.el d.el && (Nat.beq c.es d.es && (br c.op d.op (br d.op false true) && (eqFz c.fz d.fz && eqAVs c.cs d.cs)))
  | .map es n, .map es' n' => Nat.beq n n' && eqEs es es'
  | _, _ => false
theorem eqAB_ok {x y : AB} (h : eqAB x y = true) : x = y := by
  cases x with
  | cells c =>
    cases y with
    | cells d =>
      obtain ⟨e1, e2, e3, e4, e5⟩ := c
      obtain ⟨d1, d2, d3, d4, d5⟩ := d
      simp only [eqAB, Bool.and_eq_true] at h
      obtain ⟨h1, h2, h3, h4, h5⟩ := h
      have i1 : e1 = d1 := Nat.eq_of_beq_eq_true h1
      have i2 : e2 = d2 := Nat.eq_of_beq_eq_true h2
      have i3 : e3 = d3 := by revert h3; cases e3 <;> cases d3 <;> simp [br]
      rw [i1, i2, i3, eqFz_ok h4, eqAVs_ok _ _ h5]
    | _ => simp [eqAB] at h
  | map es n =>
    cases y with
    | map es' n' =>
      simp only [eqAB, Bool.and_eq_true] at h
      rw [Nat.eq_of_beq_eq_true h.1, eqEs_ok h.2]
    | _ => simp [eqAB] at h
  | _ => cases y <;> simp [eqAB] at h
noncomputable def keepB (H' : AG) (nx : Pth) : List (Pth × AB) → Bool
  | [] => true
  | q :: l => br (Go.Ev.om (H'.get q.1) false fun x => eqAB x q.2) (br (Nat.ble (Nat.succ q.1.num) nx.num) (keepB H' nx l) false) false
theorem keepB_ok {H' : AG} {nx : Pth} : ∀ {Hs : List (Pth × AB)}, keepB H' nx Hs = true → ∀ c y, (c, y) ∈ Hs → H'.get c = some y ∧ c.num < nx.num
  | [], _, c, y, h => by cases h
  | q :: l, h, c, y, hm => by
    rw [keepB, br_eq, br_eq] at h
    split at h
    · rename_i h1
      split at h
      · rename_i h2
        rcases List.mem_cons.1 hm with rfl | hm
        · obtain ⟨x, hx, h3⟩ := om_inv h1 nofun
          rw [eqAB_ok h3] at hx
          exact ⟨hx, Nat.le_of_ble_eq_true h2⟩
        · exact keepB_ok h c y hm
      · cases h
    · cases h

/-- the kernel is asked: the call over these blocks gives r, and they stay -/
noncomputable def memoB (call : CallF) (f : FuncId) (as : List AV) (Hs : List (Pth × AB)) (nx : Pth) (r : AV) : Bool :=
  match call (.fn f) as ⟨memT Hs, nx⟩ false with
  | .ok v H' => br (eqAV v r) (br (plainAV r) (keepB H' nx Hs) false) false
  | .no _ => false
/-- the contract -/
noncomputable def memoK (as : List AV) (Hs : List (Pth × AB)) (r : AV) (no : Rf) (args : List AV) (G : AG) : Rf := br (memM as Hs args G) (.ok r G) no

section
variable {P : Program} {ro : Nat → Option CB} {call : CallF}
theorem memoB_ok (hc : CallsOK P ro call) {f : FuncId} {as : List AV} {Hs : List (Pth × AB)} {nx : Pth} {r : AV} (h : memoB call f as Hs nx r = true) {args : List AV} {G : AG} (hm : memM as Hs args G = true) : CallOK P ro (.fn f) args G false r G := by
  unfold memoB at h
  split at h
  · rename_i v H' hv
    rw [br_eq, br_eq] at h
    split at h
    · rename_i h1
      split at h
      · rename_i h2
        have e := eqAV_ok _ _ h1
        subst e
        exact memo_ok (hc _ _ _ _ _ _ hv) h2 (keepB_ok h) hm
      · cases h
    · cases h
  · cases h
/-- a contract of one function -/
def CtrOne (P : Program) (ro : Nat → Option CB) (f : FuncId) (k : List AV → AG → Rf) : Prop := ∀ args G v G', k args G = .ok v G' → CallOK P ro (.fn f) args G false v G'
theorem memoK_ok (hc : CallsOK P ro call) {f : FuncId} {as : List AV} {Hs : List (Pth × AB)} {nx : Pth} {r : AV} (h : memoB call f as Hs nx r = true) {k : List AV → AG → Rf} (hk : CtrOne P ro f k) : CtrOne P ro f (fun args G => memoK as Hs r (k args G) args G) := by
  intro args G v G' hv
  simp only [memoK] at hv
  rw [br_eq] at hv
  split at hv
  · rename_i hm
    cases hv
    exact memoB_ok hc h hm
  · exact hk args G v G' hv
theorem ctrNo {f : FuncId} {c : Nat} : CtrOne P ro f (fun _ _ => .no c) := fun _ _ _ _ h => by cases h
/-- contracts side by side -/
noncomputable def ctrL (l : List (FuncId × (List AV → AG → Rf))) (f : FuncId) : Option (List AV → AG → Rf) := List.rec none (fun q _ ih => br (Nat.beq q.1 f) (some q.2) ih) l
theorem ctrL_ok : ∀ {l : List (FuncId × (List AV → AG → Rf))}, (∀ q ∈ l, CtrOne P ro q.1 q.2) → CtrOK P ro (ctrL l)
  | [], _ => fun f k h => by cases h
  | q :: l, hl => fun f k h => by
    have e : ctrL (q :: l) f = br (Nat.beq q.1 f) (some q.2) (ctrL l f) := rfl
    rw [e, br_eq] at h
    split at h
    · rename_i hf
      cases h
      have : q.1 = f := Nat.eq_of_beq_eq_true hf
      subst this
      exact hl q (by simp)
    · exact ctrL_ok (fun q' hq' => hl q' (by simp [hq'])) f k h
end
end Go.Ev

/-! Contracts that were proved by a walk, made contracts of the evaluator. -/
namespace Go.Ev
open Go Go.RowKit

section
variable {w0 : World} {base U : Nat} {σ : Sub} {G : AG} {w w' : World}
theorem Rel.noLate (h : Rel w0 base U σ G w) : ∀ b y, G.get b = some y → ∀ n, σ.blk b = some n → n < w.heap.size := fun b y hb n hn => by
  obtain ⟨_, m, o, hm, _, ho, _⟩ := h.blk b y hb
  rw [hn] at hm; cases hm
  exact lt_of_heap ho
/-- nothing that was there has turned -/
theorem Ext.ofBelow (h : Rel w0 base U σ G w) (hb : Below w.heap.size w w') : Ext w0 base U σ G w σ G w' := by
  refine ⟨Sub.le_refl σ, fun _ _ => rfl, Nat.le_refl _, ⟨h.below.trans (hb.mono h.bs), fun b x hx => ?_, h.inj, h.undef, Nat.le_trans h.bs hb.size⟩, hb.size, fun n hn _ => hb.block n hn, fun b x n hx hn => .inl ⟨b, x, hx, hn⟩⟩
  obtain ⟨h1, n, o, hn, hbn, ho, hbr⟩ := h.blk b x hx
  exact ⟨h1, n, o, hn, hbn, by rw [hb.block n (lt_of_heap ho)]; exact ho, hbr⟩
/-- .. and one new block is spoken of -/
theorem Ext.ofBelowNew (h : Rel w0 base U σ G w) (hb : Below w.heap.size w w') {x : AB} {g c : Nat} {o : Obj} (hU : G.nx.num < U) (hg : w.heap.size ≤ g) (ho : w'.heap[g]? = some o) (hx : BR (σ.upd G.nx g c) G.nx x o) :
    Ext w0 base U σ G w (σ.upd G.nx g c) (G.new x) w' := by
  have hfree : ∀ b y, G.get b = some y → σ.blk b ≠ some g := fun b y hy e => by
    have := h.noLate b y hy g e
    omega
  obtain ⟨hr, hle⟩ := h.newAt (w' := w') (n := g) (c := c) (x := x) (o := o) hU (h.below.trans (hb.mono h.bs)) hb.size (Nat.le_trans h.bs hg) ho hfree (fun m _ hlt => hb.block m hlt) hx
  have hsn : (G.new x).nx.num = G.nx.num + 1 := Pth.num_suc _
  refine ⟨hle, fun j hj => ?_, by rw [hsn]; exact Nat.le_succ _, hr, hb.size, fun m hm _ => hb.block m hm, fun j y m hj hm => ?_⟩
  · rw [hsn] at hj
    exact Sub.upd_ne _ _ _ (fun e => by subst e; omega)
  · have hget : ∀ j, (G.new x).get j = if j = G.nx then some x else G.get j := AG.get_new x
    by_cases e : j = G.nx
    · subst e
      rw [Sub.upd_at] at hm
      cases hm
      exact .inr hg
    · rw [Sub.upd_ne _ _ _ e] at hm
      rw [hget, if_neg e] at hj
      exact .inl ⟨j, y, hj, hm⟩
end

section
variable {P : Program} {ro : Nat → Option CB}
/-- a contract on 'Calls' is a contract of the evaluator -/
theorem CallOK.ofCalls {f : FuncId} {args : List AV} {G : AG} {v : AV} {G' : AG} (hnx : G.nx.num ≤ G'.nx.num) (hfn : ∃ fn, P.funcs[f]? = some fn ∧ fn.body.isSome = true)
    (h : ∀ (w0 : World) (base U : Nat) (σ : Sub) (w : World) (as : Array Value), RoOK ro w0 base → Rel w0 base U σ G w → VRs σ args as.toList → G'.nx.num ≤ U →
      Calls P f as w fun e w' => ∃ x σ', e = .returned x ∧ VR σ' v x ∧ Ext w0 base U σ G w σ' G' w') : CallOK P ro (.fn f) args G false v G' := by
  refine ⟨hnx, fun w0 base U σ w as hro hr ha hU => ⟨hfn, fun cs _ => ?_⟩⟩
  obtain ⟨e, w', fr, ⟨x, σ', rfl, hv, he⟩, hc, hf, hl⟩ := h w0 base U σ w as hro hr ha hU cs
  obtain ⟨h1, h2, h3, h4⟩ := hl
  rw [hf] at h4
  exact ⟨σ', w', x, fr, hc, h1, h2, h3, hf, h4, hv, he⟩
/-- a closed call, found by the evaluator to return a plain value -/
theorem calls_plain {call : CallF} (hc : CallsOK P ro call) {f : FuncId} {G' : AG} {v : AV} (h : call (.fn f) [] G0 false = .ok v G') (w : World) (hro : RoOK ro w w.heap.size) :
    Calls P f #[] w fun e w' => ∃ x σ, e = .returned x ∧ VR σ v x ∧ Below w.heap.size w w' := by
  obtain ⟨_, ok⟩ := hc _ _ _ _ _ _ h
  obtain ⟨_, run⟩ := ok w w.heap.size G'.nx.num _ w #[] hro (Rel.start (Nat.le_refl _) _) VRs.nil (Nat.le_refl _)
  intro cs
  obtain ⟨σ', w', x, fr, hs, hm, hd, hk, hf, hres, hv, he⟩ := run cs nofun
  refine ⟨.returned x, w', fr, ⟨x, σ', rfl, hv, he.rel.below⟩, hs, hf, hm, hd, hk, ?_⟩
  rw [hf]; exact hres
theorem calls_args {call : CallF} (hc : CallsOK P ro call) {f : FuncId} {args : List AV} {G' : AG} {v : AV} (h : call (.fn f) args G0 false = .ok v G') (w : World) (hro : RoOK ro w w.heap.size) {av : Array Value} (ha : ∀ σ, VRs σ args av.toList) :
    Calls P f av w fun e w' => ∃ x σ, e = .returned x ∧ VR σ v x ∧ Below w.heap.size w w' := by
  obtain ⟨_, ok⟩ := hc _ _ _ _ _ _ h
  obtain ⟨_, run⟩ := ok w w.heap.size G'.nx.num _ w av hro (Rel.start (Nat.le_refl _) _) (ha _) (Nat.le_refl _)
  intro cs
  obtain ⟨σ', w', x, fr, hs, hm, hd, hk, hf, hres, hv, he⟩ := run cs nofun
  refine ⟨.returned x, w', fr, ⟨x, σ', rfl, hv, he.rel.below⟩, hs, hf, hm, hd, hk, ?_⟩
  rw [hf]; exact hres
end
end Go.Ev

