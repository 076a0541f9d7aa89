/- Soundness of the evaluator's operations, part one: operands, types, numbers. -/
import Derived.Test.YtnipnoffofoedaaGreatDoorEvA
import Derived.Laws.Strings
import Derived.Laws.StructEq
import Derived.ChangeKeysEq
import Derived.Laws.Entries
namespace Go.Ev
open Go Go.RowKit

/-! ### What a result says -/
section inv
variable {R α : Type} {r no : R}
theorem om_inv {x : Option α} {f : α → R} (h : om x no f = r) (hne : no ≠ r) : ∃ a, x = some a ∧ f a = r := by
  rw [om_eq] at h
  cases x with
  | none => exact absurd h hne
  | some a => exact ⟨a, rfl, h⟩
theorem br_inv {c : Bool} {t : R} (h : br c t no = r) (hne : no ≠ r) : c = true ∧ t = r := by
  cases c with
  | false => exact absurd h hne
  | true => exact ⟨rfl, h⟩
theorem br_inv' {c : Bool} {e : R} (h : br c no e = r) (hne : no ≠ r) : c = false ∧ e = r := by
  cases c with
  | true => exact absurd h hne
  | false => exact ⟨rfl, h⟩
end inv

/-- what an operand is -/
def OpdR (T : Tr AV) : Operand → AV → Prop
  | .tmp t, a => a = (getP (pathOf t) T).getD undefA
  | .const v, a => ofV v = some a
  | .global g, a => a = .gptr g 0
  | .func f, a => a = .func f [] []
def OpdsR (T : Tr AV) : List Operand → List AV → Prop
  | [], l => l = []
  | x :: xs, l => ∃ a as, l = a :: as ∧ OpdR T x a ∧ OpdsR T xs as

def OptOR (T : Tr AV) : Option Operand → Option AV → Prop
  | none, none => True
  | some x, some a => OpdR T x a
  | _, _ => False
section inv
variable {R : Type} {r no : R} {T : Tr AV}
theorem opd_inv {x : Operand} {K : AV → R} (h : opd T x no K = r) (hne : no ≠ r) : ∃ a, OpdR T x a ∧ K a = r := by
  cases x with
  | tmp t =>
    unfold opd at h
    simp only [om_eq] at h
    cases e : getP (pathOf t) T with
    | none => rw [e] at h; exact ⟨undefA, by simp [OpdR, e], h⟩
    | some a => rw [e] at h; exact ⟨a, by simp [OpdR, e], h⟩
  | const v => obtain ⟨a, ha, hk⟩ := om_inv h hne; exact ⟨a, ha, hk⟩
  | global g => exact ⟨_, rfl, h⟩
  | func f => exact ⟨_, rfl, h⟩
theorem opds_inv : ∀ {l : List Operand} {K : List AV → R}, opds T l no K = r → no ≠ r → ∃ as, OpdsR T l as ∧ K as = r
  | [], K, h, _ => ⟨[], rfl, h⟩
  | x :: xs, K, h, hne => by
    have h' : opd T x no (fun a => opds T xs no fun as => K (a :: as)) = r := h
    obtain ⟨a, ha, h1⟩ := opd_inv h' hne
    obtain ⟨as, has, h2⟩ := opds_inv h1 hne
    exact ⟨a :: as, ⟨a, as, rfl, ha, has⟩, h2⟩
theorem opt_inv {x : Option Operand} {K : Option AV → R} (h : opt T x no K = r) (hne : no ≠ r) :
    ∃ a, OptOR T x a ∧ K a = r := by
  unfold opt at h
  rw [om_eq] at h
  cases x with
  | none => exact ⟨none, trivial, h⟩
  | some x => obtain ⟨a, ha, h1⟩ := opd_inv h hne; exact ⟨some a, ha, h1⟩
theorem asI_inv {v : AV} {K : IntKind → Int → R} (h : asI v no K = r) (hne : no ≠ r) : ∃ k n, v = .int k n ∧ K k n = r := by
  cases v <;> first | exact absurd h hne | exact ⟨_, _, rfl, h⟩
theorem asN_inv {v : AV} {K : Nat → R} (h : asN v no K = r) (hne : no ≠ r) : ∃ k n, v = .int k (Int.ofNat n) ∧ K n = r := by
  cases v with
  | int k n =>
    cases n with
    | ofNat a => exact ⟨k, a, rfl, h⟩
    | negSucc a => exact absurd h hne
  | _ => exact absurd h hne
theorem asB_inv {v : AV} {K : Bool → R} (h : asB v no K = r) (hne : no ≠ r) : ∃ b, v = .bool b ∧ K b = r := by
  cases v <;> first | exact absurd h hne | exact ⟨_, rfl, h⟩
theorem asL_inv {v : AV} {K : List AV → R} (h : asL v no K = r) (hne : no ≠ r) : ∃ l, v = .agg l ∧ K l = r := by
  cases v <;> first | exact absurd h hne | exact ⟨_, rfl, h⟩
theorem natOf_inv {n : Int} {K : Nat → R} (h : natOf n no K = r) (hne : no ≠ r) : ∃ m : Nat, n = Int.ofNat m ∧ K m = r := by
  cases n with
  | ofNat a => exact ⟨a, rfl, h⟩
  | negSucc a => exact absurd h hne
end inv

theorem ofV_ok {σ : Sub} : ∀ {v : Value} {a : AV}, ofV v = some a → VR σ a v := by
  intro v a h
  unfold ofV at h
  split at h <;> first | (cases h; done) | (cases h; simp only [VR]; done) | skip
  · cases h; simp only [VR]; exact ⟨[], [], VRs.nil, VRs.nil, rfl⟩
  · cases h; simp only [VR]; exact ⟨[], VRs.nil, rfl⟩
theorem ofVs_ok {σ : Sub} : ∀ {l : List Value} {as : List AV}, ofVs l = some as → VRs σ as l
  | [], as, h => by cases h; exact VRs.nil
  | v :: vs, as, h => by
    have h' : om (ofV v) none (fun a => br (isOne a) (om (ofVs vs) none fun as => some (a :: as)) none) = some as := h
    obtain ⟨a, ha, h1⟩ := om_inv h' nofun
    obtain ⟨_, h1⟩ := br_inv h1 nofun
    obtain ⟨bs, hb, h2⟩ := om_inv h1 nofun
    cases h2
    exact VRs.cons (ofV_ok ha) (ofVs_ok hb)
theorem isOne_ok {σ : Sub} {a : AV} {v : Value} (h : isOne a = true) (hv : VR σ a v) : v.oneCell' = true := by
  cases a <;> first | (cases h; done) | skip
  all_goals simp only [VR] at hv
  case ptr => obtain ⟨_, _, rfl⟩ := hv; rfl
  case sl => obtain ⟨_, _, _, _, _, rfl⟩ := hv; rfl
  case emp => obtain ⟨_, _, rfl⟩ := hv; rfl
  case iface => obtain ⟨_, _, rfl⟩ := hv; rfl
  case func => obtain ⟨_, _, _, _, rfl⟩ := hv; rfl
  case yield => obtain ⟨_, _, rfl⟩ := hv; rfl
  case map => obtain ⟨_, _, rfl⟩ := hv; rfl
  case sym => exact hv.2
  all_goals (subst hv; rfl)
theorem ofVs_one : ∀ {l : List Value} {as : List AV}, ofVs l = some as → ∀ v ∈ l, v.oneCell' = true
  | [], _, _, v, hv => by cases hv
  | u :: vs, as, h, v, hv => by
    have h' : om (ofV u) none (fun a => br (isOne a) (om (ofVs vs) none fun as => some (a :: as)) none) = some as := h
    obtain ⟨a, ha, h1⟩ := om_inv h' nofun
    obtain ⟨h0, h1⟩ := br_inv h1 nofun
    obtain ⟨bs, hb, h2⟩ := om_inv h1 nofun
    rcases List.mem_cons.1 hv with rfl | hv
    · exact isOne_ok (σ := ⟨fun _ => none, fun _ => 0, fun _ => none⟩) h0 (ofV_ok ha)
    · exact ofVs_one hb v hv
theorem VR_undef (σ : Sub) : VR σ undefA undef := by simp only [undefA, VR]; exact ⟨[], VRs.nil, rfl⟩
theorem OpdR.ok {σ : Sub} {T : Tr AV} {N : Nat} {act : Act} (h : TR σ T N act.tmps) {x : Operand} {a : AV} (ha : OpdR T x a) : VR σ a (act.eval x) := by
  cases x with
  | tmp t => simp only [OpdR] at ha; subst ha; exact h.2 t
  | const v => exact ofV_ok ha
  | global g => simp only [OpdR] at ha; subst ha; simp only [VR, Act.eval]
  | func f => simp only [OpdR] at ha; subst ha; simp only [VR, Act.eval]; exact ⟨[], [], VRs.nil, VRs.nil, rfl⟩

/-! ### Types -/
structure TIok (P : Program) (t : TypeId) (ti : TI) (d : TypeDesc) (i : TypeInfo) (z : Value) : Prop where
  und : P.underlying t = some d
  info : P.info? t = some i
  zero : i.zero = some z
  zs : ofVs z.cells.toList = some ti.zero
  k : ti.k = mkTK P d
  size : ti.size = i.size
  bytes : ti.bytes = i.bytes
  agg : ti.agg = (mkTK P d).isAgg
  zagg : isAggV z = ti.agg
theorem mkTI_ok {P : Program} {t : TypeId} {ti : TI} (h : mkTI P t = some ti) : ∃ d i z, TIok P t ti d i z := by
  unfold mkTI at h
  obtain ⟨d, hd, h⟩ := om_inv h nofun
  obtain ⟨i, hi, h⟩ := om_inv h nofun
  obtain ⟨z, hz, h⟩ := om_inv h nofun
  obtain ⟨zs, hzs, h⟩ := om_inv h nofun
  obtain ⟨hzg, h⟩ := br_inv h nofun
  cases h
  refine ⟨d, i, z, hd, hi, hz, hzs, rfl, rfl, rfl, rfl, ?_⟩
  rw [br_eq, br_eq] at hzg
  show isAggV z = (mkTK P d).isAgg
  cases e1 : isAggV z <;> cases e2 : (mkTK P d).isAgg <;> rw [e1, e2] at hzg <;> simp_all
section ty
variable {P : Program} {t : TypeId} {ti : TI} {d : TypeDesc} {i : TypeInfo} {z : Value} (h : TIok P t ti d i z) (w : World)
include h
theorem TIok.run_und : (underlying t).run P w = .ok d w := by simp [underlying, h.und]
theorem TIok.run_info : (typeInfo t).run P w = .ok i w := by simp [typeInfo, h.info]
theorem TIok.run_size : (sizeOf t).run P w = .ok ti.size w := by simp [sizeOf, h.run_info, h.size]
theorem TIok.run_zero : (zeroValue t).run P w = .ok z w := by simp [zeroValue, h.run_info, h.zero]
theorem TIok.run_agg : (isAgg t).run P w = .ok ti.agg w := by
  rw [h.agg]
  unfold Go.isAgg
  simp only [Sem.run_bind, h.run_und, Result.andThen_ok]
  cases d <;> rfl
end ty
theorem mkTK_slice {P : Program} {d : TypeDesc} {e : TypeId} (h : mkTK P d = .slice e) : d = .slice e := by cases d <;> simp [mkTK] at h; subst h; rfl
theorem mkTK_arr {P : Program} {d : TypeDesc} {n : Nat} {e : TypeId} (h : mkTK P d = .arr n e) : d = .array n e := by cases d <;> simp [mkTK] at h; obtain ⟨rfl, rfl⟩ := h; rfl
theorem mkTK_map {P : Program} {d : TypeDesc} {n : TypeId} {e : TypeId} (h : mkTK P d = .map n e) : d = .map n e := by cases d <;> simp [mkTK] at h; obtain ⟨rfl, rfl⟩ := h; rfl
theorem mkTK_ptr {P : Program} {d : TypeDesc} {e : TypeId} (h : mkTK P d = .ptr e) : d = .pointer e := by cases d <;> simp [mkTK] at h; subst h; rfl
theorem mkTK_int {P : Program} {d : TypeDesc} {k : IntKind} (h : mkTK P d = .int k) : d = .int k := by cases d <;> simp [mkTK] at h; subst h; rfl
theorem mkTK_bool {P : Program} {d : TypeDesc} (h : mkTK P d = .bool) : d = .bool := by cases d <;> simp [mkTK] at h; rfl
theorem mkTK_str {P : Program} {d : TypeDesc} (h : mkTK P d = .str) : d = .string := by cases d <;> simp [mkTK] at h; rfl
theorem mkTK_func {P : Program} {d : TypeDesc} (h : mkTK P d = .func) : ∃ a b c, d = .func a b c := by cases d <;> simp [mkTK] at h; exact ⟨_, _, _, rfl⟩
theorem mkTK_iface {P : Program} {d : TypeDesc} (h : mkTK P d = .iface) : ∃ m, d = .interface m := by cases d <;> simp [mkTK] at h; exact ⟨_, rfl⟩
theorem mkTK_struct {P : Program} {d : TypeDesc} {fs : List FI} (h : mkTK P d = .struct fs) :
    ∃ f : Array Field, d = .struct f ∧ fs = f.toList.map fun f => ⟨f.offset, f.type, P.cellsOf f.type, f.name == "_"⟩ := by
  cases d <;> simp [mkTK] at h
  exact ⟨_, rfl, h.symm⟩

/-! ### What an operation gives -/
def RoOK (ro : Nat → Option CB) (w0 : World) (base : Nat) : Prop :=
  base ≤ w0.heap.size ∧ ∀ g c, ro g = some c → g < base ∧ ∃ vs ex f, w0.heap[g]? = some (.cells (vs ++ ex).toArray c.el f) ∧ (∀ σ, VRs σ c.cs vs) ∧ (∀ x ∈ vs, x.oneCell' = true)
def Yields (r : Result Next) (x : Value) (w' : World) : Prop := r = .ok (.value x) w' ∨ (r = .ok .skip w' ∧ x = undef)
def OpOK (P : Program) (ro : Nat → Option CB) (T : Tr AV) (G : AG) (o : Oper) (v : AV) (G' : AG) : Prop :=
  G.nx.num ≤ G'.nx.num ∧ ∀ (w0 : World) (base U : Nat) (σ : Sub) (w : World) (ρ : Operand → Value), RoOK ro w0 base → Rel w0 base U σ G w → (∀ x a, OpdR T x a → VR σ a (ρ x)) → G'.nx.num ≤ U →
    ∃ σ' w' x, Yields ((execOp ρ o).run P w) x w' ∧ VR σ' v x ∧ Ext w0 base U σ G w σ' G' w'

section ok
variable {P : Program} {ro : Nat → Option CB} {T : Tr AV} {G G' : AG} {v : AV}
/-- an operation that turns nothing -/
theorem OpOK.pure {o : Oper} (h : ∀ (w0 : World) (base U : Nat) (σ : Sub) (w : World) (ρ : Operand → Value), RoOK ro w0 base → Rel w0 base U σ G w → (∀ x a, OpdR T x a → VR σ a (ρ x)) →
    ∃ x, (execOp ρ o).run P w = .ok (.value x) w ∧ VR σ v x) : OpOK P ro T G o v G :=
  ⟨Nat.le_refl _, fun w0 base U σ w ρ hro hr hρ _ => by
    obtain ⟨x, h1, h2⟩ := h w0 base U σ w ρ hro hr hρ
    exact ⟨σ, w, x, .inl h1, h2, Ext.refl hr⟩⟩

theorem aMove_ok {d : Option Nat} {t : TypeId} {pos : String} {af : Array Edge} {g : Option (Nat × Bool)} {x : Operand} (h : aMove x P ro T G = .ok v G') : OpOK P ro T G ⟨d, .move x, t, pos, af, g⟩ v G' ∧ OpOK P ro T G ⟨d, .assign x, t, pos, af, g⟩ v G' := by
  obtain ⟨a, ha, h⟩ := opd_inv h nofun
  cases h
  exact ⟨.pure fun w0 base U σ w ρ _ _ hρ => ⟨ρ x, rfl, hρ x v ha⟩, .pure fun w0 base U σ w ρ _ _ hρ => ⟨ρ x, rfl, hρ x v ha⟩⟩
theorem aPick_ok {d : Option Nat} {t : TypeId} {pos : String} {af : Array Edge} {g : Option (Nat × Bool)} {c x y : Operand} (h : aPick c x y P ro T G = .ok v G') : OpOK P ro T G ⟨d, .pick c x y, t, pos, af, g⟩ v G' := by
  obtain ⟨a, ha, h⟩ := opd_inv h nofun
  obtain ⟨b, rfl, h⟩ := asB_inv h nofun
  cases b with
  | true =>
    obtain ⟨a', ha', h⟩ := opd_inv (show opd T x (.no 2) (fun a => Ro.ok a G) = .ok v G' from h) nofun
    cases h
    refine .pure fun w0 base U σ w ρ _ _ hρ => ⟨ρ x, ?_, hρ x v ha'⟩
    have := hρ c _ ha
    simp only [VR] at this
    simp [execOp, this, asBool]
  | false =>
    obtain ⟨a', ha', h⟩ := opd_inv (show opd T y (.no 2) (fun a => Ro.ok a G) = .ok v G' from h) nofun
    cases h
    refine .pure fun w0 base U σ w ρ _ _ hρ => ⟨ρ y, ?_, hρ y v ha'⟩
    have := hρ c _ ha
    simp only [VR] at this
    simp [execOp, this, asBool]
end ok

/-! ### Numbers -/
theorem wrap_signed {k : IntKind} {B H : Int} (hb : (2 ^ k.bits : Int) = B) (hh : (2 ^ (k.bits - 1) : Int) = H) (hs : k.signed = true) (hB : B = 2 * H) {n : Int} (h1 : -H ≤ n) (h2 : n < H) : k.wrap n = n := by
  unfold IntKind.wrap
  simp only [hb, hh, hs, Bool.true_and, decide_eq_true_eq]
  by_cases h0 : 0 ≤ n
  · rw [Int.emod_eq_of_lt h0 (by omega), if_neg (by omega)]
  · have e : n % B = n + B := by
      have := Int.add_emod_right n B
      rw [← this]
      exact Int.emod_eq_of_lt (by omega) (by omega)
    rw [e, if_pos (by omega)]; omega
theorem wrap_unsigned {k : IntKind} {B : Int} (hb : (2 ^ k.bits : Int) = B) (hs : k.signed = false) {n : Int} (h1 : 0 ≤ n) (h2 : n < B) : k.wrap n = n := by
  unfold IntKind.wrap
  simp only [hb, hs, Bool.false_and, Bool.false_eq_true, if_false]
  exact Int.emod_eq_of_lt h1 h2
theorem inR_bounds {k : IntKind} {n : Int} (h : inR k n = true) : -(kMin k : Int) ≤ n ∧ n ≤ (kMax k : Int) := by
  cases n with
  | ofNat a =>
    have h1 : a ≤ kMax k := Nat.le_of_ble_eq_true h
    show -(kMin k : Int) ≤ (a : Int) ∧ (a : Int) ≤ _
    omega
  | negSucc a =>
    have h1 : a + 1 ≤ kMin k := Nat.le_of_ble_eq_true h
    rw [Int.negSucc_eq]
    omega
theorem inR_wrap {k : IntKind} {n : Int} (h : inR k n = true) : k.wrap n = n := by
  obtain ⟨h1, h2⟩ := inR_bounds h
  cases k <;> simp only [kMin, kMax] at h1 h2
  case i8 => exact wrap_signed (B := 256) (H := 128) (by decide) (by decide) rfl (by decide) (by omega) (by omega)
  case i16 => exact wrap_signed (B := 65536) (H := 32768) (by decide) (by decide) rfl (by decide) (by omega) (by omega)
  case i32 => exact wrap_signed (B := 4294967296) (H := 2147483648) (by decide) (by decide) rfl (by decide) (by omega) (by omega)
  case i64 => exact wrap_signed (B := 18446744073709551616) (H := 9223372036854775808) (by decide) (by decide) rfl (by decide) (by omega) (by omega)
  case u8 => exact wrap_unsigned (B := 256) (by decide) rfl (by omega) (by omega)
  case u16 => exact wrap_unsigned (B := 65536) (by decide) rfl (by omega) (by omega)
  case u32 => exact wrap_unsigned (B := 4294967296) (by decide) rfl (by omega) (by omega)
  case u64 => exact wrap_unsigned (B := 18446744073709551616) (by decide) rfl (by omega) (by omega)
theorem wrapK_eq {R : Type} (k : IntKind) (n : Int) (K : Int → R) : wrapK k n K = K (k.wrap n) := by
  unfold wrapK
  rw [fI_eq, br_eq, fI_eq]
  split
  · rw [inR_wrap ‹_›]
  · rfl
theorem beq_iff {a b : Nat} : Nat.beq a b = true ↔ a = b := ⟨Nat.eq_of_beq_eq_true, fun h => by subst h; exact Nat.beq_refl a⟩
theorem ble_iff {a b : Nat} : Nat.ble a b = true ↔ a ≤ b := ⟨Nat.le_of_ble_eq_true, Nat.ble_eq_true_of_le⟩
theorem iEq_iff (a b : Int) : iEq a b = decide (a = b) := by
  rw [Bool.eq_iff_iff]
  cases a with
  | ofNat x => cases b with
    | ofNat y => show Nat.beq x y = true ↔ _; rw [beq_iff]; simp only [decide_eq_true_eq, Int.ofNat_eq_natCast]; omega
    | negSucc y => simp [iEq]
  | negSucc x => cases b with
    | ofNat y => simp [iEq]
    | negSucc y => show Nat.beq y x = true ↔ _; rw [beq_iff]; simp; exact eq_comm
theorem iLt_iff (a b : Int) : iLt a b = decide (a < b) := by
  rw [Bool.eq_iff_iff]
  cases a with
  | ofNat x => cases b with
    | ofNat y => show Nat.ble (x + 1) y = true ↔ _; rw [ble_iff]; simp; omega
    | negSucc y => simp [iLt]; rw [Int.negSucc_eq]; omega
  | negSucc x => cases b with
    | ofNat y => simp [iLt]; rw [Int.negSucc_eq]; omega
    | negSucc y => show Nat.ble (y + 1) x = true ↔ _; rw [ble_iff]; simp [Int.negSucc_eq]; omega
theorem kEq_ok {a b : IntKind} (h : kEq a b = true) : a = b := by cases a <;> cases b <;> first | rfl | cases h
theorem kBits_eq (k : IntKind) : kBits k = k.bits := by cases k <;> rfl

theorem kMax_lt (k : IntKind) : kMax k < 2 ^ k.bits := by cases k <;> decide
theorem bits_nat {k : IntKind} (f : (n : Nat) → BitVec n → BitVec n → BitVec n) (g : Nat → Nat → Nat) (hf : ∀ x y : BitVec k.bits, (f k.bits x y).toNat = g x.toNat y.toNat) {a b : Nat} (ha : a ≤ kMax k) (hb : b ≤ kMax k)
    (hg : g a b ≤ kMax k) : k.wrap ((f k.bits (BitVec.ofInt k.bits a) (BitVec.ofInt k.bits b)).toNat : Int) = ((g a b : Nat) : Int) := by
  have e : ∀ n : Nat, n ≤ kMax k → (BitVec.ofInt k.bits (n : Int)).toNat = n := fun n hn => by
    have := kMax_lt k
    simp only [BitVec.toNat_ofInt]
    have : ((n : Int) % ((2 ^ k.bits : Nat) : Int)) = (n : Int) := Int.emod_eq_of_lt (by omega) (by omega)
    rw [this]; rfl
  rw [hf, e a ha, e b hb]
  exact inR_wrap (n := Int.ofNat (g a b)) (Nat.ble_eq_true_of_le hg)
theorem kMax_form (k : IntKind) : ∃ m, kMax k = 2 ^ m - 1 := by
  cases k <;> first | exact ⟨7, by decide⟩ | exact ⟨15, by decide⟩ | exact ⟨31, by decide⟩ | exact ⟨63, by decide⟩ | exact ⟨8, by decide⟩ | exact ⟨16, by decide⟩ | exact ⟨32, by decide⟩ | exact ⟨64, by decide⟩
theorem le_max_iff {k : IntKind} {m : Nat} (h : kMax k = 2 ^ m - 1) (n : Nat) : n ≤ kMax k ↔ n < 2 ^ m := by have := Nat.two_pow_pos m; omega

/-- integer operations -/
theorem intOp_ok {R : Type} {op : BinOp} {k : IntKind} {a b : Int} {no r : R} {K : AV → R} (hs : isShift op = false) (h : intOp op k a b no K = r) (hne : no ≠ r) :
    ∃ v, K v = r ∧ ∀ (P : Program) (t : TypeId) (w : World) (σ : Sub), ∃ x, (binOp op t (.int k a) (.int k b)).run P w = .ok x w ∧ VR σ v x := by
  have cmp : ∀ (c : Bool) (K : AV → R), fB c (fun r => K (.bool r)) = K (.bool c) := fun c K => fB_eq c _
  cases op <;> simp only [isShift] at hs <;> first | (cases hs; done) | skip
  case add => rw [show intOp .add k a b no K = wrapK k (Int.add a b) (fun n => K (.int k n)) from rfl, wrapK_eq] at h; exact ⟨_, h, fun P t w σ => ⟨_, by simp [binOp, Op.intArith]; rfl, by simp only [VR]; rfl⟩⟩
  case sub => rw [show intOp .sub k a b no K = wrapK k (Int.sub a b) (fun n => K (.int k n)) from rfl, wrapK_eq] at h; exact ⟨_, h, fun P t w σ => ⟨_, by simp [binOp, Op.intArith]; rfl, by simp only [VR]; rfl⟩⟩
  case mul => rw [show intOp .mul k a b no K = wrapK k (Int.mul a b) (fun n => K (.int k n)) from rfl, wrapK_eq] at h; exact ⟨_, h, fun P t w σ => ⟨_, by simp [binOp, Op.intArith]; rfl, by simp only [VR]; rfl⟩⟩
  case quo =>
    obtain ⟨h1, h⟩ := br_inv' (show br (iEq b 0) no (wrapK k (Int.tdiv a b) fun n => K (.int k n)) = r from h) hne
    rw [wrapK_eq] at h
    rw [iEq_iff] at h1
    exact ⟨_, h, fun P t w σ => ⟨_, by simp [binOp, Op.intDiv, of_decide_eq_false h1]; rfl, by simp only [VR]⟩⟩
  case rem =>
    obtain ⟨h1, h⟩ := br_inv' (show br (iEq b 0) no (fI (Int.tmod a b) fun n => K (.int k n)) = r from h) hne
    rw [fI_eq] at h
    rw [iEq_iff] at h1
    exact ⟨_, h, fun P t w σ => ⟨_, by simp [binOp, Op.intDiv, of_decide_eq_false h1]; rfl, by simp only [VR]⟩⟩
  case eql => rw [show intOp .eql k a b no K = fB (iEq a b) (fun r => K (.bool r)) from rfl, fB_eq, iEq_iff] at h; exact ⟨_, h, fun P t w σ => ⟨_, by simp [binOp, Op.intCmp]; rfl, by simp only [VR]; congr 1⟩⟩
  case neq => rw [show intOp .neq k a b no K = fB (br (iEq a b) false true) (fun r => K (.bool r)) from rfl, fB_eq, iEq_iff] at h; exact ⟨_, h, fun P t w σ => ⟨_, by simp [binOp, Op.intCmp]; rfl, by simp only [VR]; congr 1; rw [br_eq]; by_cases e : a = b <;> simp [e]⟩⟩
  case lss => rw [show intOp .lss k a b no K = fB (iLt a b) (fun r => K (.bool r)) from rfl, fB_eq, iLt_iff] at h; exact ⟨_, h, fun P t w σ => ⟨_, by simp [binOp, Op.intCmp]; rfl, by simp only [VR]⟩⟩
  case leq => rw [show intOp .leq k a b no K = fB (br (iLt b a) false true) (fun r => K (.bool r)) from rfl, fB_eq, iLt_iff] at h; exact ⟨_, h, fun P t w σ => ⟨_, by simp [binOp, Op.intCmp]; rfl, by simp only [VR]; congr 1; rw [br_eq]; by_cases e : b < a <;> simp [e] <;> (try omega)⟩⟩
  case gtr => rw [show intOp .gtr k a b no K = fB (iLt b a) (fun r => K (.bool r)) from rfl, fB_eq, iLt_iff] at h; exact ⟨_, h, fun P t w σ => ⟨_, by simp [binOp, Op.intCmp]; rfl, by simp only [VR]⟩⟩
  case geq => rw [show intOp .geq k a b no K = fB (br (iLt a b) false true) (fun r => K (.bool r)) from rfl, fB_eq, iLt_iff] at h; exact ⟨_, h, fun P t w σ => ⟨_, by simp [binOp, Op.intCmp]; rfl, by simp only [VR]; congr 1; rw [br_eq]; by_cases e : a < b <;> simp [e] <;> omega⟩⟩
  case andNot => exact absurd h hne
  all_goals
    obtain ⟨h1, h⟩ := br_inv (show br (inR k a) _ no = r from h) hne
    obtain ⟨h2, h⟩ := br_inv h hne
    obtain ⟨x, hx, h3⟩ := natOf_inv h hne
    obtain ⟨y, hy, h4⟩ := natOf_inv h3 hne
    clear h h3
    subst hx hy
    rw [fN_eq] at h4
    have h1' : x ≤ kMax k := Nat.le_of_ble_eq_true h1
    have h2' : y ≤ kMax k := Nat.le_of_ble_eq_true h2
    obtain ⟨m, hm⟩ := kMax_form k
    have hv : ∀ (σ : Sub) (n : Nat) (m : Int), m = (n : Int) → VR σ (.int k (Int.ofNat n)) (.int k m) := fun σ n m e => by simp only [VR]; rw [e]; rfl
  case and => exact ⟨_, h4, fun P t w σ => ⟨_, by rw [show binOp .and t (.int k (Int.ofNat x)) (.int k (Int.ofNat y)) = Op.intBits .and k (Int.ofNat x) (Int.ofNat y) from by simp [binOp]]; rfl, hv σ _ _ (bits_nat (fun n x y => x &&& y) Nat.land (fun x y => rfl) h1' h2' ((le_max_iff hm _).2 (Nat.and_lt_two_pow _ ((le_max_iff hm _).1 h2'))))⟩⟩
  case or => exact ⟨_, h4, fun P t w σ => ⟨_, by rw [show binOp .or t (.int k (Int.ofNat x)) (.int k (Int.ofNat y)) = Op.intBits .or k (Int.ofNat x) (Int.ofNat y) from by simp [binOp]]; rfl, hv σ _ _ (bits_nat (fun n x y => x ||| y) Nat.lor (fun x y => rfl) h1' h2' ((le_max_iff hm _).2 (Nat.or_lt_two_pow ((le_max_iff hm _).1 h1') ((le_max_iff hm _).1 h2'))))⟩⟩
  case xor => exact ⟨_, h4, fun P t w σ => ⟨_, by rw [show binOp .xor t (.int k (Int.ofNat x)) (.int k (Int.ofNat y)) = Op.intBits .xor k (Int.ofNat x) (Int.ofNat y) from by simp [binOp]]; rfl, hv σ _ _ (bits_nat (fun n x y => x ^^^ y) Nat.xor (fun x y => rfl) h1' h2' ((le_max_iff hm _).2 (Nat.xor_lt_two_pow ((le_max_iff hm _).1 h1') ((le_max_iff hm _).1 h2'))))⟩⟩
end Go.Ev

/-! Soundness of the evaluator's operations, part two: shifts, strings, parts, equality. -/
namespace Go.Ev
open Go Go.RowKit

theorem pow2_eq (k : IntKind) (y : Nat) : pow2 k y = 2 ^ min y k.bits := by
  unfold pow2
  rw [br_eq, kBits_eq]
  by_cases h : y ≤ k.bits
  · rw [if_pos (ble_iff.2 h), Nat.min_eq_left h]; rfl
  · rw [if_neg (fun e => h (ble_iff.1 e)), Nat.min_eq_right (by omega)]; rfl
theorem shift_ok {R : Type} {op : BinOp} {k k' : IntKind} {a b : Int} {no r : R} {K : AV → R} (hs : isShift op = true) (h : intOp op k a b no K = r) (hne : no ≠ r) :
    ∃ v, K v = r ∧ ∀ (P : Program) (t : TypeId) (w : World) (σ : Sub), ∃ x, (binOp op t (.int k a) (.int k' b)).run P w = .ok x w ∧ VR σ v x := by
  cases op <;> simp only [isShift] at hs <;> first | (cases hs; done) | skip
  case shl =>
    obtain ⟨y, hy, h1⟩ := natOf_inv (show natOf b no (fun y => wrapK k (Int.mul a (Int.ofNat (pow2 k y))) fun n => K (.int k n)) = r from h) hne
    subst hy
    rw [wrapK_eq] at h1
    refine ⟨_, h1, fun P t w σ => ⟨.int k (k.wrap (a * 2 ^ min y k.bits)), ?_, ?_⟩⟩
    · rw [show binOp .shl t (.int k a) (.int k' (Int.ofNat y)) = Op.shift .shl k a k' (Int.ofNat y) from rfl]
      unfold Op.shift
      rw [if_neg (by simp)]
      rfl
    · simp only [VR]
      congr 2
      rw [pow2_eq]
      show a * ((2 ^ min y k.bits : Nat) : Int) = _
      simp
  case shr =>
    obtain ⟨y, hy, h1⟩ := natOf_inv (show natOf b no (fun y => natOf a no fun x => fN (Nat.div x (pow2 k y)) fun z => K (.int k (Int.ofNat z))) = r from h) hne
    obtain ⟨x, hx, h2⟩ := natOf_inv h1 hne
    subst hy hx
    rw [fN_eq] at h2
    refine ⟨_, h2, fun P t w σ => ⟨.int k (Int.fdiv (Int.ofNat x) (2 ^ min y k.bits)), ?_, ?_⟩⟩
    · rw [show binOp .shr t (.int k (Int.ofNat x)) (.int k' (Int.ofNat y)) = Op.shift .shr k (Int.ofNat x) k' (Int.ofNat y) from rfl]
      unfold Op.shift
      rw [if_neg (by simp)]
      rfl
    · simp only [VR]
      congr 1
      rw [pow2_eq, Int.fdiv_eq_ediv_of_nonneg _ (Int.le_of_lt (Int.pow_pos (by decide)))]
      show _ = ((x / 2 ^ min y k.bits : Nat) : Int)
      simp

/-! ### Strings -/
theorem bEq_iff (a b : UInt8) : bEq a b = decide (a = b) := by
  rw [Bool.eq_iff_iff]
  show Nat.beq a.toNat b.toNat = true ↔ _
  rw [beq_iff, decide_eq_true_eq]
  exact UInt8.toNat_inj
theorem bLt_iff (a b : UInt8) : bLt a b = decide (a < b) := by
  rw [Bool.eq_iff_iff]
  show Nat.ble (a.toNat + 1) b.toNat = true ↔ _
  rw [ble_iff, decide_eq_true_eq, UInt8.lt_iff_toNat_lt]
  exact Nat.succ_le_iff
theorem sEq_iff : ∀ a b : List UInt8, sEq a b = (a == b)
  | [], [] => rfl
  | [], _ :: _ => rfl
  | _ :: _, [] => rfl
  | x :: a, y :: b => by
    show br (bEq x y) (sEq a b) false = _
    rw [br_eq, bEq_iff, sEq_iff a b]
    by_cases h : x = y <;> simp [h]
theorem sLt_iff : ∀ a b : List UInt8, sLt a b = Op.bytesLess a b
  | [], [] => rfl
  | [], _ :: _ => rfl
  | _ :: _, [] => rfl
  | x :: a, y :: b => by
    show br (bLt x y) true (br (bEq x y) (sLt a b) false) = _
    rw [br_eq, br_eq, bEq_iff, bLt_iff, sLt_iff a b]
    rw [show Op.bytesLess (x :: a) (y :: b) = (decide (x < y) || (x == y && Op.bytesLess a b)) from rfl]
    by_cases h : x < y <;> by_cases h' : x = y <;> simp [h, h']
theorem strOp_ok {R : Type} {op : BinOp} {a b : List UInt8} {no r : R} {K : AV → R} (h : strOp op a b no K = r) (hne : no ≠ r) :
    ∃ v, K v = r ∧ ∀ (P : Program) (t : TypeId) (w : World) (σ : Sub), ∃ x, (binOp op t (.string ⟨a.toArray⟩) (.string ⟨b.toArray⟩)).run P w = .ok x w ∧ VR σ v x := by
  have e : ∀ l : List UInt8, (ByteArray.mk l.toArray).toList = l := ByteArray.toList_mk
  unfold strOp at h
  split at h
  · obtain ⟨h1, h⟩ := br_inv h hne
    rw [appK_eq] at h
    rw [lenL_eq, lenL_eq] at h1
    have h1' : a.length + b.length ≤ 1000000 := ble_iff.1 h1
    refine ⟨_, h, fun P t w σ => ⟨_, ?_, by simp only [VR]; rfl⟩⟩
    rw [binOp_string_add]
    unfold Op.stringOp
    have h2 : ¬ ((((ByteArray.mk a.toArray).size + (ByteArray.mk b.toArray).size : Nat) : Int) > IntKind.i64.max) := by
      have e1 : (ByteArray.mk a.toArray).size = a.length := by simp [ByteArray.size]
      have e2 : (ByteArray.mk b.toArray).size = b.length := by simp [ByteArray.size]
      have e3 : IntKind.i64.max = 9223372036854775807 := by decide
      rw [e1, e2, e3]; omega
    simp only [if_neg h2, Sem.run_pure]
    have h3 : ByteArray.mk a.toArray ++ ByteArray.mk b.toArray = ByteArray.mk (a ++ b).toArray := by
      apply ByteArray.ext
      rw [ByteArray.data_append]
      apply Array.ext'
      simp
    rw [h3]
  · rw [fB_eq] at h
    exact ⟨_, h, fun P t w σ => ⟨_, by rw [binOp_string_eql]; rfl, by simp only [VR, e, sEq_iff]⟩⟩
  · rw [fB_eq] at h
    exact ⟨_, h, fun P t w σ => ⟨_, by rw [binOp_string_neq]; rfl, by simp only [VR, e, sEq_iff, br_eq]; cases (a == b) <;> rfl⟩⟩
  · rw [fB_eq] at h
    exact ⟨_, h, fun P t w σ => ⟨_, by rw [binOp_string_lss]; rfl, by simp only [VR, e, sLt_iff]⟩⟩
  · rw [fB_eq, fB_eq] at h
    exact ⟨_, h, fun P t w σ => ⟨.bool (Op.bytesLess a b || a == b), by simp [binOp, Op.stringOp, e], by simp only [VR, sLt_iff, sEq_iff, br_eq]; cases Op.bytesLess a b <;> cases (a == b) <;> rfl⟩⟩
  · rw [fB_eq, fB_eq] at h
    exact ⟨_, h, fun P t w σ => ⟨.bool (!(Op.bytesLess a b || a == b)), by simp [binOp, Op.stringOp, e], by simp only [VR, sLt_iff, sEq_iff, br_eq]; cases Op.bytesLess a b <;> cases (a == b) <;> rfl⟩⟩
  · rw [fB_eq] at h
    exact ⟨_, h, fun P t w σ => ⟨.bool (!Op.bytesLess a b), by simp [binOp, Op.stringOp, e], by simp only [VR, sLt_iff, br_eq]; cases Op.bytesLess a b <;> rfl⟩⟩
  · exact absurd h hne

/-! ### Parts -/
theorem partK_ok {R : Type} {P : Program} {t : TypeId} {ti : TI} {d : TypeDesc} {i : TypeInfo} {z : Value} (ht : TIok P t ti d i z) {l : List AV} {off : Nat} {no r : R} {K : AV → R} (h : partK ti l off no K = r) (hne : no ≠ r) :
    ∃ v, K v = r ∧ ∀ (w : World) (σ : Sub) (cs : List Value), VRs σ l cs → (∀ c ∈ cs, c.oneCell' = true) → ∃ x, (part t cs.toArray off).run P w = .ok x w ∧ VR σ v x := by
  unfold partK at h
  rw [br_eq] at h
  by_cases ha : ti.agg = true
  · rw [if_pos ha, takeK_eq, dropL_eq] at h
    refine ⟨_, h, fun w σ cs hl h1 => ⟨.agg (cs.toArray.extract off (off + ti.size)), by simp only [part, Sem.run_bind, ht.run_agg, Result.andThen_ok, ha, if_true, ht.run_size, Sem.run_pure], ?_⟩⟩
    simp only [VR]
    refine ⟨(cs.drop off).take ti.size, (hl.drop off).take ti.size, fun c hc => h1 c (List.mem_of_mem_drop (List.mem_of_mem_take hc)), ?_⟩
    congr 1
    apply Array.ext'
    simp [List.extract]
  · rw [if_neg ha] at h
    obtain ⟨a, h1, h⟩ := om_inv h hne
    rw [nthL_eq] at h1
    refine ⟨a, h, fun w σ cs hl _ => ?_⟩
    obtain ⟨x, hx, hv⟩ := hl.get off h1
    refine ⟨x, ?_, hv⟩
    have hx' : cs.toArray[off]? = some x := by simpa using hx
    simp only [part, Sem.run_bind, ht.run_agg, Result.andThen_ok, ha, Bool.false_eq_true, if_false, hx', Sem.run_pure]

/-! ### Equality -/
/-- what a test of equality gives: at every depth from the fuel on -/
def EqOK (P : Program) (G : AG) (f : Nat) (t : TypeId) (a b : AV) (q : Bool) : Prop :=
  ∀ (w0 : World) (base U : Nat) (σ : Sub) (w : World) (d : Nat) (x y : Value), Rel w0 base U σ G w → f ≤ d → VR σ a x → VR σ b y → (Op.equalIn d t x y).run P w = .ok q w

theorem plainB_ok {w0 : World} {base U : Nat} {σ : Sub} {G : AG} {w : World} {b : Pth} (hr : Rel w0 base U σ G w) (h : plainB G b = true) : ∃ n el cs, σ.blk b = some n ∧ w.heap[n]? = some (.cells cs el (0, 0)) := by
  unfold plainB at h
  obtain ⟨x, hx, h⟩ := om_inv h nofun
  cases x <;> simp only at h <;> first | (cases h; done) | skip
  rename_i c
  obtain ⟨n, vs, ex, f, hn, _, hc, _, _, _, _, hf⟩ := hr.cells hx
  have : f = (0, 0) := by
    revert hf h
    cases c.fz <;> simp [FzR]
  subst this
  exact ⟨n, _, _, hn, hc⟩
theorem eqN_ok {R : Type} {a b : AV} {no r : R} {K : Bool → R} (h : eqN a b no K = r) (hne : no ≠ r) : ∃ q, K q = r ∧ ∀ (P : Program) (t e : TypeId) (d : Nat) (w : World) (σ : Sub) (x y : Value), P.underlying t = some (.slice e) → VR σ a x → VR σ b y → (Op.equalIn (d + 1) t x y).run P w = .ok q w := by
  unfold eqN at h
  split at h <;> (try split at h) <;> first | (exact absurd h hne) | skip
  all_goals
    refine ⟨_, h, fun P t e d w σ x y hu ha hb => ?_⟩
    simp only [VR] at ha hb
    first
      | (obtain ⟨n, cp, _, _, _, rfl⟩ := ha)
      | (obtain ⟨p, cp, rfl⟩ := ha)
      | subst ha
    first
      | (obtain ⟨n, cp, _, _, _, rfl⟩ := hb)
      | (obtain ⟨p, cp, rfl⟩ := hb)
      | subst hb
    simp [Op.equalIn, run_underlying hu]
theorem eqM_ok {R : Type} {a b : AV} {no r : R} {K : Bool → R} (h : eqM a b no K = r) (hne : no ≠ r) : ∃ q, K q = r ∧ ∀ (P : Program) (t k e : TypeId) (d : Nat) (w : World) (σ : Sub) (x y : Value), P.underlying t = some (.map k e) → VR σ a x → VR σ b y → (Op.equalIn (d + 1) t x y).run P w = .ok q w := by
  unfold eqM at h
  split at h <;> (try split at h) <;> first | (exact absurd h hne) | skip
  all_goals
    refine ⟨_, h, fun P t k e d w σ x y hu ha hb => ?_⟩
    simp only [VR] at ha hb
    first
      | (obtain ⟨n, _, rfl⟩ := ha)
      | subst ha
    first
      | (obtain ⟨n, _, rfl⟩ := hb)
      | subst hb
    simp [Op.equalIn, run_underlying hu]
theorem eqF_ok {R : Type} {a b : AV} {no r : R} {K : Bool → R} (h : eqF a b no K = r) (hne : no ≠ r) : ∃ q, K q = r ∧ ∀ (P : Program) (t : TypeId) (p s : Array TypeId) (v : Bool) (d : Nat) (w : World) (σ : Sub) (x y : Value), P.underlying t = some (.func p s v) → VR σ a x → VR σ b y → (Op.equalIn (d + 1) t x y).run P w = .ok q w := by
  unfold eqF at h
  split at h <;> (try split at h) <;> first | (exact absurd h hne) | skip
  all_goals
    refine ⟨_, h, fun P t p s v d w σ x y hu ha hb => ?_⟩
    simp only [VR] at ha hb
    first
      | (obtain ⟨_, _, _, _, rfl⟩ := ha)
      | subst ha
    first
      | (obtain ⟨_, _, _, _, rfl⟩ := hb)
      | subst hb
    simp [Op.equalIn, run_underlying hu]

theorem eqP_ok {R : Type} {P : Program} {G : AG} {e : TypeId} {a b : AV} {no r : R} {K : Bool → R} (h : eqP P G e a b no K = r) (hne : no ≠ r) :
    ∃ q, K q = r ∧ ∀ (w0 : World) (base U : Nat) (t : TypeId) (d : Nat) (w : World) (σ : Sub) (x y : Value), Rel w0 base U σ G w → P.underlying t = some (.pointer e) → VR σ a x → VR σ b y → (Op.equalIn (d + 1) t x y).run P w = .ok q w := by
  unfold eqP at h
  split at h <;> (try split at h) <;> first | (exact absurd h hne) | skip
  all_goals first
    | (refine ⟨_, h, fun w0 base U t d w σ x y hr hu ha hb => ?_⟩
       simp only [VR] at ha hb
       first
         | (obtain ⟨_, _, rfl⟩ := ha)
         | subst ha
       first
         | (obtain ⟨_, _, rfl⟩ := hb)
         | subst hb
       simp [Op.equalIn, run_underlying hu]
       done)
    | skip
  rename_i x o _ y p
  obtain ⟨te, hte, h⟩ := om_inv h hne
  obtain ⟨d', i', z', ht⟩ := mkTI_ok hte
  obtain ⟨hz, h⟩ := br_inv' h hne
  have hz' : te.size ≠ 0 := fun e => by rw [e] at hz; simp at hz
  rw [br_eq] at h
  by_cases hxy : pEq x y = true
  · rw [if_pos hxy] at h
    have hK := h
    have := (pEq_iff x y).1 hxy
    subst this
    refine ⟨_, hK, fun w0 base U t d w σ vx vy hr hu ha hb => ?_⟩
    simp only [VR] at ha hb
    obtain ⟨n, hn, rfl⟩ := ha
    obtain ⟨m, hm, rfl⟩ := hb
    rw [hn] at hm; cases hm
    simp only [Op.equalIn, Sem.run_bind, run_underlying hu, Result.andThen_ok, ht.run_size]
    have e : Nat.beq o p = decide (o = p) := by rw [Bool.eq_iff_iff, beq_iff]; simp
    rw [e]
    by_cases ho : o = p <;> simp [sameAddr, hz', ho]
  · rw [if_neg hxy] at h
    obtain ⟨h1, h⟩ := br_inv h hne
    obtain ⟨h2, h⟩ := br_inv h hne
    refine ⟨_, h, fun w0 base U t d w σ vx vy hr hu ha hb => ?_⟩
    simp only [VR] at ha hb
    obtain ⟨n, hn, rfl⟩ := ha
    obtain ⟨m, hm, rfl⟩ := hb
    obtain ⟨n', el, cs, hn', hc⟩ := plainB_ok hr h1
    obtain ⟨m', el', cs', hm', hc'⟩ := plainB_ok hr h2
    rw [hn] at hn'; cases hn'
    rw [hm] at hm'; cases hm'
    have hne' : n ≠ m := fun e => by
      subst e
      have hx : ∃ q, G.get x = some q := by
        unfold plainB at h1; obtain ⟨q, hq, _⟩ := om_inv h1 nofun; exact ⟨q, hq⟩
      have hy : ∃ q, G.get y = some q := by
        unfold plainB at h2; obtain ⟨q, hq, _⟩ := om_inv h2 nofun; exact ⟨q, hq⟩
      obtain ⟨qx, hqx⟩ := hx
      obtain ⟨qy, hqy⟩ := hy
      have := hr.inj x y qx qy n hqx hqy hn hm
      exact hxy ((pEq_iff x y).2 this)
    have f1 : ∀ k, w.frozen? ⟨n, k, none⟩ = false := fun k => by rw [frozen_at hc]; simp
    have f2 : ∀ k, w.frozen? ⟨m, k, none⟩ = false := fun k => by rw [frozen_at hc']; simp
    have s1 := shape_at hc
    have s2 := shape_at hc'
    simp only [Op.equalIn, Sem.run_bind, run_underlying hu, Result.andThen_ok, ht.run_size]
    simp only [ne_eq, hz', not_false_eq_true, if_true, sameAddr]
    rw [if_neg (by simpa using hne')]
    simp [f1, f2, noView, viewAt, s1, s2, mayBeOne, stringish]

theorem eqStep_ok {R : Type} {P : Program} {G : AG} {f : Nat} {ih : EqT R} {no r : R} (hne : no ≠ r) (hih : ∀ t a b (K : Bool → R), ih t a b no K = r → ∃ q, K q = r ∧ EqOK P G f t a b q)
    {t : TypeId} {a b : AV} {K : Bool → R} (h : eqStep P G ih t a b no K = r) : ∃ q, K q = r ∧ EqOK P G (f + 1) t a b q := by
  unfold eqStep at h
  obtain ⟨ti, hti, h⟩ := om_inv h hne
  obtain ⟨d, i, z, ht⟩ := mkTI_ok hti
  have hk := ht.k
  have hd1 : ∀ {n}, f + 1 ≤ n → ∃ m, n = m + 1 ∧ f ≤ m := fun {n} h => ⟨n - 1, by omega, by omega⟩
  split at h
  · rename_i k e
    obtain ⟨j, x, e1, h1⟩ := asI_inv h hne
    obtain ⟨j', y, e2, h2⟩ := asI_inv h1 hne
    obtain ⟨hj, h3⟩ := br_inv h2 hne
    clear h h1 h2
    subst e1 e2
    have := kEq_ok hj
    subst this
    refine ⟨_, h3, fun w0 base U σ w d' vx vy hr hd ha hb => ?_⟩
    obtain ⟨m, rfl, _⟩ := hd1 hd
    simp only [VR] at ha hb
    subst ha hb
    rw [run_equalIn_int w m t j _ x y (by rw [ht.und, mkTK_int (P := P) (d := d) (by rw [← hk, e])]), iEq_iff]
    congr 1
  · rename_i e
    obtain ⟨x, e1, h1⟩ := asB_inv h hne
    obtain ⟨y, e2, h2⟩ := asB_inv h1 hne
    clear h h1
    subst e1 e2
    have h := h2
    refine ⟨_, h, fun w0 base U σ w d' vx vy hr hd ha hb => ?_⟩
    obtain ⟨m, rfl, _⟩ := hd1 hd
    simp only [VR] at ha hb
    subst ha hb
    rw [run_equalIn_bool w m t _ _ (by rw [ht.und, mkTK_bool (P := P) (d := d) (by rw [← hk, e])])]
    cases x <;> cases y <;> rfl
  · rename_i e
    unfold eqS at h
    split at h
    · split at h
      · refine ⟨_, h, fun w0 base U σ w d' vx vy hr hd ha hb => ?_⟩
        obtain ⟨m, rfl, _⟩ := hd1 hd
        simp only [VR] at ha hb
        subst ha hb
        rw [run_equalIn_string w m t _ _ (by rw [ht.und, mkTK_str (P := P) (d := d) (by rw [← hk, e])]), sEq_iff]
        simp
      · exact absurd h hne
    · exact absurd h hne
  · rename_i el e
    obtain ⟨q, hq, ok⟩ := eqP_ok h hne
    refine ⟨q, hq, fun w0 base U σ w d' vx vy hr hd ha hb => ?_⟩
    obtain ⟨m, rfl, _⟩ := hd1 hd
    exact ok w0 base U t m w σ vx vy hr (by rw [ht.und, mkTK_ptr (P := P) (d := d) (by rw [← hk, e])]) ha hb
  · rename_i el e
    obtain ⟨q, hq, ok⟩ := eqN_ok h hne
    refine ⟨q, hq, fun w0 base U σ w d' vx vy hr hd ha hb => ?_⟩
    obtain ⟨m, rfl, _⟩ := hd1 hd
    exact ok P t el m w σ vx vy (by rw [ht.und, mkTK_slice (P := P) (d := d) (by rw [← hk, e])]) ha hb
  · rename_i k el e
    obtain ⟨q, hq, ok⟩ := eqM_ok h hne
    refine ⟨q, hq, fun w0 base U σ w d' vx vy hr hd ha hb => ?_⟩
    obtain ⟨m, rfl, _⟩ := hd1 hd
    exact ok P t k el m w σ vx vy (by rw [ht.und, mkTK_map (P := P) (d := d) (by rw [← hk, e])]) ha hb
  · rename_i e
    obtain ⟨q, hq, ok⟩ := eqF_ok h hne
    obtain ⟨p, s, v, e'⟩ := mkTK_func (by rw [← hk, e])
    refine ⟨q, hq, fun w0 base U σ w d' vx vy hr hd ha hb => ?_⟩
    obtain ⟨m, rfl, _⟩ := hd1 hd
    exact ok P t p s v m w σ vx vy (by rw [ht.und, e']) ha hb
  · rename_i e
    obtain ⟨ms, e'⟩ := mkTK_iface (by rw [← hk, e])
    have hu : P.underlying t = some (.interface ms) := by rw [ht.und, e']
    unfold eqIf at h
    split at h <;> (try split at h) <;> first | (exact absurd h hne) | skip
    all_goals first
      | (refine ⟨_, h, fun w0 base U σ w d' vx vy hr hd ha hb => ?_⟩
         obtain ⟨m, rfl, hm⟩ := hd1 hd
         simp only [VR] at ha hb
         first
           | (obtain ⟨_, _, rfl⟩ := ha)
           | subst ha
         first
           | (obtain ⟨_, _, rfl⟩ := hb)
           | subst hb
         simp [Op.equalIn, run_underlying hu]
         done)
      | skip
    rename_i t1 x1 _ t2 x2 _
    rw [br_eq] at h
    by_cases htt : Nat.beq t1 t2 = true
    · rw [if_pos htt] at h
      have hK := h
      have := Nat.eq_of_beq_eq_true htt
      subst this
      obtain ⟨hc, h⟩ := br_inv hK hne
      obtain ⟨i1, hi1, hcmp⟩ := om_inv hc nofun
      obtain ⟨q, hq, ok⟩ := hih t1 x1 x2 K h
      refine ⟨q, hq, fun w0 base U σ w d' vx vy hr hd ha hb => ?_⟩
      obtain ⟨m, rfl, hm⟩ := hd1 hd
      simp only [VR] at ha hb
      obtain ⟨x', hx', rfl⟩ := ha
      obtain ⟨y', hy', rfl⟩ := hb
      have h1 := ok w0 base U σ w m x' y' hr hm hx' hy'
      have e1 : (typeInfo t1).run P w = .ok i1 w := by simp [typeInfo, hi1]
      simp only [Op.equalIn, Sem.run_bind, run_underlying hu, Result.andThen_ok, e1, ne_eq, not_true_eq_false, if_false]
      simp [hcmp, h1]
    · rw [if_neg htt] at h
      refine ⟨_, h, fun w0 base U σ w d' vx vy hr hd ha hb => ?_⟩
      obtain ⟨m, rfl, hm⟩ := hd1 hd
      simp only [VR] at ha hb
      obtain ⟨x', hx', rfl⟩ := ha
      obtain ⟨y', hy', rfl⟩ := hb
      have hn : t1 ≠ t2 := fun e => htt (beq_iff.2 e)
      simp [Op.equalIn, run_underlying hu, hn]
  · rename_i fs e
    obtain ⟨fd, e', hfs⟩ := mkTK_struct (by rw [← hk, e])
    obtain ⟨xs, e1, h1⟩ := asL_inv h hne
    obtain ⟨ys, e2, h2⟩ := asL_inv h1 hne
    clear h h1
    subst e1 e2
    have h := h2
    clear h2
    obtain ⟨hst, h⟩ := br_inv' h hne
    have key : ∀ (fl : List Field), eqFs P ih xs ys no K (fl.map fun f => ⟨f.offset, f.type, P.cellsOf f.type, f.name == "_"⟩) = r →
        ∃ q, K q = r ∧ ∀ (w0 : World) (base U : Nat) (σ : Sub) (w : World) (d' : Nat) (cx cy : List Value), Rel w0 base U σ G w → f ≤ d' → VRs σ xs cx → VRs σ ys cy → (∀ c ∈ cx, c.oneCell' = true) → (∀ c ∈ cy, c.oneCell' = true) →
          (Op.eqFields d' cx.toArray cy.toArray fl).run P w = .ok q w := by
      intro fl
      induction fl with
      | nil => intro h; exact ⟨true, h, fun w0 base U σ w d' cx cy _ _ _ _ _ _ => rfl⟩
      | cons g fl ihl =>
        intro h
        have h' : br (g.name == "_") (eqFs P ih xs ys no K (fl.map fun f => ⟨f.offset, f.type, P.cellsOf f.type, f.name == "_"⟩))
            (om (mkTI P g.type) no fun tf => partK tf xs g.offset no fun x => partK tf ys g.offset no fun y => ih g.type x y no fun q => br q (eqFs P ih xs ys no K (fl.map fun f => ⟨f.offset, f.type, P.cellsOf f.type, f.name == "_"⟩)) (K false)) = r := h
        rw [br_eq] at h'
        by_cases hb : (g.name == "_") = true
        · rw [if_pos hb] at h'
          obtain ⟨q, hq, ok⟩ := ihl h'
          refine ⟨q, hq, fun w0 base U σ w d' cx cy hr hd hx hy h1 h2 => ?_⟩
          have : ¬ (g.name ≠ "_") := by simpa using hb
          unfold Op.eqFields
          rw [if_neg this]
          exact ok w0 base U σ w d' cx cy hr hd hx hy h1 h2
        · rw [if_neg hb] at h'
          obtain ⟨tf, htf, h'⟩ := om_inv h' hne
          obtain ⟨df, i', zf, hf⟩ := mkTI_ok htf
          obtain ⟨ax, hx1, okx⟩ := partK_ok hf h' hne
          obtain ⟨ay, hy1, oky⟩ := partK_ok hf hx1 hne
          obtain ⟨q1, hq1, ok1⟩ := hih _ _ _ _ hy1
          have hb' : g.name ≠ "_" := by simpa using hb
          cases q1 with
          | true =>
            obtain ⟨q, hq, ok⟩ := ihl hq1
            refine ⟨q, hq, fun w0 base U σ w d' cx cy hr hd hx hy h1 h2 => ?_⟩
            obtain ⟨vx, e1, v1⟩ := okx w σ cx hx h1
            obtain ⟨vy, e2, v2⟩ := oky w σ cy hy h2
            have e3 := ok1 w0 base U σ w d' vx vy hr hd v1 v2
            unfold Op.eqFields
            simp only [hb', ne_eq, not_false_eq_true, if_true, Sem.run_bind, e1, e2, e3, Result.andThen_ok, Bool.not_true, Bool.false_eq_true, if_false]
            exact ok w0 base U σ w d' cx cy hr hd hx hy h1 h2
          | false =>
            refine ⟨false, hq1, fun w0 base U σ w d' cx cy hr hd hx hy h1 h2 => ?_⟩
            obtain ⟨vx, e1, v1⟩ := okx w σ cx hx h1
            obtain ⟨vy, e2, v2⟩ := oky w σ cy hy h2
            have e3 := ok1 w0 base U σ w d' vx vy hr hd v1 v2
            unfold Op.eqFields
            simp only [hb', ne_eq, not_false_eq_true, if_true, Sem.run_bind, e1, e2, e3, Result.andThen_ok, Bool.not_false, Sem.run_pure]
    rw [hfs] at h
    obtain ⟨q, hq, ok⟩ := key fd.toList h
    refine ⟨q, hq, fun w0 base U σ w d' vx vy hr hd ha hb => ?_⟩
    obtain ⟨m, rfl, hm⟩ := hd1 hd
    simp only [VR] at ha hb
    obtain ⟨cx, hx, h1, rfl⟩ := ha
    obtain ⟨cy, hy, h2, rfl⟩ := hb
    have hfo : P.fieldsOf t = fd := by unfold Program.fieldsOf; rw [ht.und, e']
    rw [run_equalIn_struct w m t _ _ (by rw [ht.und, e', hfo]) hst, hfo]
    exact ok w0 base U σ w m cx cy hr hm hx hy h1 h2
  · rename_i n e' e
    have hde := mkTK_arr (by rw [← hk, e] : mkTK P d = .arr n e')
    obtain ⟨xs, e1, h1⟩ := asL_inv h hne
    obtain ⟨ys, e2, h2⟩ := asL_inv h1 hne
    clear h h1
    subst e1 e2
    have h := h2
    clear h2
    obtain ⟨te, hte, h⟩ := om_inv h hne
    obtain ⟨de, ie, ze, hee⟩ := mkTI_ok hte
    have hce : P.cellsOf e' = te.size := by rw [Program.cellsOf, hee.info, hee.size]; rfl
    have key : ∀ (n j : Nat), eqAs ih te e' xs ys no K n j = r →
        ∃ q, K q = r ∧ ∀ (w0 : World) (base U : Nat) (σ : Sub) (w : World) (d' : Nat) (cx cy : List Value), Rel w0 base U σ G w → f ≤ d' → VRs σ xs cx → VRs σ ys cy → (∀ c ∈ cx, c.oneCell' = true) → (∀ c ∈ cy, c.oneCell' = true) →
          (Op.eqItems d' e' te.size cx.toArray cy.toArray (List.range' j n)).run P w = .ok q w := by
      intro n
      induction n with
      | zero => intro j h; exact ⟨true, h, fun w0 base U σ w d' cx cy _ _ _ _ _ _ => rfl⟩
      | succ n ihl =>
        intro j h
        have h' : partK te xs (j * te.size) no (fun x => partK te ys (j * te.size) no fun y => ih e' x y no fun q => br q (eqAs ih te e' xs ys no K n (j + 1)) (K false)) = r := h
        obtain ⟨ax, hx1, okx⟩ := partK_ok hee h' hne
        obtain ⟨ay, hy1, oky⟩ := partK_ok hee hx1 hne
        obtain ⟨q1, hq1, ok1⟩ := hih _ _ _ _ hy1
        cases q1 with
        | true =>
          obtain ⟨q, hq, ok⟩ := ihl (j + 1) hq1
          refine ⟨q, hq, fun w0 base U σ w d' cx cy hr hd hx hy h1 h2 => ?_⟩
          obtain ⟨vx, e1, v1⟩ := okx w σ cx hx h1
          obtain ⟨vy, e2, v2⟩ := oky w σ cy hy h2
          have e3 := ok1 w0 base U σ w d' vx vy hr hd v1 v2
          rw [List.range'_succ]
          unfold Op.eqItems
          simp only [Sem.run_bind, e1, e2, e3, Result.andThen_ok, Bool.not_true, Bool.false_eq_true, if_false]
          exact ok w0 base U σ w d' cx cy hr hd hx hy h1 h2
        | false =>
          refine ⟨false, hq1, fun w0 base U σ w d' cx cy hr hd hx hy h1 h2 => ?_⟩
          obtain ⟨vx, e1, v1⟩ := okx w σ cx hx h1
          obtain ⟨vy, e2, v2⟩ := oky w σ cy hy h2
          have e3 := ok1 w0 base U σ w d' vx vy hr hd v1 v2
          rw [List.range'_succ]
          unfold Op.eqItems
          simp only [Sem.run_bind, e1, e2, e3, Result.andThen_ok, Bool.not_false, if_true, Sem.run_pure]
    obtain ⟨q, hq, ok⟩ := key n 0 h
    refine ⟨q, hq, fun w0 base U σ w d' vx vy hr hd ha hb => ?_⟩
    obtain ⟨m, rfl, hm⟩ := hd1 hd
    simp only [VR] at ha hb
    obtain ⟨cx, hx, h1, rfl⟩ := ha
    obtain ⟨cy, hy, h2, rfl⟩ := hb
    rw [run_equalIn_array w m _ _ (by rw [ht.und, hde]) hee.info, hce, List.range_eq_range']
    exact ok w0 base U σ w m cx cy hr hm hx hy h1 h2
  · exact absurd h hne

theorem eqT_ok {R : Type} {P : Program} {G : AG} {no r : R} (hne : no ≠ r) : ∀ (f : Nat) {t : TypeId} {a b : AV} {K : Bool → R}, eqT P G f t a b no K = r → ∃ q, K q = r ∧ EqOK P G f t a b q
  | 0, _, _, _, _, h => absurd h hne
  | f + 1, t, a, b, K, h => eqStep_ok hne (fun _ _ _ _ h' => eqT_ok hne f h') (show eqStep P G (eqT P G f) t a b no K = r from h)

end Go.Ev

/-! Soundness of the evaluator's operations, part three: binary and unary operations, loads, stores, new blocks, addresses, slices. -/
namespace Go.Ev
open Go Go.RowKit

def plainV : Value → Bool
  | .int _ _ | .float _ _ | .complex _ _ _ | .string _ => false
  | _ => true
theorem binOp_eql_of {t : TypeId} {x y : Value} (h : plainV x = true) : binOp .eql t x y = (do pure (.bool (← Op.equal t x y))) := by
  cases x <;> first | (cases h; done) | (cases y <;> rfl)
theorem binOp_neq_of {t : TypeId} {x y : Value} (h : plainV x = true) : binOp .neq t x y = (do pure (.bool (!(← Op.equal t x y)))) := by
  cases x <;> first | (cases h; done) | (cases y <;> rfl)

/-- what a pure operation on two values gives -/
def Bin (P : Program) (G : AG) (a b v : AV) (s : Value → Value → Sem Value) : Prop :=
  ∀ (w0 : World) (base U : Nat) (σ : Sub) (w : World) (x y : Value), Rel w0 base U σ G w → VR σ a x → VR σ b y → ∃ z, (s x y).run P w = .ok z w ∧ VR σ v z

section bin
variable {R : Type} {P : Program} {G : AG} {no r : R}
theorem eqlK_ok {op : BinOp} {t : TypeId} {a b : AV} {K : AV → R} (h : eqlK P G op t a b no K = r) (hne : no ≠ r) (hp : ∀ (σ : Sub) (x : Value), VR σ a x → plainV x = true) :
    ∃ v, K v = r ∧ Bin P G a b v (binOp op t) := by
  unfold eqlK at h
  split at h
  · obtain ⟨q, hq, ok⟩ := eqT_ok hne 20 h
    rw [fB_eq] at hq
    refine ⟨_, hq, fun w0 base U σ w x y hr hx hy => ⟨.bool q, ?_, by simp only [VR]⟩⟩
    rw [binOp_eql_of (hp σ x hx)]
    have := ok w0 base U σ w 10000 x y hr (by decide) hx hy
    simp [Op.equal, Op.maxDepth, this]
  · obtain ⟨q, hq, ok⟩ := eqT_ok hne 20 h
    rw [fB_eq] at hq
    refine ⟨_, hq, fun w0 base U σ w x y hr hx hy => ⟨.bool !q, ?_, by simp only [VR, br_eq]; cases q <;> rfl⟩⟩
    rw [binOp_neq_of (hp σ x hx)]
    have := ok w0 base U σ w 10000 x y hr (by decide) hx hy
    simp [Op.equal, Op.maxDepth, this]
  · exact absurd h hne

theorem binA_ok {op : BinOp} {t : TypeId} {x y : Operand} {a b : AV} {K : AV → R} (h : binA P G op t x y a b no K = r) (hne : no ≠ r) :
    ∃ v, K v = r ∧ Bin P G a b v (fun vx vy => do eqGuard op t x y vx vy; binOp op t vx vy) := by
  have other : ∀ {a b : AV} {K : AV → R}, eqlK P G op t a b no K = r → (∀ (σ : Sub) (vx : Value), VR σ a vx → plainV vx = true ∧ ∀ vy, eqGuard op t x y vx vy = pure ()) →
      ∃ v, K v = r ∧ Bin P G a b v (fun vx vy => do eqGuard op t x y vx vy; binOp op t vx vy) := by
    intro a b K h hp
    obtain ⟨v, hv, ok⟩ := eqlK_ok h hne (fun σ vx hvx => (hp σ vx hvx).1)
    refine ⟨v, hv, fun w0 base U σ w vx vy hr hx hy => ?_⟩
    obtain ⟨z, hz, hvz⟩ := ok w0 base U σ w vx vy hr hx hy
    exact ⟨z, by simp only [(hp σ vx hx).2 vy, Sem.run_bind, Sem.run_pure, Result.andThen_ok]; exact hz, hvz⟩
  unfold binA at h
  split at h
  · rename_i j p
    unfold binInt at h
    obtain ⟨k, q, e, h1⟩ := asI_inv h hne
    obtain ⟨hk, h2⟩ := br_inv h1 hne
    subst e
    rw [br_eq] at hk
    by_cases hs : isShift op = true
    · obtain ⟨v, hv, ok⟩ := shift_ok (k' := k) hs h2 hne
      refine ⟨v, hv, fun w0 base U σ w vx vy hr hx hy => ?_⟩
      simp only [VR] at hx hy
      subst hx hy
      simp only [eqGuard_at_int, Sem.run_bind, Sem.run_pure, Result.andThen_ok]
      exact ok P t w σ
    · rw [if_neg hs] at hk
      have := kEq_ok hk
      subst this
      obtain ⟨v, hv, ok⟩ := intOp_ok (by simpa using hs) h2 hne
      refine ⟨v, hv, fun w0 base U σ w vx vy hr hx hy => ?_⟩
      simp only [VR] at hx hy
      subst hx hy
      simp only [eqGuard_at_int, Sem.run_bind, Sem.run_pure, Result.andThen_ok]
      exact ok P t w σ
  · rename_i p
    unfold binStr at h
    split at h
    · obtain ⟨v, hv, ok⟩ := strOp_ok h hne
      refine ⟨v, hv, fun w0 base U σ w vx vy hr hx hy => ?_⟩
      simp only [VR] at hx hy
      subst hx hy
      simp only [eqGuard_at_string, Sem.run_bind, Sem.run_pure, Result.andThen_ok]
      exact ok P t w σ
    · exact absurd h hne
  · unfold binNil at h
    split at h
    · obtain ⟨hc, h1⟩ := br_inv h hne
      refine (fun hg => ?_) (show ∀ w : World, (eqGuard op t x y .nilIface .nilIface) = pure () from fun _ => ?_)
      · obtain ⟨v, hv, ok⟩ := eqlK_ok h1 hne (fun σ vx hvx => by simp only [VR] at hvx; subst hvx; rfl)
        refine ⟨v, hv, fun w0 base U σ w vx vy hr hx hy => ?_⟩
        obtain ⟨z, hz, hvz⟩ := ok w0 base U σ w vx vy hr hx hy
        simp only [VR] at hx hy
        subst hx hy
        exact ⟨z, by simp only [hg w, Sem.run_bind, Sem.run_pure, Result.andThen_ok]; exact hz, hvz⟩
      · rw [br_eq] at hc
        cases x <;> simp only [isConstO, Bool.false_eq_true, if_false, if_true] at hc
        case const c => rw [eqGuard_nil_constL]
        all_goals
          cases y <;> simp only [Bool.false_eq_true] at hc
          rw [eqGuard_nil_constR]
    · rename_i u v'
      obtain ⟨v, hv, ok⟩ := eqlK_ok h hne (fun σ vx hvx => by simp only [VR] at hvx; subst hvx; rfl)
      refine ⟨v, hv, fun w0 base U σ w vx vy hr hx hy => ?_⟩
      obtain ⟨z, hz, hvz⟩ := ok w0 base U σ w vx vy hr hx hy
      simp only [VR] at hx hy
      obtain ⟨y', _, rfl⟩ := hy
      subst hx
      exact ⟨z, by simp only [eqGuard_nil_iface, Sem.run_bind, Sem.run_pure, Result.andThen_ok]; exact hz, hvz⟩
    · exact absurd h hne
  · rename_i l
    unfold binAgg at h
    split at h
    · rename_i l'
      obtain ⟨hg, h1⟩ := br_inv' h hne
      obtain ⟨v, hv, ok⟩ := eqlK_ok h1 hne (fun σ vx hvx => by simp only [VR] at hvx; obtain ⟨cs, _, _, rfl⟩ := hvx; rfl)
      refine ⟨v, hv, fun w0 base U σ w vx vy hr hx hy => ?_⟩
      obtain ⟨z, hz, hvz⟩ := ok w0 base U σ w vx vy hr hx hy
      simp only [VR] at hx hy
      obtain ⟨cs, _, _, rfl⟩ := hx
      obtain ⟨cs', _, _, rfl⟩ := hy
      exact ⟨z, by simp only [Sem.run_bind, run_eqGuard_agg w op t x y _ _ hg, Result.andThen_ok]; exact hz, hvz⟩
    · exact absurd h hne
  · exact absurd h hne
  · exact absurd h hne
  · rename_i n1 n2 n3 n4 n5 n6
    refine other h fun σ vx hvx => ?_
    cases a <;> simp only [VR] at hvx
    case int => exact absurd rfl (n1 _ _)
    case str => exact absurd rfl (n2 _)
    case nili => exact absurd rfl n3
    case agg => exact absurd rfl (n4 _)
    case tup => exact absurd rfl (n5 _)
    case sym => exact absurd rfl (n6 _)
    case bool => subst hvx; exact ⟨rfl, fun vy => by rw [eqGuard_at_bool]⟩
    case nilp => subst hvx; exact ⟨rfl, fun vy => by rw [eqGuard_at_pointer]⟩
    case ptr => obtain ⟨_, _, rfl⟩ := hvx; exact ⟨rfl, fun vy => by rw [eqGuard_at_pointer]⟩
    case gptr => subst hvx; exact ⟨rfl, fun vy => by rw [eqGuard_at_pointer]⟩
    case nils => subst hvx; exact ⟨rfl, fun vy => by rw [eqGuard_at_slice]⟩
    case sl => obtain ⟨_, _, _, _, _, rfl⟩ := hvx; exact ⟨rfl, fun vy => by rw [eqGuard_at_slice]⟩
    case emp => obtain ⟨_, _, rfl⟩ := hvx; exact ⟨rfl, fun vy => by rw [eqGuard_at_slice]⟩
    case iface => obtain ⟨_, _, rfl⟩ := hvx; exact ⟨rfl, fun vy => by rw [eqGuard_at_iface]⟩
    case nilf => subst hvx; exact ⟨rfl, fun vy => by rw [eqGuard_at_nilFunc]⟩
    case func => obtain ⟨_, _, _, _, rfl⟩ := hvx; exact ⟨rfl, fun vy => by rw [eqGuard_at_func]⟩
    case yield => obtain ⟨_, _, rfl⟩ := hvx; exact ⟨rfl, fun vy => by rw [eqGuard_at_func]⟩
    case map => obtain ⟨_, _, rfl⟩ := hvx; exact ⟨rfl, fun vy => by rw [eqGuard_at_map]⟩
    case nilm => subst hvx; exact ⟨rfl, fun vy => by rw [eqGuard_at_map]⟩
end bin

section ok
variable {P : Program} {ro : Nat → Option CB} {T : Tr AV} {G G' : AG} {v : AV} {d : Option Nat} {t0 : TypeId} {pos : String} {af : Array Edge} {g : Option (Nat × Bool)}
theorem aBin_ok {op : BinOp} {t u : TypeId} {x y : Operand} (h : aBin op t x y u P ro T G = .ok v G') : OpOK P ro T G ⟨d, .binOp op t x y u, t0, pos, af, g⟩ v G' := by
  obtain ⟨a, ha, h⟩ := opd_inv h nofun
  obtain ⟨b, hb, h⟩ := opd_inv h nofun
  obtain ⟨z, hz, ok⟩ := binA_ok h nofun
  cases hz
  refine .pure fun w0 base U σ w ρ _ hr hρ => ?_
  obtain ⟨q, hq, hv⟩ := ok w0 base U σ w (ρ x) (ρ y) hr (hρ x a ha) (hρ y b hb)
  refine ⟨q, ?_, hv⟩
  simp only [Sem.run_bind] at hq
  simp only [execOp, Sem.run_bind]
  rw [hq]; rfl

theorem unA_ok {R : Type} {no r : R} {op : UnOp} {x : AV} {K : AV → R} (h : unA op x no K = r) (hne : no ≠ r) :
    ∃ v, K v = r ∧ ∀ (P : Program) (w : World) (σ : Sub) (vx : Value), VR σ x vx → ∃ z, (Op.unary op vx).run P w = .ok z w ∧ VR σ v z := by
  unfold unA at h
  split at h
  · exact ⟨_, h, fun P w σ vx hx => by
      simp only [VR] at hx
      subst hx
      exact ⟨_, rfl, by simp only [VR, br_eq]; split <;> simp [*]⟩⟩
  · rw [wrapK_eq] at h
    exact ⟨_, h, fun P w σ vx hx => by
      simp only [VR] at hx
      subst hx
      exact ⟨_, rfl, by simp only [VR]; rfl⟩⟩
  · rename_i k n
    have key : ∀ {k : IntKind}, k.signed = false → k.max = (kMax k : Int) → natOf n no (fun n => br (Nat.ble n (kMax k)) (fN (Nat.sub (kMax k) n) fun n => K (.int k (Int.ofNat n))) no) = r →
        (∀ m : Nat, m ≤ kMax k → (BitVec.ofInt k.bits (kMax k : Int) ^^^ BitVec.ofInt k.bits (m : Int)).toNat = kMax k - m) →
        ∃ v, K v = r ∧ ∀ (P : Program) (w : World) (σ : Sub) (vx : Value), VR σ (.int k n) vx → ∃ z, (Op.unary .xor vx).run P w = .ok z w ∧ VR σ v z := by
      intro k hs hm h hx
      obtain ⟨m, e, h1⟩ := natOf_inv h hne
      obtain ⟨hle, h2⟩ := br_inv h1 hne
      rw [fN_eq] at h2
      have hle' : m ≤ kMax k := ble_iff.1 hle
      refine ⟨_, h2, fun P w σ vx hvx => ?_⟩
      subst e
      simp only [VR] at hvx
      subst hvx
      refine ⟨.int k (k.wrap ((BitVec.ofInt k.bits (kMax k : Int) ^^^ BitVec.ofInt k.bits (m : Int)).toNat)), ?_, ?_⟩
      · simp only [Op.unary, hs, Bool.false_eq_true, if_false, hm, Op.intBits]
        rfl
      · simp only [VR]
        rw [hx m hle']
        congr 1
        exact inR_wrap (n := Int.ofNat (kMax k - m)) (ble_iff.2 (Nat.sub_le _ _))
    have bx : ∀ (n : Nat) (m : Nat), m ≤ 2 ^ n - 1 → (BitVec.ofInt n ((2 ^ n - 1 : Nat) : Int) ^^^ BitVec.ofInt n (m : Int)).toNat = 2 ^ n - 1 - m := by
      intro n m hm
      have e1 : BitVec.ofInt n ((2 ^ n - 1 : Nat) : Int) = BitVec.allOnes n := by
        apply BitVec.eq_of_toNat_eq
        rw [BitVec.toNat_allOnes, BitVec.toNat_ofInt]
        have h2 := Nat.two_pow_pos n
        rw [Int.emod_eq_of_lt (by omega) (by omega)]; rfl
      have e2 : (BitVec.ofInt n (m : Int)).toNat = m := by
        rw [BitVec.toNat_ofInt]
        have h2 := Nat.two_pow_pos n
        rw [Int.emod_eq_of_lt (by omega) (by omega)]; rfl
      rw [e1, BitVec.allOnes_xor, BitVec.toNat_not, e2]
    split at h <;> first | (exact absurd h hne) | skip
    · exact key (k := .u8) rfl (by decide) h (bx 8)
    · exact key (k := .u16) rfl (by decide) h (bx 16)
    · exact key (k := .u32) rfl (by decide) h (bx 32)
    · exact key (k := .u64) rfl (by decide) h (bx 64)
  · exact absurd h hne
theorem aUn_ok {op : UnOp} {t : TypeId} {x : Operand} (h : aUn op t x P ro T G = .ok v G') : OpOK P ro T G ⟨d, .unOp op t x, t0, pos, af, g⟩ v G' := by
  obtain ⟨a, ha, h⟩ := opd_inv h nofun
  obtain ⟨z, hz, ok⟩ := unA_ok h nofun
  cases hz
  refine .pure fun w0 base U σ w ρ _ hr hρ => ?_
  obtain ⟨q, hq, hv⟩ := ok P w σ (ρ x) (hρ x a ha)
  exact ⟨q, by simp only [execOp, Sem.run_bind, hq]; rfl, hv⟩
end ok
end Go.Ev

/-! Soundness of the evaluator's operations, part four: loads, stores, new blocks, literals. -/
namespace Go.Ev
open Go Go.RowKit

theorem run_loadCells' {P : Program} {w : World} {n o k : Nat} {cs : List Value} {el : TypeId} {f : Nat × Nat} (h : w.heap[n]? = some (.cells cs.toArray el f)) (hk : k ≤ (cs.drop o).length) :
    (loadCells ⟨n, o, none⟩ k).run P w = .ok ((cs.drop o).take k).toArray w := by
  by_cases h0 : k = 0
  · subst h0; simp [loadCells, loadCellsFrom]
  · exact run_loadCells h (by simp at hk; omega)

section ld
variable {R : Type} {ro : Nat → Option CB} {G : AG} {no r : R}
/-- a pointer to the cells of a block, in a world -/
def LdR (σ : Sub) (w : World) (c : CB) (o : Nat) (x : Value) : Prop :=
  ∃ n vs ex f, x = .pointer (some ⟨n, o, none⟩) ∧ w.heap[n]? = some (.cells (vs ++ ex).toArray c.el f) ∧ VRs σ c.cs vs ∧ (∀ y ∈ vs, y.oneCell' = true)
theorem ldC_ok {p : AV} {K : CB → Nat → R} (h : ldC ro G p no K = r) (hne : no ≠ r) :
    ∃ c o, K c o = r ∧ ∀ (w0 : World) (base U : Nat) (σ : Sub) (w : World) (x : Value), RoOK ro w0 base → Rel w0 base U σ G w → VR σ p x → LdR σ w c o x := by
  unfold ldC at h
  split at h
  · rename_i b o
    obtain ⟨y, hy, h⟩ := om_inv h hne
    split at h
    · rename_i c
      refine ⟨c, o, h, fun w0 base U σ w x _ hr hx => ?_⟩
      simp only [VR] at hx
      obtain ⟨n, hn, rfl⟩ := hx
      obtain ⟨n', vs, ex, f, hn', _, hc, h1, h2, _⟩ := hr.cells hy
      rw [hn] at hn'; cases hn'
      exact ⟨n, vs, ex, f, rfl, hc, h1, h2⟩
    · exact absurd h hne
  · rename_i g o
    obtain ⟨c, hc, h⟩ := om_inv h hne
    refine ⟨c, o, h, fun w0 base U σ w x hro hr hx => ?_⟩
    simp only [VR] at hx
    obtain ⟨hg, vs, ex, f, hh, h1, h2⟩ := hro.2 g c hc
    exact ⟨g, vs, ex, f, hx, by rw [hr.below.block g hg]; exact hh, h1 σ, h2⟩
  · exact absurd h hne
theorem loadA_ok {P : Program} {t : TypeId} {ti : TI} {d : TypeDesc} {i : TypeInfo} {z : Value} (ht : TIok P t ti d i z) {p : AV} {K : AV → R} (h : loadA ro G ti p no K = r) (hne : no ≠ r) :
    ∃ v, K v = r ∧ ∀ (w0 : World) (base U : Nat) (σ : Sub) (w : World) (x : Value), RoOK ro w0 base → Rel w0 base U σ G w → VR σ p x →
      ∃ a y, x = .pointer (some a) ∧ (loadVar t a).run P w = .ok y w ∧ VR σ v y := by
  unfold loadA at h
  obtain ⟨c, o, h, ok⟩ := ldC_ok h hne
  rw [br_eq] at h
  by_cases ha : ti.agg = true
  · rw [if_pos ha, takeX_eq, dropL_eq] at h
    split at h
    · rename_i hl
      refine ⟨_, h, fun w0 base U σ w x hro hr hx => ?_⟩
      obtain ⟨n, vs, ex, f, rfl, hc, h1, h2⟩ := ok w0 base U σ w x hro hr hx
      have hlen := h1.len
      have hk : ti.size ≤ ((vs ++ ex).drop o).length := by simp at hl ⊢; omega
      refine ⟨_, .agg (((vs ++ ex).drop o).take ti.size).toArray, rfl, ?_, ?_⟩
      · simp only [loadVar, Sem.run_bind, ht.run_agg, Result.andThen_ok, ha, if_true, ht.run_size, run_loadCells' hc hk, Sem.run_pure]
      · simp only [VR]
        have e : ((vs ++ ex).drop o).take ti.size = (vs.drop o).take ti.size := by
          by_cases h0 : ti.size = 0
          · simp [h0]
          · have : o ≤ vs.length := by simp at hl; omega
            rw [List.drop_append_of_le_length this, List.take_append_of_le_length (by simp at hl ⊢; omega)]
        rw [e]
        exact ⟨_, (h1.drop o).take ti.size, fun y hy => h2 y (List.mem_of_mem_drop (List.mem_of_mem_take hy)), rfl⟩
    · exact absurd h hne
  · rw [if_neg ha] at h
    obtain ⟨v, hv, h⟩ := om_inv h hne
    rw [nthL_eq] at hv
    refine ⟨v, h, fun w0 base U σ w x hro hr hx => ?_⟩
    obtain ⟨n, vs, ex, f, rfl, hc, h1, h2⟩ := ok w0 base U σ w x hro hr hx
    obtain ⟨y, hy, hvy⟩ := h1.get o hv
    have hlt : o < vs.length := by
      rcases Nat.lt_or_ge o vs.length with h | h
      · exact h
      · rw [List.getElem?_eq_none h] at hy; cases hy
    have hcell : w.cell? ⟨n, o, none⟩ = some y := by
      rw [cell_at hc, List.getElem?_append_left hlt]; exact hy
    refine ⟨_, y, rfl, ?_, hvy⟩
    simp only [loadVar, Sem.run_bind, ht.run_agg, Result.andThen_ok, ha, Bool.false_eq_true, if_false, run_load, hcell]
end ld

theorem putL_app {α : Type} {l m x : List α} {i : Nat} (h : i + x.length ≤ l.length) : putL (l ++ m) i x = putL l i x ++ m := by
  unfold putL
  rw [List.take_append_of_le_length (by omega), List.drop_append_of_le_length (by omega)]
  simp
theorem mem_putL {α : Type} {l x : List α} {i : Nat} {y : α} (h : y ∈ putL l i x) : y ∈ l ∨ y ∈ x := by
  unfold putL at h
  rcases List.mem_append.1 h with h | h
  · rcases List.mem_append.1 h with h | h
    · exact .inl (List.mem_of_mem_take h)
    · exact .inr h
  · exact .inl (List.mem_of_mem_drop h)

section st
variable {R : Type} {G : AG} {no r : R}
theorem stC_ok {b : Pth} {o : Nat} {l : List AV} {K : AG → R} (h : stC G b o l no K = r) (hne : no ≠ r) :
    ∃ G', K G' = r ∧ G'.nx = G.nx ∧ ∀ (P : Program) (w0 : World) (base U : Nat) (σ : Sub) (w : World) (n : Nat) (ws : List Value), Rel w0 base U σ G w → σ.blk b = some n → VRs σ l ws → (∀ y ∈ ws, y.oneCell' = true) →
      ∃ w', (storeCells ⟨n, o, none⟩ ws).run P w = .ok () w' ∧ Ext w0 base U σ G w σ G' w' := by
  unfold stC at h
  obtain ⟨x, hx, h⟩ := om_inv h hne
  split at h
  · rename_i c
    obtain ⟨hm, h⟩ := br_inv h hne
    rw [putX_eq] at h
    split at h
    · rename_i hl
      rw [AG.setK_eq] at h
      refine ⟨_, h, rfl, fun P w0 base U σ w n ws hr hn hv h1 => ?_⟩
      obtain ⟨n', vs, ex, f, hn', hbn, hc, hvs, hone, hex, hop, hf⟩ := hr.cells hx
      rw [hn] at hn'; cases hn'
      have hlw := hv.len
      have hlv := hvs.len
      have hfr : ∀ j, j < ws.length → ¬ (f.1 ≤ o + 0 + j ∧ o + 0 + j < f.2) := by
        intro j hj
        unfold mayW at hm
        split at hm <;> rename_i e <;> rw [e] at hf <;> simp only [FzR] at hf <;> (try subst hf)
        · simp
        · rename_i lo hi
          rw [br_eq] at hm
          by_cases h2 : Nat.ble (Nat.add o (lenL l)) lo = true
          · have h3 : o + l.length ≤ lo := by rw [← lenL_eq]; exact ble_iff.1 h2
            show ¬ (lo ≤ o + 0 + j ∧ o + 0 + j < hi)
            omega
          · rw [if_neg h2] at hm
            have := ble_iff.1 hm
            show ¬ (lo ≤ o + 0 + j ∧ o + 0 + j < hi)
            omega
        · show ¬ ((vs ++ ex).length ≤ o + 0 + j ∧ _)
          simp; omega
        · rcases hf with hf | hf <;> subst hf
          · simp
          · show ¬ ((vs ++ ex).length ≤ o + 0 + j ∧ _)
            simp; omega
      have hrun := run_storeCells (P := P) ws w n o 0 (vs ++ ex) c.el f hc (by simp; omega) hfr h1
      refine ⟨_, hrun, ?_⟩
      rw [putL_app (by omega)]
      have hpl : (putL vs (o + 0) ws).length = vs.length := putL_length _ _ _ (by omega)
      refine hr.setB hx hn ⟨putL vs (o + 0) ws, ex, f, rfl, hvs.put o hv, ?_, hex, ?_, ?_⟩
      · intro y hy
        rcases mem_putL hy with hy | hy
        · exact hone y hy
        · exact h1 y hy
      · intro he
        have := hop he
        simp only [List.length_append] at this ⊢
        rw [hpl]; exact this
      · have : (putL vs (o + 0) ws ++ ex).length = (vs ++ ex).length := by simp only [List.length_append, hpl]
        rw [this]; exact hf
    · exact absurd h hne
  · exact absurd h hne
theorem storeA_ok {P : Program} {t : TypeId} {ti : TI} {d : TypeDesc} {i : TypeInfo} {z : Value} (ht : TIok P t ti d i z) {p v : AV} {K : AG → R} (h : storeA G ti p v no K = r) (hne : no ≠ r) :
    ∃ G', K G' = r ∧ G'.nx = G.nx ∧ ∀ (w0 : World) (base U : Nat) (σ : Sub) (w : World) (x y : Value), Rel w0 base U σ G w → VR σ p x → VR σ v y →
      ∃ a w', x = .pointer (some a) ∧ (storeVar t a y).run P w = .ok () w' ∧ Ext w0 base U σ G w σ G' w' := by
  unfold storeA at h
  split at h
  · rename_i b o
    split at h
    · rename_i l
      obtain ⟨hs, h⟩ := br_inv h hne
      obtain ⟨G', hG, hnx, ok⟩ := stC_ok h hne
      refine ⟨G', hG, hnx, fun w0 base U σ w x y hr hx hy => ?_⟩
      simp only [VR] at hx hy
      obtain ⟨n, hn, rfl⟩ := hx
      obtain ⟨cs, hcs, h1, rfl⟩ := hy
      obtain ⟨w', hw, hext⟩ := ok P w0 base U σ w n cs hr hn hcs h1
      refine ⟨_, w', rfl, ?_, hext⟩
      have hsz : cs.length = ti.size := by rw [hcs.len, ← lenL_eq]; exact beq_iff.1 hs
      simp [storeVar, Value.cells, ht.run_size, hsz, hw]
    · exact absurd h hne
    · rename_i n1 n2
      obtain ⟨hs, h⟩ := br_inv h hne
      obtain ⟨G', hG, hnx, ok⟩ := stC_ok h hne
      refine ⟨G', hG, hnx, fun w0 base U σ w x y hr hx hy => ?_⟩
      simp only [VR] at hx
      obtain ⟨n, hn, rfl⟩ := hx
      have hone : isOne v = true := by
        cases v <;> first | rfl | (exact absurd rfl (n1 _)) | (exact absurd rfl (n2 _))
      have h1 := isOne_ok hone hy
      obtain ⟨w', hw, hext⟩ := ok P w0 base U σ w n [y] hr hn (VRs.cons hy VRs.nil) (fun q hq => by simp at hq; subst hq; exact h1)
      refine ⟨_, w', rfl, ?_, hext⟩
      have hc : y.cells = #[y] := by cases y <;> first | rfl | (cases h1; done)
      have hsz : ti.size = 1 := beq_iff.1 hs
      simp [storeVar, hc, ht.run_size, hsz, hw]
  · exact absurd h hne
end st

section newb
variable {R : Type} {G : AG} {no r : R}
/-- a new block of known cells -/
theorem newCells_ok {el : TypeId} {es : Nat} {l : List AV} {K : Pth → AG → R} (h : newCells G el es l K = r) :
    K G.nx (G.new (.cells ⟨el, es, false, .no, l⟩)) = r ∧ ∀ (w0 : World) (base U : Nat) (σ : Sub) (w : World) (cs : List Value), Rel w0 base U σ G w → VRs σ l cs → (∀ y ∈ cs, y.oneCell' = true) → G.nx.num < U →
      Ext w0 base U σ G w (σ.upd G.nx w.heap.size 0) (G.new (.cells ⟨el, es, false, .no, l⟩)) { w with heap := w.heap.push (.cells cs.toArray el) } := by
  unfold newCells at h
  rw [AG.newK_eq] at h
  refine ⟨h, fun w0 base U σ w cs hr hl h1 hU => ?_⟩
  have hle := Sub.upd_le (hr.undef _ (Nat.le_refl _) hU) w.heap.size 0
  exact hr.newB hU ⟨cs, [], (0, 0), by simp, hl.mono hle, h1, fun _ => rfl, fun e => (by cases e), rfl⟩
theorem nx_new (G : AG) (x : AB) : (G.new x).nx.num = G.nx.num + 1 := Pth.num_suc _
theorem VR_new {σ : Sub} {b : Pth} {n c o : Nat} : VR (σ.upd b n c) (.ptr b o) (.pointer (some ⟨n, o, none⟩)) := by simp only [VR]; exact ⟨n, Sub.upd_at .., rfl⟩
end newb

section ok
variable {P : Program} {ro : Nat → Option CB} {T : Tr AV} {G G' : AG} {v : AV} {d : Option Nat} {t0 : TypeId} {pos : String} {af : Array Edge} {g : Option (Nat × Bool)}
theorem aLoad_ok {t : TypeId} {a : Operand} (h : aLoad t a P ro T G = .ok v G') : OpOK P ro T G ⟨d, .load t a, t0, pos, af, g⟩ v G' := by
  obtain ⟨ti, hti, h⟩ := om_inv h nofun
  obtain ⟨d', i, z, ht⟩ := mkTI_ok hti
  obtain ⟨p, hp, h⟩ := opd_inv h nofun
  obtain ⟨v', hv, ok⟩ := loadA_ok ht h nofun
  cases hv
  refine .pure fun w0 base U σ w ρ hro hr hρ => ?_
  obtain ⟨a', y, e, hy, hvy⟩ := ok w0 base U σ w (ρ a) hro hr (hρ a p hp)
  exact ⟨y, by simp only [execOp, Instr.loadAt, e, Instr.sureAddr, Sem.run_bind, Sem.run_pure, Result.andThen_ok, hy], hvy⟩
theorem aStore_ok {t : TypeId} {a x : Operand} (h : aStore t a x P ro T G = .ok v G') : OpOK P ro T G ⟨d, .store t a x, t0, pos, af, g⟩ v G' := by
  obtain ⟨ti, hti, h⟩ := om_inv h nofun
  obtain ⟨d', i, z, ht⟩ := mkTI_ok hti
  obtain ⟨p, hp, h⟩ := opd_inv h nofun
  obtain ⟨q, hq, h⟩ := opd_inv h nofun
  obtain ⟨G1, hG, hnx, ok⟩ := storeA_ok ht h nofun
  cases hG
  refine ⟨by rw [hnx]; exact Nat.le_refl _, fun w0 base U σ w ρ hro hr hρ _ => ?_⟩
  obtain ⟨a', w', e, hy, hext⟩ := ok w0 base U σ w (ρ a) (ρ x) hr (hρ a p hp) (hρ x q hq)
  exact ⟨σ, w', undef, .inr ⟨by simp only [execOp, Instr.storeAt, e, Instr.sureAddr, Sem.run_bind, Sem.run_pure, Result.andThen_ok, hy], rfl⟩, VR_undef σ, hext⟩
theorem aAlloc_ok {e : TypeId} (h : aAlloc e P ro T G = .ok v G') : OpOK P ro T G ⟨d, .alloc e, t0, pos, af, g⟩ v G' := by
  obtain ⟨ti, hti, h⟩ := om_inv h nofun
  obtain ⟨d', i, z, ht⟩ := mkTI_ok hti
  obtain ⟨h, ok⟩ := newCells_ok h
  cases h
  refine ⟨by rw [nx_new]; omega, fun w0 base U σ w ρ hro hr hρ hU => ?_⟩
  have hext := ok w0 base U σ w z.cells.toList hr (ofVs_ok ht.zs) (ofVs_one ht.zs) (by rw [nx_new] at hU; omega)
  refine ⟨_, _, .pointer (some ⟨w.heap.size, 0, none⟩), .inl ?_, VR_new, hext⟩
  simp [execOp, Instr.alloc, ht.run_zero, newVar, newRow]
theorem aBox_ok {e : TypeId} {x : Operand} (h : aBox e x P ro T G = .ok v G') : OpOK P ro T G ⟨d, .box e x, t0, pos, af, g⟩ v G' := by
  obtain ⟨ti, hti, h⟩ := om_inv h nofun
  obtain ⟨d', i, z, ht⟩ := mkTI_ok hti
  obtain ⟨a, ha, h⟩ := opd_inv h nofun
  split at h
  · rename_i l
    obtain ⟨h, ok⟩ := newCells_ok h
    cases h
    refine ⟨by rw [nx_new]; omega, fun w0 base U σ w ρ hro hr hρ hU => ?_⟩
    have hv := hρ x _ ha
    simp only [VR] at hv
    obtain ⟨cs, hcs, h1, e1⟩ := hv
    have hext := ok w0 base U σ w cs hr hcs h1 (by rw [nx_new] at hU; omega)
    refine ⟨_, _, .pointer (some ⟨w.heap.size, 0, none⟩), .inl ?_, VR_new, hext⟩
    simp [execOp, Instr.box, newVar, newRow, e1, Value.cells]
  · cases h
  · rename_i n1 n2
    have hone : isOne a = true := by
      cases a <;> first | rfl | (exact absurd rfl (n1 _)) | (exact absurd rfl (n2 _))
    obtain ⟨h, ok⟩ := newCells_ok h
    cases h
    refine ⟨by rw [nx_new]; omega, fun w0 base U σ w ρ hro hr hρ hU => ?_⟩
    have hv := hρ x _ ha
    have h1 := isOne_ok hone hv
    have hc : (ρ x).cells = #[ρ x] := by
      revert h1
      cases ρ x <;> first | (intro _; rfl) | (intro e; cases e)
    have hext := ok w0 base U σ w [ρ x] hr (VRs.cons hv VRs.nil) (fun q hq => by simp at hq; subst hq; exact h1) (by rw [nx_new] at hU; omega)
    refine ⟨_, _, .pointer (some ⟨w.heap.size, 0, none⟩), .inl ?_, VR_new, hext⟩
    simp [execOp, Instr.box, newVar, newRow, hc]
end ok
end Go.Ev

/-! Soundness of the evaluator's operations, part five: literals, addresses, parts, pieces. -/
namespace Go.Ev
open Go Go.RowKit

/-! ### Literals -/
theorem foldl_put : ∀ (vs : List Value) (off k : Nat) (arr : Array Value), off + k + vs.length ≤ arr.size →
    ((vs.zipIdx k).foldl (fun cs (p : Value × Nat) => cs.setIfInBounds (off + p.2) p.1) arr).toList = putL arr.toList (off + k) vs
  | [], off, k, arr, _ => by simp [putL]
  | v :: vs, off, k, arr, h => by
    simp only [List.length_cons] at h
    rw [List.zipIdx_cons, List.foldl_cons, foldl_put vs off (k + 1) _ (by simp; omega)]
    rw [Array.toList_setIfInBounds, show off + (k + 1) = off + k + 1 by omega]
    exact putL_snoc arr.toList (off + k) v vs (by simp; omega)
theorem fill_step {place : Nat → Option (Nat × Nat)} {cs : List Value} {i off size : Nat} {v : Value} {rest : List (Nat × Value)} (hp : place i = some (off, size)) (hs : v.cells.size = size) (hl : off + size ≤ cs.length) :
    Instr.fill place cs.toArray ((i, v) :: rest) = Instr.fill place (putL cs off v.cells.toList).toArray rest := by
  rw [Instr.fill]
  simp only [hp]
  rw [if_neg (by simp [hs]; omega)]
  congr 1
  apply Array.ext'
  have := foldl_put v.cells.toList off 0 cs.toArray (by simp [hs]; omega)
  rw [Nat.add_zero] at this
  simp only at this ⊢
  rw [← this, ← Array.foldl_toList, Array.toList_zipIdx]

section fill
variable {R : Type} {no r : R} {T : Tr AV}
theorem fillK_ok {place place' : Nat → Option (Nat × Nat)} (hpp : ∀ i q, place i = some q → place' i = some q) : ∀ {ps : List (Nat × Operand)} {l : List AV} {K : List AV → R}, fillK T place ps no l K = r → no ≠ r →
    ∃ l', K l' = r ∧ ∀ (σ : Sub) (ρ : Operand → Value) (cs : List Value), (∀ x a, OpdR T x a → VR σ a (ρ x)) → VRs σ l cs → (∀ y ∈ cs, y.oneCell' = true) →
      ∃ cs', Instr.fill place' cs.toArray (ps.map fun p => (p.1, ρ p.2)) = some cs'.toArray ∧ VRs σ l' cs' ∧ (∀ y ∈ cs', y.oneCell' = true)
  | [], l, K, h, _ => ⟨l, h, fun σ ρ cs _ hl h1 => ⟨cs, rfl, hl, h1⟩⟩
  | p :: ps, l, K, h, hne => by
    have h' : om (place p.1) no (fun q => opd T p.2 no fun v => match v with
      | .agg x => br (Nat.beq (lenL x) q.2) (putX no x q.1 l fun l => fillK T place ps no l K) no
      | .tup _ => no
      | v => br (Nat.beq 1 q.2) (putX no [v] q.1 l fun l => fillK T place ps no l K) no) = r := h
    obtain ⟨q, hq, h1⟩ := om_inv h' hne
    obtain ⟨v, hv, h2⟩ := opd_inv h1 hne
    have main : ∀ (x : List AV), (∀ (σ : Sub) (w : Value), VR σ v w → ∃ ws, w.cells = ws.toArray ∧ VRs σ x ws ∧ ∀ y ∈ ws, y.oneCell' = true) → x.length = q.2 → putX no x q.1 l (fun l => fillK T place ps no l K) = r →
        ∃ l', K l' = r ∧ ∀ (σ : Sub) (ρ : Operand → Value) (cs : List Value), (∀ x a, OpdR T x a → VR σ a (ρ x)) → VRs σ l cs → (∀ y ∈ cs, y.oneCell' = true) →
          ∃ cs', Instr.fill place' cs.toArray ((p :: ps).map fun p => (p.1, ρ p.2)) = some cs'.toArray ∧ VRs σ l' cs' ∧ (∀ y ∈ cs', y.oneCell' = true) := by
      intro x hx hlen h3
      rw [putX_eq] at h3
      split at h3
      · rename_i hb
        obtain ⟨l', hl', ok⟩ := fillK_ok hpp h3 hne
        refine ⟨l', hl', fun σ ρ cs hρ hl h1 => ?_⟩
        obtain ⟨ws, hw, hws, hone⟩ := hx σ (ρ p.2) (hρ p.2 v hv)
        have hcl := hl.len
        have hwl := hws.len
        obtain ⟨cs', e, e1, e2⟩ := ok σ ρ (putL cs q.1 ws) hρ (hl.put q.1 hws) (fun y hy => by
          rcases mem_putL hy with hy | hy
          · exact h1 y hy
          · exact hone y hy)
        refine ⟨cs', ?_, e1, e2⟩
        rw [List.map_cons, fill_step (off := q.1) (size := q.2) (hpp _ _ hq) (by rw [hw]; simp; omega) (by omega), hw]
        exact e
      · exact absurd h3 hne
    split at h2
    · rename_i x
      obtain ⟨hs, h3⟩ := br_inv h2 hne
      refine main x (fun σ w hw => ?_) (by rw [← lenL_eq]; exact beq_iff.1 hs) h3
      simp only [VR] at hw
      obtain ⟨cs, hcs, h1, rfl⟩ := hw
      exact ⟨cs, rfl, hcs, h1⟩
    · exact absurd h2 hne
    · rename_i n1 n2
      obtain ⟨hs, h3⟩ := br_inv h2 hne
      have hone : isOne v = true := by
        cases v <;> first | rfl | (exact absurd rfl (n1 _)) | (exact absurd rfl (n2 _))
      refine main [v] (fun σ w hw => ?_) (beq_iff.1 hs) h3
      have h1 := isOne_ok hone hw
      refine ⟨[w], ?_, VRs.cons hw VRs.nil, fun y hy => by simp at hy; subst hy; exact h1⟩
      revert h1
      cases w <;> first | (intro _; rfl) | (intro e; cases e)
end fill

theorem allInfo_ok {P : Program} : ∀ {fs : List Field}, allInfo P (fs.map fun f => ⟨f.offset, f.type, P.cellsOf f.type, f.name == "_"⟩) = true → ∀ f ∈ fs, ∃ i, P.info? f.type = some i
  | [], _, f, hf => by cases hf
  | g :: fs, h, f, hf => by
    have h' : om (P.info? g.type) false (fun _ => allInfo P (fs.map fun f => ⟨f.offset, f.type, P.cellsOf f.type, f.name == "_"⟩)) = true := h
    obtain ⟨i, hi, h1⟩ := om_inv h' nofun
    rcases List.mem_cons.1 hf with rfl | hf
    · exact ⟨i, hi⟩
    · exact allInfo_ok h1 f hf
theorem run_mapM {α β : Type} {P : Program} {w : World} {f : α → Sem β} {g : α → β} : ∀ {l : List α}, (∀ x ∈ l, (f x).run P w = .ok (g x) w) → (l.mapM f).run P w = .ok (l.map g) w
  | [], _ => by simp
  | x :: l, h => by
    rw [List.mapM_cons]
    simp only [Sem.run_bind, h x (by simp), Result.andThen_ok, run_mapM (l := l) (fun y hy => h y (by simp [hy])), Sem.run_pure, List.map_cons]
theorem run_sizeOf_info {P : Program} {t : TypeId} {i : TypeInfo} (h : P.info? t = some i) (w : World) : (sizeOf t).run P w = .ok (P.cellsOf t) w := by
  simp [sizeOf, typeInfo, h, Program.cellsOf]

theorem repK_eq {R : Type} (n : Nat) (z : List AV) : ∀ K : List AV → R, repK n z K = K ((List.replicate n z).flatten) := by
  induction n with
  | zero => intro K; rfl
  | succ n ih =>
    intro K
    show repK n z (fun l => appK z l K) = _
    rw [ih, appK_eq]
    rw [List.replicate_succ, List.flatten_cons]
theorem VRs.flat {σ : Sub} {z : List AV} {zs : List Value} (h : VRs σ z zs) : ∀ n, VRs σ (List.replicate n z).flatten (List.replicate n zs).flatten
  | 0 => VRs.nil
  | n + 1 => by rw [List.replicate_succ, List.replicate_succ, List.flatten_cons, List.flatten_cons]; exact h.app (h.flat n)
/-- the cells of a row of zero values -/
theorem zeros_eq (zs : List Value) (n size : Nat) (hs : zs.length = size) : ((Array.range (n * size)).map fun i => zs.toArray[i % zs.toArray.size]!).toList = (List.replicate n zs).flatten := by
  by_cases h0 : size = 0
  · have : zs = [] := List.length_eq_zero_iff.1 (hs.trans h0)
    subst this
    subst h0
    simp
  · apply List.ext_getElem
    · simp [hs]
    · intro j h1 h2
      simp only [Array.length_toList, Array.size_map, Array.size_range] at h1
      simp only [Array.toList_map, Array.toList_range, List.getElem_map, List.getElem_range]
      have hj : j % zs.length < zs.length := Nat.mod_lt _ (by omega)
      have e1 : zs.toArray[j % zs.toArray.size]! = zs[j % zs.length] := by
        simp [hj]
      rw [e1]
      have key : ∀ (n : Nat) (j : Nat) (h : j < ((List.replicate n zs).flatten).length), ((List.replicate n zs).flatten)[j] = zs[j % zs.length]'(Nat.mod_lt _ (by omega)) := by
        intro n
        induction n with
        | zero => intro j h; simp at h
        | succ n ih =>
          intro j h
          simp only [List.replicate_succ, List.flatten_cons]
          by_cases hlt : j < zs.length
          · rw [List.getElem_append_left hlt]
            congr 1
            rw [Nat.mod_eq_of_lt hlt]
          · rw [List.getElem_append_right (by omega), ih]
            congr 1
            rw [← Nat.mod_eq_sub_mod (by omega)]
      exact (key n j h2).symm

section ok
variable {P : Program} {ro : Nat → Option CB} {T : Tr AV} {G G' : AG} {v : AV} {d : Option Nat} {t0 : TypeId} {pos : String} {af : Array Edge} {g : Option (Nat × Bool)}
theorem aBuild_ok {t : TypeId} {ps : Array (Nat × Operand)} (h : aBuild t ps P ro T G = .ok v G') : OpOK P ro T G ⟨d, .build t ps, t0, pos, af, g⟩ v G' := by
  obtain ⟨ti, hti, h⟩ := om_inv h nofun
  obtain ⟨d', i, z, ht⟩ := mkTI_ok hti
  have hmap : ∀ ρ : Operand → Value, (ps.map fun (i, x) => (i, ρ x)).toList = ps.toList.map fun p => (p.1, ρ p.2) := fun ρ => by simp
  split at h
  · rename_i fs e
    obtain ⟨fd, e', hfs⟩ := mkTK_struct (P := P) (d := d') (by rw [← ht.k, e])
    obtain ⟨hall, h⟩ := br_inv h nofun
    rw [hfs] at hall
    have hinfo := allInfo_ok hall
    let place' : Nat → Option (Nat × Nat) := fun j => (fd.map fun f => (f.offset, P.cellsOf f.type))[j]?
    obtain ⟨l', hl', ok⟩ := fillK_ok (place' := place') (fun j q hq => by
      obtain ⟨f, hf, hq⟩ := om_inv hq nofun
      cases hq
      rw [nthL_eq, hfs, List.getElem?_map] at hf
      show (fd.map fun f => (f.offset, P.cellsOf f.type))[j]? = _
      rw [Array.getElem?_map]
      rw [Array.getElem?_toList] at hf
      cases hfj : fd[j]? with
      | none => rw [hfj] at hf; cases hf
      | some f0 => rw [hfj] at hf; cases hf; rfl) h nofun
    cases hl'
    refine .pure fun w0 base U σ w ρ _ hr hρ => ?_
    obtain ⟨cs', e1, e2, e3⟩ := ok σ ρ z.cells.toList hρ (ofVs_ok ht.zs) (ofVs_one ht.zs)
    refine ⟨.agg cs'.toArray, ?_, by simp only [VR]; exact ⟨cs', e2, e3, rfl⟩⟩
    have hpl : (fd.mapM fun (f : Field) => (do pure (f.offset, ← sizeOf f.type) : Sem (Nat × Nat))).run P w = .ok (fd.map fun f => (f.offset, P.cellsOf f.type)) w := by
      rw [Array.mapM_eq_mapM_toList]
      simp only [Sem.run_map]
      rw [run_mapM (g := fun f : Field => (f.offset, P.cellsOf f.type)) (fun f hf => by
        obtain ⟨i, hi⟩ := hinfo f hf
        simp [run_sizeOf_info hi w])]
      simp only [Result.andThen_ok]
      congr 1
      apply Array.ext'
      simp
    simp only [execOp, Instr.build, Sem.run_bind, ht.run_zero, ht.run_und, Result.andThen_ok, e', hpl, hmap]
    rw [show z.cells = z.cells.toList.toArray from rfl, show (fun x => (Array.map (fun f => (f.offset, P.cellsOf f.type)) fd)[x]?) = place' from rfl, e1]
    rfl
  · rename_i n el e
    obtain ⟨te, hte, h⟩ := om_inv h nofun
    obtain ⟨de, ie, ze, hee⟩ := mkTI_ok hte
    have hde := mkTK_arr (P := P) (d := d') (by rw [← ht.k, e])
    obtain ⟨l', hl', ok⟩ := fillK_ok (place' := fun i => some (i * te.size, te.size)) (fun j q hq => hq) h nofun
    cases hl'
    refine .pure fun w0 base U σ w ρ _ hr hρ => ?_
    obtain ⟨cs', e1, e2, e3⟩ := ok σ ρ z.cells.toList hρ (ofVs_ok ht.zs) (ofVs_one ht.zs)
    refine ⟨.agg cs'.toArray, ?_, by simp only [VR]; exact ⟨cs', e2, e3, rfl⟩⟩
    simp only [execOp, Instr.build, Sem.run_bind, ht.run_zero, ht.run_und, Result.andThen_ok, hde, hee.run_size, hmap]
    rw [show z.cells = z.cells.toList.toArray from rfl, e1]
    rfl
  · cases h
theorem aBuildSlice_ok {t : TypeId} {n : Nat} {ps : Array (Nat × Operand)} (h : aBuildSlice t n ps P ro T G = .ok v G') : OpOK P ro T G ⟨d, .buildSlice t n ps, t0, pos, af, g⟩ v G' := by
  obtain ⟨ti, hti, h⟩ := om_inv h nofun
  obtain ⟨d', i, z, ht⟩ := mkTI_ok hti
  have hmap : ∀ ρ : Operand → Value, (ps.map fun (i, x) => (i, ρ x)).toList = ps.toList.map fun p => (p.1, ρ p.2) := fun ρ => by simp
  split at h
  · rename_i el e
    obtain ⟨te, hte, h⟩ := om_inv h nofun
    obtain ⟨de, ie, ze, hee⟩ := mkTI_ok hte
    have hde := mkTK_slice (P := P) (d := d') (by rw [← ht.k, e])
    obtain ⟨hle, h⟩ := br_inv h nofun
    obtain ⟨hzl, h⟩ := br_inv h nofun
    rw [repK_eq] at h
    obtain ⟨l', hl', ok⟩ := fillK_ok (place' := fun i => some (i * te.size, te.size)) (fun j q hq => hq) h nofun
    obtain ⟨h2, ok2⟩ := newCells_ok hl'
    cases h2
    refine ⟨by rw [nx_new]; omega, fun w0 base U σ w ρ hro hr hρ hU => ?_⟩
    have hz := (ofVs_ok hee.zs : VRs σ te.zero ze.cells.toList)
    have hzs : ze.cells.toList.length = te.size := by rw [hz.len, ← lenL_eq]; exact beq_iff.1 hzl
    have hone : ∀ y ∈ (List.replicate n ze.cells.toList).flatten, y.oneCell' = true := fun y hy => by
      obtain ⟨l, hl, hy⟩ := List.mem_flatten.1 hy
      rw [List.eq_of_mem_replicate hl] at hy
      exact ofVs_one hee.zs y hy
    obtain ⟨cs', e1, e2, e3⟩ := ok σ ρ _ hρ (hz.flat n) hone
    have hext := ok2 w0 base U σ w cs' hr e2 e3 (by rw [nx_new] at hU; omega)
    refine ⟨_, _, .slice (some ⟨w.heap.size, 0, none⟩) n n, .inl ?_, by simp only [VR]; exact ⟨w.heap.size, n, Sub.upd_at .., rfl, Nat.le_refl _, rfl⟩, hext⟩
    have hle' : ¬ (n * te.size > 2 ^ 24) := by have := ble_iff.1 hle; show ¬ (n * te.size > 16777216); exact Nat.not_lt.2 this
    have hcells : ∀ zc : Array Value, (n * te.size = 0 ∧ zc = #[] ∨ ¬ n * te.size = 0 ∧ zc = ze.cells) → ((Array.range (n * te.size)).map fun i => zc[i % zc.size]!) = ((List.replicate n ze.cells.toList).flatten).toArray := by
      intro zc hzc
      rcases hzc with ⟨h0, rfl⟩ | ⟨_, rfl⟩
      · have : (List.replicate n ze.cells.toList).flatten = [] := by
          apply List.length_eq_zero_iff.1
          simp only [List.length_flatten, List.map_replicate, List.sum_replicate_nat, hzs]; exact h0
        rw [this, h0]
        simp
      · apply Array.ext'
        exact zeros_eq ze.cells.toList n te.size hzs
    simp only [execOp, Instr.buildSlice, Sem.run_bind, ht.run_und, Result.andThen_ok, hde, hee.run_size, Sem.run_ite, if_neg hle', Sem.run_pure]
    by_cases h0 : n * te.size = 0
    · rw [if_pos h0]
      simp only [hcells #[] (.inl ⟨h0, rfl⟩), hmap, e1]
      simp [newRow]
    · rw [if_neg h0]
      simp only [hee.run_zero, Result.andThen_ok, hcells ze.cells (.inr ⟨h0, rfl⟩), hmap, e1]
      simp [newRow]
  · cases h
end ok
end Go.Ev

/-! Soundness of the evaluator's operations, part six: addresses, parts, pieces of slices, made things. -/
namespace Go.Ev
open Go Go.RowKit

theorem bytes_get (l : List UInt8) (i : Nat) : (ByteArray.mk l.toArray)[i]? = l[i]? := by
  have hs : (ByteArray.mk l.toArray).size = l.length := by simp [ByteArray.size]
  by_cases h : i < l.length
  · have h' : i < (ByteArray.mk l.toArray).size := by rw [hs]; exact h
    rw [List.getElem?_eq_getElem h, getElem?_pos (ByteArray.mk l.toArray) i h']
    rfl
  · have h' : ¬ i < (ByteArray.mk l.toArray).size := by rw [hs]; exact h
    rw [List.getElem?_eq_none (by omega), getElem?_neg (ByteArray.mk l.toArray) i h']
theorem bytes_size (l : List UInt8) : (ByteArray.mk l.toArray).size = l.length := by simp [ByteArray.size]
theorem bytes_extract (l : List UInt8) (a b : Nat) : (ByteArray.mk l.toArray).extract a b = ⟨((l.drop a).take (b - a)).toArray⟩ := by
  apply ByteArray.ext
  rw [ByteArray.data_extract]
  apply Array.ext'
  simp [List.extract]

section bounds
variable {R : Type} {no r : R}
/-- what stands behind an optional bound -/
def OptR (σ : Sub) (a : Option AV) (x : Option Value) : Prop := match a, x with
  | none, none => True
  | some a, some x => VR σ a x
  | _, _ => False
theorem boundK_ok {v : Option AV} {dflt y : Nat} {K : Nat → R} (h : boundK v dflt y no K = r) (hne : no ≠ r) :
    ∃ i, K i = r ∧ (v = none → i = dflt) ∧ ∀ (P : Program) (w : World) (σ : Sub) (x : Option Value) (y' : Nat) (c : BoundsCode), y ≤ y' → OptR σ v x → (match x with | some u => (Instr.sliceBound u y' c).run P w = .ok i w | none => True) ∧ (v ≠ none → i ≤ y) := by
  unfold boundK at h
  rw [om_eq] at h
  cases v with
  | none => exact ⟨_, h, fun _ => rfl, fun P w σ x y' c _ hx => by cases x with | none => exact ⟨trivial, fun e => absurd rfl e⟩ | some u => exact hx.elim⟩
  | some a =>
    obtain ⟨k, i, e, h1⟩ := asN_inv h hne
    obtain ⟨hi, h2⟩ := br_inv h1 hne
    have hi' : i ≤ y := ble_iff.1 hi
    refine ⟨i, h2, fun e => (by cases e), fun P w σ x y' c hy hx => ?_⟩
    cases x with
    | none => exact hx.elim
    | some u =>
      subst e
      simp only [OptR, VR] at hx
      subst hx
      refine ⟨?_, fun _ => hi'⟩
      simp only [Instr.sliceBound, asIntOf, Sem.run_bind, Sem.run_pure, Result.andThen_ok]
      rw [if_pos ⟨Int.natCast_nonneg i, by show ((i : Nat) : Int) ≤ _; omega⟩]
      rfl
theorem boundH_ok {v mx : Option AV} {dflt y : Nat} {K : Nat → R} (h : boundH v mx dflt y no K = r) (hne : no ≠ r) :
    ∃ i, K i = r ∧ (v = none → i = dflt ∧ mx = none) ∧ ∀ (P : Program) (w : World) (σ : Sub) (x : Option Value) (y' : Nat) (c : BoundsCode), y ≤ y' → OptR σ v x → (match x with | some u => (Instr.sliceBound u y' c).run P w = .ok i w | none => True) ∧ (v ≠ none → i ≤ y) := by
  unfold boundH at h
  rw [om_eq] at h
  cases v with
  | none =>
    rw [om_eq] at h
    cases mx with
    | none => exact ⟨_, h, fun _ => ⟨rfl, rfl⟩, fun P w σ x y' c _ hx => by cases x with | none => exact ⟨trivial, fun e => absurd rfl e⟩ | some u => exact hx.elim⟩
    | some m => exact absurd h hne
  | some a =>
    obtain ⟨i, h1, _, h3⟩ := boundK_ok (v := some a) (dflt := 0) (y := y) (K := K) (no := no) (r := r) (by unfold boundK; rw [om_eq]; exact h) hne
    exact ⟨i, h1, fun e => (by cases e), h3⟩

/-- the three bounds -/
theorem run_bounds {P : Program} {w : World} {isS : Bool} {len cap m h l : Nat} {lo hi mx : Option Value} (hm : match mx with | some v => ∀ c, (Instr.sliceBound v cap c).run P w = .ok m w | none => m = cap)
    (hh : match hi with | some v => ∀ c, (Instr.sliceBound v m c).run P w = .ok h w | none => h = len ∧ mx = none) (hl : match lo with | some v => ∀ c, (Instr.sliceBound v h c).run P w = .ok l w | none => l = 0) :
    (Instr.sliceBounds isS len cap lo hi mx).run P w = .ok (l, h, m) w := by
  unfold Instr.sliceBounds
  cases mx with
  | none =>
    simp only at hm
    subst hm
    cases hi with
    | none =>
      obtain ⟨rfl, _⟩ := hh
      cases lo with
      | none => simp only at hl; subst hl; simp
      | some v => simp only at hl; simp [hl]
    | some u =>
      simp only at hh
      cases lo with
      | none => simp only at hl; subst hl; simp [hh]
      | some v => simp only at hl; simp [hl, hh]
  | some q =>
    simp only at hm
    cases hi with
    | none => exact absurd hh.2 (by simp)
    | some u =>
      simp only at hh
      cases lo with
      | none => simp only at hl; subst hl; simp [hh, hm]
      | some v => simp only at hl; simp [hl, hh, hm]
end bounds

/-- bounds of a piece, in one -/
theorem bounds3 {R : Type} {no r : R} {lo hi mx : Option AV} {len cap : Nat} {K : Nat → Nat → Nat → R}
    (h : (boundK mx cap cap no fun m => boundH hi mx len m no fun h => boundK lo 0 h no fun l => K m h l) = r) (hne : no ≠ r) :
    ∃ m h l, K m h l = r ∧ m ≤ cap ∧ l ≤ h ∧ (len ≤ cap → h ≤ m) ∧ ∀ (P : Program) (w : World) (σ : Sub) (isS : Bool) (xl xh xm : Option Value), OptR σ lo xl → OptR σ hi xh → OptR σ mx xm → (Instr.sliceBounds isS len cap xl xh xm).run P w = .ok (l, h, m) w := by
  obtain ⟨m, h1, em, okm⟩ := boundK_ok h hne
  obtain ⟨hh, h2, eh, okh⟩ := boundH_ok h1 hne
  obtain ⟨l, h3, el, okl⟩ := boundK_ok h2 hne
  have none_of : ∀ {σ : Sub} {a : Option AV} {x : Option Value}, OptR σ a x → (a = none ↔ x = none) := fun {σ a x} h => by cases a <;> cases x <;> simp_all [OptR]
  have σ0 : Sub := ⟨fun _ => none, fun _ => 0, fun _ => none⟩
  have hm' : m ≤ cap := by
    by_cases e : mx = none
    · rw [em e]; exact Nat.le_refl _
    · obtain ⟨a, rfl⟩ := Option.ne_none_iff_exists'.1 e
      obtain ⟨k, i, ea, q⟩ := asN_inv (by unfold boundK at h; rw [om_eq] at h; exact h) hne
      subst ea
      exact ((okm (default) (default) σ0 (some (.int k (Int.ofNat i))) cap .index (Nat.le_refl _) (by simp only [OptR, VR])).2 e)
  refine ⟨m, hh, l, h3, hm', ?_, ?_, ?_⟩
  · by_cases e : lo = none
    · rw [el e]; exact Nat.zero_le _
    · obtain ⟨a, rfl⟩ := Option.ne_none_iff_exists'.1 e
      obtain ⟨k, i, ea, q⟩ := asN_inv (by unfold boundK at h2; rw [om_eq] at h2; exact h2) hne
      subst ea
      exact ((okl (default) (default) σ0 (some (.int k (Int.ofNat i))) hh .index (Nat.le_refl _) (by simp only [OptR, VR])).2 e)
  · intro hlc
    by_cases e : hi = none
    · obtain ⟨e1, e2⟩ := eh e
      rw [e1, em e2]; exact hlc
    · obtain ⟨a, rfl⟩ := Option.ne_none_iff_exists'.1 e
      obtain ⟨k, i, ea, q⟩ := asN_inv (by unfold boundH at h1; rw [om_eq] at h1; exact h1) hne
      subst ea
      exact ((okh (default) (default) σ0 (some (.int k (Int.ofNat i))) m .index (Nat.le_refl _) (by simp only [OptR, VR])).2 e)
  · intro P w σ isS xl xh xm hl hhi hmx
    refine run_bounds ?_ ?_ ?_
    · cases xm with
      | none => exact em ((none_of hmx).2 rfl)
      | some v => exact fun c => (okm P w σ (some v) cap c (Nat.le_refl _) hmx).1
    · cases xh with
      | none => exact ⟨(eh ((none_of hhi).2 rfl)).1, (none_of hmx).1 (eh ((none_of hhi).2 rfl)).2⟩
      | some v => exact fun c => (okh P w σ (some v) m c (Nat.le_refl _) hhi).1
    · cases xl with
      | none => exact el ((none_of hl).2 rfl)
      | some v => exact fun c => (okl P w σ (some v) hh c (Nat.le_refl _) hl).1

theorem if_addr {n o l m sz : Nat} : (if m = l then (⟨n, o, none⟩ : Addr) else Addr.add ⟨n, o, none⟩ (l * sz)) = ⟨n, if m = l then o else o + l * sz, none⟩ := by
  split
  · rfl
  · rw [add_mk]

section sl
variable {R : Type} {no r : R}
theorem slEx_ok {sz o len cap : Nat} {b : Pth} {lo hi mx : Option AV} {K : AV → R} (h : slEx sz b o len cap lo hi mx no K = r) (hne : no ≠ r) :
    ∃ v, K v = r ∧ ∀ (P : Program) (w : World) (σ : Sub) (n : Nat) (isS : Bool) (xl xh xm : Option Value), σ.blk b = some n → len ≤ cap → OptR σ lo xl → OptR σ hi xh → OptR σ mx xm →
      ∃ l h m, (Instr.sliceBounds isS len cap xl xh xm).run P w = .ok (l, h, m) w ∧ VR σ v (.slice (some (if m = l then ⟨n, o, none⟩ else Addr.add ⟨n, o, none⟩ (l * sz))) (h - l) (m - l)) := by
  unfold slEx at h
  obtain ⟨m, hh, l, h1, hm, hl, hhm, ok⟩ := bounds3 h hne
  rw [fN_eq, fN_eq, fN_eq] at h1
  refine ⟨_, h1, fun P w σ n isS xl xh xm hn hlc h2 h3 h4 => ⟨l, hh, m, ok P w σ isS xl xh xm h2 h3 h4, ?_⟩⟩
  have := hhm hlc
  simp only [VR]
  refine ⟨n, m - l, hn, rfl, by show hh - l ≤ m - l; omega, ?_⟩
  rw [if_addr]
  congr 3
  rw [br_eq]
  by_cases e : m = l
  · rw [if_pos e, if_pos (beq_iff.2 e)]
  · rw [if_neg e, if_neg (fun q => e (beq_iff.1 q))]; rfl
theorem slSl_ok {sz : Nat} {x : AV} {lo hi mx : Option AV} {K : AV → R} (h : slSl sz x lo hi mx no K = r) (hne : no ≠ r) :
    ∃ v, K v = r ∧ ∀ (P : Program) (w : World) (σ : Sub) (u : Value) (xl xh xm : Option Value), VR σ x u → OptR σ lo xl → OptR σ hi xh → OptR σ mx xm →
      ∃ a len cap l h m, u = .slice a len cap ∧ (Instr.sliceBounds true len cap xl xh xm).run P w = .ok (l, h, m) w ∧ VR σ v (.slice (if m = l then a else a.map (·.add (l * sz))) (h - l) (m - l)) := by
  have ifm : ∀ {m l : Nat} {a b : Addr}, (if m = l then some a else some b) = some (if m = l then a else b) := fun {m l a b} => by split <;> rfl
  have none_of : ∀ {σ : Sub} {a : Option AV} {x : Option Value}, OptR σ a x → (a = none ↔ x = none) := fun {σ a x} h => by cases a <;> cases x <;> simp_all [OptR]
  unfold slSl at h
  split at h
  · rename_i b o len c
    split at h
    · rename_i cap
      obtain ⟨v, hv, ok⟩ := slEx_ok h hne
      refine ⟨v, hv, fun P w σ u xl xh xm hu h2 h3 h4 => ?_⟩
      simp only [VR] at hu
      obtain ⟨n, cp, hn, hc, hl, rfl⟩ := hu
      simp only [capR] at hc
      subst hc
      obtain ⟨l, hh, m, hr, hvr⟩ := ok P w σ n true xl xh xm hn hl h2 h3 h4
      refine ⟨_, _, _, l, hh, m, rfl, hr, ?_⟩
      simp only [Option.map_some, ifm]
      exact hvr
    · rename_i k
      unfold slOp at h
      rw [om_eq] at h
      cases mx with
      | none =>
        obtain ⟨hh, h1, eh, okh⟩ := boundH_ok h hne
        obtain ⟨l, h2, el, okl⟩ := boundK_ok h1 hne
        have hhl : hh ≤ len := by
          by_cases e : hi = none
          · exact Nat.le_of_eq (eh e).1
          · obtain ⟨a, rfl⟩ := Option.ne_none_iff_exists'.1 e
            obtain ⟨k, i, ea, q⟩ := asN_inv (by unfold boundH at h; rw [om_eq] at h; exact h) hne
            subst ea
            exact (okh default default ⟨fun _ => none, fun _ => 0, fun _ => none⟩ (some (.int k (Int.ofNat i))) len .index (Nat.le_refl _) (by simp only [OptR, VR])).2 e
        have hll : l ≤ hh := by
          by_cases e : lo = none
          · rw [el e]; exact Nat.zero_le _
          · obtain ⟨a, rfl⟩ := Option.ne_none_iff_exists'.1 e
            obtain ⟨k, i, ea, q⟩ := asN_inv (by unfold boundK at h1; rw [om_eq] at h1; exact h1) hne
            subst ea
            exact (okl default default ⟨fun _ => none, fun _ => 0, fun _ => none⟩ (some (.int k (Int.ofNat i))) hh .index (Nat.le_refl _) (by simp only [OptR, VR])).2 e
        have bounds : ∀ (P : Program) (w : World) (σ : Sub) (cp : Nat) (xl xh xm : Option Value), len ≤ cp → OptR σ lo xl → OptR σ hi xh → OptR σ none xm → (Instr.sliceBounds true len cp xl xh xm).run P w = .ok (l, hh, cp) w := by
          intro P w σ cp xl xh xm hlc hxl hxh hxm
          have : xm = none := (none_of hxm).1 rfl
          subst this
          refine run_bounds rfl ?_ ?_
          · cases xh with
            | none => exact ⟨(eh ((none_of hxh).2 rfl)).1, rfl⟩
            | some v => exact fun c => (okh P w σ (some v) cp c hlc hxh).1
          · cases xl with
            | none => exact el ((none_of hxl).2 rfl)
            | some v => exact fun c => (okl P w σ (some v) hh c (Nat.le_refl _) hxl).1
        rw [br_eq] at h2
        by_cases e0 : l = 0
        · rw [if_pos (beq_iff.2 e0)] at h2
          refine ⟨_, h2, fun P w σ u xl xh xm hu hxl hxh hxm => ?_⟩
          simp only [VR] at hu
          obtain ⟨n, cp, hn, hc, hl, rfl⟩ := hu
          refine ⟨_, _, _, l, hh, cp, rfl, bounds P w σ cp xl xh xm hl hxl hxh hxm, ?_⟩
          subst e0
          simp only [Option.map_some, ifm, VR]
          refine ⟨n, cp, hn, hc, by omega, ?_⟩
          rw [if_addr]
          simp
        · rw [if_neg (fun q => e0 (beq_iff.1 q)), br_eq] at h2
          by_cases e1 : l < len
          · rw [if_pos (ble_iff.2 e1), fN_eq, fN_eq, fN_eq] at h2
            refine ⟨_, h2, fun P w σ u xl xh xm hu hxl hxh hxm => ?_⟩
            simp only [VR] at hu
            obtain ⟨n, cp, hn, hc, hl, rfl⟩ := hu
            refine ⟨_, _, _, l, hh, cp, rfl, bounds P w σ cp xl xh xm hl hxl hxh hxm, ?_⟩
            simp only [Option.map_some, ifm, VR]
            simp only [capR] at hc
            refine ⟨n, cp - l, hn, by simp only [capR]; show cp - l + (k + l) = _; omega, by show hh - l ≤ cp - l; omega, ?_⟩
            rw [if_addr, if_neg (by omega)]
            rfl
          · rw [if_neg (fun q => e1 (ble_iff.1 q))] at h2
            refine ⟨_, h2, fun P w σ u xl xh xm hu hxl hxh hxm => ?_⟩
            simp only [VR] at hu
            obtain ⟨n, cp, hn, hc, hl, rfl⟩ := hu
            refine ⟨_, _, _, l, hh, cp, rfl, bounds P w σ cp xl xh xm hl hxl hxh hxm, ?_⟩
            simp only [Option.map_some, ifm, VR]
            have : hh - l = 0 := by omega
            rw [this]
            exact ⟨_, _, rfl⟩
      | some mv =>
        obtain ⟨km, m, em, h1⟩ := asN_inv h hne
        obtain ⟨hml, h2⟩ := br_inv h1 hne
        have hml' : m ≤ len := ble_iff.1 hml
        subst em
        have h3 : (boundK (some (.int km (Int.ofNat m))) m m no fun m => boundH hi (some (.int km (Int.ofNat m))) len m no fun h => boundK lo 0 h no fun l =>
            fN (br (Nat.beq m l) o (Nat.add o (Nat.mul l sz))) fun o => fN (Nat.sub h l) fun n => fN (Nat.sub m l) fun c => K (.sl b o n (.ex c))) = r := by
          unfold boundK
          rw [om_eq]
          show br (Nat.ble m m) _ no = r
          rw [br_eq, if_pos (ble_iff.2 (Nat.le_refl _))]
          exact h2
        obtain ⟨hh, h4, eh, okh⟩ := boundH_ok h2 hne
        obtain ⟨l, h5, el, okl⟩ := boundK_ok h4 hne
        have hhl : hh ≤ m := by
          by_cases e : hi = none
          · exact absurd (eh e).2 (by simp)
          · obtain ⟨a, rfl⟩ := Option.ne_none_iff_exists'.1 e
            obtain ⟨k, i, ea, q⟩ := asN_inv (by unfold boundH at h2; rw [om_eq] at h2; exact h2) hne
            subst ea
            exact (okh default default ⟨fun _ => none, fun _ => 0, fun _ => none⟩ (some (.int k (Int.ofNat i))) m .index (Nat.le_refl _) (by simp only [OptR, VR])).2 e
        have hll : l ≤ hh := by
          by_cases e : lo = none
          · rw [el e]; exact Nat.zero_le _
          · obtain ⟨a, rfl⟩ := Option.ne_none_iff_exists'.1 e
            obtain ⟨k, i, ea, q⟩ := asN_inv (by unfold boundK at h4; rw [om_eq] at h4; exact h4) hne
            subst ea
            exact (okl default default ⟨fun _ => none, fun _ => 0, fun _ => none⟩ (some (.int k (Int.ofNat i))) hh .index (Nat.le_refl _) (by simp only [OptR, VR])).2 e
        rw [fN_eq, fN_eq, fN_eq] at h5
        refine ⟨_, h5, fun P w σ u xl xh xm hu hxl hxh hxm => ?_⟩
        simp only [VR] at hu
        obtain ⟨n, cp, hn, hc, hl, rfl⟩ := hu
        cases xm with
        | none => exact hxm.elim
        | some vm =>
          simp only [OptR, VR] at hxm
          subst hxm
          refine ⟨_, _, _, l, hh, m, rfl, run_bounds ?_ ?_ ?_, ?_⟩
          · intro c
            simp only [Instr.sliceBound, asIntOf, Sem.run_bind, Sem.run_pure, Result.andThen_ok]
            rw [if_pos ⟨Int.natCast_nonneg m, by show ((m : Nat) : Int) ≤ _; omega⟩]
            rfl
          · cases xh with
            | none => exact absurd (eh ((none_of hxh).2 rfl)).2 (by simp)
            | some v => exact fun c => (okh P w σ (some v) m c (Nat.le_refl _) hxh).1
          · cases xl with
            | none => exact el ((none_of hxl).2 rfl)
            | some v => exact fun c => (okl P w σ (some v) hh c (Nat.le_refl _) hxl).1
          · simp only [Option.map_some, ifm, VR]
            refine ⟨n, m - l, hn, rfl, by show hh - l ≤ m - l; omega, ?_⟩
            rw [if_addr]
            congr 3
            rw [br_eq]
            by_cases e : m = l
            · rw [if_pos e, if_pos (beq_iff.2 e)]
            · rw [if_neg e, if_neg (fun q => e (beq_iff.1 q))]; rfl
  · obtain ⟨m, hh, l, h1, hm, hl, hhm, ok⟩ := bounds3 (K := fun _ _ _ => K .nils) h hne
    refine ⟨_, h1, fun P w σ u xl xh xm hu h2 h3 h4 => ?_⟩
    simp only [VR] at hu
    subst hu
    refine ⟨_, _, _, l, hh, m, rfl, ok P w σ true xl xh xm h2 h3 h4, ?_⟩
    have := hhm (Nat.le_refl _)
    have e1 : m = 0 := by omega
    have e2 : hh = 0 := by omega
    have e3 : l = 0 := by omega
    subst e1 e2 e3
    simp only [VR]; rfl
  · rw [om_eq] at h
    cases mx with
    | some m => exact absurd h hne
    | none =>
      obtain ⟨hh, h1, eh, okh⟩ := boundH_ok h hne
      obtain ⟨l, h2, el, okl⟩ := boundK_ok h1 hne
      have hhl : hh = 0 := by
        by_cases e : hi = none
        · exact (eh e).1
        · obtain ⟨a, rfl⟩ := Option.ne_none_iff_exists'.1 e
          obtain ⟨k, i, ea, q⟩ := asN_inv (by unfold boundH at h; rw [om_eq] at h; exact h) hne
          subst ea
          exact Nat.le_zero.1 ((okh default default ⟨fun _ => none, fun _ => 0, fun _ => none⟩ (some (.int k (Int.ofNat i))) 0 .index (Nat.le_refl _) (by simp only [OptR, VR])).2 e)
      have hll : l = 0 := by
        by_cases e : lo = none
        · exact el e
        · obtain ⟨a, rfl⟩ := Option.ne_none_iff_exists'.1 e
          obtain ⟨k, i, ea, q⟩ := asN_inv (by unfold boundK at h1; rw [om_eq] at h1; exact h1) hne
          subst ea
          exact Nat.le_zero.1 ((okl default default ⟨fun _ => none, fun _ => 0, fun _ => none⟩ (some (.int k (Int.ofNat i))) hh .index (Nat.zero_le _) (by simp only [OptR, VR])).2 e)
      refine ⟨_, h2, fun P w σ u xl xh xm hu hxl hxh hxm => ?_⟩
      simp only [VR] at hu
      obtain ⟨a, cp, rfl⟩ := hu
      have : xm = none := (none_of hxm).1 rfl
      subst this
      refine ⟨_, _, _, l, hh, cp, rfl, run_bounds rfl ?_ ?_, ?_⟩
      · cases xh with
        | none => exact ⟨(eh ((none_of hxh).2 rfl)).1, rfl⟩
        | some v => exact fun c => (okh P w σ (some v) cp c (Nat.zero_le _) hxh).1
      · cases xl with
        | none => exact el ((none_of hxl).2 rfl)
        | some v => exact fun c => (okl P w σ (some v) hh c (Nat.zero_le _) hxl).1
      · subst hhl hll
        simp only [Option.map_some, ifm, VR]
        exact ⟨_, _, rfl⟩
  · exact absurd h hne
end sl

section ok
variable {P : Program} {ro : Nat → Option CB} {T : Tr AV} {G G' : AG} {v : AV} {d : Option Nat} {t0 : TypeId} {pos : String} {af : Array Edge} {g : Option (Nat × Bool)}
theorem optV {σ : Sub} {ρ : Operand → Value} (hρ : ∀ x a, OpdR T x a → VR σ a (ρ x)) {x : Option Operand} {a : Option AV} (h : OptOR T x a) : OptR σ a (x.map ρ) := by
  cases x <;> cases a <;> first | exact h.elim | trivial | exact hρ _ _ h
theorem aSlice_ok {t : TypeId} {x : Operand} {lo hi mx : Option Operand} (h : aSlice t x lo hi mx P ro T G = .ok v G') : OpOK P ro T G ⟨d, .slice t x lo hi mx, t0, pos, af, g⟩ v G' := by
  replace h := opd_inv h nofun
  obtain ⟨a, ha, h⟩ := h
  replace h := opt_inv h nofun
  obtain ⟨l', hl, h⟩ := h
  replace h := opt_inv h nofun
  obtain ⟨h', hh, h⟩ := h
  replace h := opt_inv h nofun
  obtain ⟨m', hm, h⟩ := h
  unfold sliceA at h
  replace h := om_inv h nofun
  obtain ⟨ti, hti, h⟩ := h
  obtain ⟨d', i, z, ht⟩ := mkTI_ok hti
  split at h
  · rename_i e
    have hde := mkTK_str (P := P) (d := d') (by rw [← ht.k, e])
    split at h
    · rename_i s
      unfold slStr at h
      rw [om_eq] at h
      cases m' with
      | some q => cases h
      | none =>
        rw [fN_eq] at h
        have h3 : (boundK none (lenL s) (lenL s) (Ro.no 18) fun m => boundH h' none (lenL s) m (Ro.no 18) fun h => boundK l' 0 h (Ro.no 18) fun l => takeK (Nat.sub h l) (dropL l s) fun s => Ro.ok (.str s) G) = .ok v G' := by
          unfold boundK
          rw [om_eq]
          exact h
        obtain ⟨m, hh', l, h4, hm1, hl1, hhm, ok⟩ := bounds3 (K := fun m h l => takeK (Nat.sub h l) (dropL l s) fun s => Ro.ok (.str s) G) h3 nofun
        simp only [takeK_eq, dropL_eq] at h4
        cases h4
        refine .pure fun w0 base U σ w ρ _ hr hρ => ?_
        have hv := hρ x _ ha
        simp only [VR] at hv
        have hmx : mx = none := by cases mx <;> first | rfl | exact hm.elim
        subst hmx
        have hb := ok P w σ false _ _ none (optV hρ hl) (optV hρ hh) trivial
        rw [lenL_eq] at hb
        refine ⟨.string ⟨((s.drop l).take (hh' - l)).toArray⟩, ?_, by simp only [VR]; rfl⟩
        simp only [execOp, Instr.sliceAt, Instr.slice, Sem.run_bind, ht.run_und, Result.andThen_ok, hde, hv, Option.map_none, Option.isSome_none, Bool.false_eq_true, if_false, bytes_size, hb, Sem.run_pure, bytes_extract]
    · cases h
  · rename_i el e
    have hde := mkTK_slice (P := P) (d := d') (by rw [← ht.k, e])
    replace h := om_inv h nofun
    obtain ⟨te, hte, h⟩ := h
    obtain ⟨de, ie, ze, hee⟩ := mkTI_ok hte
    obtain ⟨q, hq, ok⟩ := slSl_ok h nofun
    cases hq
    refine .pure fun w0 base U σ w ρ _ hr hρ => ?_
    obtain ⟨a', len, cap, l, h1, m, hu, hb, hv⟩ := ok P w σ (ρ x) _ _ _ (hρ x _ ha) (optV hρ hl) (optV hρ hh) (optV hρ hm)
    refine ⟨_, ?_, hv⟩
    simp only [execOp, Instr.sliceAt, Instr.slice, Sem.run_bind, ht.run_und, Result.andThen_ok, hde, hu, hb, hee.run_size, Sem.run_pure]
  · rename_i n el e
    have hde := mkTK_arr (P := P) (d := d') (by rw [← ht.k, e])
    replace h := om_inv h nofun
    obtain ⟨te, hte, h⟩ := h
    obtain ⟨de, ie, ze, hee⟩ := mkTI_ok hte
    split at h
    · rename_i b o
      obtain ⟨q, hq, ok⟩ := slEx_ok h nofun
      cases hq
      refine .pure fun w0 base U σ w ρ _ hr hρ => ?_
      have hv := hρ x _ ha
      simp only [VR] at hv
      obtain ⟨m, hm', e1⟩ := hv
      obtain ⟨l, h1, m1, hb, hv⟩ := ok P w σ m false _ _ _ hm' (Nat.le_refl _) (optV hρ hl) (optV hρ hh) (optV hρ hm)
      refine ⟨_, ?_, hv⟩
      simp only [execOp, Instr.sliceAt, Sem.run_bind, ht.run_und, Result.andThen_ok, hde, e1, Instr.sureAddr, Sem.run_pure, hb, hee.run_size]
    · cases h
  · cases h

theorem aFAddr_ok {t : TypeId} {x : Operand} {f : Nat} (h : aFAddr t x f P ro T G = .ok v G') : OpOK P ro T G ⟨d, .fieldAddr t x f, t0, pos, af, g⟩ v G' := by
  replace h := opd_inv h nofun
  obtain ⟨a, ha, h⟩ := h
  unfold fieldAddrA at h
  replace h := om_inv h nofun
  obtain ⟨ti, hti, h⟩ := h
  obtain ⟨d', i, z, ht⟩ := mkTI_ok hti
  split at h
  · rename_i fs e
    obtain ⟨fd, e', hfs⟩ := mkTK_struct (P := P) (d := d') (by rw [← ht.k, e])
    replace h := om_inv h nofun
    obtain ⟨fi, hfi, h⟩ := h
    replace h := br_inv' h nofun
    obtain ⟨hz, h⟩ := h
    rw [nthL_eq, hfs, List.getElem?_map, Array.getElem?_toList] at hfi
    cases hff : fd[f]? with
    | none => rw [hff] at hfi; cases hfi
    | some f0 =>
      rw [hff] at hfi
      cases hfi
      have hz' : P.cellsOf f0.type ≠ 0 := fun e => by have hz2 : Nat.beq (P.cellsOf f0.type) 0 = false := hz; rw [e] at hz2; cases hz2
      have hinfo : ∃ i, P.info? f0.type = some i := by
        cases hi : P.info? f0.type with
        | none => exact absurd (by simp [Program.cellsOf, hi]) hz'
        | some i => exact ⟨i, rfl⟩
      obtain ⟨i0, hi0⟩ := hinfo
      split at h
      · rename_i b o
        rw [fN_eq] at h
        cases h
        refine .pure fun w0 base U σ w ρ _ hr hρ => ?_
        have hv := hρ x _ ha
        simp only [VR] at hv
        obtain ⟨n, hn, e1⟩ := hv
        refine ⟨.pointer (some ⟨n, o + f0.offset, none⟩), ?_, by simp only [VR]; exact ⟨n, hn, rfl⟩⟩
        simp [execOp, Instr.fieldAt, ht.run_und, e', hff, e1, Instr.sureAddr, fieldPlace, run_sizeOf_info hi0, hz', add_mk]
      · rename_i b o
        rw [fN_eq] at h
        cases h
        refine .pure fun w0 base U σ w ρ _ hr hρ => ?_
        have hv := hρ x _ ha
        simp only [VR] at hv
        refine ⟨.pointer (some ⟨b, o + f0.offset, none⟩), ?_, by simp only [VR]; rfl⟩
        simp [execOp, Instr.fieldAt, ht.run_und, e', hff, hv, Instr.sureAddr, fieldPlace, run_sizeOf_info hi0, hz', add_mk]
      · cases h
  · cases h
theorem aField_ok {t : TypeId} {x : Operand} {f : Nat} (h : aField t x f P ro T G = .ok v G') : OpOK P ro T G ⟨d, .field t x f, t0, pos, af, g⟩ v G' := by
  replace h := opd_inv h nofun
  obtain ⟨a, ha, h⟩ := h
  unfold fieldA at h
  replace h := om_inv h nofun
  obtain ⟨ti, hti, h⟩ := h
  obtain ⟨d', i, z, ht⟩ := mkTI_ok hti
  split at h
  · rename_i fs e
    obtain ⟨fd, e', hfs⟩ := mkTK_struct (P := P) (d := d') (by rw [← ht.k, e])
    replace h := om_inv h nofun
    obtain ⟨fi, hfi, h⟩ := h
    replace h := om_inv h nofun
    obtain ⟨tf, htf, h⟩ := h
    obtain ⟨df, i', zf, hf⟩ := mkTI_ok htf
    rw [nthL_eq, hfs, List.getElem?_map, Array.getElem?_toList] at hfi
    cases hff : fd[f]? with
    | none => rw [hff] at hfi; cases hfi
    | some f0 =>
      rw [hff] at hfi
      cases hfi
      obtain ⟨l, e2, h2⟩ := asL_inv h nofun
      subst e2
      obtain ⟨q, hq, ok⟩ := partK_ok hf h2 nofun
      cases hq
      refine .pure fun w0 base U σ w ρ _ hr hρ => ?_
      have hv := hρ x _ ha
      simp only [VR] at hv
      obtain ⟨cs, hcs, h1, e1⟩ := hv
      obtain ⟨y, hy, hvy⟩ := ok w σ cs hcs h1
      refine ⟨y, ?_, hvy⟩
      simp [execOp, Instr.field, ht.run_und, e', hff, e1, asAgg, hy]
  · cases h
theorem aIAddr_ok {t : TypeId} {x j : Operand} (h : aIAddr t x j P ro T G = .ok v G') : OpOK P ro T G ⟨d, .indexAddr t x j, t0, pos, af, g⟩ v G' := by
  replace h := opd_inv h nofun
  obtain ⟨a, ha, h⟩ := h
  replace h := opd_inv h nofun
  obtain ⟨b, hb, h⟩ := h
  unfold indexAddrA at h
  replace h := om_inv h nofun
  obtain ⟨ti, hti, h⟩ := h
  obtain ⟨d', i, z, ht⟩ := mkTI_ok hti
  replace h := asN_inv h nofun
  obtain ⟨kn, n, e2, h⟩ := h
  subst e2
  split at h
  · rename_i len el e
    have hde := mkTK_arr (P := P) (d := d') (by rw [← ht.k, e])
    replace h := om_inv h nofun
    obtain ⟨te, hte, h⟩ := h
    obtain ⟨de, ie, ze, hee⟩ := mkTI_ok hte
    replace h := br_inv h nofun
    obtain ⟨hlt, h⟩ := h
    have hlt' : n < len := ble_iff.1 hlt
    have hc : (0 : Int) ≤ Int.ofNat n ∧ Int.ofNat n < (len : Int) := ⟨Int.natCast_nonneg n, by show ((n : Nat) : Int) < _; omega⟩
    split at h
    · rename_i b o
      rw [fN_eq] at h
      cases h
      refine .pure fun w0 base U σ w ρ _ hr hρ => ?_
      have hv := hρ x _ ha
      have hj := hρ j _ hb
      simp only [VR] at hv hj
      obtain ⟨m, hm, e1⟩ := hv
      refine ⟨.pointer (some ⟨m, o + n * te.size, none⟩), ?_, by simp only [VR]; exact ⟨m, hm, rfl⟩⟩
      simp only [execOp, Instr.indexAt, hj, asIntOf, Sem.run_bind, Sem.run_pure, Result.andThen_ok, ht.run_und, hde, e1, Instr.sureAddr, if_pos hc, hee.run_size, add_mk]
      rfl
    · rename_i b o
      rw [fN_eq] at h
      cases h
      refine .pure fun w0 base U σ w ρ _ hr hρ => ?_
      have hv := hρ x _ ha
      have hj := hρ j _ hb
      simp only [VR] at hv hj
      refine ⟨.pointer (some ⟨b, o + n * te.size, none⟩), ?_, by simp only [VR]; rfl⟩
      simp only [execOp, Instr.indexAt, hj, asIntOf, Sem.run_bind, Sem.run_pure, Result.andThen_ok, ht.run_und, hde, hv, Instr.sureAddr, if_pos hc, hee.run_size, add_mk]
      rfl
    · cases h
  · rename_i el e
    have hde := mkTK_slice (P := P) (d := d') (by rw [← ht.k, e])
    replace h := om_inv h nofun
    obtain ⟨te, hte, h⟩ := h
    obtain ⟨de, ie, ze, hee⟩ := mkTI_ok hte
    split at h
    · rename_i b o len c
      replace h := br_inv h nofun
      obtain ⟨hlt, h⟩ := h
      have hlt' : n < len := ble_iff.1 hlt
      have hc : (0 : Int) ≤ Int.ofNat n ∧ Int.ofNat n < (len : Int) := ⟨Int.natCast_nonneg n, by show ((n : Nat) : Int) < _; omega⟩
      rw [fN_eq] at h
      cases h
      refine .pure fun w0 base U σ w ρ _ hr hρ => ?_
      have hv := hρ x _ ha
      have hj := hρ j _ hb
      simp only [VR] at hv hj
      obtain ⟨m, cp, hm, _, _, e1⟩ := hv
      refine ⟨.pointer (some ⟨m, o + n * te.size, none⟩), ?_, by simp only [VR]; exact ⟨m, hm, rfl⟩⟩
      simp only [execOp, Instr.indexAt, hj, asIntOf, Sem.run_bind, Sem.run_pure, Result.andThen_ok, ht.run_und, hde, e1, if_pos hc, hee.run_size, add_mk]
      rfl
    · cases h
  · cases h
theorem aIndex_ok {t : TypeId} {x j : Operand} (h : aIndex t x j P ro T G = .ok v G') : OpOK P ro T G ⟨d, .index t x j, t0, pos, af, g⟩ v G' := by
  replace h := opd_inv h nofun
  obtain ⟨a, ha, h⟩ := h
  replace h := opd_inv h nofun
  obtain ⟨b, hb, h⟩ := h
  unfold indexA at h
  replace h := om_inv h nofun
  obtain ⟨ti, hti, h⟩ := h
  obtain ⟨d', i, z, ht⟩ := mkTI_ok hti
  replace h := asN_inv h nofun
  obtain ⟨kn, n, e2, h⟩ := h
  subst e2
  split at h
  · rename_i len el e
    have hde := mkTK_arr (P := P) (d := d') (by rw [← ht.k, e])
    replace h := om_inv h nofun
    obtain ⟨te, hte, h⟩ := h
    obtain ⟨de, ie, ze, hee⟩ := mkTI_ok hte
    replace h := br_inv h nofun
    obtain ⟨hlt, h⟩ := h
    have hlt' : n < len := ble_iff.1 hlt
    have hc : (0 : Int) ≤ Int.ofNat n ∧ Int.ofNat n < (len : Int) := ⟨Int.natCast_nonneg n, by show ((n : Nat) : Int) < _; omega⟩
    obtain ⟨l, e2, h2⟩ := asL_inv h nofun
    subst e2
    obtain ⟨q, hq, ok⟩ := partK_ok hee h2 nofun
    cases hq
    refine .pure fun w0 base U σ w ρ _ hr hρ => ?_
    have hv := hρ x _ ha
    have hj := hρ j _ hb
    simp only [VR] at hv hj
    obtain ⟨cs, hcs, h1, e1⟩ := hv
    obtain ⟨y, hy, hvy⟩ := ok w σ cs hcs h1
    refine ⟨y, ?_, hvy⟩
    simp only [execOp, Instr.index, hj, asIntOf, Sem.run_bind, Sem.run_pure, Result.andThen_ok, ht.run_und, hde, e1, if_pos hc, hee.run_size]
    rw [show (Int.ofNat n).toNat * te.size = n * te.size from rfl]
    rw [show Nat.mul n te.size = n * te.size from rfl] at hy
    rw [hy]; rfl
  · rename_i e
    have hde := mkTK_str (P := P) (d := d') (by rw [← ht.k, e])
    split at h
    · rename_i s
      replace h := om_inv h nofun
      obtain ⟨c, hc, h⟩ := h
      rw [nthL_eq] at hc
      rw [fN_eq] at h
      cases h
      refine .pure fun w0 base U σ w ρ _ hr hρ => ?_
      have hv := hρ x _ ha
      have hj := hρ j _ hb
      simp only [VR] at hv hj
      refine ⟨.int .u8 c.toNat, ?_, by simp only [VR]; rfl⟩
      simp only [execOp, Instr.index, hj, asIntOf, Sem.run_bind, Sem.run_pure, Result.andThen_ok, ht.run_und, hde, hv]
      rw [if_pos (show (0 : Int) ≤ Int.ofNat n from Int.natCast_nonneg n), show (Int.ofNat n).toNat = n from rfl, bytes_get, hc]
      rfl
    · cases h
  · cases h
end ok
end Go.Ev

/-! Soundness of the evaluator's operations, part seven: made slices, interfaces, functions, maps; tests of types; conversions. -/
namespace Go.Ev
open Go Go.RowKit

theorem agg_cells {z : Value} (h : isAggV z = true) : z = .agg z.cells := by cases z <;> first | rfl | (cases h; done)
theorem nagg_cells {z : Value} (h : isAggV z = false) : z.cells = #[z] := by cases z <;> first | rfl | (cases h; done)
section z
variable {R : Type} {no r : R}
theorem zeroA_ok {P : Program} {t : TypeId} {ti : TI} {d : TypeDesc} {i : TypeInfo} {z : Value} (ht : TIok P t ti d i z) {K : AV → R} (h : zeroA ti no K = r) (hne : no ≠ r) : ∃ v, K v = r ∧ ∀ σ, VR σ v z := by
  unfold zeroA at h
  rw [br_eq] at h
  by_cases ha : ti.agg = true
  · rw [if_pos ha] at h
    refine ⟨_, h, fun σ => ?_⟩
    simp only [VR]
    exact ⟨z.cells.toList, ofVs_ok ht.zs, ofVs_one ht.zs, agg_cells (ht.zagg.trans ha)⟩
  · rw [if_neg ha] at h
    obtain ⟨a, h1, h2⟩ := om_inv h hne
    refine ⟨a, h2, fun σ => ?_⟩
    have hc := nagg_cells (ht.zagg.trans (by simpa using ha))
    have hz := (ofVs_ok ht.zs : VRs σ ti.zero z.cells.toList)
    rw [nthL_eq] at h1
    obtain ⟨x, hx, hv⟩ := hz.get 0 h1
    rw [hc] at hx
    cases hx
    exact hv
end z

section ok
variable {P : Program} {ro : Nat → Option CB} {T : Tr AV} {G G' : AG} {v : AV} {d : Option Nat} {t0 : TypeId} {pos : String} {af : Array Edge} {g : Option (Nat × Bool)}
theorem OpdsR.ok {σ : Sub} {ρ : Operand → Value} (hρ : ∀ x a, OpdR T x a → VR σ a (ρ x)) : ∀ {l : List Operand} {as : List AV}, OpdsR T l as → VRs σ as (l.map ρ)
  | [], as, h => by simp only [OpdsR] at h; subst h; exact VRs.nil
  | x :: xs, as, h => by
    obtain ⟨a, bs, rfl, ha, hb⟩ := h
    exact VRs.cons (hρ x a ha) (OpdsR.ok hρ hb)
theorem aNilCheck_ok {x : Operand} (h : aNilCheck x P ro T G = .ok v G') : OpOK P ro T G ⟨d, .nilCheck x, t0, pos, af, g⟩ v G' := by
  obtain ⟨a, ha, h⟩ := opd_inv h nofun
  split at h <;> first | (cases h; done) | skip
  all_goals
    cases h
    refine .pure fun w0 base U σ w ρ _ hr hρ => ⟨ρ x, ?_, hρ x _ ha⟩
    have hv := hρ x _ ha
    simp only [VR] at hv
  · obtain ⟨n, _, e⟩ := hv; simp [execOp, e]
  · simp [execOp, hv]
  · obtain ⟨_, _, _, _, e⟩ := hv; simp [execOp, e]
  · obtain ⟨_, _, e⟩ := hv; simp [execOp, e]
theorem aS2A_ok {t : TypeId} {x : Operand} (h : aS2A t x P ro T G = .ok v G') : OpOK P ro T G ⟨d, .sliceToArrayPointer t x, t0, pos, af, g⟩ v G' := by
  replace h := om_inv h nofun
  obtain ⟨ti, hti, h⟩ := h
  obtain ⟨d', i, z, ht⟩ := mkTI_ok hti
  replace h := opd_inv h nofun
  obtain ⟨a, ha, h⟩ := h
  split at h
  · rename_i n el e
    have hde := mkTK_arr (P := P) (d := d') (by rw [← ht.k, e])
    split at h
    · rename_i b o len c
      obtain ⟨hl, h⟩ := br_inv h nofun
      have hl' : n ≤ len := ble_iff.1 hl
      cases h
      refine .pure fun w0 base U σ w ρ _ hr hρ => ?_
      have hv := hρ x _ ha
      simp only [VR] at hv
      obtain ⟨m, cp, hm, _, _, e1⟩ := hv
      refine ⟨.pointer (some ⟨m, o, none⟩), ?_, by simp only [VR]; exact ⟨m, hm, rfl⟩⟩
      simp only [execOp, Instr.arrayAt, Sem.run_bind, ht.run_und, Result.andThen_ok, hde, e1, if_neg (Nat.not_lt.2 hl'), Sem.run_pure]
    · cases h
  · cases h
theorem aMkI_ok {t : TypeId} {x : Operand} (h : aMkI t x P ro T G = .ok v G') : OpOK P ro T G ⟨d, .makeInterface t x, t0, pos, af, g⟩ v G' := by
  replace h := om_inv h nofun
  obtain ⟨ti, hti, h⟩ := h
  obtain ⟨d', i, z, ht⟩ := mkTI_ok hti
  split at h
  · cases h
  · rename_i hn
    obtain ⟨a, ha, h⟩ := opd_inv h nofun
    cases h
    refine .pure fun w0 base U σ w ρ _ hr hρ => ⟨.iface t (ρ x), ?_, by simp only [VR]; exact ⟨ρ x, hρ x _ ha, rfl⟩⟩
    have hnd : ∀ m, d' ≠ .interface m := fun m e => hn (by rw [ht.k, e]; rfl)
    simp only [execOp, Instr.makeInterface, Sem.run_bind, ht.run_und, Result.andThen_ok]
    cases d' <;> first | (exact absurd rfl (hnd _)) | rfl
theorem aMkF_ok {fn : Fn} {a c : Array Operand} (h : aMkF fn a c P ro T G = .ok v G') : OpOK P ro T G ⟨d, .makeFunc fn a c, t0, pos, af, g⟩ v G' := by
  unfold aMkF at h
  split at h
  · obtain ⟨as, ha, h⟩ := opds_inv h nofun
    obtain ⟨cs, hc, h⟩ := opds_inv h nofun
    cases h
    refine .pure fun w0 base U σ w ρ _ hr hρ => ⟨_, rfl, ?_⟩
    simp only [VR]
    refine ⟨_, _, OpdsR.ok hρ ha, OpdsR.ok hρ hc, ?_⟩
    congr 1 <;> (apply Array.ext'; simp)
  · cases h
theorem aMkM_ok {t : TypeId} {x : Option Operand} (h : aMkM t x P ro T G = .ok v G') : OpOK P ro T G ⟨d, .makeMap t x, t0, pos, af, g⟩ v G' := by
  unfold aMkM at h
  rw [om_eq] at h
  cases x with
  | some y => cases h
  | none =>
    have h : (G.newK (.map [] 0) fun b G => Ro.ok (.map b) G) = .ok v G' := h
    rw [AG.newK_eq] at h
    cases h
    refine ⟨by rw [nx_new]; omega, fun w0 base U σ w ρ hro hr hρ hU => ?_⟩
    refine ⟨_, _, .map (some w.heap.size), .inl ?_, by simp only [VR]; exact ⟨_, Sub.upd_at .., rfl⟩, hr.newB (c := 0) (by rw [nx_new] at hU; omega) (o := .map #[] 0) ⟨[], rfl, rfl⟩⟩
    simp [execOp, Instr.makeMap]
theorem aMkS_ok {t : TypeId} {l c : Operand} (h : aMkS t l c P ro T G = .ok v G') : OpOK P ro T G ⟨d, .makeSlice t l c, t0, pos, af, g⟩ v G' := by
  replace h := om_inv h nofun
  obtain ⟨ti, hti, h⟩ := h
  obtain ⟨d', i, z, ht⟩ := mkTI_ok hti
  split at h
  · rename_i el e
    have hde := mkTK_slice (P := P) (d := d') (by rw [← ht.k, e])
    replace h := om_inv h nofun
    obtain ⟨te, hte, h⟩ := h
    obtain ⟨de, ie, ze, hee⟩ := mkTI_ok hte
    replace h := opd_inv h nofun
    obtain ⟨a, ha, h⟩ := h
    replace h := asN_inv h nofun
    obtain ⟨kl, n, e1, h⟩ := h
    replace h := opd_inv h nofun
    obtain ⟨b, hb, h⟩ := h
    replace h := asN_inv h nofun
    obtain ⟨kc, m, e2, h⟩ := h
    replace h := br_inv h nofun
    obtain ⟨hm, h⟩ := h
    replace h := br_inv h nofun
    obtain ⟨hn, h⟩ := h
    replace h := br_inv h nofun
    obtain ⟨hbt, h⟩ := h
    replace h := br_inv h nofun
    obtain ⟨hzl, h⟩ := h
    subst e1 e2
    have hm' : m ≤ 1000000 := ble_iff.1 hm
    have hn' : n ≤ m := ble_iff.1 hn
    have hbt' : te.bytes ≤ 100000 := ble_iff.1 hbt
    rw [repK_eq] at h
    obtain ⟨h2, ok2⟩ := newCells_ok h
    cases h2
    refine ⟨by rw [nx_new]; omega, fun w0 base U σ w ρ hro hr hρ hU => ?_⟩
    have hz := (ofVs_ok hee.zs : VRs σ te.zero ze.cells.toList)
    have hzs : ze.cells.toList.length = te.size := by rw [hz.len, ← lenL_eq]; exact beq_iff.1 hzl
    have hone : ∀ y ∈ (List.replicate m ze.cells.toList).flatten, y.oneCell' = true := fun y hy => by
      obtain ⟨l, hl, hy⟩ := List.mem_flatten.1 hy
      rw [List.eq_of_mem_replicate hl] at hy
      exact ofVs_one hee.zs y hy
    have hext := ok2 w0 base U σ w _ hr (hz.flat m) hone (by rw [nx_new] at hU; omega)
    refine ⟨_, _, .slice (some ⟨w.heap.size, 0, none⟩) n m, .inl ?_, by simp only [VR]; exact ⟨w.heap.size, m, Sub.upd_at .., rfl, hn', rfl⟩, hext⟩
    have hvl := hρ l _ ha
    have hvc := hρ c _ hb
    simp only [VR] at hvl hvc
    have w1 : IntKind.i64.wrap (Int.ofNat n) = (n : Int) := wrap_signed (k := .i64) (B := 18446744073709551616) (H := 9223372036854775808) (by decide) (by decide) rfl (by decide) (show (-9223372036854775808 : Int) ≤ (n : Int) by omega) (show ((n : Nat) : Int) < 9223372036854775808 by omega)
    have w2 : IntKind.i64.wrap (Int.ofNat m) = (m : Int) := wrap_signed (k := .i64) (B := 18446744073709551616) (H := 9223372036854775808) (by decide) (by decide) rfl (by decide) (show (-9223372036854775808 : Int) ≤ (m : Int) by omega) (show ((m : Nat) : Int) < 9223372036854775808 by omega)
    have hb1 : te.bytes * m ≤ 100000 * 1000000 := Nat.mul_le_mul hbt' hm'
    have hcells : ∀ zc : Array Value, (m * te.size = 0 ∧ zc = #[] ∨ ¬ m * te.size = 0 ∧ zc = ze.cells) → ((Array.range (m * te.size)).map fun i => zc[i % zc.size]!) = ((List.replicate m ze.cells.toList).flatten).toArray := by
      intro zc hzc
      rcases hzc with ⟨h0, rfl⟩ | ⟨_, rfl⟩
      · have : (List.replicate m ze.cells.toList).flatten = [] := by
          apply List.length_eq_zero_iff.1
          simp only [List.length_flatten, List.map_replicate, List.sum_replicate_nat, hzs]; exact h0
        rw [this, h0]
        simp
      · apply Array.ext'
        exact zeros_eq ze.cells.toList m te.size hzs
    have htl : (decide (((m : Nat) : Int) < 0) || decide ((te.bytes : Int) * ((m : Nat) : Int) > 2 ^ 48)) = false := by
      simp only [Bool.or_eq_false_iff, decide_eq_false_iff_not]
      refine ⟨by omega, ?_⟩
      have : ((te.bytes : Int) * (m : Int)) = ((te.bytes * m : Nat) : Int) := by simp
      rw [this]
      have : (2 ^ 48 : Int) = 281474976710656 := by decide
      rw [this]
      omega
    have hl0 : decide (((n : Nat) : Int) < 0) = false := by simp
    have hlc : decide (((n : Nat) : Int) > ((m : Nat) : Int)) = false := by simp; omega
    simp only [execOp, Instr.makeSlice, hvl, hvc, asInt, asIntOf, Sem.run_bind, Sem.run_pure, Result.andThen_ok, ht.run_und, hde, hee.run_info, ← hee.bytes, w1, w2, htl, hl0, hlc, Bool.or_self, Bool.false_eq_true, if_false, run_askRoom, hee.run_size, Int.toNat_natCast, Sem.run_ite]
    by_cases h0 : m * te.size = 0
    · rw [if_pos h0]
      simp only [hcells #[] (.inl ⟨h0, rfl⟩)]
      simp [newRow]
    · rw [if_neg h0]
      simp only [hee.run_zero, Result.andThen_ok, hcells ze.cells (.inr ⟨h0, rfl⟩)]
      simp [newRow]
  · cases h
theorem aExtract_ok {x : Operand} {j : Nat} (h : aExtract x j P ro T G = .ok v G') : OpOK P ro T G ⟨d, .extract x j, t0, pos, af, g⟩ v G' := by
  replace h := opd_inv h nofun
  obtain ⟨a, ha, h⟩ := h
  split at h
  · obtain ⟨q, hq, h⟩ := om_inv h nofun
    cases h
    rw [nthL_eq] at hq
    refine .pure fun w0 base U σ w ρ _ hr hρ => ?_
    have hv := hρ x _ ha
    simp only [VR] at hv
    obtain ⟨cs, hcs, e⟩ := hv
    obtain ⟨y, hy, hvy⟩ := hcs.get j hq
    refine ⟨y, ?_, hvy⟩
    have hy' : cs.toArray[j]? = some y := by simpa using hy
    simp only [execOp, Instr.extract, e, hy', Sem.run_bind, Sem.run_pure, Result.andThen_ok]
  · cases h
theorem aAssert_ok {x : Operand} {u t : TypeId} {b : Bool} (h : aAssert x u t b P ro T G = .ok v G') : OpOK P ro T G ⟨d, .typeAssert x u t b, t0, pos, af, g⟩ v G' := by
  replace h := om_inv h nofun
  obtain ⟨ti, hti, h⟩ := h
  obtain ⟨d', i, z, ht⟩ := mkTI_ok hti
  replace h := opd_inv h nofun
  obtain ⟨a, ha, h⟩ := h
  split at h
  · cases h
  · rename_i hn
    have hnd : ∀ m, d' ≠ .interface m := fun m e => hn (by rw [ht.k, e]; rfl)
    have hrun : ∀ (w : World) (val : Value) (o : Oper), (Instr.typeAssert val u t b).run P w = (match val with
        | .nilIface => if b then ((zeroValue t).run P w).andThen fun z w' => .ok (.tuple #[z, .bool false]) w' else (runtimePanic (.typeAssertion (some u) none t "") : Sem Value).run P w
        | .iface s y => if s = t then (.ok (if b then .tuple #[y, .bool true] else y) w) else if b then ((zeroValue t).run P w).andThen fun z w' => .ok (.tuple #[z, .bool false]) w' else (runtimePanic (.typeAssertion (some u) (some s) t "") : Sem Value).run P w
        | _ => (stuck "TypeAssert: interface value expected" : Sem Value).run P w) := by
      intro w val o
      unfold Instr.typeAssert
      simp only [Sem.run_bind, ht.run_und, Result.andThen_ok]
      cases d' <;> first | (exact absurd rfl (hnd _)) | (cases val <;> simp <;> (try (split <;> simp)))
    split at h
    · rename_i s y
      rw [br_eq] at h
      by_cases hs : Nat.beq s t = true
      · rw [if_pos hs, br_eq] at h
        have hst := beq_iff.1 hs
        cases b with
        | true =>
          cases h
          refine .pure fun w0 base U σ w ρ _ hr hρ => ?_
          have hv := hρ x _ ha
          simp only [VR] at hv
          obtain ⟨y', hy', e⟩ := hv
          refine ⟨.tuple #[y', .bool true], ?_, by simp only [VR]; exact ⟨[y', .bool true], VRs.cons hy' (VRs.cons (by simp only [VR]) VRs.nil), rfl⟩⟩
          simp only [execOp, Sem.run_bind, e, hrun w _ default, if_pos hst]
          rfl
        | false =>
          cases h
          refine .pure fun w0 base U σ w ρ _ hr hρ => ?_
          have hv := hρ x _ ha
          simp only [VR] at hv
          obtain ⟨y', hy', e⟩ := hv
          refine ⟨y', ?_, hy'⟩
          simp only [execOp, Sem.run_bind, e, hrun w _ default, if_pos hst]
          rfl
      · rw [if_neg hs, br_eq] at h
        have hst : ¬ s = t := fun e => hs (beq_iff.2 e)
        cases b with
        | false => cases h
        | true =>
          obtain ⟨q, hq, okz⟩ := zeroA_ok ht (show zeroA ti (.no 25) (fun z => Ro.ok (.tup [z, .bool false]) G) = .ok v G' from h) nofun
          cases hq
          refine .pure fun w0 base U σ w ρ _ hr hρ => ?_
          have hv := hρ x _ ha
          simp only [VR] at hv
          obtain ⟨y', hy', e⟩ := hv
          refine ⟨.tuple #[z, .bool false], ?_, by simp only [VR]; exact ⟨[z, .bool false], VRs.cons (okz σ) (VRs.cons (by simp only [VR]) VRs.nil), rfl⟩⟩
          simp only [execOp, Sem.run_bind, e, hrun w _ default, if_neg hst, if_true, ht.run_zero, Result.andThen_ok]
          rfl
    · rw [br_eq] at h
      cases b with
      | false => cases h
      | true =>
        obtain ⟨q, hq, okz⟩ := zeroA_ok ht (show zeroA ti (.no 25) (fun z => Ro.ok (.tup [z, .bool false]) G) = .ok v G' from h) nofun
        cases hq
        refine .pure fun w0 base U σ w ρ _ hr hρ => ?_
        have hv := hρ x _ ha
        simp only [VR] at hv
        refine ⟨.tuple #[z, .bool false], ?_, by simp only [VR]; exact ⟨[z, .bool false], VRs.cons (okz σ) (VRs.cons (by simp only [VR]) VRs.nil), rfl⟩⟩
        simp only [execOp, Sem.run_bind, hv, hrun w _ default, if_true, ht.run_zero, Result.andThen_ok]
        rfl
    · cases h
end ok
end Go.Ev

