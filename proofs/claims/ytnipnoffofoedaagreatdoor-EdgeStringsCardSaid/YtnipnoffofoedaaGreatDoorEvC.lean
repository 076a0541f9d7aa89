/- Soundness of the evaluator's operations, part eight: append, copy, len, cap, min, max. -/
import Derived.Test.YtnipnoffofoedaaGreatDoorEvB
import Derived.Laws.BytesString
namespace Go.Ev
open Go Go.RowKit

/-! ### What is read -/
/-- the cells that a slice or a string gives -/
def FirstR (P : Program) (size n : Nat) (l : List AV) (σ : Sub) (w : World) (u : Value) : Prop :=
  ∃ cs, (Builtin.firstCells size n u).run P w = .ok cs.toArray w ∧ VRs σ l cs ∧ (∀ y ∈ cs, y.oneCell' = true)
section first
variable {R : Type} {ro : Nat → Option CB} {G : AG} {no r : R}
theorem strCells_eq : ∀ (s : List UInt8) (n : Nat) (K : List AV → R), strCells s n K = K ((s.take n).map fun c => .int .u8 (Int.ofNat c.toNat))
  | [], n, K => by rw [List.take_nil]; rfl
  | c :: s, 0, K => rfl
  | c :: s, n + 1, K => by
    show fN c.toNat (fun z => strCells s n fun l => K (.int .u8 (Int.ofNat z) :: l)) = _
    rw [fN_eq, strCells_eq s n]
    rfl
theorem VRs_bytes {σ : Sub} : ∀ (s : List UInt8), VRs σ (s.map fun c => .int .u8 (Int.ofNat c.toNat)) (s.map fun c => Value.int .u8 c.toNat)
  | [] => VRs.nil
  | c :: s => VRs.cons (by simp only [VR]; rfl) (VRs_bytes s)
theorem firstA_ok {size n : Nat} {x : AV} {K : List AV → R} (h : firstA ro G size n x no K = r) (hne : no ≠ r) :
    ∃ l, K l = r ∧ l.length = n * size ∧ ∀ (P : Program) (w0 : World) (base U : Nat) (σ : Sub) (w : World) (u : Value), RoOK ro w0 base → Rel w0 base U σ G w → VR σ x u → FirstR P size n l σ w u := by
  unfold firstA at h
  split at h
  · rename_i b o len c
    obtain ⟨cb, o', h, ok⟩ := ldC_ok h hne
    rw [takeX_eq, dropL_eq] at h
    split at h
    · rename_i hl
      refine ⟨_, h, by rw [List.length_take]; exact Nat.min_eq_left hl, fun P w0 base U σ w u hro hr hu => ?_⟩
      simp only [VR] at hu
      obtain ⟨m, cp, hm, _, _, rfl⟩ := hu
      obtain ⟨m', vs, ex, f, e, hc, h1, h2⟩ := ok w0 base U σ w (.pointer (some ⟨m, o, none⟩)) hro hr (by simp only [VR]; exact ⟨m, hm, rfl⟩)
      cases e
      have hlen := h1.len
      have hl' : n * size ≤ (cb.cs.drop o).length := hl
      have hk : n * size ≤ ((vs ++ ex).drop o).length := by simp at hl' ⊢; omega
      refine ⟨(vs.drop o).take (n * size), ?_, (h1.drop o).take _, fun y hy => h2 y (List.mem_of_mem_drop (List.mem_of_mem_take hy))⟩
      simp only [Builtin.firstCells]
      rw [run_loadCells' hc hk]
      have e : ((vs ++ ex).drop o).take (n * size) = (vs.drop o).take (n * size) := by
        by_cases h0 : n * size = 0
        · simp [h0]
        · have : o ≤ vs.length := by simp at hl'; omega
          rw [List.drop_append_of_le_length this, List.take_append_of_le_length (by simp at hl' ⊢; omega)]
      rw [e]
    · exact absurd h hne
  · obtain ⟨hn, h⟩ := br_inv h hne
    have := beq_iff.1 hn
    subst this
    refine ⟨_, h, by simp, fun P w0 base U σ w u hro hr hu => ⟨[], ?_, VRs.nil, fun y hy => by cases hy⟩⟩
    simp only [VR] at hu
    subst hu
    simp [Builtin.firstCells]
  · obtain ⟨hn, h⟩ := br_inv h hne
    have := beq_iff.1 hn
    subst this
    refine ⟨_, h, by simp, fun P w0 base U σ w u hro hr hu => ⟨[], ?_, VRs.nil, fun y hy => by cases hy⟩⟩
    simp only [VR] at hu
    obtain ⟨a, cp, rfl⟩ := hu
    simp [Builtin.firstCells, loadCells, loadCellsFrom]
  · rename_i s
    obtain ⟨hs, h⟩ := br_inv h hne
    obtain ⟨hn, h⟩ := br_inv h hne
    have hs' := beq_iff.1 hs
    rw [lenL_eq] at hn
    have hn' : n ≤ s.length := ble_iff.1 hn
    rw [strCells_eq] at h
    have hK := h
    subst hs'
    refine ⟨_, hK, by simp; omega, fun P w0 base U σ w u hro hr hu => ⟨(s.take n).map fun c => Value.int .u8 c.toNat, ?_, VRs_bytes _, fun y hy => ?_⟩⟩
    · simp only [VR] at hu
      subst hu
      simp only [Builtin.firstCells, Sem.run_pure, bytes_extract]
      congr 1
      apply Array.ext'
      simp
    · obtain ⟨c, _, rfl⟩ := List.mem_map.1 hy
      rfl
  · exact absurd h hne
theorem lenA_ok {x : AV} {K : Nat → R} (h : lenA x no K = r) (hne : no ≠ r) :
    ∃ n, K n = r ∧ ∀ (P : Program) (σ : Sub) (w : World) (u : Value), VR σ x u → (Builtin.lenOf u).run P w = .ok n w := by
  unfold lenA at h
  split at h
  · refine ⟨_, h, fun P σ w u hu => ?_⟩
    simp only [VR] at hu
    obtain ⟨_, _, _, _, _, rfl⟩ := hu
    rfl
  · refine ⟨_, h, fun P σ w u hu => ?_⟩
    simp only [VR] at hu
    subst hu
    rfl
  · refine ⟨_, h, fun P σ w u hu => ?_⟩
    simp only [VR] at hu
    obtain ⟨_, _, rfl⟩ := hu
    rfl
  · rename_i s
    rw [fN_eq, lenL_eq] at h
    refine ⟨_, h, fun P σ w u hu => ?_⟩
    simp only [VR] at hu
    subst hu
    simp [Builtin.lenOf, bytes_size]
  · exact absurd h hne
/-- of nothing nothing is read -/
theorem first_zero {P : Program} {size : Nat} {x : AV} {σ : Sub} {w : World} {u : Value} {K : Nat → R} (h : lenA x no K = r) (hne : no ≠ r) (hu : VR σ x u) : (Builtin.firstCells size 0 u).run P w = .ok #[] w := by
  unfold lenA at h
  split at h
  · simp only [VR] at hu
    obtain ⟨_, _, _, _, _, rfl⟩ := hu
    simp [Builtin.firstCells, loadCells, loadCellsFrom]
  · simp only [VR] at hu
    subst hu
    simp [Builtin.firstCells]
  · simp only [VR] at hu
    obtain ⟨_, _, rfl⟩ := hu
    simp [Builtin.firstCells, loadCells, loadCellsFrom]
  · simp only [VR] at hu
    subst hu
    simp only [Builtin.firstCells, Sem.run_pure, bytes_extract]
    simp
  · exact absurd h hne
end first

/-! ### How far a row may grow -/
theorem growBy_le (need : Nat) : ∀ (r c : Nat), c ≤ need + (need + 768) / 4 → Builtin.growBy need r c ≤ need + (need + 768) / 4
  | 0, c, h => h
  | r + 1, c, h => by
    unfold Builtin.growBy
    split
    · exact h
    · exact growBy_le need r _ (by omega)
theorem nextcap_le {need cap : Nat} (h : cap < need) : Builtin.nextslicecap need cap ≤ 2 * need + 192 := by
  unfold Builtin.nextslicecap
  split
  · omega
  · split
    · omega
    · have := growBy_le need 4 cap (by omega)
      omega

section grow
variable {R : Type} {P : Program} {G : AG} {no r : R}
/-- the tail of append where it grows: from a world in which the old and the new cells are read -/
theorem growA_ok {e : TypeId} {te : TI} {de : TypeDesc} {ie : TypeInfo} {ze : Value} (hee : TIok P e te de ie ze) (hzl : te.zero.length = te.size) {need : Nat} {fz : Fz} {old new : List AV} {K : AV → AG → R} (hfz : FzR fz 0 (0, 0) ∧ (fz = .no ∨ fz = .any))
    (h : growA G e te.size need fz old new no K = r) (hne : no ≠ r) :
    need ≤ 1000000 ∧ K (.sl G.nx 0 need (.op 0)) (G.new (.cells ⟨e, te.size, true, fz, old ++ new⟩)) = r ∧
    ∀ (w0 : World) (base U : Nat) (σ : Sub) (w : World) (os ns : List Value) (cap : Nat), Rel w0 base U σ G w → G.nx.num < U → VRs σ old os → VRs σ new ns → (∀ y ∈ os, y.oneCell' = true) → (∀ y ∈ ns, y.oneCell' = true) → old.length + new.length = need * te.size → need ≤ cap →
      ∃ σ' w', (newRow e (os.toArray ++ ns.toArray ++ Builtin.zeroCells ze.cells (cap - need))).run P w = .ok ⟨w.heap.size, 0, none⟩ w' ∧ VR σ' (.sl G.nx 0 need (.op 0)) (.slice (some ⟨w.heap.size, 0, none⟩) need cap) ∧
        Ext w0 base U σ G w σ' (G.new (.cells ⟨e, te.size, true, fz, old ++ new⟩)) w' := by
  unfold growA at h
  obtain ⟨hn, h⟩ := br_inv h hne
  rw [appK_eq, AG.newK_eq] at h
  refine ⟨ble_iff.1 hn, h, fun w0 base U σ w os ns cap hr hU ho hnw h1 h2 hlen hcap => ?_⟩
  have hz := (ofVs_ok hee.zs : VRs σ te.zero ze.cells.toList)
  have hzs : ze.cells.size = te.size := by rw [← Array.length_toList, hz.len, hzl]
  have hle := Sub.upd_le (hr.undef _ (Nat.le_refl _) hU) w.heap.size cap
  let rest := Builtin.zeroCells ze.cells (cap - need)
  have hrest : rest.size = (cap - need) * te.size := by
    show (Builtin.zeroCells ze.cells (cap - need)).size = _
    simp [Builtin.zeroCells, hzs]
  have hol := ho.len
  have hnl := hnw.len
  have htot : ((os ++ ns) ++ rest.toList).length = cap * te.size := by
    simp only [List.length_append, Array.length_toList, hrest, hol, hnl, hlen]
    rw [← Nat.add_mul]
    congr 1
    omega
  have hext := hr.newB (c := cap) (x := .cells ⟨e, te.size, true, fz, old ++ new⟩) (o := .cells ((os ++ ns) ++ rest.toList).toArray e) hU
    ⟨os ++ ns, rest.toList, (0, 0), rfl, (ho.app hnw).mono hle, fun y hy => by
      rcases List.mem_append.1 hy with hy | hy
      · exact h1 y hy
      · exact h2 y hy, fun e => (by cases e), fun _ => by rw [Sub.upd_cap]; exact htot, by
      rcases hfz.2 with rfl | rfl
      · rfl
      · exact .inl rfl⟩
  refine ⟨_, _, ?_, ?_, hext⟩
  · simp only [newRow, Sem.run_bind, run_newObj, Result.andThen_ok, Sem.run_pure]
    congr 3
    congr 1
    apply Array.ext'
    simp [rest]
  · simp only [VR]
    exact ⟨w.heap.size, cap, Sub.upd_at .., by simp only [capR, Sub.upd_cap]; omega, hcap, rfl⟩
end grow

/-- append, up to where it may grow -/
theorem run_append {P : Program} {ts : Array TypeId} {ty t e : TypeId} {te : TI} {de : TypeDesc} {ie : TypeInfo} {ze : Value} (hee : TIok P e te de ie ze) (h0 : ts[0]? = some t) (hu : P.underlying t = some (.slice e))
    (hz : ∀ x, ts[1]? = some x → ∃ d, P.underlying x = some d ∧ (∀ k, d ≠ .int k)) (hb0 : te.bytes ≠ 0) (hb1 : te.bytes ≤ 100000)
    {a : Option Addr} {sl sc n : Nat} {x : Value} {w : World} (hx : (Builtin.lenOf x).run P w = .ok n w) (hbig : sl + n ≤ sc ∨ sl + n ≤ 1000000) :
    (Builtin.append_ ts ty #[.slice a sl sc, x]).run P w =
      if sl + n ≤ sc then ((Builtin.firstCells te.size n x).run P w).andThen fun new w' => ((match a with | some a => storeCells (a.add (sl * te.size)) new.toList | none => pure ()).run P w').andThen fun _ w'' => .ok (.slice a (sl + n) sc) w''
      else ((Builtin.firstCells te.size sl (.slice a sl sc)).run P { w with drawn := w.drawn + 1 }).andThen fun old w' => ((Builtin.firstCells te.size n x).run P w').andThen fun new w'' =>
        ((newRow e (old ++ new ++ Builtin.zeroCells ze.cells (Question.cut (.appendCap (sl + n) sc e) (w.tape w.drawn (.appendCap (sl + n) sc e)) - (sl + n)))).run P w'').andThen fun b w3 =>
          .ok (.slice (some b) (sl + n) (Question.cut (.appendCap (sl + n) sc e) (w.tape w.drawn (.appendCap (sl + n) sc e)))) w3 := by
  have hun : (underlying t).run P w = .ok (.slice e) w := by simp [underlying, hu]
  unfold Builtin.append_
  have e0 : (#[Value.slice a sl sc, x] : Array Value)[0]? = some (.slice a sl sc) := rfl
  have e1 : (#[Value.slice a sl sc, x] : Array Value)[1]? = some x := rfl
  have hty : ∀ {γ : Type} (K : Bool → Sem γ), (match (generalizing := false) ts[1]? with | some x => (underlying x >>= fun d => pure (match d with | .int _ => true | _ => false) >>= K) | none => pure false >>= K : Sem γ).run P w = (K false).run P w := by
    intro γ K
    cases h1 : ts[1]? with
    | none => simp
    | some x' =>
      obtain ⟨d, hd, hk⟩ := hz x' h1
      have hux : (underlying x').run P w = .ok d w := by simp [underlying, hd]
      cases d with
      | int k => exact absurd rfl (hk k)
      | _ => simp only [Sem.run_bind, hux, Result.andThen_ok, Sem.run_pure]
  simp only [h0, e0, e1, Sem.run_bind, hun, Result.andThen_ok, hee.run_size]
  refine (hty _).trans ?_
  simp only [Bool.false_eq_true, if_false, hx, Bool.not_false, if_true, Sem.run_bind, Result.andThen_ok]
  by_cases hc : sl + n ≤ sc
  · rw [if_pos hc, if_pos hc]
    simp only [Sem.run_bind]
    cases a with
    | none => simp
    | some a => simp
  · rw [if_neg hc, if_neg hc]
    have hcap : sc < sl + n := by omega
    have hle := nextcap_le hcap
    have hb : Builtin.nextslicecap (sl + n) sc * te.bytes ≤ 2000192 * 100000 := Nat.mul_le_mul (by omega) hb1
    have hnb : ¬ (Builtin.nextslicecap (sl + n) sc * ie.bytes > 2 ^ 48) := by
      rw [← hee.bytes]
      have : (2 : Nat) ^ 48 = 281474976710656 := by decide
      rw [this]; omega
    have hib : ie.bytes ≠ 0 := by rw [← hee.bytes]; exact hb0
    simp only [Sem.run_bind, hee.run_info, Result.andThen_ok, Sem.run_ite, hib, or_self, and_false, if_false, Sem.run_pure, hnb, run_choose]
    simp only [Question.forced, Bool.false_eq_true, if_false, Result.andThen_ok, run_askRoom, hee.run_zero]
end Go.Ev

/-! Soundness of the evaluator's operations, part nine: append and copy whole. -/
namespace Go.Ev
open Go Go.RowKit

section op
variable {R : Type} {P : Program} {ro : Nat → Option CB} {G : AG} {no r : R}

theorem noZeros_ok {ts : List TypeId} (h : noZeros P ts = true) : ∀ x, ts.toArray[1]? = some x → ∃ d, P.underlying x = some d ∧ (∀ k, d ≠ .int k) := by
  intro x hx
  unfold noZeros at h
  rw [nthL_eq] at h
  have hx' : ts[1]? = some x := by simpa using hx
  rw [hx'] at h
  rw [om_eq] at h
  simp only at h
  obtain ⟨tu, htu, h⟩ := om_inv h nofun
  obtain ⟨d, i, z, ht⟩ := mkTI_ok htu
  refine ⟨d, ht.und, fun k e => ?_⟩
  rw [ht.k, e] at h
  cases h

/-- what append needs to know of its types -/
structure AppT (P : Program) (ts : List TypeId) (e : TypeId) (te : TI) : Prop where
  t : ∃ t, ts.toArray[0]? = some t ∧ P.underlying t = some (.slice e)
  hz : ∀ x, ts.toArray[1]? = some x → ∃ d, P.underlying x = some d ∧ (∀ k, d ≠ .int k)
  ok : ∃ d i z, TIok P e te d i z
  b0 : te.bytes ≠ 0
  b1 : te.bytes ≤ 100000
  zl : te.zero.length = te.size

/-- what an append gives -/
def AppR (P : Program) (ro : Nat → Option CB) (ts : List TypeId) (G : AG) (s x v : AV) (G' : AG) : Prop :=
  G.nx.num ≤ G'.nx.num ∧ ∀ (w0 : World) (base U : Nat) (σ : Sub) (w : World) (a b : Value) (ty : TypeId), RoOK ro w0 base → Rel w0 base U σ G w → VR σ s a → VR σ x b → G'.nx.num ≤ U →
    ∃ σ' w' y, (Builtin.append_ ts.toArray ty #[a, b]).run P w = .ok y w' ∧ VR σ' v y ∧ Ext w0 base U σ G w σ' G' w'

theorem cut_app (need sc e t : Nat) : need ≤ Question.cut (.appendCap need sc e) t := by
  simp only [Question.cut]; omega

/-- append that grows -/
theorem app_grow {ts : List TypeId} {e : TypeId} {te : TI} (ht : AppT P ts e te) {s x : AV} {len n : Nat} {fz : Fz} {old new : List AV} {K : AV → AG → R} (hfz : FzR fz 0 (0, 0) ∧ (fz = .no ∨ fz = .any))
    (hx : ∀ (σ : Sub) (w : World) (u : Value), VR σ x u → (Builtin.lenOf u).run P w = .ok n w)
    (hs : ∀ (w0 : World) (base U : Nat) (σ : Sub) (w : World) (a : Value), RoOK ro w0 base → Rel w0 base U σ G w → VR σ s a → ∃ p sc, a = .slice p len sc ∧ FirstR P te.size len old σ w a ∧ ¬ (len + n ≤ sc))
    (hnw : ∀ (w0 : World) (base U : Nat) (σ : Sub) (w : World) (u : Value), RoOK ro w0 base → Rel w0 base U σ G w → VR σ x u → FirstR P te.size n new σ w u)
    (hol : old.length = len * te.size) (hnl : new.length = n * te.size)
    (h : growA G e te.size (len + n) fz old new no K = r) (hne : no ≠ r) :
    ∃ v G', K v G' = r ∧ AppR P ro ts G s x v G' := by
  obtain ⟨d, i, z, hee⟩ := ht.ok
  obtain ⟨t, h0, hu⟩ := ht.t
  obtain ⟨hbig, h, ok⟩ := growA_ok hee ht.zl hfz h hne
  refine ⟨_, _, h, by rw [nx_new]; omega, fun w0 base U σ w a b ty hro hr ha hb hU => ?_⟩
  obtain ⟨p, sc, rfl, _, hsc⟩ := hs w0 base U σ w a hro hr ha
  have hr1 := hr.drawn (w.drawn + 1)
  have he1 := Ext.drawn hr (w.drawn + 1)
  obtain ⟨p', sc', e1, ⟨os, ho1, ho2, ho3⟩, _⟩ := hs w0 base U σ _ _ hro hr1 ha
  obtain ⟨ns, hn1, hn2, hn3⟩ := hnw w0 base U σ _ _ hro hr1 hb
  have hcut := cut_app (len + n) sc e (w.tape w.drawn (.appendCap (len + n) sc e))
  obtain ⟨σ', w', hg1, hg2, hg3⟩ := ok w0 base U σ _ os ns _ hr1 (by rw [nx_new] at hU; omega) ho2 hn2 ho3 hn3 (by rw [hol, hnl, Nat.add_mul]) hcut
  rw [run_append hee h0 hu ht.hz ht.b0 ht.b1 (hx σ w b hb) (.inr hbig), if_neg hsc, ho1]
  simp only [Result.andThen_ok, hn1, hg1]
  exact ⟨σ', w', _, rfl, hg2, he1.trans hg3⟩

theorem appEx_ok {ts : List TypeId} {e : TypeId} {te : TI} (ht : AppT P ts e te) {b : Pth} {o len cap n : Nat} {x : AV} {K : AV → AG → R}
    (hx : ∀ (σ : Sub) (w : World) (u : Value), VR σ x u → (Builtin.lenOf u).run P w = .ok n w)
    (h : appEx ro G e te.size b o len cap n x no K = r) (hne : no ≠ r) : ∃ v G', K v G' = r ∧ AppR P ro ts G (.sl b o len (.ex cap)) x v G' := by
  unfold appEx at h
  rw [fN_eq, br_eq] at h
  split at h
  · rename_i hc
    have hc' : len + n ≤ cap := ble_iff.1 hc
    obtain ⟨new, h, hl, ok⟩ := firstA_ok h hne
    obtain ⟨G', hG, hnx, ok'⟩ := stC_ok h hne
    refine ⟨_, _, hG, by rw [hnx]; omega, fun w0 base U σ w a u ty hro hr ha hu hU => ?_⟩
    obtain ⟨d, i, z, hee⟩ := ht.ok
    obtain ⟨t, h0, hun⟩ := ht.t
    simp only [VR] at ha
    obtain ⟨m, cp, hm, hcp, hle, rfl⟩ := ha
    simp only [capR] at hcp
    subst hcp
    obtain ⟨ns, hn1, hn2, hn3⟩ := ok P w0 base U σ w u hro hr hu
    obtain ⟨w', hs1, hs2⟩ := ok' P w0 base U σ w m ns hr hm hn2 hn3
    rw [run_append hee h0 hun ht.hz ht.b0 ht.b1 (hx σ w u hu) (.inl hc'), if_pos hc', hn1]
    simp only [Result.andThen_ok, add_mk]
    have hs1' : (storeCells ⟨m, o + len * te.size, none⟩ ns).run P w = .ok () w' := hs1
    rw [hs1']
    refine ⟨σ, w', _, rfl, ?_, hs2⟩
    simp only [VR]
    exact ⟨m, cp, hm, by simp only [capR], hc', rfl⟩
  · rename_i hc
    have hc' : ¬ (len + n ≤ cap) := fun e' => hc (ble_iff.2 e')
    obtain ⟨old, h, hol, oko⟩ := firstA_ok h hne
    obtain ⟨new, h, hnl, okn⟩ := firstA_ok h hne
    refine app_grow ht (fz := .no) ⟨by simp only [FzR], .inl rfl⟩ hx (fun w0 base U σ w a hro hr ha => ?_) (fun w0 base U σ w u hro hr hu => okn P w0 base U σ w u hro hr hu) hol hnl h hne
    have hf := oko P w0 base U σ w a hro hr ha
    simp only [VR] at ha
    obtain ⟨m, cp, hm, hcp, hle, rfl⟩ := ha
    simp only [capR] at hcp
    subst hcp
    exact ⟨_, _, rfl, hf, hc'⟩

/-- of a row nothing is appended to -/
theorem app_none {ts : List TypeId} {e : TypeId} {te : TI} (ht : AppT P ts e te) {s x : AV} 
    (hx : ∀ (σ : Sub) (w : World) (u : Value), VR σ x u → (Builtin.lenOf u).run P w = .ok 0 w ∧ (Builtin.firstCells te.size 0 u).run P w = .ok #[] w)
    (hs : ∀ (σ : Sub) (a : Value), VR σ s a → ∃ p len sc, a = .slice p len sc ∧ len ≤ sc) : AppR P ro ts G s x s G := by
  refine ⟨Nat.le_refl _, fun w0 base U σ w a b ty hro hr ha hb hU => ?_⟩
  obtain ⟨d, i, z, hee⟩ := ht.ok
  obtain ⟨t, h0, hun⟩ := ht.t
  obtain ⟨p, len, sc, rfl, hle⟩ := hs σ a ha
  obtain ⟨h1, h2⟩ := hx σ w b hb
  refine ⟨σ, w, _, ?_, ha, Ext.refl hr⟩
  rw [run_append hee h0 hun ht.hz ht.b0 ht.b1 h1 (.inl hle), if_pos (show len + 0 ≤ sc from hle), h2]
  cases p <;> simp [storeCells]

theorem appOp_ok {ts : List TypeId} {e : TypeId} {te : TI} (ht : AppT P ts e te) {b : Pth} {o len k n : Nat} {x : AV} {K : AV → AG → R}
    (hx : ∀ (σ : Sub) (w : World) (u : Value), VR σ x u → (Builtin.lenOf u).run P w = .ok n w) (hx0 : ∀ (σ : Sub) (w : World) (u : Value), VR σ x u → (Builtin.firstCells te.size 0 u).run P w = .ok #[] w)
    (h : appOp ro G e te.size b o len k n x no K = r) (hne : no ≠ r) : ∃ v G', K v G' = r ∧ AppR P ro ts G (.sl b o len (.op k)) x v G' := by
  unfold appOp at h
  rw [br_eq] at h
  split at h
  · rename_i hn
    have := beq_iff.1 hn
    subst this
    refine ⟨_, _, h, app_none ht (fun σ w u hu => ⟨hx σ w u hu, hx0 σ w u hu⟩) fun σ a ha => ?_⟩
    simp only [VR] at ha
    obtain ⟨m, cp, hm, hcp, hle, rfl⟩ := ha
    exact ⟨_, _, _, rfl, hle⟩
  · obtain ⟨ho, h⟩ := br_inv h hne
    obtain ⟨hk, h⟩ := br_inv h hne
    have := beq_iff.1 ho
    subst this
    have := beq_iff.1 hk
    subst this
    obtain ⟨bx, hbx, h⟩ := om_inv h hne
    split at h
    · rename_i c
      obtain ⟨hop, h⟩ := br_inv h hne
      obtain ⟨hes, h⟩ := br_inv h hne
      obtain ⟨hrn, h⟩ := br_inv' h hne
      rw [takeX_eq] at h
      split at h
      · rename_i hl
        obtain ⟨new, h, hnl, okn⟩ := firstA_ok h hne
        rw [fN_eq] at h
        obtain ⟨hel, h⟩ := br_inv h hne
        rw [AG.setK_eq] at h
        have hes' := beq_iff.1 hes
        have hel' := beq_iff.1 hel
        obtain ⟨d, i, z, hee⟩ := ht.ok
        obtain ⟨t, h0, hun⟩ := ht.t
        have hfz : FzR (fzOn c.fz) 0 (0, 0) ∧ (fzOn c.fz = .no ∨ fzOn c.fz = .any) := by
          cases c.fz <;> simp [fzOn, FzR]
        replace h : growA (G.set b none) e te.size (len + n) (fzOn c.fz) (c.cs.take (len * te.size)) new no K = r := h
        obtain ⟨hbig, h, okg⟩ := growA_ok hee ht.zl hfz h hne
        refine ⟨_, _, h, by rw [nx_new]; show G.nx.num ≤ G.nx.num + 1; omega, fun w0 base U σ w a u ty hro hr ha hu hU => ?_⟩
        have hUn : G.nx.num < U := by rw [nx_new] at hU; exact hU
        simp only [VR] at ha
        obtain ⟨m, cp, hm, hcp, hle, rfl⟩ := ha
        have hcp : cp = σ.cap b := hcp
        obtain ⟨m', vs, ex, f, hm', hbm, hob, h1, h2, _, h3, h4⟩ := hr.cells hbx
        have : m' = m := Option.some.inj (hm'.symm.trans hm)
        subst this
        have h3 := h3 hop
        have hlen := h1.len
        have hlv : len * te.size ≤ vs.length := by rw [hlen]; exact hl
        by_cases hc : len + n ≤ cp
        · -- in place
          obtain ⟨ns, hn1, hn2, hn3⟩ := okn P w0 base U σ w u hro hr hu
          have hnn := hn2.len
          have hsp : (len + n) * te.size ≤ (vs ++ ex).length := by
            rw [h3, hes', ← hcp]; exact Nat.mul_le_mul_right _ hc
          have hst := run_storeCells (P := P) ns w m' (len * te.size) 0 (vs ++ ex) c.el f hob (by rw [hnn, hnl, Nat.add_zero, ← Nat.add_mul]; exact hsp) (fun j hj => by
            have hj' : len * te.size + 0 + j < (vs ++ ex).length := by
              rw [hnn, hnl] at hj
              have := Nat.add_mul len n te.size
              omega
            unfold FzR at h4
            split at h4
            · subst h4; show ¬ ((0 : Nat) ≤ _ ∧ _ < (0 : Nat)); omega
            · rename_i e'; rw [e'] at hrn; cases hrn
            · subst h4; show ¬ ((vs ++ ex).length ≤ _ ∧ _); omega
            · rcases h4 with h4 | h4
              · subst h4; show ¬ ((0 : Nat) ≤ _ ∧ _ < (0 : Nat)); omega
              · subst h4; show ¬ ((vs ++ ex).length ≤ _ ∧ _); omega) hn3
          rw [run_append hee h0 hun ht.hz ht.b0 ht.b1 (hx σ w u hu) (.inl hc), if_pos hc, hn1]
          have hst' : (storeCells ⟨m', 0 + len * te.size, none⟩ ns).run P w = .ok () (withCells w m' (putL (vs ++ ex) (len * te.size) ns) c.el f) := by
            rw [Nat.zero_add]; exact hst
          simp only [Result.andThen_ok, add_mk]
          rw [hst']
          let cs' := putL (vs ++ ex) (len * te.size) ns
          have hd := hr.dropB hbx
          have hbelow : Below base w0 (withCells w m' cs' c.el f) := below_set hr.below hbm _
          have hml := lt_of_heap hob
          have hle1 : σ.le (σ.upd G.nx m' cp) := Sub.upd_le (hr.undef _ (Nat.le_refl _) hUn) m' cp
          obtain ⟨hnew, hle2⟩ := hd.rel.newAt (w' := withCells w m' cs' c.el f) (n := m') (c := cp) (x := .cells ⟨e, te.size, true, fzOn c.fz, c.cs.take (len * te.size) ++ new⟩) (o := .cells cs'.toArray c.el f) hUn hbelow (by simp [withCells]) hbm (by simp [withCells, hml])
            (fun b' y hb' hbb => by
              have hget : (G.set b none).get b' = if b' = b then none else G.get b' := AG.get_set none b'
              rw [hget] at hb'
              split at hb'
              · cases hb'
              · rename_i hne'
                exact hne' (hr.inj b' b _ _ m' hb' hbx hbb hm))
            (fun j hj _ => by
              show (w.heap.setIfInBounds m' _)[j]? = _
              rw [Array.getElem?_setIfInBounds_ne (Ne.symm hj)])
            (by
              have hdl : (vs.take (len * te.size) ++ ns).length = (len + n) * te.size := by
                rw [List.length_append, List.length_take, hnn, hnl, Nat.min_eq_left hlv, Nat.add_mul]
              refine ⟨vs.take (len * te.size) ++ ns, (vs ++ ex).drop ((len + n) * te.size), f, ?_, ((h1.take _).app hn2).mono hle1, fun y hy => ?_, fun e' => (by cases e'), fun _ => ?_, ?_⟩
              · rw [hel']
                show Obj.cells (putL (vs ++ ex) (len * te.size) ns).toArray e f = _
                unfold putL
                rw [List.take_append_of_le_length hlv, hnn, hnl, ← Nat.add_mul]
              · rcases List.mem_append.1 hy with hy | hy
                · exact h2 y (List.mem_of_mem_take hy)
                · exact hn3 y hy
              · rw [Sub.upd_cap, List.length_append, hdl, List.length_drop, hcp, ← hes', ← h3]
                rw [hes']; omega
              · rw [List.length_append, hdl, List.length_drop]
                have e1 : (len + n) * te.size + ((vs ++ ex).length - (len + n) * te.size) = (vs ++ ex).length := by omega
                rw [e1]
                unfold FzR at h4 ⊢
                cases hcf : c.fz <;> rw [hcf] at h4 <;> simp only [fzOn] <;> first | exact h4 | exact .inr h4 | (rw [hcf] at hrn; cases hrn))
          have hsn : ∀ y, ((G.set b none).new y).nx.num = G.nx.num + 1 := fun y => Pth.num_suc _
          have hge : ∀ y j, ((G.set b none).new y).get j = if j = G.nx then some y else (G.set b none).get j := fun y j => AG.get_new y j
          refine ⟨_, _, _, rfl, ?_, hle2, ?_, ?_, hnew, by simp [withCells], ?_, ?_⟩
          · simp only [VR]
            exact ⟨m', cp, Sub.upd_at .., by simp only [capR, Sub.upd_cap]; omega, hc, rfl⟩
          · intro j hj
            rw [hsn] at hj
            exact Sub.upd_ne _ _ _ (fun e' => by subst e'; change G.nx.num < G.nx.num ∨ G.nx.num + 1 ≤ G.nx.num at hj; omega)
          · rw [hsn]; omega
          · intro j hj hno
            show (w.heap.setIfInBounds m' _)[j]? = _
            rw [Array.getElem?_setIfInBounds_ne (fun e' => hno b _ hbx (by rw [hm, e']))]
          · intro j y q hj hq
            rw [hge] at hj
            split at hj
            · rename_i e'
              subst e'
              have := (Sub.upd_at σ G.nx m' cp).symm.trans hq
              cases this
              exact .inl ⟨b, _, hbx, hm⟩
            · rename_i e'
              have hq' := (Sub.upd_ne σ m' cp e').symm.trans hq
              have hgd : (G.set b none).get j = if j = b then none else G.get j := AG.get_set none j
              rw [hgd] at hj
              split at hj
              · cases hj
              · exact .inl ⟨j, y, hj, hq'⟩
        · -- in a new block
          have hd := hr.dropB hbx
          have hr1 := hd.rel.drawn (w.drawn + 1)
          have hdr := hd.trans (Ext.drawn hd.rel (w.drawn + 1))
          obtain ⟨ns, hn1, hn2, hn3⟩ := okn P w0 base U σ _ u hro (hr.drawn (w.drawn + 1)) hu
          have hcut := cut_app (len + n) cp e (w.tape w.drawn (.appendCap (len + n) cp e))
          have hld : (Builtin.firstCells te.size len (.slice (some ⟨m', 0, none⟩) len cp)).run P { w with drawn := w.drawn + 1 } = .ok (vs.take (len * te.size)).toArray { w with drawn := w.drawn + 1 } := by
            simp only [Builtin.firstCells]
            rw [run_loadCells (w := { w with drawn := w.drawn + 1 }) hob (by simp; omega)]
            rw [List.drop_zero, List.take_append_of_le_length hlv]
          obtain ⟨σ', w', hg1, hg2, hg3⟩ := okg w0 base U σ { w with drawn := w.drawn + 1 } (vs.take (len * te.size)) ns _ hr1 hUn (h1.take _) hn2 (fun y hy => h2 y (List.mem_of_mem_take hy)) hn3
            (by rw [List.length_take, hnl, Nat.min_eq_left (show len * te.size ≤ c.cs.length from hl)]; exact (Nat.add_mul ..).symm) hcut
          rw [run_append hee h0 hun ht.hz ht.b0 ht.b1 (hx σ w u hu) (.inr hbig), if_neg hc, hld]
          simp only [Result.andThen_ok, hn1]
          rw [hg1]
          exact ⟨σ', w', _, rfl, hg2, hdr.trans hg3⟩
      · exact absurd h hne
    · exact absurd h hne

theorem appendA_ok {ts : List TypeId} {s x : AV} {K : AV → AG → R} (h : appendA P ro G ts s x no K = r) (hne : no ≠ r) : ∃ v G', K v G' = r ∧ AppR P ro ts G s x v G' := by
  unfold appendA at h
  rw [nthL_eq] at h
  obtain ⟨t, ht, h⟩ := om_inv h hne
  obtain ⟨ti, hti, h⟩ := om_inv h hne
  obtain ⟨hz, h⟩ := br_inv h hne
  split at h
  · rename_i e hk
    obtain ⟨te, hte, h⟩ := om_inv h hne
    obtain ⟨hb0, h⟩ := br_inv' h hne
    obtain ⟨hb1, h⟩ := br_inv h hne
    obtain ⟨hzl, h⟩ := br_inv h hne
    have hlen := fun (n : Nat) (K' : Nat → R) (hh : lenA x no K' = r) => hh
    obtain ⟨d, i, z, htt⟩ := mkTI_ok hti
    have hAT : AppT P ts e te := ⟨⟨t, by simpa using ht, by rw [htt.und, mkTK_slice (htt.k.symm.trans hk)]⟩, noZeros_ok hz, mkTI_ok hte, fun e' => (by rw [e'] at hb0; cases hb0), ble_iff.1 hb1, (by rw [← lenL_eq]; exact beq_iff.1 hzl)⟩
    have hx0 : ∀ (σ : Sub) (w : World) (u : Value), VR σ x u → (Builtin.firstCells te.size 0 u).run P w = .ok #[] w := fun σ w u hu => first_zero h hne hu
    obtain ⟨n, h, hx⟩ := lenA_ok h hne
    split at h
    · rw [br_eq] at h
      split at h
      · rename_i hn
        have := beq_iff.1 hn
        subst this
        refine ⟨_, _, h, app_none hAT (fun σ w u hu => ⟨hx P σ w u hu, hx0 σ w u hu⟩) fun σ a ha => ?_⟩
        simp only [VR] at ha
        exact ⟨_, _, _, ha, Nat.le_refl _⟩
      · rename_i hn
        have hn' : n ≠ 0 := fun e' => hn (by subst e'; rfl)
        obtain ⟨new, h, hnl, okn⟩ := firstA_ok h hne
        refine app_grow (len := 0) (old := []) (fz := .no) hAT ⟨by simp only [FzR], .inl rfl⟩ (fun σ w u hu => hx P σ w u hu) (fun w0 base U σ w a hro hr ha => ?_) (fun w0 base U σ w u hro hr hu => okn P w0 base U σ w u hro hr hu) (by simp) hnl (by rw [Nat.zero_add]; exact h) hne
        simp only [VR] at ha
        subst ha
        refine ⟨_, _, rfl, ⟨[], ?_, VRs.nil, fun y hy => by cases hy⟩, by omega⟩
        simp [Builtin.firstCells]
    · split at h
      · exact appEx_ok hAT (fun σ w u hu => hx P σ w u hu) h hne
      · exact appOp_ok hAT (fun σ w u hu => hx P σ w u hu) hx0 h hne
    · exact absurd h hne
  · exact absurd h hne

theorem copyA_ok {ts : List TypeId} {s x : AV} {K : AV → AG → R} (h : copyA P ro G ts s x no K = r) (hne : no ≠ r) : ∃ v G', K v G' = r ∧ G.nx.num ≤ G'.nx.num ∧ ∀ (w0 : World) (base U : Nat) (σ : Sub) (w : World) (a b : Value) (ty : TypeId), RoOK ro w0 base → Rel w0 base U σ G w → VR σ s a → VR σ x b → G'.nx.num ≤ U →
    ∃ σ' w' y, (Builtin.copy_ ts.toArray ty #[a, b]).run P w = .ok y w' ∧ VR σ' v y ∧ Ext w0 base U σ G w σ' G' w' := by
  unfold copyA at h
  rw [nthL_eq] at h
  obtain ⟨t, ht, h⟩ := om_inv h hne
  obtain ⟨ti, hti, h⟩ := om_inv h hne
  obtain ⟨d, i, z, htt⟩ := mkTI_ok hti
  split at h
  · rename_i e hk
    obtain ⟨te, hte, h⟩ := om_inv h hne
    obtain ⟨d', i', z', hee⟩ := mkTI_ok hte
    have hx0 : ∀ (σ : Sub) (w : World) (u : Value), VR σ x u → (Builtin.firstCells te.size 0 u).run P w = .ok #[] w := fun σ w u hu => first_zero h hne hu
    obtain ⟨m, h, hx⟩ := lenA_ok h hne
    have ht0 : ts.toArray[0]? = some t := by simpa using ht
    have hund : ∀ w, (underlying t).run P w = .ok (.slice e) w := fun w => by rw [htt.run_und, mkTK_slice (htt.k.symm.trans hk)]
    have key : ∀ (p : Option Addr) (len cp : Nat) (b : Value) (σ : Sub) (w : World) (ty : TypeId), VR σ x b → (Builtin.copy_ ts.toArray ty #[.slice p len cp, b]).run P w = ((Builtin.firstCells te.size (Nat.min m len) b).run P w).andThen fun l w' =>
        ((match p with | some a => storeCells a l.toList | none => pure ()).run P w').andThen fun _ w'' => .ok (goInt (Nat.min m len)) w'' := fun p len cp b σ w ty hb => by
      unfold Builtin.copy_
      have e0 : (#[Value.slice p len cp, b] : Array Value)[0]? = some (.slice p len cp) := rfl
      have e1 : (#[Value.slice p len cp, b] : Array Value)[1]? = some b := rfl
      simp only [ht0, e0, e1, Sem.run_bind, hund, Result.andThen_ok, hx P σ w b hb, hee.run_size]
      cases p <;> simp
    have nilc : ∀ (p : Option Addr) (cp : Nat) (b : Value) (σ : Sub) (w : World) (ty : TypeId), VR σ x b → (Builtin.copy_ ts.toArray ty #[.slice p 0 cp, b]).run P w = .ok (.int .i64 0) w := fun p cp b σ w ty hb => by
      rw [key p 0 cp b σ w ty hb]
      have : Nat.min m 0 = 0 := Nat.min_zero m
      rw [this, hx0 σ w b hb]
      cases p <;> simp [storeCells, goInt]
    split at h
    · rename_i b o len c _ _ _ _
      rw [fN_eq] at h
      obtain ⟨l, h, hl, okl⟩ := firstA_ok h hne
      obtain ⟨G', hG, hnx, oks⟩ := stC_ok h hne
      refine ⟨_, _, hG, by rw [hnx]; omega, fun w0 base U σ w a u ty hro hr ha hu hU => ?_⟩
      simp only [VR] at ha
      obtain ⟨q, cp, hq, _, _, rfl⟩ := ha
      have hmin : br (Nat.ble m len) m len = Nat.min m len := by
        rw [br_eq]
        split
        · rename_i hle
          exact (Nat.min_eq_left (ble_iff.1 hle)).symm
        · rename_i hle
          have : ¬ m ≤ len := fun e' => hle (ble_iff.2 e')
          exact (Nat.min_eq_right (by omega)).symm
      obtain ⟨ns, hn1, hn2, hn3⟩ := okl P w0 base U σ w u hro hr hu
      obtain ⟨w', hs1, hs2⟩ := oks P w0 base U σ w q ns hr hq hn2 hn3
      rw [hmin] at hn1
      rw [key _ _ _ _ σ w ty hu, hn1]
      simp only [Result.andThen_ok]
      rw [hs1]
      refine ⟨σ, w', _, rfl, ?_, hs2⟩
      simp only [VR, goInt]
      rw [hmin]
      rfl
    · refine ⟨_, _, h, Nat.le_refl _, fun w0 base U σ w a u ty hro hr ha hu hU => ?_⟩
      simp only [VR] at ha
      subst ha
      exact ⟨σ, w, _, nilc _ _ _ σ w ty hu, by simp only [VR], Ext.refl hr⟩
    · refine ⟨_, _, h, Nat.le_refl _, fun w0 base U σ w a u ty hro hr ha hu hU => ?_⟩
      simp only [VR] at ha
      obtain ⟨p, cp, rfl⟩ := ha
      exact ⟨σ, w, _, nilc _ _ _ σ w ty hu, by simp only [VR], Ext.refl hr⟩
    · exact absurd h hne
  · exact absurd h hne
end op
end Go.Ev

/-! Soundness of the evaluator's operations, part ten: maps. -/
namespace Go.Ev
open Go Go.RowKit

/-! ### Keys -/
section key
variable {R : Type} {P : Program} {no r : R}
/-- a value that a key may be -/
def KeyOK (P : Program) (f : Nat) (t : TypeId) (v : AV) : Prop :=
  ∀ (σ : Sub) (w : World) (em : Bool) (n : Nat) (u : Value), f ≤ n → VR σ v u → (Instr.checkKey em n t u).run P w = .ok () w
theorem keyFs_ok {ih : TypeId → AV → R → R → R} {f : Nat} (hne : no ≠ r) (hih : ∀ (t : TypeId) (v : AV) (K : R), ih t v no K = r → K = r ∧ KeyOK P f t v) {l : List AV} {K : R} :
    ∀ {fs : List Field}, keyFs P ih l no K (fs.map fun f => ⟨f.offset, f.type, P.cellsOf f.type, f.name == "_"⟩) = r → K = r ∧
      ∀ (σ : Sub) (w : World) (em : Bool) (n : Nat) (cs : List Value), f ≤ n → VRs σ l cs → (∀ c ∈ cs, c.oneCell' = true) →
        (forIn fs PUnit.unit fun (f : Field) (_ : PUnit) => (do
          if f.name ≠ "_" then do Instr.checkKey em n f.type (← part f.type cs.toArray f.offset); pure (.yield PUnit.unit) else pure (.yield PUnit.unit) : Sem (ForInStep PUnit))).run P w = .ok PUnit.unit w
  | [], h => ⟨h, fun σ w em n cs _ _ _ => by simp⟩
  | g :: fs, h => by
    have h' : br (g.name == "_") (keyFs P ih l no K (fs.map fun f => ⟨f.offset, f.type, P.cellsOf f.type, f.name == "_"⟩))
      (om (mkTI P g.type) no fun tf => partK tf l g.offset no fun x => ih g.type x no (keyFs P ih l no K (fs.map fun f => ⟨f.offset, f.type, P.cellsOf f.type, f.name == "_"⟩))) = r := h
    rw [br_eq] at h'
    by_cases hb : (g.name == "_") = true
    · rw [if_pos hb] at h'
      obtain ⟨hK, ok⟩ := keyFs_ok hne hih h'
      refine ⟨hK, fun σ w em n cs hn hl h1 => ?_⟩
      have : ¬ (g.name ≠ "_") := by simpa using hb
      simp only [List.forIn_cons, Sem.run_bind]
      rw [if_neg this]
      simp only [Sem.run_pure, Result.andThen_ok]
      exact ok σ w em n cs hn hl h1
    · rw [if_neg hb] at h'
      obtain ⟨tf, htf, h'⟩ := om_inv h' hne
      obtain ⟨df, i', zf, hf⟩ := mkTI_ok htf
      obtain ⟨x, hx, okx⟩ := partK_ok hf h' hne
      obtain ⟨hK, ok1⟩ := hih _ _ _ hx
      obtain ⟨hK, ok⟩ := keyFs_ok hne hih hK
      refine ⟨hK, fun σ w em n cs hn hl h1 => ?_⟩
      have hb' : g.name ≠ "_" := by simpa using hb
      obtain ⟨y, e1, v1⟩ := okx w σ cs hl h1
      simp only [List.forIn_cons, Sem.run_bind]
      rw [if_pos hb']
      simp only [Sem.run_bind, e1, Result.andThen_ok, ok1 σ w em n y hn v1, Sem.run_pure]
      exact ok σ w em n cs hn hl h1
theorem keyK_ok (hne : no ≠ r) : ∀ (f : Nat) (t : TypeId) (v : AV) (K : R), keyK P f t v no K = r → K = r ∧ KeyOK P f t v
  | 0, _, _, _, h => absurd h hne
  | f + 1, t, v, K, h => by
    replace h : keyStep P (keyK P f) t v no K = r := h
    unfold keyStep at h
    obtain ⟨ti, hti, h⟩ := om_inv h hne
    obtain ⟨d, i, z, ht⟩ := mkTI_ok hti
    have hk : ti.k = mkTK P d := ht.k
    have one : ∀ {n : Nat}, f + 1 ≤ n → ∃ m, n = m + 1 ∧ f ≤ m := fun {n} hn => ⟨n - 1, by omega, by omega⟩
    split at h
    · rename_i e
      have hd := mkTK_int (P := P) (d := d) (by rw [← hk, e])
      refine ⟨h, fun σ w em n u hn hu => ?_⟩
      obtain ⟨m, rfl, _⟩ := one hn
      unfold Instr.checkKey
      simp only [Sem.run_bind, run_underlying ht.und, Result.andThen_ok, hd]
      rfl
    · rename_i e
      have hd := mkTK_str (P := P) (d := d) (by rw [← hk, e])
      refine ⟨h, fun σ w em n u hn hu => ?_⟩
      obtain ⟨m, rfl, _⟩ := one hn
      unfold Instr.checkKey
      simp only [Sem.run_bind, run_underlying ht.und, Result.andThen_ok, hd]
      rfl
    · rename_i e
      have hd := mkTK_bool (P := P) (d := d) (by rw [← hk, e])
      refine ⟨h, fun σ w em n u hn hu => ?_⟩
      obtain ⟨m, rfl, _⟩ := one hn
      unfold Instr.checkKey
      simp only [Sem.run_bind, run_underlying ht.und, Result.andThen_ok, hd]
      rfl
    · rename_i fs e
      obtain ⟨fd, hd, hfs⟩ := mkTK_struct (P := P) (d := d) (by rw [← hk, e])
      replace h := asL_inv h hne
      obtain ⟨l, hv, h2⟩ := h
      subst hv
      rw [hfs] at h2
      obtain ⟨hK, ok⟩ := keyFs_ok hne (fun t v K => keyK_ok hne f t v K) h2
      refine ⟨hK, fun σ w em n u hn hu => ?_⟩
      obtain ⟨m, rfl, hm⟩ := one hn
      simp only [VR] at hu
      obtain ⟨cs, hcs, h1, rfl⟩ := hu
      rw [Instr.checkKey]
      simp only [Sem.run_bind, run_underlying ht.und, Result.andThen_ok, hd]
      rw [← Array.forIn_toList]
      rw [ok σ w em m cs hm hcs h1]
      rfl
    · exact absurd h hne
theorem keyK_und (hne : no ≠ r) : ∀ (f : Nat) (t : TypeId) (v : AV) (K : R), keyK P f t v no K = r → ∃ d, P.underlying t = some d
  | 0, _, _, _, h => absurd h hne
  | f + 1, t, v, K, h => by
    replace h : keyStep P (keyK P f) t v no K = r := h
    unfold keyStep at h
    obtain ⟨ti, hti, h⟩ := om_inv h hne
    obtain ⟨d, i, z, ht⟩ := mkTI_ok hti
    exact ⟨d, ht.und⟩
end key

section find
variable {R : Type} {P : Program} {no r : R}
theorem sameNow_equal {t : TypeId} {d : TypeDesc} (hd : P.underlying t = some d) {x y : Value} {q : Bool} (h : Instr.sameNow d x y = some q) (w : World) (n : Nat) : (Op.equalIn (n + 1) t x y).run P w = .ok q w := by
  unfold Instr.sameNow at h
  split at h
  · split at h
    · rename_i e
      subst e
      cases h
      exact run_equalIn_int w n t _ _ _ _ hd
    · cases h
  · cases h
    rw [run_equalIn_string w n t _ _ hd]
    congr 1
    exact (beq_toListBytes _ _).symm
  · cases h
    exact run_equalIn_bool w n t _ _ hd
  · cases h
theorem findNow_asking {t : TypeId} {d : TypeDesc} (hd : P.underlying t = some d) {k : Value} (w : World) : ∀ {l : List MapEntry} {i : Nat} {x : Option (Nat × Value)}, Instr.findNow d k l i = some x → (Instr.findAsking t k l i).run P w = .ok x w
  | [], i, x, h => by cases h; rfl
  | e :: l, i, x, h => by
    unfold Instr.findNow at h
    unfold Instr.findAsking
    split at h
    · rename_i hs
      cases h
      have := sameNow_equal hd hs w 9999
      simp only [Sem.run_bind]
      show (((Op.equalIn 10000 t k e.key).run P w).andThen _) = _
      rw [this]; rfl
    · rename_i hs
      have := sameNow_equal hd hs w 9999
      simp only [Sem.run_bind]
      show (((Op.equalIn 10000 t k e.key).run P w).andThen _) = _
      rw [this]
      exact findNow_asking hd w h
    · cases h
theorem run_findKey_asking {t : TypeId} {d : TypeDesc} (hd : P.underlying t = some d) {k : Value} {w : World} {l : List MapEntry} {x : Option (Nat × Value)} (h : (Instr.findAsking t k l).run P w = .ok x w) : (Instr.findKey t k l).run P w = .ok x w := by
  unfold Instr.findKey
  simp only [Sem.run_bind, run_underlying hd, Result.andThen_ok]
  cases hn : Instr.findNow d k l 0 with
  | none => exact h
  | some y =>
    have := findNow_asking hd w hn
    rw [h] at this
    cases this
    rfl
def FindR (σ : Sub) (a : Option (Nat × AV)) (x : Option (Nat × Value)) : Prop :=
  match a with
  | none => x = none
  | some (i, v) => ∃ u, x = some (i, u) ∧ VR σ v u
theorem findA_ok {G : AG} (hne : no ≠ r) {t : TypeId} {k : AV} : ∀ {es : List (AV × AV × Nat)} {i : Nat} {K : Option (Nat × AV) → R}, findA P G t k es no i K = r →
    ∃ a, K a = r ∧ ∀ (w0 : World) (base U : Nat) (σ : Sub) (w : World) (l : List MapEntry) (u : Value), Rel w0 base U σ G w → ERs σ es l → VR σ k u → ∃ x, (Instr.findAsking t u l i).run P w = .ok x w ∧ FindR σ a x
  | [], i, K, h => ⟨none, h, fun w0 base U σ w l u _ hl _ => by cases hl; exact ⟨none, rfl, rfl⟩⟩
  | (a, b, c) :: es, i, K, h => by
    have h' : eqT P G 20 t k a no (fun q => br q (K (some (i, b))) (findA P G t k es no (i + 1) K)) = r := h
    obtain ⟨q, hq, ok⟩ := eqT_ok hne 20 h'
    rw [br_eq] at hq
    cases q with
    | true =>
      refine ⟨_, hq, fun w0 base U σ w l u hr hl hu => ?_⟩
      obtain ⟨k', v', r', rfl, h1, h2, h3⟩ := hl
      have := ok w0 base U σ w 10000 u k' hr (by decide) hu h1
      refine ⟨some (i, v'), ?_, v', rfl, h2⟩
      unfold Instr.findAsking
      simp only [Sem.run_bind]
      show (((Op.equalIn 10000 t u k').run P w).andThen _) = _
      rw [this]; rfl
    | false =>
      obtain ⟨a', ha', oka⟩ := findA_ok hne hq
      refine ⟨a', ha', fun w0 base U σ w l u hr hl hu => ?_⟩
      obtain ⟨k', v', r', rfl, h1, h2, h3⟩ := hl
      have := ok w0 base U σ w 10000 u k' hr (by decide) hu h1
      obtain ⟨x, hx, hf⟩ := oka w0 base U σ w r' u hr h3 hu
      refine ⟨x, ?_, hf⟩
      unfold Instr.findAsking
      simp only [Sem.run_bind]
      show (((Op.equalIn 10000 t u k').run P w).andThen _) = _
      rw [this]
      exact hx
end find
end Go.Ev

/-! Soundness of the evaluator's operations, part eleven: lookups and updates of maps, len, cap, min, max. -/
namespace Go.Ev
open Go Go.RowKit

section mapOf
variable {R : Type} {P : Program} {G : AG} {no r : R}
/-- what a map's entries are -/
def MapR (σ : Sub) (w : World) (es : List (AV × AV × Nat)) (u : Value) : Prop :=
  (u = .map none ∧ es = []) ∨ ∃ n l c, u = .map (some n) ∧ w.heap[n]? = some (.map l.toArray c) ∧ ERs σ es l
theorem mapOf_ok {m : AV} {K : List (AV × AV × Nat) → Nat → R} (h : mapOf G m no K = r) (hne : no ≠ r) :
    ∃ es c, K es c = r ∧ ∀ (w0 : World) (base U : Nat) (σ : Sub) (w : World) (u : Value), Rel w0 base U σ G w → VR σ m u → MapR σ w es u := by
  unfold mapOf at h
  split at h
  · exact ⟨_, _, h, fun w0 base U σ w u hr hu => .inl ⟨by simpa only [VR] using hu, rfl⟩⟩
  · rename_i b
    replace h := om_inv h hne
    obtain ⟨x, hx, h⟩ := h
    split at h
    · rename_i es c
      refine ⟨_, _, h, fun w0 base U σ w u hr hu => .inr ?_⟩
      simp only [VR] at hu
      obtain ⟨n, hn, rfl⟩ := hu
      obtain ⟨_, n', o, hn', _, ho, l, rfl, hl⟩ := hr.blk b _ hx
      rw [hn] at hn'; cases hn'
      exact ⟨n, l, c, rfl, ho, hl⟩
    · exact absurd h hne
  · exact absurd h hne
theorem ERs.len {σ : Sub} : ∀ {es : List (AV × AV × Nat)} {l : List MapEntry}, ERs σ es l → l.length = es.length
  | [], l, h => by cases h; rfl
  | (a, b, n) :: es, l, h => by
    obtain ⟨k', v', r, rfl, _, _, h3⟩ := h
    simp [h3.len]
end mapOf

section ok
variable {P : Program} {ro : Nat → Option CB} {T : Tr AV} {G G' : AG} {v : AV} {d : Option Nat} {t0 : TypeId} {pos : String} {af : Array Edge} {g : Option (Nat × Bool)}
theorem lookupA_ok {R : Type} {no r : R} {t : TypeId} {m k : AV} {cm : Bool} {K : AV → R} (h : lookupA P G t m k cm no K = r) (hne : no ≠ r) :
    ∃ v, K v = r ∧ ∀ (w0 : World) (base U : Nat) (σ : Sub) (w : World) (x y : Value), Rel w0 base U σ G w → VR σ m x → VR σ k y → ∃ z, (Instr.lookup t x y cm).run P w = .ok z w ∧ VR σ v z := by
  unfold lookupA at h
  replace h := om_inv h hne
  obtain ⟨ti, hti, h⟩ := h
  obtain ⟨d', i, z, ht⟩ := mkTI_ok hti
  split at h
  · rename_i kt e hk
    have hd := mkTK_map (P := P) (d := d') (by rw [← ht.k, hk])
    replace h := om_inv h hne
    obtain ⟨te, hte, h⟩ := h
    obtain ⟨de, ie, ze, hee⟩ := mkTI_ok hte
    replace h := mapOf_ok h hne
    obtain ⟨es, c, h, okm⟩ := h
    obtain ⟨dk, hdk⟩ := keyK_und hne 20 _ _ _ h
    replace h := keyK_ok hne 20 _ _ _ h
    obtain ⟨h, okk⟩ := h
    replace h := findA_ok hne h
    obtain ⟨a, h, okf⟩ := h
    have main : ∀ (w0 : World) (base U : Nat) (σ : Sub) (w : World) (x y : Value), Rel w0 base U σ G w → VR σ m x → VR σ k y →
        ∃ f, FindR σ a f ∧ (Instr.lookup t x y cm).run P w = ((match f with | some (_, v) => pure (v, true) | none => (do pure (← zeroValue e, false)) : Sem (Value × Bool)).run P w).andThen fun p w' => .ok (if cm then .tuple #[p.1, .bool p.2] else p.1) w' := by
      intro w0 base U σ w x y hr hx hy
      have hm := okm w0 base U σ w x hr hx
      unfold Instr.lookup
      rcases hm with ⟨rfl, rfl⟩ | ⟨n, l, c', rfl, ho, hl⟩
      · obtain ⟨f, hf, hfr⟩ := okf w0 base U σ w [] y hr rfl hy
        refine ⟨f, hfr, ?_⟩
        simp only [Sem.run_bind, run_underlying ht.und, Result.andThen_ok, hd, Sem.run_pure, okk σ w _ 10000 y (by decide) hy]
        rw [run_findKey_asking hdk hf]
        cases f with
        | none => simp only [Sem.run_bind, Result.andThen_ok, Sem.run_pure]; cases (zeroValue e).run P w <;> rfl
        | some p => simp
      · obtain ⟨f, hf, hfr⟩ := okf w0 base U σ w l y hr hl hy
        refine ⟨f, hfr, ?_⟩
        simp only [Sem.run_bind, run_underlying ht.und, Result.andThen_ok, hd, Sem.run_pure, Go.run_getObj_map (hb := ho), okk σ w _ 10000 y (by decide) hy]
        rw [run_findKey_asking hdk hf]
        cases f with
        | none => simp only [Sem.run_bind, Result.andThen_ok, Sem.run_pure]; cases (zeroValue e).run P w <;> rfl
        | some p => simp
    rw [om_eq] at h
    cases a with
    | none =>
      simp only at h
      replace h := zeroA_ok hee h hne
      obtain ⟨z', h, hz⟩ := h
      rw [br_eq] at h
      cases cm with
      | true =>
        refine ⟨_, h, fun w0 base U σ w x y hr hx hy => ?_⟩
        obtain ⟨f, hf, hl⟩ := main w0 base U σ w x y hr hx hy
        cases (show f = none from hf)
        rw [hl]
        simp only [Sem.run_bind, hee.run_zero, Result.andThen_ok, Sem.run_pure, if_true]
        refine ⟨_, rfl, ?_⟩
        simp only [VR]
        exact ⟨[_, _], VRs.cons (hz σ) (VRs.cons (by simp only [VR]) VRs.nil), rfl⟩
      | false =>
        refine ⟨_, h, fun w0 base U σ w x y hr hx hy => ?_⟩
        obtain ⟨f, hf, hl⟩ := main w0 base U σ w x y hr hx hy
        cases (show f = none from hf)
        rw [hl]
        simp only [Sem.run_bind, hee.run_zero, Result.andThen_ok, Sem.run_pure]
        exact ⟨_, rfl, hz σ⟩
    | some p =>
      obtain ⟨j, v'⟩ := p
      simp only at h
      rw [br_eq] at h
      cases cm with
      | true =>
        refine ⟨_, h, fun w0 base U σ w x y hr hx hy => ?_⟩
        obtain ⟨f, hf, hl⟩ := main w0 base U σ w x y hr hx hy
        obtain ⟨u, rfl, hu⟩ := hf
        rw [hl]
        simp only [Result.andThen_ok, Sem.run_pure, if_true]
        refine ⟨_, rfl, ?_⟩
        simp only [VR]
        exact ⟨[_, _], VRs.cons hu (VRs.cons (by simp only [VR]) VRs.nil), rfl⟩
      | false =>
        refine ⟨_, h, fun w0 base U σ w x y hr hx hy => ?_⟩
        obtain ⟨f, hf, hl⟩ := main w0 base U σ w x y hr hx hy
        obtain ⟨u, rfl, hu⟩ := hf
        rw [hl]
        simp only [Result.andThen_ok, Sem.run_pure]
        exact ⟨_, rfl, hu⟩
  · exact absurd h hne

theorem aLookup_ok {t : TypeId} {x k : Operand} {cm : Bool} (h : aLookup t x k cm P ro T G = .ok v G') : OpOK P ro T G ⟨d, .lookup t x k cm, t0, pos, af, g⟩ v G' := by
  replace h := opd_inv h nofun
  obtain ⟨a, ha, h⟩ := h
  replace h := opd_inv h nofun
  obtain ⟨b, hb, h⟩ := h
  replace h := lookupA_ok h nofun
  obtain ⟨v', h, ok⟩ := h
  cases h
  refine .pure fun w0 base U σ w ρ _ hr hρ => ?_
  obtain ⟨z, h1, h2⟩ := ok w0 base U σ w (ρ x) (ρ k) hr (hρ _ _ ha) (hρ _ _ hb)
  exact ⟨z, by simp [execOp, h1], h2⟩

theorem sameA_ok {a b : AV} (h : sameA a b = true) {σ : Sub} {x y : Value} (hx : VR σ a x) (hy : VR σ b y) : x = y ∧ ∀ n, Instr.sameBits n x y = true := by
  cases a with
  | int j p =>
    cases b <;> first | (cases h; done) | skip
    rename_i k q
    replace h : br (kEq j k) (iEq p q) false = true := h
    obtain ⟨h1, h2⟩ := br_inv h nofun
    have := kEq_ok h1
    subst this
    rw [iEq_iff] at h2
    have := of_decide_eq_true h2
    subst this
    simp only [VR] at hx hy
    subst hx hy
    exact ⟨rfl, fun n => by cases n <;> simp [Instr.sameBits]⟩
  | str p =>
    cases b <;> first | (cases h; done) | skip
    rename_i q
    replace h : sEq p q = true := h
    rw [sEq_iff] at h
    have := eq_of_beq h
    subst this
    simp only [VR] at hx hy
    subst hx hy
    have e : ∀ b : ByteArray, (b == b) = true := fun b => by rw [beq_toListBytes]; exact beq_self_eq_true _
    exact ⟨rfl, fun n => by cases n <;> exact e _⟩
  | bool p =>
    cases b <;> first | (cases h; done) | skip
    rename_i q
    replace h : br p q (br q false true) = true := h
    have hpq : p = q := by cases p <;> cases q <;> first | rfl | (cases h; done)
    subst hpq
    simp only [VR] at hx hy
    subst hx hy
    exact ⟨rfl, fun n => by cases n <;> simp [Instr.sameBits]⟩
  | _ => cases h

theorem putE_eq {R : Type} (v : AV) : ∀ (i : Nat) (es : List (AV × AV × Nat)), ∃ es', (∀ K : List (AV × AV × Nat) → R, putE i v es K = K es') ∧ ∀ (σ : Sub) (y : Value), VR σ v y → ∀ l, ERs σ es l → ERs σ es' (l.modify i fun e => { e with val := y })
  | 0, [] => ⟨[], fun _ => rfl, fun σ y hv l h => by cases h; rfl⟩
  | 0, (a, b, c) :: es => ⟨(a, v, c) :: es, fun _ => rfl, fun σ y hv l h => by
      obtain ⟨k', v', r', rfl, h1, h2, h3⟩ := h
      exact ⟨k', y, r', rfl, h1, hv, h3⟩⟩
  | i + 1, [] => ⟨[], fun _ => rfl, fun σ y hv l h => by cases h; rfl⟩
  | i + 1, (a, b, c) :: es => by
    obtain ⟨es', h1, h2⟩ := putE_eq v i es
    refine ⟨(a, b, c) :: es', fun K => h1 fun x => K ((a, b, c) :: x), fun σ y hv l h => ?_⟩
    obtain ⟨k', v', r', rfl, h3, h4, h5⟩ := h
    exact ⟨k', v', _, rfl, h3, h4, h2 σ y hv _ h5⟩
theorem ERs.get {σ : Sub} : ∀ {es : List (AV × AV × Nat)} {l : List MapEntry} (i : Nat) {e : AV × AV × Nat}, ERs σ es l → es[i]? = some e → ∃ m, l[i]? = some m ∧ VR σ e.1 m.key
  | [], _, i, e, _, hi => by simp at hi
  | (a, b, c) :: es, l, 0, e, h, hi => by
    obtain ⟨k', v', r', rfl, h1, h2, h3⟩ := h
    cases hi
    exact ⟨_, rfl, h1⟩
  | (a, b, c) :: es, l, i + 1, e, h, hi => by
    obtain ⟨k', v', r', rfl, h1, h2, h3⟩ := h
    exact ERs.get i h3 hi
theorem ERs.snoc {σ : Sub} {k v : AV} {c : Nat} {x y : Value} (hk : VR σ k x) (hv : VR σ v y) : ∀ {es : List (AV × AV × Nat)} {l : List MapEntry}, ERs σ es l → ERs σ (es ++ [(k, v, c)]) (l ++ [{ key := x, val := y, born := c }])
  | [], l, h => by cases h; exact ⟨x, y, [], rfl, hk, hv, rfl⟩
  | (a, b, n) :: es, l, h => by
    obtain ⟨k', v', r', rfl, h1, h2, h3⟩ := h
    exact ⟨k', v', _, rfl, h1, h2, ERs.snoc hk hv h3⟩

theorem run_setObj_m {w : World} {r : Nat} {es : Array MapEntry} {clock : Nat} (o : Obj) (hb : w.heap[r]? = some (.map es clock)) : (setObj r o).run P w = .ok () { w with heap := w.heap.setIfInBounds r o } := by
  simp [setObj, Sem.run, hb]
theorem modify_same {l : List MapEntry} {j : Nat} {en : MapEntry} {y : Value} (h : l[j]? = some en) : (l.toArray.modify j fun e => { e with key := en.key, val := y }) = (l.modify j fun e => { e with val := y }).toArray := by
  apply Array.ext_getElem?
  intro i
  rw [Array.getElem?_modify]
  simp only [List.getElem?_toArray, List.getElem?_modify]
  by_cases e : j = i
  · subst e
    simp [h]
  · simp [e]
theorem mapUpdateA_ok {R : Type} {no r : R} {t : TypeId} {m k x : AV} {K : AG → R} (h : mapUpdateA P G t m k x no K = r) (hne : no ≠ r) :
    ∃ G', K G' = r ∧ G'.nx = G.nx ∧ ∀ (w0 : World) (base U : Nat) (σ : Sub) (w : World) (a b c : Value), Rel w0 base U σ G w → VR σ m a → VR σ k b → VR σ x c → ∃ w', (Instr.mapUpdate t a b c).run P w = .ok () w' ∧ Ext w0 base U σ G w σ G' w' := by
  unfold mapUpdateA at h
  replace h := om_inv h hne
  obtain ⟨ti, hti, h⟩ := h
  obtain ⟨d', i, z, ht⟩ := mkTI_ok hti
  split at h
  · rename_i kt e hk
    have hd := mkTK_map (P := P) (d := d') (by rw [← ht.k, hk])
    split at h
    · rename_i b
      unfold mapOf at h
      simp only at h
      replace h := om_inv h hne
      obtain ⟨bx, hbx, h⟩ := h
      split at h
      · rename_i es c
        obtain ⟨dk, hdk⟩ := keyK_und hne 20 _ _ _ h
        replace h := keyK_ok hne 20 _ _ _ h
        obtain ⟨h, okk⟩ := h
        replace h := findA_ok hne h
        obtain ⟨a, h, okf⟩ := h
        have main : ∀ (w0 : World) (base U : Nat) (σ : Sub) (w : World) (x y y' : Value), Rel w0 base U σ G w → VR σ (.map b) x → VR σ k y →
          ∃ n l f, x = .map (some n) ∧ σ.blk b = some n ∧ w.heap[n]? = some (.map l.toArray c) ∧ ERs σ es l ∧ FindR σ a f ∧ (Instr.mapUpdate t x y y').run P w = ((match f with
            | some (i, _) => (do
              let key ← Instr.keyThatStays (((l.toArray[i]?).map (·.key)).getD y) y
              setObj n (.map (l.toArray.modify i fun e => { e with key, val := y' }) c))
            | none => setObj n (.map (l.toArray.push { key := y, val := y', born := c }) (c + 1)) : Sem Unit).run P w) := by
          intro w0 base U σ w x y y' hr hx hy
          simp only [VR] at hx
          obtain ⟨n, hn, rfl⟩ := hx
          obtain ⟨_, n', o, hn', _, ho, l, rfl, hl⟩ := hr.blk b _ hbx
          rw [hn] at hn'; cases hn'
          obtain ⟨f, hf, hfr⟩ := okf w0 base U σ w l y hr hl hy
          refine ⟨n, l, f, rfl, hn, ho, hl, hfr, ?_⟩
          unfold Instr.mapUpdate
          simp only [Sem.run_bind, run_underlying ht.und, Result.andThen_ok, hd, Go.run_getObj_map (hb := ho), okk σ w _ 10000 y (by decide) hy]
          rw [run_findKey_asking hdk hf]
          cases f <;> rfl
        rw [om_eq] at h
        cases a with
        | none =>
          simp only at h
          rw [appK_eq, fN_eq, AG.setK_eq] at h
          refine ⟨_, h, rfl, fun w0 base U σ w u1 u2 u3 hr h1 h2 h3 => ?_⟩
          obtain ⟨n, l, f, rfl, hn, ho, hl, hf, hrun⟩ := main w0 base U σ w u1 u2 u3 hr h1 h2
          cases (show f = none from hf)
          refine ⟨_, ?_, hr.setB hbx hn (o' := .map (l ++ [({ key := u2, val := u3, born := c } : MapEntry)]).toArray (c + 1)) ⟨_, rfl, ERs.snoc h2 h3 hl⟩⟩
          rw [hrun]
          simp only
          rw [run_setObj_m _ ho]
          simp
        | some p =>
          obtain ⟨j, v'⟩ := p
          simp only at h
          replace h := om_inv h hne
          obtain ⟨e1, he1, h⟩ := h
          replace h := br_inv h hne
          obtain ⟨hs, h⟩ := h
          rw [nthL_eq] at he1
          obtain ⟨es', h1, okp⟩ := putE_eq (R := R) x j es
          rw [h1, AG.setK_eq] at h
          refine ⟨_, h, rfl, fun w0 base U σ w u1 u2 u3 hr h1 h2 h3 => ?_⟩
          obtain ⟨n, l, f, rfl, hn, ho, hl, hf, hrun⟩ := main w0 base U σ w u1 u2 u3 hr h1 h2
          obtain ⟨u, rfl, hu⟩ := hf
          obtain ⟨en, hen, hek⟩ := hl.get j he1
          obtain ⟨heq, hsb⟩ := sameA_ok hs h2 hek
          refine ⟨_, ?_, hr.setB hbx hn (o' := .map (l.modify j fun e => { e with val := u3 }).toArray c) ⟨_, rfl, okp σ u3 h3 l hl⟩⟩
          rw [hrun]
          simp only [Sem.run_bind]
          have ek : (((l.toArray[j]?).map (·.key)).getD u2) = u2 := by simp [hen, ← heq]
          rw [ek]
          have hkt : (Instr.keyThatStays u2 u2).run P w = .ok u2 w := by
            unfold Instr.keyThatStays
            have := hsb 10000
            rw [← heq] at this
            rw [if_pos this]
            rfl
          rw [hkt]
          simp only [Result.andThen_ok]
          rw [run_setObj_m _ ho, heq, modify_same hen]
      · exact absurd h hne
    · exact absurd h hne
  · exact absurd h hne
end ok
end Go.Ev

/-! Soundness of the evaluator's operations, part twelve: map updates, conversions, len, cap, min, max, calls of built-in functions. -/
namespace Go.Ev
open Go Go.RowKit

section ok
variable {P : Program} {ro : Nat → Option CB} {T : Tr AV} {G G' : AG} {v : AV} {d : Option Nat} {t0 : TypeId} {pos : String} {af : Array Edge} {g : Option (Nat × Bool)}
theorem aMapUp_ok {t : TypeId} {m k x : Operand} (h : aMapUp t m k x P ro T G = .ok v G') : OpOK P ro T G ⟨d, .mapUpdate t m k x, t0, pos, af, g⟩ v G' ∧ OpOK P ro T G ⟨d, .insert t m k x, t0, pos, af, g⟩ v G' := by
  replace h := opd_inv h nofun
  obtain ⟨a, ha, h⟩ := h
  replace h := opd_inv h nofun
  obtain ⟨b, hb, h⟩ := h
  replace h := opd_inv h nofun
  obtain ⟨c, hc, h⟩ := h
  replace h := mapUpdateA_ok h nofun
  obtain ⟨G2, h, hnx, ok⟩ := h
  cases h
  have key : ∀ (w0 : World) (base U : Nat) (σ : Sub) (w : World) (ρ : Operand → Value), Rel w0 base U σ G w → (∀ x a, OpdR T x a → VR σ a (ρ x)) →
      ∃ w', (Instr.mapUpdate t (ρ m) (ρ k) (ρ x)).run P w = .ok () w' ∧ Ext w0 base U σ G w σ G' w' := fun w0 base U σ w ρ hr hρ =>
    ok w0 base U σ w (ρ m) (ρ k) (ρ x) hr (hρ _ _ ha) (hρ _ _ hb) (hρ _ _ hc)
  refine ⟨⟨by rw [hnx]; omega, fun w0 base U σ w ρ hro hr hρ hU => ?_⟩, ⟨by rw [hnx]; omega, fun w0 base U σ w ρ hro hr hρ hU => ?_⟩⟩
  · obtain ⟨w', h1, h2⟩ := key w0 base U σ w ρ hr hρ
    exact ⟨σ, w', undef, .inr ⟨by simp [execOp, h1], rfl⟩, VR_undef σ, h2⟩
  · obtain ⟨w', h1, h2⟩ := key w0 base U σ w ρ hr hρ
    exact ⟨σ, w', undef, .inr ⟨by simp [execOp, h1], rfl⟩, VR_undef σ, h2⟩

/-! len and cap -/
theorem lenTA_ok {R : Type} {no r : R} {t : TypeId} {x : AV} {K : Nat → R} (h : lenTA P G t x no K = r) (hne : no ≠ r) :
    ∃ n, K n = r ∧ ∀ (w0 : World) (base U : Nat) (σ : Sub) (w : World) (u : Value) (ts : Array TypeId) (ty : TypeId), Rel w0 base U σ G w → VR σ x u → ts[0]? = some t → (Builtin.len_ ts ty #[u]).run P w = .ok (goInt n) w := by
  unfold lenTA at h
  replace h := om_inv h hne
  obtain ⟨ti, hti, h⟩ := h
  obtain ⟨d', i, z, ht⟩ := mkTI_ok hti
  have hk := ht.k
  have e0 : ∀ u : Value, (#[u] : Array Value)[0]? = some u := fun _ => rfl
  split at h
  · rename_i e
    have hd := mkTK_str (P := P) (d := d') (by rw [← hk, e])
    split at h
    · rename_i s
      rw [fN_eq, lenL_eq] at h
      refine ⟨_, h, fun w0 base U σ w u ts ty hr hu h0 => ?_⟩
      simp only [VR] at hu
      subst hu
      simp only [Builtin.len_, h0, e0, Sem.run_bind, ht.run_und, hd, Result.andThen_ok, Sem.run_pure, bytes_size]
    · exact absurd h hne
  · rename_i el e
    have hd := mkTK_slice (P := P) (d := d') (by rw [← hk, e])
    split at h
    · refine ⟨_, h, fun w0 base U σ w u ts ty hr hu h0 => ?_⟩
      simp only [VR] at hu
      obtain ⟨_, _, _, _, _, rfl⟩ := hu
      simp only [Builtin.len_, h0, e0, Sem.run_bind, ht.run_und, hd, Result.andThen_ok, Sem.run_pure]
    · refine ⟨_, h, fun w0 base U σ w u ts ty hr hu h0 => ?_⟩
      simp only [VR] at hu
      subst hu
      simp only [Builtin.len_, h0, e0, Sem.run_bind, ht.run_und, hd, Result.andThen_ok, Sem.run_pure]
    · refine ⟨_, h, fun w0 base U σ w u ts ty hr hu h0 => ?_⟩
      simp only [VR] at hu
      obtain ⟨_, _, rfl⟩ := hu
      simp only [Builtin.len_, h0, e0, Sem.run_bind, ht.run_und, hd, Result.andThen_ok, Sem.run_pure]
    · exact absurd h hne
  · rename_i n el e
    have hd := mkTK_arr (P := P) (d := d') (by rw [← hk, e])
    refine ⟨_, h, fun w0 base U σ w u ts ty hr hu h0 => ?_⟩
    simp only [Builtin.len_, h0, e0, Sem.run_bind, ht.run_und, hd, Result.andThen_ok, Sem.run_pure]
  · rename_i el e
    have hd := mkTK_ptr (P := P) (d := d') (by rw [← hk, e])
    replace h := om_inv h hne
    obtain ⟨ta, hta, h⟩ := h
    obtain ⟨da, ia, za, hat⟩ := mkTI_ok hta
    split at h
    · rename_i n el' e'
      have hd' := mkTK_arr (P := P) (d := da) (by rw [← hat.k, e'])
      refine ⟨_, h, fun w0 base U σ w u ts ty hr hu h0 => ?_⟩
      simp only [Builtin.len_, h0, e0, Sem.run_bind, ht.run_und, hd, hat.run_und, hd', Result.andThen_ok, Sem.run_pure]
    · exact absurd h hne
  · rename_i kt el e
    have hd := mkTK_map (P := P) (d := d') (by rw [← hk, e])
    replace h := mapOf_ok h hne
    obtain ⟨es, c, h, ok⟩ := h
    rw [fN_eq, lenL_eq] at h
    refine ⟨_, h, fun w0 base U σ w u ts ty hr hu h0 => ?_⟩
    rcases ok w0 base U σ w u hr hu with ⟨rfl, rfl⟩ | ⟨n, l, c', rfl, ho, hl⟩
    · simp only [Builtin.len_, h0, e0, Sem.run_bind, ht.run_und, hd, Result.andThen_ok, Sem.run_pure, List.length_nil]
      rfl
    · simp only [Builtin.len_, h0, e0, Sem.run_bind, ht.run_und, hd, Result.andThen_ok, Sem.run_pure, Go.run_getObj_map (hb := ho), List.size_toArray, hl.len]
  · exact absurd h hne
theorem capA_ok {R : Type} {no r : R} {t : TypeId} {x : AV} {K : Nat → R} (h : capA P t x no K = r) (hne : no ≠ r) :
    ∃ n, K n = r ∧ ∀ (σ : Sub) (w : World) (u : Value) (ts : Array TypeId) (ty : TypeId), VR σ x u → ts[0]? = some t → (Builtin.cap_ ts ty #[u]).run P w = .ok (goInt n) w := by
  unfold capA at h
  replace h := om_inv h hne
  obtain ⟨ti, hti, h⟩ := h
  obtain ⟨d', i, z, ht⟩ := mkTI_ok hti
  have hk := ht.k
  have e0 : ∀ u : Value, (#[u] : Array Value)[0]? = some u := fun _ => rfl
  split at h
  · rename_i el e
    have hd := mkTK_slice (P := P) (d := d') (by rw [← hk, e])
    split at h
    · split at h
      · refine ⟨_, h, fun σ w u ts ty hu h0 => ?_⟩
        simp only [VR] at hu
        obtain ⟨_, cp, _, hc, _, rfl⟩ := hu
        simp only [capR] at hc
        subst hc
        simp only [Builtin.cap_, h0, e0, Sem.run_bind, ht.run_und, hd, Result.andThen_ok, Sem.run_pure]
      · exact absurd h hne
    · refine ⟨_, h, fun σ w u ts ty hu h0 => ?_⟩
      simp only [VR] at hu
      subst hu
      simp only [Builtin.cap_, h0, e0, Sem.run_bind, ht.run_und, hd, Result.andThen_ok, Sem.run_pure]
    · exact absurd h hne
  · exact absurd h hne

/-! min and max -/
theorem minmax_ok {R : Type} {no r : R} (mx : Bool) {l : List AV} {K : AV → R} (h : minmaxA mx l no K = r) (hne : no ≠ r) :
    ∃ a, K a = r ∧ ∀ (σ : Sub) (w : World) (us : List Value) (ts : Array TypeId) (ty : TypeId), VRs σ l us → ∃ u, ((if mx then Builtin.max_ ts ty us.toArray else Builtin.min_ ts ty us.toArray) : Sem Value).run P w = .ok u w ∧ VR σ a u := by
  cases l with
  | nil => exact absurd h hne
  | cons a0 l =>
    replace h := asI_inv h hne
    obtain ⟨k, n, rfl, h⟩ := h
    have key : ∀ (l : List AV) (n : Int), (List.rec (motive := fun _ => Int → R) (fun n => K (.int k n)) (fun v _ ih n => asI v no fun _ m => fB (br mx (iLt n m) (iLt m n)) fun q => ih (br q m n)) l n) = r →
        ∃ n', K (.int k n') = r ∧ ∀ (σ : Sub) (w : World) (us : List Value), VRs σ l us → (us.foldlM (if mx then Builtin.max2 else Builtin.min2) (.int k n)).run P w = .ok (.int k n') w := by
      intro l
      induction l with
      | nil => intro n h; exact ⟨n, h, fun σ w us hu => by rw [VRs.nil_inv hu]; simp⟩
      | cons b l ih =>
        intro n h
        replace h := asI_inv h hne
        obtain ⟨k', m, rfl, h⟩ := h
        rw [fB_eq] at h
        obtain ⟨n', h1, h2⟩ := ih _ h
        refine ⟨n', h1, fun σ w us hu => ?_⟩
        obtain ⟨x, xs, rfl, hx, hs⟩ := hu.cons_inv
        simp only [VR] at hx
        subst hx
        rw [List.foldlM_cons, Sem.run_bind]
        have e : ((if mx then Builtin.max2 else Builtin.min2) (.int k n) (.int k' m)).run P w = .ok (.int k (br (br mx (iLt n m) (iLt m n)) m n)) w := by
          rw [br_eq, br_eq, iLt_iff, iLt_iff]
          cases mx
          · simp only [Bool.false_eq_true, if_false, Builtin.min2, Sem.run_pure, decide_eq_true_eq]
          · simp only [if_true, Builtin.max2, Sem.run_pure, decide_eq_true_eq]
        rw [e]
        exact h2 σ w xs hs
    obtain ⟨n', h1, h2⟩ := key l n h
    refine ⟨_, h1, fun σ w us ts ty hu => ⟨.int k n', ?_, by simp only [VR]⟩⟩
    obtain ⟨x, xs, rfl, hx, hs⟩ := hu.cons_inv
    simp only [VR] at hx
    subst hx
    have := h2 σ w xs hs
    cases mx
    · simpa [Builtin.min_] using this
    · simpa [Builtin.max_] using this

/-! delete -/
theorem delE_eq {R : Type} : ∀ (i : Nat) (es : List (AV × AV × Nat)), ∃ es', (∀ K : List (AV × AV × Nat) → R, delE i es K = K es') ∧ ∀ (σ : Sub) l, ERs σ es l → ERs σ es' (l.eraseIdx i)
  | 0, [] => ⟨[], fun _ => rfl, fun σ l h => by cases h; rfl⟩
  | 0, (a, b, c) :: es => ⟨es, fun _ => rfl, fun σ l h => by
      obtain ⟨k', v', r', rfl, h1, h2, h3⟩ := h
      exact h3⟩
  | i + 1, [] => ⟨[], fun _ => rfl, fun σ l h => by cases h; rfl⟩
  | i + 1, (a, b, c) :: es => by
    obtain ⟨es', h1, h2⟩ := delE_eq (R := R) i es
    refine ⟨(a, b, c) :: es', fun K => h1 fun x => K ((a, b, c) :: x), fun σ l h => ?_⟩
    obtain ⟨k', v', r', rfl, h3, h4, h5⟩ := h
    exact ⟨k', v', _, rfl, h3, h4, h2 σ _ h5⟩
theorem setObj_self {w : World} {n : Nat} {o : Obj} (h : w.heap[n]? = some o) : { w with heap := w.heap.setIfInBounds n o } = w := by
  have : w.heap.setIfInBounds n o = w.heap := by
    apply Array.ext_getElem?
    intro i
    rw [Array.getElem?_setIfInBounds]
    split
    · rename_i e
      subst e
      split
      · exact h.symm
      · rename_i hn
        rw [Array.getElem?_eq_none (by omega)]
    · rfl
  rw [this]
theorem deleteA_ok {R : Type} {no r : R} {ts : Array TypeId} {m k : AV} {K : AG → R} (h : deleteA P G ts.toList m k no K = r) (hne : no ≠ r) :
    ∃ G', K G' = r ∧ G'.nx = G.nx ∧ ∀ (w0 : World) (base U : Nat) (σ : Sub) (w : World) (a b : Value) (ty : TypeId), Rel w0 base U σ G w → VR σ m a → VR σ k b → ∃ w', (Builtin.delete_ ts ty #[a, b]).run P w = .ok (.tuple #[]) w' ∧ Ext w0 base U σ G w σ G' w' := by
  unfold deleteA at h
  obtain ⟨t, ht0, h1⟩ := om_inv h hne
  rw [nthL_eq] at ht0
  have ht0' : ts[0]? = some t := by simpa using ht0
  obtain ⟨ti, hti, h2⟩ := om_inv h1 hne
  obtain ⟨d', i, z, ht⟩ := mkTI_ok hti
  have e0 : ∀ u v : Value, (#[u, v] : Array Value)[0]? = some u := fun _ _ => rfl
  have e1 : ∀ u v : Value, (#[u, v] : Array Value)[1]? = some v := fun _ _ => rfl
  split at h2
  · rename_i kt e hk
    have hd := mkTK_map (P := P) (d := d') (by rw [← ht.k, hk])
    obtain ⟨dk, hdk⟩ := keyK_und hne 20 _ _ _ h2
    obtain ⟨h3, okk⟩ := keyK_ok hne 20 _ _ _ h2
    split at h3
    · refine ⟨G, h3, rfl, fun w0 base U σ w u1 u2 ty hr hu1 hu2 => ⟨w, ?_, Ext.refl hr⟩⟩
      simp only [VR] at hu1
      subst hu1
      unfold Builtin.delete_
      simp only [ht0', e0, e1, Sem.run_bind, run_underlying ht.und, Result.andThen_ok, hd, okk σ w _ 10000 u2 (by decide) hu2, Sem.run_pure]
    · rename_i b
      unfold mapOf at h3
      simp only at h3
      obtain ⟨bx, hbx, h4⟩ := om_inv h3 hne
      split at h4
      · rename_i es c
        obtain ⟨a, h5, okf⟩ := findA_ok hne h4
        have main : ∀ (w0 : World) (base U : Nat) (σ : Sub) (w : World) (x y : Value) (ty : TypeId), Rel w0 base U σ G w → VR σ (.map b) x → VR σ k y →
          ∃ n l f, x = .map (some n) ∧ σ.blk b = some n ∧ w.heap[n]? = some (.map l.toArray c) ∧ ERs σ es l ∧ FindR σ a f ∧ (Builtin.delete_ ts ty #[x, y]).run P w = ((match f with
            | some (i, _) => (do setObj n (.map (l.toArray.eraseIdxIfInBounds i) c); pure (.tuple #[]))
            | none => (do setObj n (.map l.toArray c); pure (.tuple #[])) : Sem Value).run P w) := by
          intro w0 base U σ w x y ty hr hx hy
          simp only [VR] at hx
          obtain ⟨n, hn, rfl⟩ := hx
          obtain ⟨_, n', o, hn', _, ho, l, rfl, hl⟩ := hr.blk b _ hbx
          rw [hn] at hn'; cases hn'
          obtain ⟨f, hf, hfr⟩ := okf w0 base U σ w l y hr hl hy
          refine ⟨n, l, f, rfl, hn, ho, hl, hfr, ?_⟩
          unfold Builtin.delete_
          simp only [ht0', e0, e1, Sem.run_bind, run_underlying ht.und, Result.andThen_ok, hd, Go.run_getObj_map (hb := ho), okk σ w _ 10000 y (by decide) hy]
          rw [run_findKey_asking hdk hf]
          cases f <;> simp only [Sem.run_bind, Result.andThen_ok]
        rw [om_eq] at h5
        cases a with
        | none =>
          simp only at h5
          refine ⟨_, h5, rfl, fun w0 base U σ w u1 u2 ty hr hu1 hu2 => ?_⟩
          obtain ⟨n, l, f, rfl, hn, ho, hl, hf, hrun⟩ := main w0 base U σ w u1 u2 ty hr hu1 hu2
          cases (show f = none from hf)
          refine ⟨w, ?_, Ext.refl hr⟩
          rw [hrun]
          simp only [Sem.run_bind, run_setObj_m _ ho, setObj_self ho, Result.andThen_ok, Sem.run_pure]
        | some p =>
          obtain ⟨j, v'⟩ := p
          simp only at h5
          obtain ⟨es', h6, okp⟩ := delE_eq (R := R) j es
          rw [h6, AG.setK_eq] at h5
          refine ⟨_, h5, rfl, fun w0 base U σ w u1 u2 ty hr hu1 hu2 => ?_⟩
          obtain ⟨n, l, f, rfl, hn, ho, hl, hf, hrun⟩ := main w0 base U σ w u1 u2 ty hr hu1 hu2
          obtain ⟨u, rfl, hu⟩ := hf
          refine ⟨_, ?_, hr.setB hbx hn (o' := .map (l.eraseIdx j).toArray c) ⟨_, rfl, okp σ l hl⟩⟩
          rw [hrun]
          simp only [Sem.run_bind, run_setObj_m _ ho, Result.andThen_ok, Sem.run_pure, List.eraseIdxIfInBounds_toArray]
      · exact absurd h4 hne
    · exact absurd h3 hne
  · exact absurd h2 hne

/-! ### Calls of built-in functions -/
theorem aBuiltin_ok {b : Builtin} {c : Call} (hc : c.callee = .builtin b) {l : List AV} (hl : OpdsR T c.args.toList l) (h : aBuiltin b c.argTypes.toList l P ro T G = .ok v G') : OpOK P ro T G ⟨d, .call c, t0, pos, af, g⟩ v G' := by
  have hexec : ∀ (ρ : Operand → Value) (w : World), (execOp ρ ⟨d, .call c, t0, pos, af, g⟩).run P w = (builtin b c.argTypes t0 (c.args.map fun | .const _ => true | _ => false) (c.args.map ρ)).run P w := by
    intro ρ w
    simp only [execOp, Sem.run_bind, resolve, hc, Sem.run_pure, Result.andThen_ok, invoke]
    rfl
  have hargs : ∀ {σ : Sub} {ρ : Operand → Value}, (∀ x a, OpdR T x a → VR σ a (ρ x)) → VRs σ l (c.args.map ρ).toList := fun hρ => by
    rw [Array.toList_map]
    exact OpdsR.ok hρ hl
  have hts : c.argTypes = c.argTypes.toList.toArray := by simp
  have one : ∀ {σ : Sub} {ρ : Operand → Value} {x : AV}, l = [x] → (∀ x a, OpdR T x a → VR σ a (ρ x)) → ∃ u, c.args.map ρ = #[u] ∧ VR σ x u := fun e hρ => by
    have := hargs hρ
    rw [e] at this
    obtain ⟨u, us, e1, h1, h2⟩ := this.cons_inv
    rw [VRs.nil_inv h2] at e1
    exact ⟨u, Array.ext' e1, h1⟩
  have two : ∀ {σ : Sub} {ρ : Operand → Value} {x y : AV}, l = [x, y] → (∀ x a, OpdR T x a → VR σ a (ρ x)) → ∃ u u', c.args.map ρ = #[u, u'] ∧ VR σ x u ∧ VR σ y u' := fun e hρ => by
    have := hargs hρ
    rw [e] at this
    obtain ⟨u, us, e1, h1, h2⟩ := this.cons_inv
    obtain ⟨u', us', e2, h3, h4⟩ := h2.cons_inv
    rw [VRs.nil_inv h4] at e2
    rw [e2] at e1
    exact ⟨u, u', Array.ext' e1, h1, h3⟩
  unfold aBuiltin at h
  split at h
  · split at h
    · rename_i s x
      obtain ⟨v', G2, h2, hnx, ok⟩ := appendA_ok h nofun
      cases h2
      refine ⟨hnx, fun w0 base U σ w ρ hro hr hρ hU => ?_⟩
      obtain ⟨a, b, e, ha, hb⟩ := two rfl hρ
      obtain ⟨σ', w', y, h3, h4, h5⟩ := ok w0 base U σ w a b t0 hro hr ha hb hU
      refine ⟨σ', w', y, .inl ?_, h4, h5⟩
      rw [hexec, e]
      rw [← hts] at h3
      simp only [builtin, Sem.run_bind, h3, Result.andThen_ok, Sem.run_pure]
    · cases h
  · split at h
    · rename_i x
      rw [nthL_eq] at h
      replace h := om_inv h nofun
      obtain ⟨t, ht, h⟩ := h
      replace h := lenTA_ok h nofun
      obtain ⟨n, h, ok⟩ := h
      cases h
      refine .pure fun w0 base U σ w ρ hro hr hρ => ?_
      obtain ⟨a, e, ha⟩ := one rfl hρ
      have h3 := ok w0 base U σ w a c.argTypes t0 hr ha (by simpa using ht)
      refine ⟨goInt n, ?_, by simp only [VR, goInt]; rfl⟩
      rw [hexec, e]
      simp only [builtin, Sem.run_bind, h3, Result.andThen_ok, Sem.run_pure]
    · cases h
  · split at h
    · rename_i x
      rw [nthL_eq] at h
      replace h := om_inv h nofun
      obtain ⟨t, ht, h⟩ := h
      replace h := capA_ok h nofun
      obtain ⟨n, h, ok⟩ := h
      cases h
      refine .pure fun w0 base U σ w ρ hro hr hρ => ?_
      obtain ⟨a, e, ha⟩ := one rfl hρ
      have h3 := ok σ w a c.argTypes t0 ha (by simpa using ht)
      refine ⟨goInt n, ?_, by simp only [VR, goInt]; rfl⟩
      rw [hexec, e]
      simp only [builtin, Sem.run_bind, h3, Result.andThen_ok, Sem.run_pure]
    · cases h
  · split at h
    · rename_i s x
      obtain ⟨v', G2, h2, hnx, ok⟩ := copyA_ok h nofun
      cases h2
      refine ⟨hnx, fun w0 base U σ w ρ hro hr hρ hU => ?_⟩
      obtain ⟨a, b, e, ha, hb⟩ := two rfl hρ
      obtain ⟨σ', w', y, h3, h4, h5⟩ := ok w0 base U σ w a b t0 hro hr ha hb hU
      refine ⟨σ', w', y, .inl ?_, h4, h5⟩
      rw [hexec, e]
      rw [← hts] at h3
      simp only [builtin, Sem.run_bind, h3, Result.andThen_ok, Sem.run_pure]
    · cases h
  · replace h := minmax_ok (P := P) true h nofun
    obtain ⟨a, h, ok⟩ := h
    cases h
    refine .pure fun w0 base U σ w ρ hro hr hρ => ?_
    obtain ⟨u, h1, h2⟩ := ok σ w _ c.argTypes t0 (hargs hρ)
    refine ⟨u, ?_, h2⟩
    rw [hexec]
    simp only [if_true, Array.toArray_toList] at h1
    simp only [builtin, Sem.run_bind, h1, Result.andThen_ok, Sem.run_pure]
  · replace h := minmax_ok (P := P) false h nofun
    obtain ⟨a, h, ok⟩ := h
    cases h
    refine .pure fun w0 base U σ w ρ hro hr hρ => ?_
    obtain ⟨u, h1, h2⟩ := ok σ w _ c.argTypes t0 (hargs hρ)
    refine ⟨u, ?_, h2⟩
    rw [hexec]
    simp only [Bool.false_eq_true, if_false, Array.toArray_toList] at h1
    simp only [builtin, Sem.run_bind, h1, Result.andThen_ok, Sem.run_pure]
  · split at h
    · rename_i m k
      obtain ⟨G2, h2, hnx, ok⟩ := deleteA_ok h nofun
      cases h2
      refine ⟨by rw [hnx]; exact Nat.le_refl _, fun w0 base U σ w ρ hro hr hρ hU => ?_⟩
      obtain ⟨a, b, e, ha, hb⟩ := two rfl hρ
      obtain ⟨w', h3, h4⟩ := ok w0 base U σ w a b t0 hr ha hb
      refine ⟨σ, w', .tuple #[], .inl ?_, VR_undef σ, h4⟩
      rw [hexec, e]
      simp only [builtin, Sem.run_bind, h3, Result.andThen_ok, Sem.run_pure]
    · cases h
  · cases h
theorem aCall_ok {c : Call} (h : aCall c P ro T G = .ok v G') : OpOK P ro T G ⟨d, .call c, t0, pos, af, g⟩ v G' := by
  unfold aCall at h
  split at h
  · rename_i b hb
    obtain ⟨l, hl, h2⟩ := opds_inv h nofun
    exact aBuiltin_ok hb hl h2
  · cases h
end ok
end Go.Ev

/-! Soundness of the evaluator's operations, part thirteen: conversions; all operations joined. -/
namespace Go.Ev
open Go Go.RowKit

section conv
variable {R : Type} {P : Program} {ro : Nat → Option CB} {G : AG} {no r : R}
theorem isU8_ok {e : TypeId} (h : isU8 P e = true) : P.underlying e = some (.int .u8) := by
  obtain ⟨te, hte, h⟩ := om_inv h nofun
  obtain ⟨d, i, z, ht⟩ := mkTI_ok hte
  split at h
  · rename_i e'
    rw [ht.und, mkTK_int (P := P) (d := d) (by rw [← ht.k, e'])]
  · cases h
theorem strBytes_eq : ∀ (s : List UInt8) (K : List AV → R), strBytes s K = K (s.map fun c => .int .u8 (Int.ofNat c.toNat))
  | [], K => rfl
  | c :: s, K => by
    show fN c.toNat (fun n => strBytes s fun l => K (.int .u8 (Int.ofNat n) :: l)) = _
    rw [fN_eq, strBytes_eq s]
    rfl
theorem bytesStr_ok (hne : no ≠ r) : ∀ {l : List AV} {K : List UInt8 → R}, bytesStr l no K = r → ∃ s, K s = r ∧ ∃ ns : List Int, (∀ (σ : Sub) (vs : List Value), VRs σ l vs → vs = ns.map (Value.int .u8)) ∧ s = ns.map fun n => UInt8.ofNat n.toNat
  | [], K, h => ⟨[], h, [], fun σ vs hv => VRs.nil_inv hv, rfl⟩
  | a :: l, K, h => by
    cases a with
    | int k n =>
      cases k with
      | u8 =>
        replace h : natOf n no (fun n => br (Nat.ble n 255) (bytesStr l no fun l => K (UInt8.ofNat n :: l)) no) = r := h
        obtain ⟨m, rfl, h⟩ := natOf_inv h hne
        obtain ⟨_, h⟩ := br_inv h hne
        obtain ⟨s, h1, ns, h2, h3⟩ := bytesStr_ok hne h
        refine ⟨_, h1, Int.ofNat m :: ns, fun σ vs hv => ?_, by rw [h3]; rfl⟩
        obtain ⟨x, xs, rfl, hx, hs⟩ := hv.cons_inv
        simp only [VR] at hx
        subst hx
        rw [h2 σ xs hs]; rfl
      | _ => exact absurd h hne
    | _ => exact absurd h hne
theorem foldl_push : ∀ (ns : List Int) (acc : ByteArray), ns.foldl (fun r n => r.push (UInt8.ofNat n.toNat)) acc = ⟨acc.data ++ (ns.map fun n => UInt8.ofNat n.toNat).toArray⟩
  | [], acc => by simp
  | n :: ns, acc => by
    rw [List.foldl_cons, foldl_push ns]
    simp [ByteArray.push]

theorem run_markNew {w : World} {h0 : Array Obj} {cs : Array Value} {e : TypeId} (h : w.heap = h0.push (.cells cs e (0, 0))) :
    (markStringish ⟨h0.size, 0, none⟩).run P w = .ok () { w with heap := h0.push (.cells cs e (cs.size, cs.size + 1)) } := by
  have hs : w.shape? h0.size = some (e, cs.size) := by simp [World.shape?, h]
  unfold markStringish
  simp only [Sem.run_bind, run_shape, Result.andThen_ok, hs]
  rw [run_freeze]
  congr 1
  unfold World.freeze
  rw [if_neg (by decide), h]
  congr 1
  apply Array.ext_getElem?
  intro i
  rw [Array.getElem?_modify]
  by_cases e : h0.size = i
  · subst e
    simp
  · simp only [e, if_false, Array.getElem?_push]
    rw [if_neg (fun e' => e e'.symm), if_neg (fun e' => e e'.symm)]
def strObj (q : List UInt8) (el : TypeId) (cap : Nat) (f : Nat × Nat) : Obj := .cells (List.append (q.map fun b => Value.int .u8 (b.toNat : Int)) (List.replicate (cap - q.length) (Value.int .u8 0))).toArray el f
theorem run_strToBytes (q : List UInt8) (el : TypeId) (w : World) :
    (Conv.stringToBytes el ⟨q.toArray⟩).run P w = .ok (.slice (some ⟨w.heap.size, 0, none⟩) q.length (Question.cut (.appendCap q.length 0 el) (w.tape w.drawn (.appendCap q.length 0 el))))
      { w with drawn := w.drawn + 1, heap := w.heap.push (strObj q el (Question.cut (.appendCap q.length 0 el) (w.tape w.drawn (.appendCap q.length 0 el)))
        (Question.cut (.appendCap q.length 0 el) (w.tape w.drawn (.appendCap q.length 0 el)), Question.cut (.appendCap q.length 0 el) (w.tape w.drawn (.appendCap q.length 0 el)) + 1)) } := by
  have hsz : (⟨q.toArray⟩ : ByteArray).size = q.length := bytes_size q
  have hcut := cut_app q.length 0 el (w.tape w.drawn (.appendCap q.length 0 el))
  generalize hc : Question.cut (.appendCap q.length 0 el) (w.tape w.drawn (.appendCap q.length 0 el)) = cap at hcut
  have hchoose : (choose (.appendCap q.length 0 el)).run P w = .ok cap { w with drawn := w.drawn + 1 } := by
    rw [run_choose, if_neg (by simp [Question.forced]), hc]
  have harr : ∀ f, Obj.cells (Array.map (fun b => Value.int .u8 (b.toNat : Int)) (⟨q.toArray⟩ : ByteArray).data ++ Array.replicate (cap - q.length) (.int .u8 0)) el f = strObj q el cap f := by
    intro f
    unfold strObj
    congr 1
    apply Array.ext'
    simp
  have hsz2 : ((List.append (q.map fun b => Value.int .u8 (b.toNat : Int)) (List.replicate (cap - q.length) (Value.int .u8 0))).toArray).size = cap := by simp; omega
  have hmark := run_markNew (P := P) (w := { w with drawn := w.drawn + 1, heap := w.heap.push (strObj q el cap (0, 0)) }) rfl
  rw [hsz2] at hmark
  unfold Conv.stringToBytes
  simp only [hsz, Sem.run_bind, hchoose, Result.andThen_ok, newRow, run_newObj, Sem.run_pure, harr]
  rw [hmark]
  rfl
theorem convertA_ok {s t : TypeId} {x : AV} {K : AV → AG → R} (h : convertA P ro G s t x no K = r) (hne : no ≠ r) :
    ∃ v G', K v G' = r ∧ G.nx.num ≤ G'.nx.num ∧ ∀ (w0 : World) (base U : Nat) (σ : Sub) (w : World) (u : Value), RoOK ro w0 base → Rel w0 base U σ G w → VR σ x u → G'.nx.num ≤ U →
      ∃ σ' w' y, (convert s t u).run P w = .ok y w' ∧ VR σ' v y ∧ Ext w0 base U σ G w σ' G' w' := by
  unfold convertA at h
  replace h := om_inv h hne
  obtain ⟨ts, hts, h⟩ := h
  obtain ⟨ds, is, zs, hss⟩ := mkTI_ok hts
  replace h := om_inv h hne
  obtain ⟨td, htd, h⟩ := h
  obtain ⟨dd, id', zd, hdd⟩ := mkTI_ok htd
  have hks := hss.k
  have hkd := hdd.k
  split at h
  · rename_i k e
    have hd := mkTK_int (P := P) (d := dd) (by rw [← hkd, e])
    replace h := asI_inv h hne
    obtain ⟨j, n, rfl, h⟩ := h
    rw [wrapK_eq] at h
    refine ⟨_, _, h, Nat.le_refl _, fun w0 base U σ w u hro hr hu hU => ⟨σ, w, .int k (k.wrap n), ?_, by simp only [VR], Ext.refl hr⟩⟩
    simp only [VR] at hu
    subst hu
    simp only [convert, Sem.run_bind, hss.run_und, hdd.run_und, hd, Result.andThen_ok, Conv.intToInt, Sem.run_pure]
  · rename_i e
    have hd := mkTK_str (P := P) (d := dd) (by rw [← hkd, e])
    split at h
    · rename_i q
      refine ⟨_, _, h, Nat.le_refl _, fun w0 base U σ w u hro hr hu hU => ⟨σ, w, u, ?_, hu, Ext.refl hr⟩⟩
      simp only [VR] at hu
      subst hu
      simp only [convert, Sem.run_bind, hss.run_und, hdd.run_und, hd, Result.andThen_ok, Sem.run_pure]
    · rename_i nstr
      split at h
      · rename_i el e'
        have hs := mkTK_slice (P := P) (d := ds) (by rw [← hks, e'])
        replace h := br_inv h hne
        obtain ⟨hu8, h⟩ := h
        have hel := isU8_ok hu8
        have h0 := h
        obtain ⟨n, h1, hlen⟩ := lenA_ok h0 hne
        obtain ⟨l, h2, hl, okl⟩ := firstA_ok h1 hne
        obtain ⟨q, h3, ns, h4, h5⟩ := bytesStr_ok hne h2
        refine ⟨_, _, h3, Nat.le_refl _, fun w0 base U σ w u hro hr hu hU => ⟨σ, w, .string ⟨q.toArray⟩, ?_, by simp only [VR], Ext.refl hr⟩⟩
        obtain ⟨cs, hf, hv, _⟩ := okl P w0 base U σ w u hro hr hu
        have hn := hlen P σ w u hu
        have hcs := h4 σ cs hv
        have hconv : (convert s t u).run P w = (Conv.bytesToString u).run P w := by
          unfold lenA at h0
          split at h0
          · simp only [VR] at hu
            obtain ⟨_, _, _, _, _, rfl⟩ := hu
            simp only [convert, Sem.run_bind, hss.run_und, hdd.run_und, hs, hd, Result.andThen_ok, run_underlying hel]
          · simp only [VR] at hu
            subst hu
            simp only [convert, Sem.run_bind, hss.run_und, hdd.run_und, hs, hd, Result.andThen_ok, run_underlying hel]
          · simp only [VR] at hu
            obtain ⟨_, _, rfl⟩ := hu
            simp only [convert, Sem.run_bind, hss.run_und, hdd.run_und, hs, hd, Result.andThen_ok, run_underlying hel]
          · exact absurd rfl (nstr _)
          · exact absurd h0 hne
        rw [hconv]
        have hsl : (∃ a len cp, u = .slice (some a) len cp) ∨ (u = .slice none 0 0) := by
          unfold lenA at h0
          split at h0
          · simp only [VR] at hu
            obtain ⟨_, _, _, _, _, rfl⟩ := hu
            exact .inl ⟨_, _, _, rfl⟩
          · simp only [VR] at hu
            exact .inr hu
          · simp only [VR] at hu
            obtain ⟨_, _, rfl⟩ := hu
            exact .inl ⟨_, _, _, rfl⟩
          · exact absurd rfl (nstr _)
          · exact absurd h0 hne
        rcases hsl with ⟨a, len, cp, rfl⟩ | rfl
        · simp only [Builtin.lenOf, Sem.run_pure] at hn
          cases hn
          simp only [Builtin.firstCells, Nat.mul_one] at hf
          rw [run_bytesToString w a n cp ns (by rw [hf, hcs]), foldl_push, h5]
          simp [ByteArray.empty, ByteArray.emptyWithCapacity]
          rfl
        · simp only [Builtin.firstCells, Sem.run_pure] at hf
          have : cs = [] := by
            cases hf' : cs with
            | nil => rfl
            | cons a b => rw [hf'] at hf; simp at hf
          rw [this] at hcs
          have hns : ns = [] := by
            cases ns with
            | nil => rfl
            | cons a b => cases hcs
          subst hns
          rw [h5]
          rfl
      · exact absurd h hne
  · rename_i el e
    have hd := mkTK_slice (P := P) (d := dd) (by rw [← hkd, e])
    split at h
    · rename_i q
      replace h := br_inv h hne
      obtain ⟨hu8, h⟩ := h
      have hel := isU8_ok hu8
      rw [fN_eq, lenL_eq, strBytes_eq, AG.newK_eq] at h
      refine ⟨_, _, h, by rw [nx_new]; omega, fun w0 base U σ w u hro hr hu hU => ?_⟩
      simp only [VR] at hu
      subst hu
      have hconv : (convert s t (.string ⟨q.toArray⟩)).run P w = (Conv.stringToBytes el ⟨q.toArray⟩).run P w := by
        cases ds <;> simp only [convert, Sem.run_bind, hss.run_und, hdd.run_und, hd, Result.andThen_ok, run_underlying hel]
      have hcut := cut_app q.length 0 el (w.tape w.drawn (.appendCap q.length 0 el))
      let cap := Question.cut (.appendCap q.length 0 el) (w.tape w.drawn (.appendCap q.length 0 el))
      let vs : List Value := q.map fun b => .int .u8 b.toNat
      let ex : List Value := List.replicate (cap - q.length) (.int .u8 0)
      have hr1 := hr.drawn (w.drawn + 1)
      have hU' : G.nx.num < U := by rw [nx_new] at hU; omega
      have htot : (vs ++ ex).length = cap := by simp [vs, ex]; omega
      have hext := hr1.newB (c := cap) (x := .cells ⟨el, 1, true, .atEnd, q.map fun c => .int .u8 (Int.ofNat c.toNat)⟩) (o := .cells (vs ++ ex).toArray el ((vs ++ ex).length, (vs ++ ex).length + 1)) hU'
        ⟨vs, ex, _, rfl, VRs_bytes q, fun y hy => by obtain ⟨c, _, rfl⟩ := List.mem_map.1 hy; rfl, fun e => (by cases e), fun _ => by rw [Sub.upd_cap, htot, Nat.mul_one], rfl⟩
      refine ⟨_, _, .slice (some ⟨w.heap.size, 0, none⟩) q.length cap, ?_, by simp only [VR]; exact ⟨w.heap.size, cap, Sub.upd_at .., by simp only [capR, Sub.upd_cap]; omega, hcut, rfl⟩, (Ext.drawn hr _).trans hext⟩
      rw [hconv]
      rw [run_strToBytes]
      rw [show (vs ++ ex).length = cap from htot]
      rfl
    · exact absurd h hne
  · exact absurd h hne
end conv

section ok
variable {P : Program} {ro : Nat → Option CB} {T : Tr AV} {G G' : AG} {v : AV} {d : Option Nat} {t0 : TypeId} {pos : String} {af : Array Edge} {g : Option (Nat × Bool)}
theorem aConv_ok {s t : TypeId} {x : Operand} (h : aConv s t x P ro T G = .ok v G') : OpOK P ro T G ⟨d, .convert s t x, t0, pos, af, g⟩ v G' := by
  replace h := opd_inv h nofun
  obtain ⟨a, ha, h⟩ := h
  obtain ⟨v', G2, h2, hnx, ok⟩ := convertA_ok h nofun
  cases h2
  refine ⟨hnx, fun w0 base U σ w ρ hro hr hρ hU => ?_⟩
  obtain ⟨σ', w', y, h3, h4, h5⟩ := ok w0 base U σ w (ρ x) hro hr (hρ _ _ ha) hU
  exact ⟨σ', w', y, .inl (by simp [execOp, h3]), h4, h5⟩

/-- every operation that the evaluator does is the model's -/
theorem aop_ok {op : Op} (h : aop op P ro T G = .ok v G') : OpOK P ro T G ⟨d, op, t0, pos, af, g⟩ v G' := by
  cases op with
  | move x => exact (aMove_ok h).1
  | assign x => exact (aMove_ok h).2
  | pick c a b => exact aPick_ok h
  | alloc e => exact aAlloc_ok h
  | box e x => exact aBox_ok h
  | build t ps => exact aBuild_ok h
  | buildSlice t n ps => exact aBuildSlice_ok h
  | insert t m k x => exact (aMapUp_ok h).2
  | load t a => exact aLoad_ok h
  | store t a x => exact aStore_ok h
  | nilCheck x => exact aNilCheck_ok h
  | binOp op t x y u => exact aBin_ok h
  | unOp op t x => exact aUn_ok h
  | convert s t x => exact aConv_ok h
  | sliceToArrayPointer t x => exact aS2A_ok h
  | makeInterface t x => exact aMkI_ok h
  | makeFunc fn a c => exact aMkF_ok h
  | makeMap t r => exact aMkM_ok h
  | makeSlice t l c => exact aMkS_ok h
  | slice t x lo hi mx => exact aSlice_ok h
  | fieldAddr t x f => exact aFAddr_ok h
  | field t x f => exact aField_ok h
  | indexAddr t x i => exact aIAddr_ok h
  | index t x i => exact aIndex_ok h
  | lookup t x k ok => exact aLookup_ok h
  | mapUpdate t m k x => exact (aMapUp_ok h).1
  | typeAssert x u t ok => exact aAssert_ok h
  | extract x i => exact aExtract_ok h
  | call c => exact aCall_ok h
  | _ => cases h
end ok
end Go.Ev

