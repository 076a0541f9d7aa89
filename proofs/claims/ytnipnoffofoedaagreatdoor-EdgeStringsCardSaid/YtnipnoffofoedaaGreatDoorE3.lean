/- slices.Sorted over maps.Keys of a map with int keys: a contract of the evaluator. -/
import Derived.Test.YtnipnoffofoedaaGreatDoorEvG
import Derived.Test.YtnipnoffofoedaaGreatDoorE1
import Derived.Test.YtnipnoffofoedaaGreatDoorShelf
namespace Go.Proofs.YtnipnoffofoedaaGreatDoor
open Go Go.RowKit Go.Ev Go.Proofs Go.Maps Go.Sort Go.Shelf
open Go.WideElems (Fit rd rg pl rd_val rd_mk rg_of)

/-! ### Lists of ints -/
noncomputable def insI (n : Int) (l : List Int) : List Int := List.rec [n] (fun a r ih => br (iLt a n) (a :: ih) (n :: a :: r)) l
noncomputable def srtI (l : List Int) : List Int := List.rec [] (fun a _ ih => insI a ih) l
theorem insI_perm (n : Int) : ∀ l, (insI n l).Perm (n :: l)
  | [] => List.Perm.refl _
  | a :: r => by
    have e : insI n (a :: r) = br (iLt a n) (a :: insI n r) (n :: a :: r) := rfl
    rw [e, br_eq]
    split
    · exact ((insI_perm n r).cons a).trans (List.Perm.swap n a r)
    · exact List.Perm.refl _
theorem insI_sorted (n : Int) : ∀ l : List Int, l.Pairwise (· ≤ ·) → (insI n l).Pairwise (· ≤ ·)
  | [], _ => by
    show [n].Pairwise (· ≤ ·)
    simp
  | a :: r, h => by
    have e : insI n (a :: r) = br (iLt a n) (a :: insI n r) (n :: a :: r) := rfl
    rw [e, br_eq]
    rw [List.pairwise_cons] at h
    split
    · rename_i hlt
      rw [iLt_iff] at hlt
      have hlt := of_decide_eq_true hlt
      refine List.pairwise_cons.2 ⟨fun x hx => ?_, insI_sorted n r h.2⟩
      rcases List.mem_cons.1 ((insI_perm n r).mem_iff.1 hx) with rfl | hx
      · exact Int.le_of_lt hlt
      · exact h.1 x hx
    · rename_i hlt
      rw [iLt_iff] at hlt
      have hle : n ≤ a := by
        have := of_decide_eq_false (by simpa using hlt : decide (a < n) = false)
        omega
      refine List.pairwise_cons.2 ⟨fun x hx => ?_, List.pairwise_cons.2 h⟩
      rcases List.mem_cons.1 hx with rfl | hx
      · exact hle
      · exact Int.le_trans hle (h.1 x hx)
theorem srtI_perm : ∀ l, (srtI l).Perm l
  | [] => List.Perm.refl _
  | a :: r => (insI_perm a (srtI r)).trans ((srtI_perm r).cons a)
theorem srtI_sorted : ∀ l : List Int, (srtI l).Pairwise (· ≤ ·)
  | [] => List.Pairwise.nil
  | a :: r => insI_sorted a (srtI r) (srtI_sorted r)
theorem mergeSort_srtI {l k : List Int} (h : l.Perm k) : l.mergeSort leI = srtI k := by
  have tr : ∀ a b c : Int, leI a b = true → leI b c = true → leI a c = true := fun a b c h1 h2 => by simp only [leI, decide_eq_true_eq] at *; exact Int.le_trans h1 h2
  have tot : ∀ a b : Int, (leI a b || leI b a) = true := fun a b => by simp only [leI, Bool.or_eq_true, decide_eq_true_eq]; exact Int.le_total a b
  refine List.Perm.eq_of_pairwise (le := fun a b => leI a b = true) (fun a b _ _ h1 h2 => ?_) (List.pairwise_mergeSort tr tot l) ?_ (((List.mergeSort_perm l leI).trans h).trans (srtI_perm k).symm)
  · simp only [leI, decide_eq_true_eq] at h1 h2
    exact Int.le_antisymm h1 h2
  · exact (srtI_sorted k).imp fun h => by simpa [leI] using h

/-! ### A map's entries -/
noncomputable def intE1 (k : AV) (r : Option (List Int)) : Option (List Int) := match k with | .int .i64 n => br (inR .i64 n) (Go.Ev.om r Option.none fun l => some (n :: l)) Option.none | _ => Option.none
noncomputable def intsE (l : List (AV × AV × Nat)) : Option (List Int) := List.rec (some []) (fun e _ r => intE1 e.1 r) l
noncomputable def notInI (n : Int) (l : List Int) : Bool := List.rec true (fun a _ ih => br (iEq n a) false ih) l
noncomputable def nodI (l : List Int) : Bool := List.rec true (fun a r ih => br (notInI a r) ih false) l
noncomputable def notInN (n : Nat) (l : List (AV × AV × Nat)) : Bool := List.rec true (fun a _ ih => br (Nat.beq n a.2.2) false ih) l
noncomputable def bornB (c : Nat) (l : List (AV × AV × Nat)) : Bool := List.rec true (fun a r ih => br (Nat.ble (Nat.succ a.2.2) c) (br (notInN a.2.2 r) ih false) false) l
theorem notInI_ok {n : Int} : ∀ {l : List Int}, notInI n l = true → n ∉ l
  | [], _ => by simp
  | a :: r, h => by
    have h' : br (iEq n a) false (notInI n r) = true := h
    rw [br_eq] at h'
    split at h'
    · cases h'
    · rename_i hne
      rw [iEq_iff] at hne
      have hne := of_decide_eq_false (by simpa using hne : decide (n = a) = false)
      intro hm
      rcases List.mem_cons.1 hm with e | hm
      · exact hne e
      · exact notInI_ok h' hm
theorem nodI_ok : ∀ {l : List Int}, nodI l = true → l.Nodup
  | [], _ => List.nodup_nil
  | a :: r, h => by
    have h' : br (notInI a r) (nodI r) false = true := h
    rw [br_eq] at h'
    split at h'
    · rename_i h1
      exact List.nodup_cons.2 ⟨notInI_ok h1, nodI_ok h'⟩
    · cases h'

section
variable {σ : Sub}
theorem entries_ok : ∀ {es : List (AV × AV × Nat)} {l : List MapEntry} {ks : List Int}, ERs σ es l → intsE es = some ks → l.map (·.key) = ks.map encZ ∧ (∀ x ∈ ks, inR .i64 x = true) ∧ l.map (·.born) = es.map (·.2.2)
  | [], l, ks, h, hk => by
    have e : l = [] := h
    subst e
    cases hk
    exact ⟨rfl, (fun x hx => by cases hx), rfl⟩
  | (k, v, n) :: es, l, ks, h, hk => by
    obtain ⟨k', v', r, rfl, h1, h2, h3⟩ := h
    have hk' : intE1 k (intsE es) = some ks := hk
    unfold intE1 at hk'
    split at hk'
    · rename_i m
      rw [br_eq] at hk'
      split at hk'
      · rename_i hm
        obtain ⟨ks', hks, h4⟩ := om_inv hk' nofun
        cases h4
        obtain ⟨i1, i2, i3⟩ := entries_ok h3 hks
        simp only [VR] at h1
        subst h1
        refine ⟨by simp [i1], fun x hx => ?_, by simp [i3]⟩
        rcases List.mem_cons.1 hx with rfl | hx
        · exact hm
        · exact i2 x hx
      · cases hk'
    · cases hk'
theorem born_ok {c : Nat} : ∀ {es : List (AV × AV × Nat)}, bornB c es = true → (∀ x ∈ es.map (·.2.2), x < c) ∧ (es.map (·.2.2)).Nodup
  | [], _ => ⟨(fun x hx => by cases hx), List.nodup_nil⟩
  | (k, v, n) :: es, h => by
    have h' : br (Nat.ble (Nat.succ n) c) (br (notInN n es) (bornB c es) false) false = true := h
    rw [br_eq, br_eq] at h'
    split at h'
    · rename_i h1
      split at h'
      · rename_i h2
        obtain ⟨i1, i2⟩ := born_ok h'
        have hno : ∀ {l : List (AV × AV × Nat)}, notInN n l = true → n ∉ l.map (·.2.2) := by
          intro l
          induction l with
          | nil => intro _; simp
          | cons a r ih =>
            intro h
            have h' : br (Nat.beq n a.2.2) false (notInN n r) = true := h
            rw [br_eq] at h'
            split at h'
            · cases h'
            · rename_i hne
              intro hm
              rcases List.mem_cons.1 hm with e | hm
              · exact hne (by rw [e]; simp)
              · exact ih h' hm
        refine ⟨fun x hx => ?_, List.nodup_cons.2 ⟨hno h2, i2⟩⟩
        rcases List.mem_cons.1 hx with rfl | hx
        · exact Nat.le_of_ble_eq_true h1
        · exact i1 x hx
      · cases h'
    · cases h'
end
theorem insert_perm {H : Type} (x : Lit × DataW H) : ∀ l, (DataW.insert x l).Perm (x :: l)
  | [] => List.Perm.refl _
  | y :: r => by
    unfold DataW.insert
    split
    · exact List.Perm.refl _
    · exact ((insert_perm x r).cons y).trans (List.Perm.swap x y r)
theorem foldr_perm {H : Type} : ∀ l : List (Lit × DataW H), (l.foldr DataW.insert []).Perm l
  | [] => List.Perm.refl _
  | x :: l => (insert_perm x _).trans ((foldr_perm l).cons x)

/-! ### The contract -/
theorem sortsA (m : Nat) : AnyZI.SortsIn Tryz.prog Tryz.sortedA_ren Fence.wide m :=
  ⟨fun blk off cap ss W hH hblk hsz => callsIn_wide.2 (Tryz.slices_Sort_int blk off cap ss W hH hblk hsz),
   fun p cap W => callsIn_wide.2 (Any.slices_Sort_int_none Tryz.lays189 p cap W)⟩
def anyR (_ : Value) : Option (DataW Unit × List MemPlace) := some (.nil, [])
theorem sorted_keys (Bm b clock : Nat) (es : Array MapEntry) (ks : List Int) (w : World) (hm : w.cell? ⟨Bm, 0, Option.none⟩ = some (.map (some b))) (hb : w.heap[b]? = some (.map es clock)) (hks : es.toList.map (·.key) = ks.map encZ)
    (hin : ∀ x ∈ ks, inR .i64 x = true) (hnd : ks.Nodup) (hst : (∀ x ∈ es.toList, x.born < clock) ∧ (es.toList.map (·.born)).Nodup) (hlen : ks.length ≤ 1000000) :
    Calls Tryz.prog 118 #[.func (.func 145) #[] #[.pointer (some ⟨Bm, 0, Option.none⟩)]] w fun e w' => ∃ v, e = .returned v ∧ w'.ownsRow w.heap.size 3 1 v ks.length ((srtI ks).map encZ) ∧ (v = .slice Option.none 0 0 ↔ ks = []) ∧ Below w.heap.size w w' := by
  have u3 : Tryz.prog.underlying 3 = some (.int .i64) := Tryz.underlying3
  have hesl : es.toList.length = ks.length := by have := congrArg List.length hks; simpa using this
  have hkey : ∀ x ∈ es.toList, ∃ n : Int, x.key = encZ n ∧ keyOf Tryz.prog 3 x.key = some (.int .i64 n) := fun x hx => by
    have : x.key ∈ ks.map encZ := by rw [← hks]; exact List.mem_map_of_mem hx
    obtain ⟨n, hn, e⟩ := List.mem_map.1 this
    have hw := inR_bounds (hin n hn)
    simp only [kMin, kMax] at hw
    refine ⟨n, e.symm, ?_⟩
    rw [← e]
    have h1 : (IntKind.i64.min ≤ n) := by show (-9223372036854775808 : Int) ≤ n; omega
    have h2 : (n ≤ IntKind.i64.max) := by show n ≤ (9223372036854775807 : Int); omega
    have h3 : (-9223372036854775808 : Int) ≤ n := h1
    have h4 : n ≤ (9223372036854775807 : Int) := h2
    simp [keyOf, u3, mapKey, Lit.wf, h1, h4]
  have hown : w.ownsMap Tryz.prog 3 anyR b ks.length (.map ((es.toList.map (rg Tryz.prog 3 anyR)).foldr DataW.insert [])) := by
    refine ⟨es, clock, hb, ⟨?_, ⟨hst.1, hst.2, ?_⟩, fun x hx => ?_⟩, by rw [← hesl]; simp, rfl⟩
    · have : es.size = ks.length := by simpa using hesl
      unfold maxLen; omega
    · rw [hks]
      exact List.pairwise_map.2 (hnd.imp fun {a b} hne e => hne (encZ_inj e))
    · obtain ⟨n, _, hn⟩ := hkey x hx
      exact ⟨_, rd_mk (yv := (.nil, [])) hn rfl⟩
  obtain ⟨D0, hD0⟩ : ∃ D0, D0 = (.map ((es.toList.map (rg Tryz.prog 3 anyR)).foldr DataW.insert []) : DataW Unit) := ⟨_, rfl⟩
  have hperm : (intKeys D0).Perm ks := by
    have e1 : intKeys D0 = (((es.toList.map (rg Tryz.prog 3 anyR)).foldr DataW.insert []).map fun p => Go.intOf p.1) := by rw [hD0]; rfl
    rw [e1]
    have h1 := (foldr_perm (es.toList.map (rg Tryz.prog 3 anyR))).map fun p => Go.intOf p.1
    refine h1.trans ?_
    have : (es.toList.map (rg Tryz.prog 3 anyR)).map (fun p => Go.intOf p.1) = ks := by
      rw [List.map_map]
      have h2 : es.toList.map (encZ ∘ ((fun p => Go.intOf p.1) ∘ rg Tryz.prog 3 anyR)) = es.toList.map (·.key) := List.map_congr_left fun x hx => by
        obtain ⟨n, h3, h4⟩ := hkey x hx
        have : rg Tryz.prog 3 anyR x = (.int .i64 n, .nil) := by
          have := rg_of (rd_mk (P := Tryz.prog) (k := 3) (R := anyR) (key := x.key) (val := x.val) (yv := (.nil, [])) (born := x.born) h4 rfl)
          exact this
        simp only [Function.comp, this, Go.intOf, h3]
      rw [hks, ← List.map_map] at h2
      exact List.map_inj_right (fun a b h => encZ_inj h) |>.1 h2
    rw [this]
  have hlenD : Maps.size D0 = ks.length := by
    have := hperm.length_eq
    rw [← this, hD0]
    simp [Maps.size, intKeys]
  rw [← hD0] at hown
  have hBm : Bm < w.heap.size := by
    apply Nat.lt_of_not_le
    intro hle
    have hno : w.heap[Bm]? = Option.none := Array.getElem?_eq_none hle
    simp [World.cell?, hno] at hm
  have hseq := AnyZI.keys_gives (ρ := Tryz.keysA_ren) { Tryz.keysA with } Fence.wide 2 trivial rfl (by omega) Bm b ks.length D0 w hBm hm hown
  have cS := AnyZI.sorted_in Tryz.sortedA Fence.wide 5 trivial trivial trivial trivial rfl (by omega) (sortsA _) (enters_of Tryz.func144 (by kernel_rfl) rfl) 145 #[.pointer (some ⟨Bm, 0, Option.none⟩)] trivial (enters_of Tryz.func145 (by kernel_rfl) rfl) _ _
    (by rw [hlenD]; unfold maxLen; omega) (by rw [hlenD]; omega) _ hseq
  change CallsIn _ _ Tryz.prog 118 _ _ _ at cS
  refine (callsIn_wide.1 cS).mono ?_
  rintro e w' ⟨v, ss, rfl, hS, hrow, hnil, hbel⟩
  have hp := hS.trans hperm
  have hl := hp.length_eq
  have hms := mergeSort_srtI hp
  refine ⟨v, rfl, ?_, ?_, hbel⟩
  · rw [← hms, ← hl]; exact hrow
  · rw [hnil]
    constructor
    · intro e; subst e; exact List.eq_nil_of_length_eq_zero (by rw [← hl]; rfl)
    · intro e; subst e; exact List.eq_nil_of_length_eq_zero (by rw [hl]; rfl)

noncomputable def kSorted (args : List AV) (G : AG) : Rf :=
  match args with
  | [.func 145 [] [.ptr a 0]] => Go.Ev.om (G.get a) (.no 910) fun x => (match x with
    | .cells c => (match c.cs with
      | [.map m] => Go.Ev.om (G.get m) (.no 911) fun y => (match y with
        | .map es clock => Go.Ev.om (intsE es) (.no 912) fun ks => br (nodI ks) (br (bornB clock es) (br (Nat.ble (lenL ks) 1000000)
            (match ks with
              | [] => .ok .nils G
              | k :: r => G.newK (.cells ⟨3, 1, true, .no, (srtI (k :: r)).map fun n => .int .i64 n⟩) fun b G => .ok (.sl b 0 (lenL (k :: r)) (.op 0)) G) (.no 914)) (.no 915)) (.no 916)
        | _ => .no 917)
      | _ => .no 918)
    | _ => .no 919)
  | _ => .no 920
theorem func118_some : ∃ fn, Tryz.prog.funcs[118]? = some fn ∧ fn.body.isSome = true := ⟨_, Tryz.func118, by kernel_rfl⟩
theorem kSorted_ok : CtrOne Tryz.prog noro 118 kSorted := by
  intro args G v G' h
  unfold kSorted at h
  split at h
  · rename_i a
    obtain ⟨x, hx, h1⟩ := om_inv h nofun
    split at h1
    · rename_i c
      split at h1
      · rename_i m hcs
        obtain ⟨y, hy, h2⟩ := om_inv h1 nofun
        split at h2
        · rename_i es clock
          obtain ⟨ks, hks, h3⟩ := om_inv h2 nofun
          obtain ⟨hnd, h4⟩ := br_inv h3 nofun
          obtain ⟨hbo, h5⟩ := br_inv h4 nofun
          obtain ⟨hle, h6⟩ := br_inv h5 nofun
          rw [lenL_eq] at hle
          have hlen := Nat.le_of_ble_eq_true hle
          obtain ⟨b1, b2⟩ := born_ok hbo
          -- what the world says
          have facts : ∀ (w0 : World) (base U : Nat) (σ : Sub) (w : World) (av : Array Value), Rel w0 base U σ G w → VRs σ [.func 145 [] [.ptr a 0]] av.toList →
              Calls Tryz.prog 118 av w fun e w' => ∃ v, e = .returned v ∧ w'.ownsRow w.heap.size 3 1 v ks.length ((srtI ks).map encZ) ∧ (v = .slice Option.none 0 0 ↔ ks = []) ∧ Below w.heap.size w w' := by
            intro w0 base U σ w av hr ha
            obtain ⟨fv, r, e1, hfv, hr0⟩ := ha.cons_inv
            have e2 := hr0.nil_inv
            subst e2
            simp only [VR] at hfv
            obtain ⟨p, q, hp, hq, rfl⟩ := hfv
            have e3 := hp.nil_inv
            subst e3
            obtain ⟨pv, r2, rfl, hpv, hr2⟩ := hq.cons_inv
            have e4 := hr2.nil_inv
            subst e4
            simp only [VR] at hpv
            obtain ⟨n, hn, rfl⟩ := hpv
            have has : av = #[.func (.func 145) #[] #[.pointer (some ⟨n, 0, Option.none⟩)]] := by
              apply Array.toList_inj.1
              rw [e1]
            subst has
            obtain ⟨_, n', o, hn', _, ho, hbr⟩ := hr.blk a _ hx
            rw [hn] at hn'; cases hn'
            obtain ⟨vs, ex, f, rfl, hvs, _, _, _, _⟩ := hbr
            rw [hcs] at hvs
            obtain ⟨mv, r3, rfl, hmv, hr3⟩ := hvs.cons_inv
            have e5 := hr3.nil_inv
            subst e5
            simp only [VR] at hmv
            obtain ⟨mn, hmn, rfl⟩ := hmv
            obtain ⟨_, mn', o2, hmn', _, ho2, hbr2⟩ := hr.blk m _ hy
            rw [hmn] at hmn'; cases hmn'
            obtain ⟨l, rfl, hER⟩ := hbr2
            obtain ⟨k1, k2, k3⟩ := entries_ok hER hks
            refine sorted_keys n mn clock l.toArray ks w ?_ ho2 (by simpa using k1) k2 (nodI_ok hnd) ⟨fun x hx => ?_, ?_⟩ hlen
            · simp [World.cell?, ho]
            · have : x.born ∈ es.map (·.2.2) := by
                rw [← k3]
                exact List.mem_map_of_mem (by simpa using hx)
              exact b1 _ this
            · have : (l.map (·.born)).Nodup := by rw [k3]; exact b2
              simpa using this
          cases ks with
          | nil =>
            simp only at h6
            cases h6
            refine CallOK.ofCalls (Nat.le_refl _) func118_some fun w0 base U σ w av hro hr ha hU => (facts w0 base U σ w av hr ha).mono ?_
            rintro e w' ⟨v, rfl, hrow, hnil, hb⟩
            have : v = .slice Option.none 0 0 := hnil.2 rfl
            subst this
            exact ⟨_, σ, rfl, by simp only [VR], Ext.ofBelow hr hb⟩
          | cons k r =>
            simp only [AG.newK_eq] at h6
            cases h6
            have hnum : (G.new (.cells ⟨3, 1, true, .no, (srtI (k :: r)).map fun n => .int .i64 n⟩)).nx.num = G.nx.num + 1 := Pth.num_suc _
            refine CallOK.ofCalls (by rw [hnum]; omega) func118_some fun w0 base U σ w av hro hr ha hU => (facts w0 base U σ w av hr ha).mono ?_
            rintro e w' ⟨v, rfl, hrow, hnil, hb⟩
            obtain ⟨hl, hor⟩ := hrow
            rcases hor with ⟨rfl, h0⟩ | ⟨g, cap, cur, rfl, hg, hheap, h1, h2, h3, h4⟩
            · simp at h0
            · rw [hnum] at hU
              have hlk : (srtI (k :: r)).length = (k :: r).length := (srtI_perm (k :: r)).length_eq
              refine ⟨_, σ.upd G.nx g cap, rfl, ?_, Ext.ofBelowNew (c := cap) hr hb (by omega) hg hheap ?_⟩
              · simp only [VR]
                refine ⟨g, cap, Sub.upd_at .., ?_, ?_, ?_⟩
                · show cap + 0 = _
                  rw [Sub.upd_cap]; rfl
                · rw [lenL_eq]; exact h1
                · rw [lenL_eq]
              · refine ⟨(srtI (k :: r)).map encZ, cur.toList.drop ((k :: r).length * 1), (0, 0), ?_, ?_, ?_, nofun, fun _ => ?_, ?_⟩
                · rw [← h4, List.take_append_drop]
                · have : ∀ l : List Int, VRs (σ.upd G.nx g cap) (l.map fun n => AV.int .i64 n) (l.map encZ) := by
                    intro l
                    induction l with
                    | nil => exact VRs.nil
                    | cons a l ih => exact VRs.cons (by simp only [VR]) ih
                  exact this _
                · intro x hx
                  obtain ⟨n, _, rfl⟩ := List.mem_map.1 hx
                  rfl
                · rw [← h4, List.take_append_drop, Sub.upd_cap]
                  simpa using h3
                · exact rfl
        · cases h2
      · cases h1
    · cases h1
  · cases h
end Go.Proofs.YtnipnoffofoedaaGreatDoor
