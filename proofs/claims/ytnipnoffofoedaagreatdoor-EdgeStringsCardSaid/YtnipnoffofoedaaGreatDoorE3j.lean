/- strings.Join: a contract of the evaluator, out of the shelf's. -/
import Derived.Test.YtnipnoffofoedaaGreatDoorEvG
import Derived.Test.YtnipnoffofoedaaGreatDoorE1
import Derived.Test.YtnipnoffofoedaaGreatDoorShelf
namespace Go.Proofs.YtnipnoffofoedaaGreatDoor
open Go Go.RowKit Go.Ev Go.Proofs

noncomputable def strA1 (a : AV) (r : Option (List (List UInt8))) : Option (List (List UInt8)) := match a with | .str s => Go.Ev.om r Option.none fun l => some (s :: l) | _ => Option.none
noncomputable def strsA (l : List AV) : Option (List (List UInt8)) := List.rec (some []) (fun a _ r => strA1 a r) l
section
variable {R : Type}
noncomputable def joinT (sep : List UInt8) (r : List (List UInt8)) : (List UInt8 → R) → R := List.rec (motive := fun _ => (List UInt8 → R) → R) (fun K => K []) (fun y _ ih K => ih fun t => appK y t fun u => appK sep u K) r
noncomputable def joinK (sep : List UInt8) (l : List (List UInt8)) (K : List UInt8 → R) : R := List.rec (motive := fun _ => R) (K []) (fun x r _ => joinT sep r fun t => appK x t K) l
theorem joinT_eq (sep : List UInt8) : ∀ (r : List (List UInt8)) (K : List UInt8 → R), joinT sep r K = K (Lib.joinTail sep r)
  | [], K => rfl
  | y :: r, K => by
    have e : joinT sep (y :: r) K = joinT sep r fun t => appK y t fun u => appK sep u K := rfl
    rw [e, joinT_eq sep r, appK_eq, appK_eq]
    congr 1
    simp [Lib.joinTail]
theorem joinK_eq (sep : List UInt8) (l : List (List UInt8)) (K : List UInt8 → R) : joinK sep l K = K (Lib.join l sep) := by
  cases l with
  | nil => rfl
  | cons x r =>
    have e : joinK sep (x :: r) K = joinT sep r fun t => appK x t K := rfl
    rw [e, joinT_eq, appK_eq, Lib.join_cons]
end
theorem strsA_ok {σ : Sub} : ∀ {l : List AV} {ss : List (List UInt8)} {vs : List Value}, strsA l = some ss → VRs σ l vs → vs = ss.map fun s => Value.string ⟨s.toArray⟩
  | [], ss, vs, h, hv => by cases h; exact VRs.nil_inv hv
  | a :: l, ss, vs, h, hv => by
    obtain ⟨v, ws, rfl, h1, h2⟩ := hv.cons_inv
    have h' : strA1 a (strsA l) = some ss := h
    cases a <;> first | (cases h'; done) | skip
    rename_i s
    obtain ⟨r, hr, h3⟩ := om_inv h' nofun
    cases h3
    simp only [VR] at h1
    subst h1
    rw [strsA_ok hr h2]
    rfl

noncomputable def kJoin (args : List AV) (G : AG) : Rf :=
  match args with
  | [.sl b o n _, .str sep] => Go.Ev.om (G.get b) (.no 940) fun x => (match x with
    | .cells cb => takeX n (.no 941) (dropL o cb.cs) fun l => Go.Ev.om (strsA l) (.no 942) fun ss => br (Nat.ble n 100000) (joinK sep ss fun s => br (Nat.ble (lenL s) 1000000) (.ok (.str s) G) (.no 943)) (.no 944)
    | _ => .no 945)
  | [.nils, .str _] => .ok (.str []) G
  | _ => .no 946
theorem func23_some : ∃ fn, Tryz.prog.funcs[23]? = some fn ∧ fn.body.isSome = true := ⟨_, Tryz.func23, by kernel_rfl⟩
theorem kJoin_ok : CtrOne Tryz.prog noro 23 kJoin := by
  intro args G v G' h
  unfold kJoin at h
  split at h
  · rename_i b o n _ sep
    obtain ⟨x, hx, h1⟩ := om_inv h nofun
    split at h1
    · rename_i cb
      rw [takeX_eq, dropL_eq] at h1
      split at h1
      · rename_i hlen
        obtain ⟨ss, hss, h2⟩ := om_inv h1 nofun
        obtain ⟨hn, h3⟩ := br_inv h2 nofun
        rw [joinK_eq] at h3
        obtain ⟨hl, h4⟩ := br_inv h3 nofun
        rw [lenL_eq] at hl
        cases h4
        refine CallOK.ofCalls (Nat.le_refl _) func23_some fun w0 base U σ w av hro hr ha hU => ?_
        obtain ⟨v1, r1, e1, hv1, hr1⟩ := ha.cons_inv
        obtain ⟨v2, r2, rfl, hv2, hr2⟩ := hr1.cons_inv
        have e2 := hr2.nil_inv
        subst e2
        simp only [VR] at hv1 hv2
        obtain ⟨bn, cp, hbn, _, hle, rfl⟩ := hv1
        subst hv2
        have hav : av = #[.slice (some ⟨bn, o, Option.none⟩) n cp, .string ⟨sep.toArray⟩] := by
          apply Array.toList_inj.1
          rw [e1]
        subst hav
        obtain ⟨_, n', ob, hn', _, ho, hbr⟩ := hr.blk b _ hx
        rw [hbn] at hn'; cases hn'
        obtain ⟨vs, ex, f, rfl, hvs, _, _, _, _⟩ := hbr
        have hvs' := strsA_ok hss ((hvs.drop o).take n)
        have hlen' : n ≤ (vs.drop o).length := by rw [List.length_drop, hvs.len]; rw [List.length_drop] at hlen; exact hlen
        have hssl : ss.length = n := by
          have := congrArg List.length hvs'
          rw [List.length_take, Nat.min_eq_left hlen', List.length_map] at this
          exact this.symm
        have hcells : ∀ (j : Nat) (x : ByteArray), (ss.map fun s => (⟨s.toArray⟩ : ByteArray))[j]? = some x → w.cell? ⟨bn, o + j, Option.none⟩ = some (.string x) := fun j x hj => by
          have hjl : j < n := by
            have := (List.getElem?_eq_some_iff.1 hj).1
            simpa [hssl] using this
          have h5 : ((vs.drop o).take n)[j]? = some (.string x) := by
            rw [hvs', List.getElem?_map]
            rw [List.getElem?_map] at hj
            cases hs : ss[j]? with
            | none => rw [hs] at hj; cases hj
            | some s => rw [hs] at hj; cases hj; rfl
          rw [List.getElem?_take_of_lt hjl, List.getElem?_drop] at h5
          have h6 : (vs ++ ex)[o + j]? = some (.string x) := by
            rw [List.getElem?_append_left (List.getElem?_eq_some_iff.1 h5).1]; exact h5
          simp [World.cell?, ho, h6]
        have hmap : (ss.map fun s => (⟨s.toArray⟩ : ByteArray)).map (·.data.toList) = ss := by
          rw [List.map_map]
          exact (List.map_congr_left fun s _ => by simp).trans (List.map_id _)
        have hJ := Tryz.strings_Join bn o cp (ss.map fun s => (⟨s.toArray⟩ : ByteArray)) ⟨sep.toArray⟩ w hcells (lt_of_heap ho) (by rw [List.length_map, hssl]; have := Nat.le_of_ble_eq_true hn; omega) (by rw [List.length_map, hssl]; exact hle)
          (by rw [hmap]; have := Nat.le_of_ble_eq_true hl; simpa using Nat.le_trans this (by omega : (1000000 : Nat) ≤ 140737488355328))
        rw [List.length_map, hssl] at hJ
        refine hJ.mono ?_
        rintro e w' ⟨rfl, hb⟩
        refine ⟨_, σ, rfl, ?_, Ext.ofBelow hr hb⟩
        simp only [VR]
        rw [hmap]
      · cases h1
    · cases h1
  · rename_i sep
    cases h
    refine CallOK.ofCalls (Nat.le_refl _) func23_some fun w0 base U σ w av hro hr ha hU => ?_
    obtain ⟨v1, r1, e1, hv1, hr1⟩ := ha.cons_inv
    obtain ⟨v2, r2, rfl, hv2, hr2⟩ := hr1.cons_inv
    have e2 := hr2.nil_inv
    subst e2
    simp only [VR] at hv1 hv2
    subst hv1 hv2
    have hav : av = #[.slice Option.none 0 0, .string ⟨sep.toArray⟩] := by
      apply Array.toList_inj.1
      rw [e1]
    subst hav
    refine (Tryz.strings_Join_none Option.none 0 ⟨sep.toArray⟩ w).mono ?_
    rintro e w' ⟨rfl, rfl⟩
    exact ⟨_, σ, rfl, by simp only [VR], Ext.refl hr⟩
  · cases h
end Go.Proofs.YtnipnoffofoedaaGreatDoor
