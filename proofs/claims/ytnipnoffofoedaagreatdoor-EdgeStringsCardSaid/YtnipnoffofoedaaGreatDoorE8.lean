/- Write at each pairing that there is, in every world. -/
import Derived.Test.YtnipnoffofoedaaGreatDoorE6
import Derived.Test.YtnipnoffofoedaaGreatDoorE7
namespace Go.Proofs.YtnipnoffofoedaaGreatDoor
open Go Go.RowKit Go.Ev Go.Proofs

theorem sEq_ok' : ∀ {a b : List UInt8}, sEq a b = true → a = b := fun {a b} h => by
  rw [sEq_iff] at h
  exact eq_of_beq h
theorem mem_pairsAt {a b c d : Nat} (h1 : a < b) (h2 : b ≤ 16) (h4 : d ≤ 16) (h5 : b + c = a + d) : (b, c, d) ∈ pairsAt a := by
  unfold pairsAt
  refine List.mem_flatMap.2 ⟨b - a - 1, List.mem_range.2 (by omega), List.mem_map.2 ⟨c, List.mem_range.2 (by omega), ?_⟩⟩
  have e1 : a + (b - a - 1) + 1 = b := by omega
  have e2 : c + (b - a - 1) + 1 = d := by omega
  rw [e1, e2]
theorem write_yes {f : Nat} (hall : ∀ i, i < 16 → (pairsAt i).all (writeB f i) = true) {a b c d : Nat} (h1 : a < b) (h2 : b ≤ 16) (h4 : d ≤ 16) (h5 : b + c = a + d) (w : World) :
    Calls Tryz.prog f #[.agg #[.int .i64 a, .int .i64 b, .int .i64 c, .int .i64 d]] w fun e w' => e = .returned (.tuple #[.string ⟨(strOf a b c d).toArray⟩, .int .i64 0]) ∧ Below w.heap.size w w' := by
  have hb := List.all_eq_true.1 (hall a (by omega)) _ (mem_pairsAt h1 h2 h4 h5)
  unfold writeB at hb
  split at hb
  · rename_i s e G' hc
    rw [Bool.and_eq_true] at hb
    have hs := sEq_ok' hb.1
    have he := hb.2
    rw [iEq_iff] at he
    have he := of_decide_eq_true he
    subst hs he
    refine (calls_args call3_ok hc w (roOK w) (av := #[.agg #[.int .i64 a, .int .i64 b, .int .i64 c, .int .i64 d]]) fun σ => ?_).mono ?_
    · refine VRs.cons ?_ VRs.nil
      unfold pav
      simp only [VR]
      refine ⟨[.int .i64 a, .int .i64 b, .int .i64 c, .int .i64 d], ?_, ?_, rfl⟩
      · exact VRs.cons (by simp only [VR]; rfl) (VRs.cons (by simp only [VR]; rfl) (VRs.cons (by simp only [VR]; rfl) (VRs.cons (by simp only [VR]; rfl) VRs.nil)))
      · intro x hx
        simp only [List.mem_cons, List.not_mem_nil, or_false] at hx
        rcases hx with rfl | rfl | rfl | rfl <;> rfl
    · rintro e' w' ⟨x, σ, rfl, hv, hbel⟩
      refine ⟨?_, hbel⟩
      simp only [VR] at hv
      obtain ⟨cs, hcs, rfl⟩ := hv
      obtain ⟨v1, r1, rfl, hv1, hr1⟩ := hcs.cons_inv
      obtain ⟨v2, r2, rfl, hv2, hr2⟩ := hr1.cons_inv
      rw [VRs.nil_inv hr2]
      simp only [VR] at hv1 hv2
      rw [hv1, hv2]
  · cases hb
theorem write5_yes {a b c d : Nat} (h1 : a < b) (h2 : b ≤ 16) (h4 : d ≤ 16) (h5 : b + c = a + d) (w : World) :
    Calls Tryz.prog 5 #[.agg #[.int .i64 a, .int .i64 b, .int .i64 c, .int .i64 d]] w fun e w' => e = .returned (.tuple #[.string ⟨(strOf a b c d).toArray⟩, .int .i64 0]) ∧ Below w.heap.size w w' := write_yes w5_all h1 h2 h4 h5 w
theorem write6_yes {a b c d : Nat} (h1 : a < b) (h2 : b ≤ 16) (h4 : d ≤ 16) (h5 : b + c = a + d) (w : World) :
    Calls Tryz.prog 6 #[.agg #[.int .i64 a, .int .i64 b, .int .i64 c, .int .i64 d]] w fun e w' => e = .returned (.tuple #[.string ⟨(strOf a b c d).toArray⟩, .int .i64 0]) ∧ Below w.heap.size w w' := write_yes w6_all h1 h2 h4 h5 w
end Go.Proofs.YtnipnoffofoedaaGreatDoor
