/- What the string of a pairing says when it is cut at its blanks. -/
import Derived.Test.YtnipnoffofoedaaGreatDoorW6
namespace Go.Proofs.YtnipnoffofoedaaGreatDoor
open Go Go.RowKit

def cutB (i : Nat) (q : Nat × Nat × Nat) : Bool :=
  decide (Lib.count (strOf i q.1 q.2.1 q.2.2) [32] = 3) && decide ((Lib.splitK [32] 0 3 (strOf i q.1 q.2.1 q.2.2)).map Lib.atoiAll = [.ok (Int.ofNat i), .ok (Int.ofNat q.1), .ok (Int.ofNat q.2.1), .ok (Int.ofNat q.2.2)])
theorem cut_0 : (pairsAt 0).all (cutB 0) = true := by kernel_rfl
theorem cut_1 : (pairsAt 1).all (cutB 1) = true := by kernel_rfl
theorem cut_2 : (pairsAt 2).all (cutB 2) = true := by kernel_rfl
theorem cut_3 : (pairsAt 3).all (cutB 3) = true := by kernel_rfl
theorem cut_4 : (pairsAt 4).all (cutB 4) = true := by kernel_rfl
theorem cut_5 : (pairsAt 5).all (cutB 5) = true := by kernel_rfl
theorem cut_6 : (pairsAt 6).all (cutB 6) = true := by kernel_rfl
theorem cut_7 : (pairsAt 7).all (cutB 7) = true := by kernel_rfl
theorem cut_8 : (pairsAt 8).all (cutB 8) = true := by kernel_rfl
theorem cut_9 : (pairsAt 9).all (cutB 9) = true := by kernel_rfl
theorem cut_10 : (pairsAt 10).all (cutB 10) = true := by kernel_rfl
theorem cut_11 : (pairsAt 11).all (cutB 11) = true := by kernel_rfl
theorem cut_12 : (pairsAt 12).all (cutB 12) = true := by kernel_rfl
theorem cut_13 : (pairsAt 13).all (cutB 13) = true := by kernel_rfl
theorem cut_14 : (pairsAt 14).all (cutB 14) = true := by kernel_rfl
theorem cut_15 : (pairsAt 15).all (cutB 15) = true := by kernel_rfl
theorem cut_all : ∀ i, i < 16 → (pairsAt i).all (cutB i) = true
  | 0, _ => cut_0
  | 1, _ => cut_1
  | 2, _ => cut_2
  | 3, _ => cut_3
  | 4, _ => cut_4
  | 5, _ => cut_5
  | 6, _ => cut_6
  | 7, _ => cut_7
  | 8, _ => cut_8
  | 9, _ => cut_9
  | 10, _ => cut_10
  | 11, _ => cut_11
  | 12, _ => cut_12
  | 13, _ => cut_13
  | 14, _ => cut_14
  | 15, _ => cut_15
  | n + 16, h => absurd h (by omega)
theorem okP_cut {s : ByteArray} {a b c d : Nat} (h : okP s a b c d) : Lib.countB s sp = 3 ∧ ∀ s0 s1 s2 s3, Lib.splitB sp 0 3 s = [s0, s1, s2, s3] → atoiV s0 = a ∧ atoiV s1 = b ∧ atoiV s2 = c ∧ atoiV s3 = d := by
  obtain ⟨h1, h2, h3, h4, h5⟩ := h
  have hc := List.all_eq_true.1 (cut_all a (by omega)) _ (mem_pairsAt h1 h2 h3 h4)
  unfold cutB at hc
  rw [Bool.and_eq_true] at hc
  have c1 := of_decide_eq_true hc.1
  have c2 := of_decide_eq_true hc.2
  simp only at c1 c2
  have hs : s.data.toList = strOf a b c d := by rw [← h5]; simp [strS]
  refine ⟨by show Lib.count s.data.toList [32] = 3; rw [hs]; exact c1, fun s0 s1 s2 s3 hp => ?_⟩
  have hd := Lib.splitB_data sp 0 3 s
  rw [hp, hs] at hd
  have e32 : sp.data.toList = [32] := rfl
  rw [e32] at hd
  rw [← hd] at c2
  simp only [List.map_cons, List.map_nil, List.cons.injEq, and_true] at c2
  obtain ⟨e0, e1, e2, e3⟩ := c2
  unfold atoiV
  rw [e0, e1, e2, e3]
  exact ⟨rfl, rfl, rfl, rfl⟩
theorem dg_len (n : Nat) : 1 ≤ (dg n).length ∧ (dg n).length ≤ 2 := by unfold dg; split <;> simp
theorem okP_size {s : ByteArray} {a b c d : Nat} (h : okP s a b c d) : 7 ≤ s.size ∧ s.size ≤ 11 := by
  obtain ⟨_, _, _, _, h5⟩ := h
  have e : s.size = (strOf a b c d).length := by rw [← h5]; simp [strS, ByteArray.size]
  have h1 := dg_len a
  have h2 := dg_len b
  have h3 := dg_len c
  have h4 := dg_len d
  rw [e]
  unfold strOf
  simp only [List.length_append, List.length_cons]
  omega
theorem okP_unique {s : ByteArray} {a b c d a' b' c' d' : Nat} (h : okP s a b c d) (h' : okP s a' b' c' d') : a = a' ∧ b = b' ∧ c = c' ∧ d = d' := by
  obtain ⟨hk, hu⟩ := okP_cut h
  obtain ⟨_, hu'⟩ := okP_cut h'
  have hl := Lib.splitB_all sp (by decide) 0 3 s hk
  match hp : Lib.splitB sp 0 3 s, hl with
  | [s0, s1, s2, s3], _ =>
    obtain ⟨e0, e1, e2, e3⟩ := hu s0 s1 s2 s3 hp
    obtain ⟨f0, f1, f2, f3⟩ := hu' s0 s1 s2 s3 hp
    omega
end Go.Proofs.YtnipnoffofoedaaGreatDoor
