/- edge.Write at each pairing that there is. -/
import Derived.Test.YtnipnoffofoedaaGreatDoorE5
namespace Go.Proofs.YtnipnoffofoedaaGreatDoor
theorem w5_0 : (pairsAt 0).all (writeB 5 0) = true := by kernel_rfl
theorem w5_1 : (pairsAt 1).all (writeB 5 1) = true := by kernel_rfl
theorem w5_2 : (pairsAt 2).all (writeB 5 2) = true := by kernel_rfl
theorem w5_3 : (pairsAt 3).all (writeB 5 3) = true := by kernel_rfl
theorem w5_4 : (pairsAt 4).all (writeB 5 4) = true := by kernel_rfl
theorem w5_5 : (pairsAt 5).all (writeB 5 5) = true := by kernel_rfl
theorem w5_6 : (pairsAt 6).all (writeB 5 6) = true := by kernel_rfl
theorem w5_7 : (pairsAt 7).all (writeB 5 7) = true := by kernel_rfl
theorem w5_8 : (pairsAt 8).all (writeB 5 8) = true := by kernel_rfl
theorem w5_9 : (pairsAt 9).all (writeB 5 9) = true := by kernel_rfl
theorem w5_10 : (pairsAt 10).all (writeB 5 10) = true := by kernel_rfl
theorem w5_11 : (pairsAt 11).all (writeB 5 11) = true := by kernel_rfl
theorem w5_12 : (pairsAt 12).all (writeB 5 12) = true := by kernel_rfl
theorem w5_13 : (pairsAt 13).all (writeB 5 13) = true := by kernel_rfl
theorem w5_14 : (pairsAt 14).all (writeB 5 14) = true := by kernel_rfl
theorem w5_15 : (pairsAt 15).all (writeB 5 15) = true := by kernel_rfl
theorem w5_all : ∀ i, i < 16 → (pairsAt i).all (writeB 5 i) = true
  | 0, _ => w5_0
  | 1, _ => w5_1
  | 2, _ => w5_2
  | 3, _ => w5_3
  | 4, _ => w5_4
  | 5, _ => w5_5
  | 6, _ => w5_6
  | 7, _ => w5_7
  | 8, _ => w5_8
  | 9, _ => w5_9
  | 10, _ => w5_10
  | 11, _ => w5_11
  | 12, _ => w5_12
  | 13, _ => w5_13
  | 14, _ => w5_14
  | 15, _ => w5_15
  | n + 16, h => absurd h (by omega)
end Go.Proofs.YtnipnoffofoedaaGreatDoor
