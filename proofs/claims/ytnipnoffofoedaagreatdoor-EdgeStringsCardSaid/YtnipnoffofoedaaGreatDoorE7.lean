/- the reference Write at each pairing that there is. -/
import Derived.Test.YtnipnoffofoedaaGreatDoorE5
namespace Go.Proofs.YtnipnoffofoedaaGreatDoor
theorem w6_0 : (pairsAt 0).all (writeB 6 0) = true := by kernel_rfl
theorem w6_1 : (pairsAt 1).all (writeB 6 1) = true := by kernel_rfl
theorem w6_2 : (pairsAt 2).all (writeB 6 2) = true := by kernel_rfl
theorem w6_3 : (pairsAt 3).all (writeB 6 3) = true := by kernel_rfl
theorem w6_4 : (pairsAt 4).all (writeB 6 4) = true := by kernel_rfl
theorem w6_5 : (pairsAt 5).all (writeB 6 5) = true := by kernel_rfl
theorem w6_6 : (pairsAt 6).all (writeB 6 6) = true := by kernel_rfl
theorem w6_7 : (pairsAt 7).all (writeB 6 7) = true := by kernel_rfl
theorem w6_8 : (pairsAt 8).all (writeB 6 8) = true := by kernel_rfl
theorem w6_9 : (pairsAt 9).all (writeB 6 9) = true := by kernel_rfl
theorem w6_10 : (pairsAt 10).all (writeB 6 10) = true := by kernel_rfl
theorem w6_11 : (pairsAt 11).all (writeB 6 11) = true := by kernel_rfl
theorem w6_12 : (pairsAt 12).all (writeB 6 12) = true := by kernel_rfl
theorem w6_13 : (pairsAt 13).all (writeB 6 13) = true := by kernel_rfl
theorem w6_14 : (pairsAt 14).all (writeB 6 14) = true := by kernel_rfl
theorem w6_15 : (pairsAt 15).all (writeB 6 15) = true := by kernel_rfl
theorem w6_all : ∀ i, i < 16 → (pairsAt i).all (writeB 6 i) = true
  | 0, _ => w6_0
  | 1, _ => w6_1
  | 2, _ => w6_2
  | 3, _ => w6_3
  | 4, _ => w6_4
  | 5, _ => w6_5
  | 6, _ => w6_6
  | 7, _ => w6_7
  | 8, _ => w6_8
  | 9, _ => w6_9
  | 10, _ => w6_10
  | 11, _ => w6_11
  | 12, _ => w6_12
  | 13, _ => w6_13
  | 14, _ => w6_14
  | 15, _ => w6_15
  | n + 16, h => absurd h (by omega)
end Go.Proofs.YtnipnoffofoedaaGreatDoor
