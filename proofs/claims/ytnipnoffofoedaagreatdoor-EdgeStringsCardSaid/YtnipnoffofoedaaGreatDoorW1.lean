/- The references' small function stretch; Write where there is no such pairing. -/
import Derived.Test.YtnipnoffofoedaaGreatDoorShelf
import Derived.ProofKit
import Derived.WalkKit
import Derived.WalkLawsBesides
import Derived.WalkSpells
import Derived.BigQuiet
import Derived.Deep.QuietTactic
import Derived.Lib.Hide
import Derived.IntWalk
import Derived.Outline
namespace Go.Proofs.YtnipnoffofoedaaGreatDoor
open Go Go.RowKit

/-- is a stretch one of an outline with 16 corners -/
def strB (a b : Int) : Bool := decide (0 ≤ a) && decide (a < b) && decide (b ≤ 16)
set_option maxHeartbeats 400000 in
theorem stretch_any (a b : Int) (w : World) : Calls Tryz.prog 24 #[.int .i64 16, .agg #[.int .i64 a, .int .i64 b]] w fun e w' => e = .returned (.bool (strB a b)) ∧ Below w.heap.size w w' := by
  by_cases h1 : 0 ≤ a
  · by_cases h2 : a < b
    · by_cases h3 : b ≤ 16
      · have e : strB a b = true := by simp [strB, h1, h2, h3]
        rw [e]
        go_enter Tryz.func24, Tryz.ntmps24
        go_wp2
        go_ret
        exact ⟨rfl, (Below.refl _ _).alloc (Nat.le_refl _) _⟩
      · have e : strB a b = false := by simp [strB, h3]
        rw [e]
        go_enter Tryz.func24, Tryz.ntmps24
        go_wp2
        go_ret
        exact ⟨rfl, (Below.refl _ _).alloc (Nat.le_refl _) _⟩
    · have e : strB a b = false := by simp [strB, h2]
      rw [e]
      go_enter Tryz.func24, Tryz.ntmps24
      go_wp2
      go_ret
      exact ⟨rfl, (Below.refl _ _).alloc (Nat.le_refl _) _⟩
  · have e : strB a b = false := by simp [strB, h1]
    rw [e]
    go_enter Tryz.func24, Tryz.ntmps24
    go_wp2
    go_ret
    exact ⟨rfl, (Below.refl _ _).alloc (Nat.le_refl _) _⟩

theorem index0 (a b c d : Int) (w : World) : (Instr.index 63 (.agg #[.int .i64 a, .int .i64 b, .int .i64 c, .int .i64 d]) (.int .i64 0)).run Tryz.prog w = .ok (.agg #[.int .i64 a, .int .i64 b]) w := by kernel_rfl
theorem index1 (a b c d : Int) (w : World) : (Instr.index 63 (.agg #[.int .i64 a, .int .i64 b, .int .i64 c, .int .i64 d]) (.int .i64 1)).run Tryz.prog w = .ok (.agg #[.int .i64 c, .int .i64 d]) w := by kernel_rfl
set_option maxRecDepth 100000 in
set_option maxHeartbeats 400000 in
theorem write5_a (a b c d : Int) (w : World) (h1 : a < 0) : Calls Tryz.prog 5 #[.agg #[.int .i64 a, .int .i64 b, .int .i64 c, .int .i64 d]] w fun e w' => e = .returned (.tuple #[.string ⟨#[]⟩, .int .i64 1]) ∧ Below w.heap.size w w' := by
  have i0 := index0 a b c d
  have i1 := index1 a b c d
  go_enter Tryz.func5, Tryz.ntmps5
  go_wp2
  refine wp_loop_rounds 1 ?_
  rw [rounds_succ]
  go_wp2
  go_ret2
  exact ⟨rfl, (((Below.refl _ _).alloc (Nat.le_refl _) _).alloc (by simp; try omega) _)⟩
set_option maxRecDepth 100000 in
set_option maxHeartbeats 400000 in
theorem write5_b (a b c d : Int) (w : World) (h1 : 0 ≤ a) (h2 : b ≤ a) : Calls Tryz.prog 5 #[.agg #[.int .i64 a, .int .i64 b, .int .i64 c, .int .i64 d]] w fun e w' => e = .returned (.tuple #[.string ⟨#[]⟩, .int .i64 1]) ∧ Below w.heap.size w w' := by
  have i0 := index0 a b c d
  have i1 := index1 a b c d
  go_enter Tryz.func5, Tryz.ntmps5
  go_wp2
  refine wp_loop_rounds 1 ?_
  rw [rounds_succ]
  go_wp2
  go_ret2
  exact ⟨rfl, (((Below.refl _ _).alloc (Nat.le_refl _) _).alloc (by simp; try omega) _)⟩
set_option maxRecDepth 100000 in
set_option maxHeartbeats 400000 in
theorem write5_c (a b c d : Int) (w : World) (h1 : 0 ≤ a) (h2 : a < b) (h3 : 16 < b) : Calls Tryz.prog 5 #[.agg #[.int .i64 a, .int .i64 b, .int .i64 c, .int .i64 d]] w fun e w' => e = .returned (.tuple #[.string ⟨#[]⟩, .int .i64 1]) ∧ Below w.heap.size w w' := by
  have i0 := index0 a b c d
  have i1 := index1 a b c d
  go_enter Tryz.func5, Tryz.ntmps5
  go_wp2
  refine wp_loop_rounds 1 ?_
  rw [rounds_succ]
  go_wp2
  go_ret2
  exact ⟨rfl, (((Below.refl _ _).alloc (Nat.le_refl _) _).alloc (by simp; try omega) _)⟩
set_option maxRecDepth 100000 in
set_option maxHeartbeats 400000 in
theorem write5_d (a b c d : Int) (w : World) (h1 : 0 ≤ a) (h2 : a < b) (h3 : b ≤ 16) (h4 : c < 0) : Calls Tryz.prog 5 #[.agg #[.int .i64 a, .int .i64 b, .int .i64 c, .int .i64 d]] w fun e w' => e = .returned (.tuple #[.string ⟨#[]⟩, .int .i64 1]) ∧ Below w.heap.size w w' := by
  have i0 := index0 a b c d
  have i1 := index1 a b c d
  go_enter Tryz.func5, Tryz.ntmps5
  go_wp2
  refine wp_loop_rounds 2 ?_
  rw [rounds_succ]
  go_wp2
  rw [rounds_succ]
  go_wp2
  go_ret2
  exact ⟨rfl, ((((Below.refl _ _).alloc (Nat.le_refl _) _).alloc (by simp; try omega) _).alloc (by simp; try omega) _)⟩
set_option maxRecDepth 100000 in
set_option maxHeartbeats 400000 in
theorem write5_e (a b c d : Int) (w : World) (h1 : 0 ≤ a) (h2 : a < b) (h3 : b ≤ 16) (h4 : 0 ≤ c) (h5 : d ≤ c) : Calls Tryz.prog 5 #[.agg #[.int .i64 a, .int .i64 b, .int .i64 c, .int .i64 d]] w fun e w' => e = .returned (.tuple #[.string ⟨#[]⟩, .int .i64 1]) ∧ Below w.heap.size w w' := by
  have i0 := index0 a b c d
  have i1 := index1 a b c d
  go_enter Tryz.func5, Tryz.ntmps5
  go_wp2
  refine wp_loop_rounds 2 ?_
  rw [rounds_succ]
  go_wp2
  rw [rounds_succ]
  go_wp2
  go_ret2
  exact ⟨rfl, ((((Below.refl _ _).alloc (Nat.le_refl _) _).alloc (by simp; try omega) _).alloc (by simp; try omega) _)⟩
set_option maxRecDepth 100000 in
set_option maxHeartbeats 400000 in
theorem write5_f (a b c d : Int) (w : World) (h1 : 0 ≤ a) (h2 : a < b) (h3 : b ≤ 16) (h4 : 0 ≤ c) (h5 : c < d) (h6 : 16 < d) : Calls Tryz.prog 5 #[.agg #[.int .i64 a, .int .i64 b, .int .i64 c, .int .i64 d]] w fun e w' => e = .returned (.tuple #[.string ⟨#[]⟩, .int .i64 1]) ∧ Below w.heap.size w w' := by
  have i0 := index0 a b c d
  have i1 := index1 a b c d
  go_enter Tryz.func5, Tryz.ntmps5
  go_wp2
  refine wp_loop_rounds 2 ?_
  rw [rounds_succ]
  go_wp2
  rw [rounds_succ]
  go_wp2
  go_ret2
  exact ⟨rfl, ((((Below.refl _ _).alloc (Nat.le_refl _) _).alloc (by simp; try omega) _).alloc (by simp; try omega) _)⟩
set_option maxRecDepth 100000 in
set_option maxHeartbeats 400000 in
theorem write5_g (a b c d : Int) (w : World) (h1 : 0 ≤ a) (h2 : a < b) (h3 : b ≤ 16) (h4 : 0 ≤ c) (h5 : c < d) (h6 : d ≤ 16) (h7 : (b - a == d - c) = false) : Calls Tryz.prog 5 #[.agg #[.int .i64 a, .int .i64 b, .int .i64 c, .int .i64 d]] w fun e w' => e = .returned (.tuple #[.string ⟨#[]⟩, .int .i64 1]) ∧ Below w.heap.size w w' := by
  have i0 := index0 a b c d
  have i1 := index1 a b c d
  go_enter Tryz.func5, Tryz.ntmps5
  go_wp2
  refine wp_loop_rounds 3 ?_
  rw [rounds_succ]
  go_wp2
  rw [rounds_succ]
  go_wp2
  rw [rounds_succ]
  go_wp2
  go_ret2
  exact ⟨rfl, ((((Below.refl _ _).alloc (Nat.le_refl _) _).alloc (by simp; try omega) _).alloc (by simp; try omega) _)⟩
theorem write5_no (a b c d : Int) (w : World) (h : ¬ (strB a b = true ∧ strB c d = true ∧ b - a = d - c)) : Calls Tryz.prog 5 #[.agg #[.int .i64 a, .int .i64 b, .int .i64 c, .int .i64 d]] w fun e w' => e = .returned (.tuple #[.string ⟨#[]⟩, .int .i64 1]) ∧ Below w.heap.size w w' := by
  by_cases h1 : 0 ≤ a
  · by_cases h2 : a < b
    · by_cases h3 : b ≤ 16
      · by_cases h4 : 0 ≤ c
        · by_cases h5 : c < d
          · by_cases h6 : d ≤ 16
            · have h7 : ¬ b - a = d - c := fun e => h ⟨by simp [strB, h1, h2, h3], by simp [strB, h4, h5, h6], e⟩
              exact write5_g a b c d w h1 h2 h3 h4 h5 h6 (by simpa using h7)
            · exact write5_f a b c d w h1 h2 h3 h4 h5 (by omega)
          · exact write5_e a b c d w h1 h2 h3 h4 (by omega)
        · exact write5_d a b c d w h1 h2 h3 (by omega)
      · exact write5_c a b c d w h1 h2 (by omega)
    · exact write5_b a b c d w h1 (by omega)
  · exact write5_a a b c d w (by omega)

end Go.Proofs.YtnipnoffofoedaaGreatDoor
