/- Read of the program: where the string has not four parts. -/
import Derived.Test.YtnipnoffofoedaaGreatDoorW4
namespace Go.Proofs.YtnipnoffofoedaaGreatDoor
open Go Go.RowKit

set_option maxRecDepth 100000 in
set_option maxHeartbeats 400000 in
theorem read7_len (s : ByteArray) (hs : s.size ≤ 40) (hk : Lib.countB s sp ≠ 3) (m : Int) (w : World) (hm : w.cell? ⟨3, 0, Option.none⟩ = some (.int .i64 m)) :
    Calls Tryz.prog 7 #[.string s] w fun e w' => e = .returned (.tuple #[.agg #[.int .i64 0, .int .i64 0, .int .i64 0, .int .i64 0], .int .i64 4]) ∧ Below w.heap.size w w' := by
  have H3 := cell_lt hm
  have hm1 : (w.alloc (.cells #[.int .i64 0, .int .i64 0, .int .i64 0, .int .i64 0] 25)).cell? ⟨3, 0, Option.none⟩ = some (.int .i64 m) := by
    rw [World.cell?_alloc_past _ _ _ H3]; exact hm
  obtain ⟨n, hn⟩ : ∃ n, n = Lib.countB s sp := ⟨_, rfl⟩
  have h4 : (((n : Nat) : Int) + 1 == 4) = false := by
    rw [Bool.eq_false_iff]
    intro e
    have := eq_of_beq e
    omega
  have h5 : ((((n + 1 : Nat) : Nat) : Int) == 4) = false := by
    rw [Bool.eq_false_iff]
    intro e
    have := eq_of_beq e
    omega
  obtain ⟨ps, hps⟩ : ∃ ps, ps = (Lib.splitB sp 0 (Lib.countB s sp) s).map Value.string := ⟨_, rfl⟩
  go_enter Tryz.func7, Tryz.ntmps7
  go_wp2_with fail
  refine (Tryz.strings_Split s sp m _ (by omega) hm1 (by decide)).mono ?_
  rw [← hn] at hps ⊢
  rw [← hps]
  clear hps hn hk hm1
  rintro e w1 ⟨rfl, rfl⟩
  go_wp2
  refine bodyPost_ret (v := .tuple #[.agg #[.int .i64 0, .int .i64 0, .int .i64 0, .int .i64 0], .int .i64 4]) (by simp [results, Tryz.results7, go_sem]) rfl ⟨rfl, ?_⟩
  first
  | exact ((Below.refl _ _).alloc (Nat.le_refl _) _).alloc (by simp) _
  | exact ((((((Below.refl _ _).alloc (Nat.le_refl _) _).alloc (by simp) _).setCell (by simp) _).setCell (by simp) _).setCell (by simp) _).setCell (by simp) _
end Go.Proofs.YtnipnoffofoedaaGreatDoor
