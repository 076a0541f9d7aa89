/- Read of both, whatever the string. -/
import Derived.Test.YtnipnoffofoedaaGreatDoorW7
namespace Go.Proofs.YtnipnoffofoedaaGreatDoor
open Go Go.RowKit

set_option maxRecDepth 100000 in
set_option maxHeartbeats 400000 in
theorem read8_short (s : ByteArray) (hs : s.size ≤ 40) (h7 : s.size < 7) (w : World) : Calls Tryz.prog 8 #[.string s] w fun e w' => e = .returned (.tuple #[.agg #[.int .i64 0, .int .i64 0, .int .i64 0, .int .i64 0], .int .i64 4]) ∧ Below w.heap.size w w' := by
  have hz : (s.size : Int) < 7 := by omega
  go_enter Tryz.func8, Tryz.ntmps8
  go_wp2
  refine bodyPost_ret (v := .tuple #[.agg #[.int .i64 0, .int .i64 0, .int .i64 0, .int .i64 0], .int .i64 4]) (by simp [results, Tryz.results8, go_sem]) rfl ⟨rfl, ?_⟩
  exact (Below.refl _ _).alloc (Nat.le_refl _) _
set_option maxRecDepth 100000 in
set_option maxHeartbeats 400000 in
theorem read8_long (s : ByteArray) (hs : s.size ≤ 40) (h11 : 11 < s.size) (w : World) : Calls Tryz.prog 8 #[.string s] w fun e w' => e = .returned (.tuple #[.agg #[.int .i64 0, .int .i64 0, .int .i64 0, .int .i64 0], .int .i64 4]) ∧ Below w.heap.size w w' := by
  have hz : (11 : Int) < (s.size : Int) := by omega
  have hz7 : ¬ (s.size : Int) < 7 := by omega
  go_enter Tryz.func8, Tryz.ntmps8
  go_wp2
  refine bodyPost_ret (v := .tuple #[.agg #[.int .i64 0, .int .i64 0, .int .i64 0, .int .i64 0], .int .i64 4]) (by simp [results, Tryz.results8, go_sem]) rfl ⟨rfl, ?_⟩
  exact (Below.refl _ _).alloc (Nat.le_refl _) _
theorem read8_any (s : ByteArray) (hs : s.size ≤ 40) (w : World) : Calls Tryz.prog 8 #[.string s] w (ReadPost s w) := by
  by_cases h7 : s.size < 7
  · refine (read8_short s hs h7 w).mono ?_
    rintro e w' ⟨rfl, hb⟩
    exact ⟨hb, .inr ⟨fun a b c d h => by have := okP_size h; omega, rfl⟩⟩
  · by_cases h11 : 11 < s.size
    · refine (read8_long s hs h11 w).mono ?_
      rintro e w' ⟨rfl, hb⟩
      exact ⟨hb, .inr ⟨fun a b c d h => by have := okP_size h; omega, rfl⟩⟩
    · exact read8_loop s hs (by omega) (by omega) w

theorem part_size {s x : ByteArray} {k : Nat} : ∀ {l : List ByteArray}, Lib.splitB sp 0 k s = l → x ∈ l → x.size ≤ s.size := by
  induction k generalizing s with
  | zero =>
    intro l h hx
    rw [Lib.splitB_zero] at h
    subst h
    rw [List.mem_singleton] at hx
    rw [hx]; exact Nat.le_refl _
  | succ k ih =>
    intro l h hx
    unfold Lib.splitB at h
    split at h
    · subst h
      rw [List.mem_singleton] at hx
      rw [hx]; exact Nat.le_refl _
    · subst h
      rcases List.mem_cons.1 hx with rfl | hx
      · simp [ByteArray.size_extract]; omega
      · have := ih rfl hx
        rw [ByteArray.size_extract] at this
        omega
theorem strB_nat {a b : Int} (h : strB a b = true) : ∃ x y : Nat, a = x ∧ b = y ∧ x < y ∧ y ≤ 16 := by
  simp [strB] at h
  exact ⟨a.toNat, b.toNat, by omega, by omega, by omega, by omega⟩
theorem read7_any (s : ByteArray) (hs : s.size ≤ 40) (m : Int) (w : World) (hm : w.cell? ⟨3, 0, Option.none⟩ = some (.int .i64 m)) (hv : ErrVars w) : Calls Tryz.prog 7 #[.string s] w (ReadPost s w) := by
  by_cases hk : Lib.countB s sp = 3
  · have hl := Lib.splitB_all sp (by decide) 0 3 s hk
    match hp : Lib.splitB sp 0 3 s, hl with
    | [s0, s1, s2, s3], _ =>
      have z0 := Nat.le_trans (part_size hp (x := s0) (by simp)) hs
      have z1 := Nat.le_trans (part_size hp (x := s1) (by simp)) hs
      have z2 := Nat.le_trans (part_size hp (x := s2) (by simp)) hs
      have z3 := Nat.le_trans (part_size hp (x := s3) (by simp)) hs
      by_cases hval : strB (atoiV s0) (atoiV s1) = true ∧ strB (atoiV s2) (atoiV s3) = true ∧ atoiV s1 - atoiV s0 = atoiV s3 - atoiV s2
      · obtain ⟨v1, v2, v3⟩ := hval
        obtain ⟨a, b, ea, eb, hab, hb16⟩ := strB_nat v1
        obtain ⟨c, d, ec, ed, hcd, hd16⟩ := strB_nat v2
        rw [ea, eb, ec, ed] at v3
        have hsum : b + c = a + d := by omega
        have hW : ∀ W, Calls Tryz.prog 5 #[.agg #[.int .i64 a, .int .i64 b, .int .i64 c, .int .i64 d]] W fun e w' => e = .returned (.tuple #[.string (strS a b c d), .int .i64 0]) ∧ Below W.heap.size W w' := fun W => write5_yes hab hb16 hd16 hsum W
        by_cases heq : strS a b c d = s
        · have hok : okP s a b c d := ⟨hab, hb16, hd16, hsum, heq⟩
          rw [heq] at hW
          refine (read7_ok s s0 s1 s2 s3 a b c d hs hk hp z0 z1 z2 z3 m w ea.symm eb.symm ec.symm ed.symm hm hv (by omega) hW).mono ?_
          rintro e w' ⟨rfl, hbel⟩
          exact ⟨hbel, .inl ⟨a, b, c, d, hok, rfl⟩⟩
        · refine (read7_other s s0 s1 s2 s3 a b c d hs hk hp z0 z1 z2 z3 m w ea.symm eb.symm ec.symm ed.symm hm hv (strS a b c d) heq (by omega) hW).mono ?_
          rintro e w' ⟨rfl, hbel⟩
          refine ⟨hbel, .inr ⟨fun a' b' c' d' h => ?_, rfl⟩⟩
          obtain ⟨e0, e1, e2, e3⟩ := (okP_cut h).2 s0 s1 s2 s3 hp
          obtain ⟨_, _, _, _, h5⟩ := h
          apply heq
          rw [← h5]
          congr 1 <;> omega
      · refine (read7_no s s0 s1 s2 s3 _ _ _ _ hs hk hp z0 z1 z2 z3 m w rfl rfl rfl rfl hm hv fun W => write5_no _ _ _ _ W hval).mono ?_
        rintro e w' ⟨rfl, hbel⟩
        refine ⟨hbel, .inr ⟨fun a' b' c' d' h => ?_, rfl⟩⟩
        obtain ⟨e0, e1, e2, e3⟩ := (okP_cut h).2 s0 s1 s2 s3 hp
        obtain ⟨h1, h2, h3, h4, h5⟩ := h
        apply hval
        rw [e0, e1, e2, e3]
        simp only [strB, Bool.and_eq_true, decide_eq_true_eq]
        omega
  · refine (read7_len s hs hk m w hm).mono ?_
    rintro e w' ⟨rfl, hb⟩
    exact ⟨hb, .inr ⟨fun a b c d h => hk (okP_cut h).1, rfl⟩⟩
end Go.Proofs.YtnipnoffofoedaaGreatDoor
