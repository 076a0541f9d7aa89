/- The reference's Write where there is no such pairing. -/
import Derived.Test.YtnipnoffofoedaaGreatDoorW1
import Derived.Outline
namespace Go.Proofs.YtnipnoffofoedaaGreatDoor
open Go Go.RowKit

theorem bcell {W w1 : World} (hb : Below W.heap.size W w1) : (∀ b o, b < W.heap.size → w1.cell? ⟨b, o, Option.none⟩ = W.cell? ⟨b, o, Option.none⟩) ∧ (∀ b o, b < W.heap.size → w1.frozen? ⟨b, o, Option.none⟩ = W.frozen? ⟨b, o, Option.none⟩) :=
  ⟨fun b o h => hb.cell (p := ⟨b, o, Option.none⟩) h, fun b o h => hb.frozen (p := ⟨b, o, Option.none⟩) h⟩

theorem stretch_no (a b : Int) (w : World) (h : strB a b = false) : Calls Tryz.prog 24 #[.int .i64 16, .agg #[.int .i64 a, .int .i64 b]] w fun e w' => e = .returned (.bool false) ∧ Below w.heap.size w w' := by
  rw [← h]; exact stretch_any a b w
theorem stretch_yes (a b : Int) (w : World) (h : strB a b = true) : Calls Tryz.prog 24 #[.int .i64 16, .agg #[.int .i64 a, .int .i64 b]] w fun e w' => e = .returned (.bool true) ∧ Below w.heap.size w w' := by
  rw [← h]; exact stretch_any a b w

set_option maxRecDepth 100000 in
set_option maxHeartbeats 400000 in
theorem write6_a (a b c d : Int) (w : World) (h : strB a b = false) : Calls Tryz.prog 6 #[.agg #[.int .i64 a, .int .i64 b, .int .i64 c, .int .i64 d]] w fun e w' => e = .returned (.tuple #[.string ⟨#[]⟩, .int .i64 1]) ∧ Below w.heap.size w w' := by
  have H := Lib.hid h
  clear h
  go_enter Tryz.func6, Tryz.ntmps6
  go_wp2_with fail
  refine (stretch_no a b _ H.out).mono ?_
  rintro e w1 ⟨rfl, hb⟩
  have hz := hb.size
  go_wp2
  go_ret2
  exact ⟨rfl, ((Below.refl _ _).alloc (Nat.le_refl _) _).trans (hb.mono (by simp))⟩
set_option maxRecDepth 100000 in
set_option maxHeartbeats 400000 in
theorem write6_b (a b c d : Int) (w : World) (h : strB a b = true) (h2 : strB c d = false) : Calls Tryz.prog 6 #[.agg #[.int .i64 a, .int .i64 b, .int .i64 c, .int .i64 d]] w fun e w' => e = .returned (.tuple #[.string ⟨#[]⟩, .int .i64 1]) ∧ Below w.heap.size w w' := by
  have H := Lib.hid h
  have H2 := Lib.hid h2
  clear h h2
  go_enter Tryz.func6, Tryz.ntmps6
  go_wp2_with fail
  refine (stretch_yes a b _ H.out).mono ?_
  rintro e w1 ⟨rfl, hb⟩
  obtain ⟨hc, hf⟩ := bcell hb
  have hz : w.heap.size < w1.heap.size := by have := hb.size; simp at this; omega
  go_wp2_with fail
  refine (stretch_no c d _ H2.out).mono ?_
  rintro e w2 ⟨rfl, hb2⟩
  go_wp2
  go_ret2
  exact ⟨rfl, (((Below.refl _ _).alloc (Nat.le_refl _) _).trans (hb.mono (by simp))).trans (hb2.mono (by omega))⟩
set_option maxRecDepth 100000 in
set_option maxHeartbeats 400000 in
theorem write6_c (a b c d : Int) (w : World) (h : strB a b = true) (h2 : strB c d = true) (h3 : (b - a == d - c) = false) : Calls Tryz.prog 6 #[.agg #[.int .i64 a, .int .i64 b, .int .i64 c, .int .i64 d]] w fun e w' => e = .returned (.tuple #[.string ⟨#[]⟩, .int .i64 1]) ∧ Below w.heap.size w w' := by
  have H := Lib.hid h
  have H2 := Lib.hid h2
  simp [strB] at h h2
  obtain ⟨⟨g1, g2⟩, g3⟩ := h
  obtain ⟨⟨g4, g5⟩, g6⟩ := h2
  go_enter Tryz.func6, Tryz.ntmps6
  go_wp2_with fail
  refine (stretch_yes a b _ H.out).mono ?_
  rintro e w1 ⟨rfl, hb⟩
  obtain ⟨hc, hf⟩ := bcell hb
  have hz : w.heap.size < w1.heap.size := by have := hb.size; simp at this; omega
  go_wp2_with fail
  refine (stretch_yes c d _ H2.out).mono ?_
  rintro e w2 ⟨rfl, hb2⟩
  obtain ⟨hc2, hf2⟩ := bcell hb2
  have hz2 : w.heap.size < w2.heap.size := by have := hb2.size; omega
  go_wp2
  go_ret2
  exact ⟨rfl, (((Below.refl _ _).alloc (Nat.le_refl _) _).trans (hb.mono (by simp))).trans (hb2.mono (by omega))⟩
theorem write6_no (a b c d : Int) (w : World) (h : ¬ (strB a b = true ∧ strB c d = true ∧ b - a = d - c)) : Calls Tryz.prog 6 #[.agg #[.int .i64 a, .int .i64 b, .int .i64 c, .int .i64 d]] w fun e w' => e = .returned (.tuple #[.string ⟨#[]⟩, .int .i64 1]) ∧ Below w.heap.size w w' := by
  cases h1 : strB a b with
  | false => exact write6_a a b c d w h1
  | true =>
    cases h2 : strB c d with
    | false => exact write6_b a b c d w h1 h2
    | true => exact write6_c a b c d w h1 h2 (by simpa using fun e => h ⟨h1, h2, e⟩)
end Go.Proofs.YtnipnoffofoedaaGreatDoor
