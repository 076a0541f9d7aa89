/- The law, whatever the pairing and the string. -/
import Derived.Test.YtnipnoffofoedaaGreatDoorW8
import Derived.Test.YtnipnoffofoedaaGreatDoorE4
namespace Go.Proofs.YtnipnoffofoedaaGreatDoor
open Go Go.RowKit

abbrev pa (a b c d : Int) : Value := .agg #[.int .i64 a, .int .i64 b, .int .i64 c, .int .i64 d]
theorem read7_yes {s : ByteArray} (hs : s.size ≤ 40) {a b c d : Nat} (h : okP s a b c d) (m : Int) (w : World) (hm : w.cell? ⟨3, 0, Option.none⟩ = some (.int .i64 m)) (hv : ErrVars w) :
    Calls Tryz.prog 7 #[.string s] w fun e w' => e = .returned (.tuple #[pa a b c d, .int .i64 0]) ∧ Below w.heap.size w w' := by
  refine (read7_any s hs m w hm hv).mono ?_
  rintro e w' ⟨hb, ⟨a', b', c', d', h', rfl⟩ | ⟨hno, _⟩⟩
  · obtain ⟨rfl, rfl, rfl, rfl⟩ := okP_unique h h'
    exact ⟨rfl, hb⟩
  · exact absurd h (hno a b c d)
theorem read7_none {s : ByteArray} (hs : s.size ≤ 40) (h : ∀ a b c d, ¬ okP s a b c d) (m : Int) (w : World) (hm : w.cell? ⟨3, 0, Option.none⟩ = some (.int .i64 m)) (hv : ErrVars w) :
    Calls Tryz.prog 7 #[.string s] w fun e w' => e = .returned (.tuple #[pa 0 0 0 0, .int .i64 4]) ∧ Below w.heap.size w w' := by
  refine (read7_any s hs m w hm hv).mono ?_
  rintro e w' ⟨hb, ⟨a', b', c', d', h', rfl⟩ | ⟨hno, rfl⟩⟩
  · exact absurd h' (h _ _ _ _)
  · exact ⟨rfl, hb⟩
theorem read8_yes {s : ByteArray} (hs : s.size ≤ 40) {a b c d : Nat} (h : okP s a b c d) (w : World) :
    Calls Tryz.prog 8 #[.string s] w fun e w' => e = .returned (.tuple #[pa a b c d, .int .i64 0]) ∧ Below w.heap.size w w' := by
  refine (read8_any s hs w).mono ?_
  rintro e w' ⟨hb, ⟨a', b', c', d', h', rfl⟩ | ⟨hno, _⟩⟩
  · obtain ⟨rfl, rfl, rfl, rfl⟩ := okP_unique h h'
    exact ⟨rfl, hb⟩
  · exact absurd h (hno a b c d)
theorem read8_none {s : ByteArray} (hs : s.size ≤ 40) (h : ∀ a b c d, ¬ okP s a b c d) (w : World) :
    Calls Tryz.prog 8 #[.string s] w fun e w' => e = .returned (.tuple #[pa 0 0 0 0, .int .i64 4]) ∧ Below w.heap.size w w' := by
  refine (read8_any s hs w).mono ?_
  rintro e w' ⟨hb, ⟨a', b', c', d', h', rfl⟩ | ⟨hno, rfl⟩⟩
  · exact absurd h' (h _ _ _ _)
  · exact ⟨rfl, hb⟩

/-- what the globals must hold -/
structure Gl (w : World) (m : Int) : Prop where
  hm : w.cell? ⟨3, 0, Option.none⟩ = some (.int .i64 m)
  hv : ErrVars w
theorem Gl.on {w w' : World} {m : Int} (h : Gl w m) (hb : Below w.heap.size w w') : Gl w' m := ⟨(hb.cell (p := ⟨3, 0, Option.none⟩) (cell_lt h.hm)).trans h.hm, h.hv.below hb⟩
/-- four cells -/
structure Four (w : World) (b : Nat) (n0 n1 n2 n3 : Int) : Prop where
  c0 : w.cell? ⟨b, 0, Option.none⟩ = some (.int .i64 n0)
  c1 : w.cell? ⟨b, 1, Option.none⟩ = some (.int .i64 n1)
  c2 : w.cell? ⟨b, 2, Option.none⟩ = some (.int .i64 n2)
  c3 : w.cell? ⟨b, 3, Option.none⟩ = some (.int .i64 n3)
theorem Four.on {w w' : World} {b : Nat} {n0 n1 n2 n3 : Int} (h : Four w b n0 n1 n2 n3) (hb : Below w.heap.size w w') : Four w' b n0 n1 n2 n3 :=
  have hl := cell_lt h.c0
  ⟨(hb.cell (p := ⟨b, 0, Option.none⟩) hl).trans h.c0, (hb.cell (p := ⟨b, 1, Option.none⟩) hl).trans h.c1, (hb.cell (p := ⟨b, 2, Option.none⟩) hl).trans h.c2, (hb.cell (p := ⟨b, 3, Option.none⟩) hl).trans h.c3⟩
theorem Four.made (w : World) (n0 n1 n2 n3 : Int) (T : TypeId) : Four (w.alloc (.cells #[.int .i64 n0, .int .i64 n1, .int .i64 n2, .int .i64 n3] T)) w.heap.size n0 n1 n2 n3 := by
  refine ⟨?_, ?_, ?_, ?_⟩ <;> exact (World.cell?_alloc_at _ _ _ _ (by simp)).trans rfl

set_option maxRecDepth 100000 in
set_option maxHeartbeats 1000000 in
theorem law_long (a b c d : Int) (s : ByteArray) (hs : s.size ≤ 9223372036854775807) (h : 40 < s.size) (w : World) : Calls Tryz.prog 3 #[pa a b c d, .string s] w fun e w' => e = .returned (.bool true) ∧ Below w.heap.size w w' := by
  have hz : (40 : Int) < (s.size : Int) := by omega
  unfold pa
  go_enter Tryz.func3, Tryz.ntmps3
  go_wp2_with fail
  refine (joined_any _).mono ?_
  rintro e w1 ⟨rfl, hb⟩
  go_wp2
  go_ret
  exact ⟨rfl, ((Below.refl _ _).alloc (Nat.le_refl _) _).trans (hb.mono (by simp))⟩

set_option maxRecDepth 100000 in
set_option maxHeartbeats 1000000 in
theorem law_a (a b c d a' b' c' d' : Int) (s x : ByteArray) (hs : s.size ≤ 40) (m : Int) (w : World) (hG : Gl w m)
    (h5 : ∀ W, Calls Tryz.prog 5 #[pa a b c d] W fun e w' => e = .returned (.tuple #[.string x, .int .i64 0]) ∧ Below W.heap.size W w')
    (h6 : ∀ W, Calls Tryz.prog 6 #[pa a b c d] W fun e w' => e = .returned (.tuple #[.string x, .int .i64 0]) ∧ Below W.heap.size W w')
    (h7 : ∀ W, Gl W m → Calls Tryz.prog 7 #[.string s] W fun e w' => e = .returned (.tuple #[pa a' b' c' d', .int .i64 0]) ∧ Below W.heap.size W w')
    (h8 : ∀ W, Calls Tryz.prog 8 #[.string s] W fun e w' => e = .returned (.tuple #[pa a' b' c' d', .int .i64 0]) ∧ Below W.heap.size W w')
    (h9 : ∀ W, Gl W m → Calls Tryz.prog 7 #[.string x] W fun e w' => e = .returned (.tuple #[pa a b c d, .int .i64 0]) ∧ Below W.heap.size W w')
    (h10 : ∀ W, Calls Tryz.prog 5 #[pa a' b' c' d'] W fun e w' => e = .returned (.tuple #[.string s, .int .i64 0]) ∧ Below W.heap.size W w') :
    Calls Tryz.prog 3 #[pa a b c d, .string s] w fun e w' => e = .returned (.bool true) ∧ Below w.heap.size w w' := by
  have H5 := Lib.hid h5; have H6 := Lib.hid h6; have H7 := Lib.hid h7; have H8 := Lib.hid h8; have H9 := Lib.hid h9; have H10 := Lib.hid h10
  clear h5 h6 h7 h8 h9 h10
  unfold pa at *
  have hz : ¬ (40 : Int) < (s.size : Int) := by omega
  have F0 := Four.made w a b c d 25
  have bl0 : Below w.heap.size w (w.alloc (.cells #[.int .i64 a, .int .i64 b, .int .i64 c, .int .i64 d] 25)) := (Below.refl _ _).alloc (Nat.le_refl _) _
  go_enter Tryz.func3, Tryz.ntmps3
  go_wp2_with fail
  refine (H5.out _).mono ?_
  rintro e w1 ⟨rfl, hb1⟩
  have F1 := F0.on hb1
  have bl1 := bl0.trans (hb1.mono bl0.size)
  clear hb1 F0 bl0
  obtain ⟨c0, c1, c2, c3⟩ := F1
  go_wp2_with fail
  have F1 : Four w1 w.heap.size a b c d := ⟨c0, c1, c2, c3⟩
  clear c0 c1 c2 c3
  refine (H6.out _).mono ?_
  rintro e w2 ⟨rfl, hb2⟩
  have F2 := F1.on hb2
  have bl2 := bl1.trans (hb2.mono bl1.size)
  clear hb2 F1 bl1
  go_wp2_with fail
  refine (H7.out _ (hG.on bl2)).mono ?_
  rintro e w3 ⟨rfl, hb3⟩
  have F3 := F2.on hb3
  have bl3 := bl2.trans (hb3.mono bl2.size)
  clear hb3 F2 bl2
  go_wp2_with fail
  have X3 := Four.made w3 a' b' c' d' 25
  have F3 := F3.on ((Below.refl w3.heap.size w3).alloc (Nat.le_refl _) (.cells #[.int .i64 a', .int .i64 b', .int .i64 c', .int .i64 d'] 25))
  have bl3 := bl3.trans (((Below.refl w3.heap.size w3).alloc (Nat.le_refl _) (.cells #[.int .i64 a', .int .i64 b', .int .i64 c', .int .i64 d'] 25)).mono bl3.size)
  refine (H8.out _).mono ?_
  rintro e w4 ⟨rfl, hb4⟩
  have X4 := X3.on hb4
  have F4 := F3.on hb4
  have bl4 := bl3.trans (hb4.mono bl3.size)
  clear hb4 F3 X3 bl3
  have Y4 := Four.made w4 a' b' c' d' 25
  have AL := (Below.refl w4.heap.size w4).alloc (Nat.le_refl _) (.cells #[.int .i64 a', .int .i64 b', .int .i64 c', .int .i64 d'] 25)
  obtain ⟨p0, p1, p2, p3⟩ := X4.on AL
  obtain ⟨q0, q1, q2, q3⟩ := Y4
  have F5 := F4.on AL
  have X5 := X4.on AL
  have bl5 := bl4.trans (AL.mono bl4.size)
  clear F4 AL bl4 X4
  go_wp2_with fail
  clear p0 p1 p2 p3 q0 q1 q2 q3
  refine (H9.out _ (hG.on bl5)).mono ?_
  rintro e w5 ⟨rfl, hb5⟩
  have F6 := F5.on hb5
  have X6 := X5.on hb5
  have bl6 := bl5.trans (hb5.mono bl5.size)
  clear hb5 F5 X5 bl5
  have B5 := (Below.refl w5.heap.size w5).alloc (Nat.le_refl _) (.cells #[.int .i64 a, .int .i64 b, .int .i64 c, .int .i64 d] 25)
  have Z5 := Four.made w5 a b c d 25
  have F7 := F6.on B5
  have X7 := X6.on B5
  have bl7 := bl6.trans (B5.mono bl6.size)
  clear F6 X6 bl6 B5
  obtain ⟨p0, p1, p2, p3⟩ := F7
  obtain ⟨q0, q1, q2, q3⟩ := Z5
  obtain ⟨x0, x1, x2, x3⟩ := X7
  go_wp2_with fail
  refine (H10.out _).mono ?_
  rintro e w6 ⟨rfl, hb6⟩
  have bl8 := bl7.trans (hb6.mono bl7.size)
  clear hb6 p0 p1 p2 p3 q0 q1 q2 q3 x0 x1 x2 x3 bl7
  go_wp2_with fail
  refine (joined_any _).mono ?_
  rintro e w7 ⟨rfl, hb7⟩
  have bl9 := bl8.trans (hb7.mono bl8.size)
  clear hb7 bl8
  go_wp2
  go_ret
  exact ⟨rfl, bl9⟩
set_option maxRecDepth 100000 in
set_option maxHeartbeats 1000000 in
theorem law_b (a b c d : Int) (s x : ByteArray) (hs : s.size ≤ 40) (m : Int) (w : World) (hG : Gl w m)
    (h5 : ∀ W, Calls Tryz.prog 5 #[pa a b c d] W fun e w' => e = .returned (.tuple #[.string x, .int .i64 0]) ∧ Below W.heap.size W w')
    (h6 : ∀ W, Calls Tryz.prog 6 #[pa a b c d] W fun e w' => e = .returned (.tuple #[.string x, .int .i64 0]) ∧ Below W.heap.size W w')
    (h7 : ∀ W, Gl W m → Calls Tryz.prog 7 #[.string s] W fun e w' => e = .returned (.tuple #[pa 0 0 0 0, .int .i64 4]) ∧ Below W.heap.size W w')
    (h8 : ∀ W, Calls Tryz.prog 8 #[.string s] W fun e w' => e = .returned (.tuple #[pa 0 0 0 0, .int .i64 4]) ∧ Below W.heap.size W w')
    (h9 : ∀ W, Gl W m → Calls Tryz.prog 7 #[.string x] W fun e w' => e = .returned (.tuple #[pa a b c d, .int .i64 0]) ∧ Below W.heap.size W w') :
    Calls Tryz.prog 3 #[pa a b c d, .string s] w fun e w' => e = .returned (.bool true) ∧ Below w.heap.size w w' := by
  have H5 := Lib.hid h5; have H6 := Lib.hid h6; have H7 := Lib.hid h7; have H8 := Lib.hid h8; have H9 := Lib.hid h9
  clear h5 h6 h7 h8 h9
  unfold pa at *
  have hz : ¬ (40 : Int) < (s.size : Int) := by omega
  have F0 := Four.made w a b c d 25
  have bl0 : Below w.heap.size w (w.alloc (.cells #[.int .i64 a, .int .i64 b, .int .i64 c, .int .i64 d] 25)) := (Below.refl _ _).alloc (Nat.le_refl _) _
  go_enter Tryz.func3, Tryz.ntmps3
  go_wp2_with fail
  refine (H5.out _).mono ?_
  rintro e w1 ⟨rfl, hb1⟩
  have F1 := F0.on hb1
  have bl1 := bl0.trans (hb1.mono bl0.size)
  clear hb1 F0 bl0
  obtain ⟨c0, c1, c2, c3⟩ := F1
  go_wp2_with fail
  have F1 : Four w1 w.heap.size a b c d := ⟨c0, c1, c2, c3⟩
  clear c0 c1 c2 c3
  refine (H6.out _).mono ?_
  rintro e w2 ⟨rfl, hb2⟩
  have F2 := F1.on hb2
  have bl2 := bl1.trans (hb2.mono bl1.size)
  clear hb2 F1 bl1
  go_wp2_with fail
  refine (H7.out _ (hG.on bl2)).mono ?_
  rintro e w3 ⟨rfl, hb3⟩
  have F3 := F2.on hb3
  have bl3 := bl2.trans (hb3.mono bl2.size)
  clear hb3 F2 bl2
  go_wp2_with fail
  have X3 := Four.made w3 0 0 0 0 25
  have F3 := F3.on ((Below.refl w3.heap.size w3).alloc (Nat.le_refl _) (.cells #[.int .i64 0, .int .i64 0, .int .i64 0, .int .i64 0] 25))
  have bl3 := bl3.trans (((Below.refl w3.heap.size w3).alloc (Nat.le_refl _) (.cells #[.int .i64 0, .int .i64 0, .int .i64 0, .int .i64 0] 25)).mono bl3.size)
  refine (H8.out _).mono ?_
  rintro e w4 ⟨rfl, hb4⟩
  have X4 := X3.on hb4
  have F4 := F3.on hb4
  have bl4 := bl3.trans (hb4.mono bl3.size)
  clear hb4 F3 X3 bl3
  have Y4 := Four.made w4 0 0 0 0 25
  have AL := (Below.refl w4.heap.size w4).alloc (Nat.le_refl _) (.cells #[.int .i64 0, .int .i64 0, .int .i64 0, .int .i64 0] 25)
  obtain ⟨p0, p1, p2, p3⟩ := X4.on AL
  obtain ⟨q0, q1, q2, q3⟩ := Y4
  have F5 := F4.on AL
  have X5 := X4.on AL
  have bl5 := bl4.trans (AL.mono bl4.size)
  clear F4 AL bl4 X4
  go_wp2_with fail
  clear p0 p1 p2 p3 q0 q1 q2 q3
  refine (H9.out _ (hG.on bl5)).mono ?_
  rintro e w5 ⟨rfl, hb5⟩
  have F6 := F5.on hb5
  have X6 := X5.on hb5
  have bl6 := bl5.trans (hb5.mono bl5.size)
  clear hb5 F5 X5 bl5
  have B5 := (Below.refl w5.heap.size w5).alloc (Nat.le_refl _) (.cells #[.int .i64 a, .int .i64 b, .int .i64 c, .int .i64 d] 25)
  have Z5 := Four.made w5 a b c d 25
  have F7 := F6.on B5
  have X7 := X6.on B5
  have bl7 := bl6.trans (B5.mono bl6.size)
  clear F6 X6 bl6 B5
  obtain ⟨p0, p1, p2, p3⟩ := F7
  obtain ⟨q0, q1, q2, q3⟩ := Z5
  obtain ⟨x0, x1, x2, x3⟩ := X7
  go_wp2_with fail
  have bl8 := bl7
  clear p0 p1 p2 p3 q0 q1 q2 q3 x0 x1 x2 x3 bl7
  refine (joined_any _).mono ?_
  rintro e w7 ⟨rfl, hb7⟩
  have bl9 := bl8.trans (hb7.mono bl8.size)
  clear hb7 bl8
  go_wp2
  go_ret
  exact ⟨rfl, bl9⟩
set_option maxRecDepth 100000 in
set_option maxHeartbeats 1000000 in
theorem law_c (a b c d a' b' c' d' : Int) (s : ByteArray) (hs : s.size ≤ 40) (m : Int) (w : World) (hG : Gl w m)
    (h5 : ∀ W, Calls Tryz.prog 5 #[pa a b c d] W fun e w' => e = .returned (.tuple #[.string ⟨#[]⟩, .int .i64 1]) ∧ Below W.heap.size W w')
    (h6 : ∀ W, Calls Tryz.prog 6 #[pa a b c d] W fun e w' => e = .returned (.tuple #[.string ⟨#[]⟩, .int .i64 1]) ∧ Below W.heap.size W w')
    (h7 : ∀ W, Gl W m → Calls Tryz.prog 7 #[.string s] W fun e w' => e = .returned (.tuple #[pa a' b' c' d', .int .i64 0]) ∧ Below W.heap.size W w')
    (h8 : ∀ W, Calls Tryz.prog 8 #[.string s] W fun e w' => e = .returned (.tuple #[pa a' b' c' d', .int .i64 0]) ∧ Below W.heap.size W w')
    (h10 : ∀ W, Calls Tryz.prog 5 #[pa a' b' c' d'] W fun e w' => e = .returned (.tuple #[.string s, .int .i64 0]) ∧ Below W.heap.size W w') :
    Calls Tryz.prog 3 #[pa a b c d, .string s] w fun e w' => e = .returned (.bool true) ∧ Below w.heap.size w w' := by
  have H5 := Lib.hid h5; have H6 := Lib.hid h6; have H7 := Lib.hid h7; have H8 := Lib.hid h8; have H10 := Lib.hid h10
  clear h5 h6 h7 h8 h10
  unfold pa at *
  have hz : ¬ (40 : Int) < (s.size : Int) := by omega
  have F0 := Four.made w a b c d 25
  have bl0 : Below w.heap.size w (w.alloc (.cells #[.int .i64 a, .int .i64 b, .int .i64 c, .int .i64 d] 25)) := (Below.refl _ _).alloc (Nat.le_refl _) _
  go_enter Tryz.func3, Tryz.ntmps3
  go_wp2_with fail
  refine (H5.out _).mono ?_
  rintro e w1 ⟨rfl, hb1⟩
  have F1 := F0.on hb1
  have bl1 := bl0.trans (hb1.mono bl0.size)
  clear hb1 F0 bl0
  obtain ⟨c0, c1, c2, c3⟩ := F1
  go_wp2_with fail
  have F1 : Four w1 w.heap.size a b c d := ⟨c0, c1, c2, c3⟩
  clear c0 c1 c2 c3
  refine (H6.out _).mono ?_
  rintro e w2 ⟨rfl, hb2⟩
  have F2 := F1.on hb2
  have bl2 := bl1.trans (hb2.mono bl1.size)
  clear hb2 F1 bl1
  go_wp2_with fail
  refine (H7.out _ (hG.on bl2)).mono ?_
  rintro e w3 ⟨rfl, hb3⟩
  have F3 := F2.on hb3
  have bl3 := bl2.trans (hb3.mono bl2.size)
  clear hb3 F2 bl2
  go_wp2_with fail
  have X3 := Four.made w3 a' b' c' d' 25
  have F3 := F3.on ((Below.refl w3.heap.size w3).alloc (Nat.le_refl _) (.cells #[.int .i64 a', .int .i64 b', .int .i64 c', .int .i64 d'] 25))
  have bl3 := bl3.trans (((Below.refl w3.heap.size w3).alloc (Nat.le_refl _) (.cells #[.int .i64 a', .int .i64 b', .int .i64 c', .int .i64 d'] 25)).mono bl3.size)
  refine (H8.out _).mono ?_
  rintro e w4 ⟨rfl, hb4⟩
  have X4 := X3.on hb4
  have F4 := F3.on hb4
  have bl4 := bl3.trans (hb4.mono bl3.size)
  clear hb4 F3 X3 bl3
  have Y4 := Four.made w4 a' b' c' d' 25
  have AL := (Below.refl w4.heap.size w4).alloc (Nat.le_refl _) (.cells #[.int .i64 a', .int .i64 b', .int .i64 c', .int .i64 d'] 25)
  obtain ⟨p0, p1, p2, p3⟩ := X4.on AL
  obtain ⟨q0, q1, q2, q3⟩ := Y4
  have F5 := F4.on AL
  have X5 := X4.on AL
  have bl5 := bl4.trans (AL.mono bl4.size)
  clear F4 AL bl4 X4
  go_wp2_with fail
  have F7 := F5
  have X7 := X5
  have bl7 := bl5
  clear F5 X5 bl5
  clear F7 X7 p0 p1 p2 p3 q0 q1 q2 q3
  refine (H10.out _).mono ?_
  rintro e w6 ⟨rfl, hb6⟩
  have bl8 := bl7.trans (hb6.mono bl7.size)
  clear hb6 bl7
  go_wp2_with fail
  refine (joined_any _).mono ?_
  rintro e w7 ⟨rfl, hb7⟩
  have bl9 := bl8.trans (hb7.mono bl8.size)
  clear hb7 bl8
  go_wp2
  go_ret
  exact ⟨rfl, bl9⟩
set_option maxRecDepth 100000 in
set_option maxHeartbeats 1000000 in
theorem law_d (a b c d : Int) (s : ByteArray) (hs : s.size ≤ 40) (m : Int) (w : World) (hG : Gl w m)
    (h5 : ∀ W, Calls Tryz.prog 5 #[pa a b c d] W fun e w' => e = .returned (.tuple #[.string ⟨#[]⟩, .int .i64 1]) ∧ Below W.heap.size W w')
    (h6 : ∀ W, Calls Tryz.prog 6 #[pa a b c d] W fun e w' => e = .returned (.tuple #[.string ⟨#[]⟩, .int .i64 1]) ∧ Below W.heap.size W w')
    (h7 : ∀ W, Gl W m → Calls Tryz.prog 7 #[.string s] W fun e w' => e = .returned (.tuple #[pa 0 0 0 0, .int .i64 4]) ∧ Below W.heap.size W w')
    (h8 : ∀ W, Calls Tryz.prog 8 #[.string s] W fun e w' => e = .returned (.tuple #[pa 0 0 0 0, .int .i64 4]) ∧ Below W.heap.size W w') :
    Calls Tryz.prog 3 #[pa a b c d, .string s] w fun e w' => e = .returned (.bool true) ∧ Below w.heap.size w w' := by
  have H5 := Lib.hid h5; have H6 := Lib.hid h6; have H7 := Lib.hid h7; have H8 := Lib.hid h8
  clear h5 h6 h7 h8
  unfold pa at *
  have hz : ¬ (40 : Int) < (s.size : Int) := by omega
  have F0 := Four.made w a b c d 25
  have bl0 : Below w.heap.size w (w.alloc (.cells #[.int .i64 a, .int .i64 b, .int .i64 c, .int .i64 d] 25)) := (Below.refl _ _).alloc (Nat.le_refl _) _
  go_enter Tryz.func3, Tryz.ntmps3
  go_wp2_with fail
  refine (H5.out _).mono ?_
  rintro e w1 ⟨rfl, hb1⟩
  have F1 := F0.on hb1
  have bl1 := bl0.trans (hb1.mono bl0.size)
  clear hb1 F0 bl0
  obtain ⟨c0, c1, c2, c3⟩ := F1
  go_wp2_with fail
  have F1 : Four w1 w.heap.size a b c d := ⟨c0, c1, c2, c3⟩
  clear c0 c1 c2 c3
  refine (H6.out _).mono ?_
  rintro e w2 ⟨rfl, hb2⟩
  have F2 := F1.on hb2
  have bl2 := bl1.trans (hb2.mono bl1.size)
  clear hb2 F1 bl1
  go_wp2_with fail
  refine (H7.out _ (hG.on bl2)).mono ?_
  rintro e w3 ⟨rfl, hb3⟩
  have F3 := F2.on hb3
  have bl3 := bl2.trans (hb3.mono bl2.size)
  clear hb3 F2 bl2
  go_wp2_with fail
  have X3 := Four.made w3 0 0 0 0 25
  have F3 := F3.on ((Below.refl w3.heap.size w3).alloc (Nat.le_refl _) (.cells #[.int .i64 0, .int .i64 0, .int .i64 0, .int .i64 0] 25))
  have bl3 := bl3.trans (((Below.refl w3.heap.size w3).alloc (Nat.le_refl _) (.cells #[.int .i64 0, .int .i64 0, .int .i64 0, .int .i64 0] 25)).mono bl3.size)
  refine (H8.out _).mono ?_
  rintro e w4 ⟨rfl, hb4⟩
  have X4 := X3.on hb4
  have F4 := F3.on hb4
  have bl4 := bl3.trans (hb4.mono bl3.size)
  clear hb4 F3 X3 bl3
  have Y4 := Four.made w4 0 0 0 0 25
  have AL := (Below.refl w4.heap.size w4).alloc (Nat.le_refl _) (.cells #[.int .i64 0, .int .i64 0, .int .i64 0, .int .i64 0] 25)
  obtain ⟨p0, p1, p2, p3⟩ := X4.on AL
  obtain ⟨q0, q1, q2, q3⟩ := Y4
  have F5 := F4.on AL
  have X5 := X4.on AL
  have bl5 := bl4.trans (AL.mono bl4.size)
  clear F4 AL bl4 X4
  go_wp2_with fail
  have F7 := F5
  have X7 := X5
  have bl7 := bl5
  clear F5 X5 bl5
  clear F7 X7 p0 p1 p2 p3 q0 q1 q2 q3
  have bl8 := bl7
  clear bl7
  refine (joined_any _).mono ?_
  rintro e w7 ⟨rfl, hb7⟩
  have bl9 := bl8.trans (hb7.mono bl8.size)
  clear hb7 bl8
  go_wp2
  go_ret
  exact ⟨rfl, bl9⟩
end Go.Proofs.YtnipnoffofoedaaGreatDoor
