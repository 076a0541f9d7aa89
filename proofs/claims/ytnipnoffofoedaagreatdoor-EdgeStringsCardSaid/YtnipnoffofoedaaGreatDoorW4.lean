/- Read of the program. -/
import Derived.Test.YtnipnoffofoedaaGreatDoorW3
import Derived.Outline
namespace Go.Proofs.YtnipnoffofoedaaGreatDoor
open Go Go.RowKit

abbrev sp : ByteArray := ⟨#[32]⟩
/-- the parts of the string, and the numbers that they say so far -/
structure Lay (w : World) (B : Nat) (S : List ByteArray) (N : List Int) : Prop where
  str : ∀ j x, S[j]? = some x → w.cell? ⟨B + 1, j, Option.none⟩ = some (.string x)
  num : ∀ (j : Nat) (n : Int), N[j]? = some n → w.cell? ⟨B + 1 + 1, j, Option.none⟩ = some (.int .i64 n)
  fr : ∀ j, w.frozen? ⟨B + 1 + 1, j, Option.none⟩ = false
  res : ∀ j, j < 4 → w.cell? ⟨B, j, Option.none⟩ = some (.int .i64 0)
  rfr : ∀ j, w.frozen? ⟨B, j, Option.none⟩ = false
  sz : B + 1 + 1 < w.heap.size
theorem Lay.below {w w' : World} {B : Nat} {S : List ByteArray} {N : List Int} (L : Lay w B S N) (hb : Below w.heap.size w w') : Lay w' B S N :=
  ⟨fun j x h => (hb.cell (p := ⟨B + 1, j, Option.none⟩) (Nat.lt_trans (Nat.lt_succ_self _) L.sz)).trans (L.str j x h), fun j n h => (hb.cell (p := ⟨B + 1 + 1, j, Option.none⟩) L.sz).trans (L.num j n h), fun j => (hb.frozen (p := ⟨B + 1 + 1, j, Option.none⟩) L.sz).trans (L.fr j),
    fun j h => (hb.cell (p := ⟨B, j, Option.none⟩) (Nat.lt_trans (Nat.lt_add_of_pos_right (by decide : 0 < 2)) L.sz)).trans (L.res j h), fun j => (hb.frozen (p := ⟨B, j, Option.none⟩) (Nat.lt_trans (Nat.lt_add_of_pos_right (by decide : 0 < 2)) L.sz)).trans (L.rfr j), Nat.lt_of_lt_of_le L.sz hb.size⟩
theorem Lay.set {w : World} {B : Nat} {S : List ByteArray} {N : List Int} (L : Lay w B S N) (k : Nat) (n : Int) (hk : k < N.length) : Lay (w.setCell ⟨B + 1 + 1, k, Option.none⟩ (.int .i64 n)) B S (N.set k n) := by
  refine ⟨fun j x h => ?_, fun j m h => ?_, fun j => ?_, fun j h => ?_, fun j => ?_, by simpa using L.sz⟩
  · rw [World.cell?_setCell_other _ _ _ _ (by simp)]; exact L.str j x h
  · by_cases e : j = k
    · subst e
      rw [World.cell?_setCell_same _ _ _ (L.num j _ (List.getElem?_eq_getElem hk))]
      rw [List.getElem?_set_self hk] at h
      rw [Option.some.inj h]
    · rw [World.cell?_setCell_other _ _ _ _ (by simp)]
      rw [List.getElem?_set_ne (Ne.symm e)] at h
      exact L.num j m h
  · rw [World.frozen?_setCell]; exact L.fr j
  · rw [World.cell?_setCell_other _ _ _ _ (by simp)]; exact L.res j h
  · rw [World.frozen?_setCell]; exact L.rfr j

set_option maxRecDepth 100000 in
set_option maxHeartbeats 1000000 in
theorem read7_no (s s0 s1 s2 s3 : ByteArray) (n0 n1 n2 n3 : Int) (hs : s.size ≤ 40) (hk : Lib.countB s sp = 3) (hp : Lib.splitB sp 0 3 s = [s0, s1, s2, s3]) (l0 : s0.size ≤ 40) (l1 : s1.size ≤ 40) (l2 : s2.size ≤ 40) (l3 : s3.size ≤ 40) (m : Int) (w : World)
    (hn0 : n0 = atoiV s0) (hn1 : n1 = atoiV s1) (hn2 : n2 = atoiV s2) (hn3 : n3 = atoiV s3)
    (hm : w.cell? ⟨3, 0, Option.none⟩ = some (.int .i64 m)) (hv : ErrVars w) 
    (hW : ∀ W, Calls Tryz.prog 5 #[.agg #[.int .i64 n0, .int .i64 n1, .int .i64 n2, .int .i64 n3]] W fun e w' => e = .returned (.tuple #[.string ⟨#[]⟩, .int .i64 1]) ∧ Below W.heap.size W w') :
    Calls Tryz.prog 7 #[.string s] w fun e w' => e = .returned (.tuple #[.agg #[.int .i64 0, .int .i64 0, .int .i64 0, .int .i64 0], .int .i64 4]) ∧ Below w.heap.size w w' := by
  have H3 := cell_lt hm
  have Hk := Lib.hid hk
  have Hp := Lib.hid hp
  have HW := Lib.hid hW
  clear hk hp hW
  have A0 : ∀ W, ErrVars W → Calls Tryz.prog 27 #[.string s0] W (SomeErr n0 W) := fun W h => hn0 ▸ atoi_any s0 l0 W h
  have A1 : ∀ W, ErrVars W → Calls Tryz.prog 27 #[.string s1] W (SomeErr n1 W) := fun W h => hn1 ▸ atoi_any s1 l1 W h
  have A2 : ∀ W, ErrVars W → Calls Tryz.prog 27 #[.string s2] W (SomeErr n2 W) := fun W h => hn2 ▸ atoi_any s2 l2 W h
  have A3 : ∀ W, ErrVars W → Calls Tryz.prog 27 #[.string s3] W (SomeErr n3 W) := fun W h => hn3 ▸ atoi_any s3 l3 W h
  clear hn0 hn1 hn2 hn3
  have hm1 : (w.alloc (.cells #[.int .i64 0, .int .i64 0, .int .i64 0, .int .i64 0] 25)).cell? ⟨3, 0, Option.none⟩ = some (.int .i64 m) := by
    rw [World.cell?_alloc_past _ _ _ H3]; exact hm
  have bl : Below w.heap.size w (((w.alloc (.cells #[.int .i64 0, .int .i64 0, .int .i64 0, .int .i64 0] 25)).alloc (.cells #[.string s0, .string s1, .string s2, .string s3] 9)).alloc (.cells #[.int .i64 0, .int .i64 0, .int .i64 0, .int .i64 0] 69)) :=
    (((Below.refl _ _).alloc (Nat.le_refl _) _).alloc (by simp) _).alloc (by simp; omega) _
  have L : Lay (((w.alloc (.cells #[.int .i64 0, .int .i64 0, .int .i64 0, .int .i64 0] 25)).alloc (.cells #[.string s0, .string s1, .string s2, .string s3] 9)).alloc (.cells #[.int .i64 0, .int .i64 0, .int .i64 0, .int .i64 0] 69)) w.heap.size [s0, s1, s2, s3] [0, 0, 0, 0] := by
    refine ⟨fun j x h => ?_, fun j n h => ?_, fun j => ?_, fun j h => ?_, fun j => ?_, by simp⟩
    · rw [World.cell?_alloc_past _ _ _ (by simp), World.cell?_alloc_at _ _ _ _ (by simp)]
      match j, h with
      | 0, h | 1, h | 2, h | 3, h => cases h; rfl
    · rw [World.cell?_alloc_at _ _ _ _ (by simp)]
      match j, h with
      | 0, h | 1, h | 2, h | 3, h => cases h; rfl
    · exact World.frozen?_alloc_at _ _ _ _ (by simp)
    · rw [World.cell?_alloc_past _ _ _ (by simp; omega), World.cell?_alloc_past _ _ _ (by simp), World.cell?_alloc_at _ _ _ _ (by simp)]
      match j, h with
      | 0, h | 1, h | 2, h | 3, h => rfl
    · rw [World.frozen?_alloc_past _ _ _ (by simp; omega), World.frozen?_alloc_past _ _ _ (by simp)]
      exact World.frozen?_alloc_at _ _ _ _ (by simp)
  go_enter Tryz.func7, Tryz.ntmps7
  go_wp2_with fail
  refine (Tryz.strings_Split s sp m _ (by omega) hm1 (by decide)).mono ?_
  rw [Hk.out, Hp.out]
  rintro e w1 ⟨rfl, rfl⟩
  clear hm1
  go_wp2
  refine wp_loop_rounds 5 ?_
  rw [rounds_succ]
  go_wp2_with fail
  refine (A0 _ (hv.below bl)).mono ?_
  rintro e w2 ⟨x0, rfl, hb0⟩
  have bl0 := bl.trans (hb0.mono bl.size)
  have L0 := L.below hb0
  clear hb0
  have q0 := L0.num 0 _ rfl
  have f0 := L0.fr 0
  go_wp2
  clear q0 f0
  have M0 := L0.set 0 n0 (by simp)
  have bs0 := bl0.setCell (p := ⟨w.heap.size + 1 + 1, 0, Option.none⟩) (by simp; omega) (.int .i64 n0)
  rw [rounds_succ]
  have t1 := M0.str 1 _ rfl
  go_wp2_with fail
  clear t1
  refine (A1 _ (hv.below bs0)).mono ?_
  rintro e w3 ⟨x1, rfl, hb1⟩
  have bl1 := bs0.trans (hb1.mono bs0.size)
  have L1 := M0.below hb1
  clear hb1
  have q1 := L1.num 1 _ rfl
  have f1 := L1.fr 1
  go_wp2
  clear q1 f1
  have M1 := L1.set 1 n1 (by simp)
  have bs1 := bl1.setCell (p := ⟨w.heap.size + 1 + 1, 1, Option.none⟩) (by simp; omega) (.int .i64 n1)
  rw [rounds_succ]
  have t2 := M1.str 2 _ rfl
  go_wp2_with fail
  clear t2
  refine (A2 _ (hv.below bs1)).mono ?_
  rintro e w4 ⟨x2, rfl, hb2⟩
  have bl2 := bs1.trans (hb2.mono bs1.size)
  have L2 := M1.below hb2
  clear hb2
  have q2 := L2.num 2 _ rfl
  have f2 := L2.fr 2
  go_wp2
  clear q2 f2
  have M2 := L2.set 2 n2 (by simp)
  have bs2 := bl2.setCell (p := ⟨w.heap.size + 1 + 1, 2, Option.none⟩) (by simp; omega) (.int .i64 n2)
  rw [rounds_succ]
  have t3 := M2.str 3 _ rfl
  go_wp2_with fail
  clear t3
  refine (A3 _ (hv.below bs2)).mono ?_
  rintro e w5 ⟨x3, rfl, hb3⟩
  have bl3 := bs2.trans (hb3.mono bs2.size)
  have L3 := M2.below hb3
  clear hb3
  have q3 := L3.num 3 _ rfl
  have f3 := L3.fr 3
  go_wp2
  clear q3 f3
  have M3 := L3.set 3 n3 (by simp)
  have bs3 := bl3.setCell (p := ⟨w.heap.size + 1 + 1, 3, Option.none⟩) (by simp; omega) (.int .i64 n3)
  rw [rounds_succ]
  have t0 := M3.num 0 _ rfl
  have t1 := M3.num 1 _ rfl
  have t2 := M3.num 2 _ rfl
  have t3 := M3.num 3 _ rfl
  go_wp2_with fail
  refine (HW.out _).mono ?_
  rintro e w6 ⟨rfl, hb6⟩
  have hz5 := M3.sz
  have L4 := (M3.below (((Below.refl _ _).alloc (Nat.le_refl _) _).trans (hb6.mono (by simp))))
  have e6 : w6.cell? ⟨w5.heap.size, 0, Option.none⟩ = some (.int .i64 n0) := (hb6.cell (p := ⟨w5.heap.size, 0, Option.none⟩) (by simp)).trans ((World.cell?_alloc_at _ _ _ _ (by simp)).trans rfl)
  have e7 : w6.cell? ⟨w5.heap.size, 1, Option.none⟩ = some (.int .i64 n1) := (hb6.cell (p := ⟨w5.heap.size, 1, Option.none⟩) (by simp)).trans ((World.cell?_alloc_at _ _ _ _ (by simp)).trans rfl)
  have e8 : w6.cell? ⟨w5.heap.size, 2, Option.none⟩ = some (.int .i64 n2) := (hb6.cell (p := ⟨w5.heap.size, 2, Option.none⟩) (by simp)).trans ((World.cell?_alloc_at _ _ _ _ (by simp)).trans rfl)
  have e9 : w6.cell? ⟨w5.heap.size, 3, Option.none⟩ = some (.int .i64 n3) := (hb6.cell (p := ⟨w5.heap.size, 3, Option.none⟩) (by simp)).trans ((World.cell?_alloc_at _ _ _ _ (by simp)).trans rfl)
  have r0 := L4.res 0 (by decide)
  have r1 := L4.res 1 (by decide)
  have r2 := L4.res 2 (by decide)
  have r3 := L4.res 3 (by decide)
  have g0 := L4.rfr 0
  have g1 := L4.rfr 1
  have g2 := L4.rfr 2
  have g3 := L4.rfr 3
  have bl6 := (bs3.alloc (by simpa using bs3.size) (.cells #[.int .i64 n0, .int .i64 n1, .int .i64 n2, .int .i64 n3] 25)).trans (hb6.mono (by simpa using Nat.le_succ_of_le bs3.size))
  clear hb6
  go_wp2_with fail
  all_goals
    refine bodyPost_ret (v := .tuple #[.agg #[.int .i64 0, .int .i64 0, .int .i64 0, .int .i64 0], .int .i64 4]) (by simp [results, Tryz.results7, go_sem, r0, r1, r2, r3]) rfl ⟨rfl, ?_⟩
    exact (((bl6.setCell (by simp) _).setCell (by simp) _).setCell (by simp) _).setCell (by simp) _

set_option maxRecDepth 100000 in
set_option maxHeartbeats 1000000 in
theorem read7_other (s s0 s1 s2 s3 : ByteArray) (n0 n1 n2 n3 : Int) (hs : s.size ≤ 40) (hk : Lib.countB s sp = 3) (hp : Lib.splitB sp 0 3 s = [s0, s1, s2, s3]) (l0 : s0.size ≤ 40) (l1 : s1.size ≤ 40) (l2 : s2.size ≤ 40) (l3 : s3.size ≤ 40) (m : Int) (w : World)
    (hn0 : n0 = atoiV s0) (hn1 : n1 = atoiV s1) (hn2 : n2 = atoiV s2) (hn3 : n3 = atoiV s3)
    (hm : w.cell? ⟨3, 0, Option.none⟩ = some (.int .i64 m)) (hv : ErrVars w) (b : ByteArray) (hne : b ≠ s) (h1 : 0 < n1)
    (hW : ∀ W, Calls Tryz.prog 5 #[.agg #[.int .i64 n0, .int .i64 n1, .int .i64 n2, .int .i64 n3]] W fun e w' => e = .returned (.tuple #[.string b, .int .i64 0]) ∧ Below W.heap.size W w') :
    Calls Tryz.prog 7 #[.string s] w fun e w' => e = .returned (.tuple #[.agg #[.int .i64 0, .int .i64 0, .int .i64 0, .int .i64 0], .int .i64 4]) ∧ Below w.heap.size w w' := by
  have H3 := cell_lt hm
  have Hk := Lib.hid hk
  have Hp := Lib.hid hp
  have HW := Lib.hid hW
  clear hk hp hW
  have Hne : (b.toList == s.toList) = false := by
    rw [Bool.eq_false_iff]
    intro e
    exact hne (by have := eq_of_beq e; exact ByteArray.ext (by simpa [ByteArray.toList_eq] using this))
  clear hne
  have A0 : ∀ W, ErrVars W → Calls Tryz.prog 27 #[.string s0] W (SomeErr n0 W) := fun W h => hn0 ▸ atoi_any s0 l0 W h
  have A1 : ∀ W, ErrVars W → Calls Tryz.prog 27 #[.string s1] W (SomeErr n1 W) := fun W h => hn1 ▸ atoi_any s1 l1 W h
  have A2 : ∀ W, ErrVars W → Calls Tryz.prog 27 #[.string s2] W (SomeErr n2 W) := fun W h => hn2 ▸ atoi_any s2 l2 W h
  have A3 : ∀ W, ErrVars W → Calls Tryz.prog 27 #[.string s3] W (SomeErr n3 W) := fun W h => hn3 ▸ atoi_any s3 l3 W h
  clear hn0 hn1 hn2 hn3
  have hm1 : (w.alloc (.cells #[.int .i64 0, .int .i64 0, .int .i64 0, .int .i64 0] 25)).cell? ⟨3, 0, Option.none⟩ = some (.int .i64 m) := by
    rw [World.cell?_alloc_past _ _ _ H3]; exact hm
  have bl : Below w.heap.size w (((w.alloc (.cells #[.int .i64 0, .int .i64 0, .int .i64 0, .int .i64 0] 25)).alloc (.cells #[.string s0, .string s1, .string s2, .string s3] 9)).alloc (.cells #[.int .i64 0, .int .i64 0, .int .i64 0, .int .i64 0] 69)) :=
    (((Below.refl _ _).alloc (Nat.le_refl _) _).alloc (by simp) _).alloc (by simp; omega) _
  have L : Lay (((w.alloc (.cells #[.int .i64 0, .int .i64 0, .int .i64 0, .int .i64 0] 25)).alloc (.cells #[.string s0, .string s1, .string s2, .string s3] 9)).alloc (.cells #[.int .i64 0, .int .i64 0, .int .i64 0, .int .i64 0] 69)) w.heap.size [s0, s1, s2, s3] [0, 0, 0, 0] := by
    refine ⟨fun j x h => ?_, fun j n h => ?_, fun j => ?_, fun j h => ?_, fun j => ?_, by simp⟩
    · rw [World.cell?_alloc_past _ _ _ (by simp), World.cell?_alloc_at _ _ _ _ (by simp)]
      match j, h with
      | 0, h | 1, h | 2, h | 3, h => cases h; rfl
    · rw [World.cell?_alloc_at _ _ _ _ (by simp)]
      match j, h with
      | 0, h | 1, h | 2, h | 3, h => cases h; rfl
    · exact World.frozen?_alloc_at _ _ _ _ (by simp)
    · rw [World.cell?_alloc_past _ _ _ (by simp; omega), World.cell?_alloc_past _ _ _ (by simp), World.cell?_alloc_at _ _ _ _ (by simp)]
      match j, h with
      | 0, h | 1, h | 2, h | 3, h => rfl
    · rw [World.frozen?_alloc_past _ _ _ (by simp; omega), World.frozen?_alloc_past _ _ _ (by simp)]
      exact World.frozen?_alloc_at _ _ _ _ (by simp)
  go_enter Tryz.func7, Tryz.ntmps7
  go_wp2_with fail
  refine (Tryz.strings_Split s sp m _ (by omega) hm1 (by decide)).mono ?_
  rw [Hk.out, Hp.out]
  rintro e w1 ⟨rfl, rfl⟩
  clear hm1
  go_wp2
  refine wp_loop_rounds 5 ?_
  rw [rounds_succ]
  go_wp2_with fail
  refine (A0 _ (hv.below bl)).mono ?_
  rintro e w2 ⟨x0, rfl, hb0⟩
  have bl0 := bl.trans (hb0.mono bl.size)
  have L0 := L.below hb0
  clear hb0
  have q0 := L0.num 0 _ rfl
  have f0 := L0.fr 0
  go_wp2
  clear q0 f0
  have M0 := L0.set 0 n0 (by simp)
  have bs0 := bl0.setCell (p := ⟨w.heap.size + 1 + 1, 0, Option.none⟩) (by simp; omega) (.int .i64 n0)
  rw [rounds_succ]
  have t1 := M0.str 1 _ rfl
  go_wp2_with fail
  clear t1
  refine (A1 _ (hv.below bs0)).mono ?_
  rintro e w3 ⟨x1, rfl, hb1⟩
  have bl1 := bs0.trans (hb1.mono bs0.size)
  have L1 := M0.below hb1
  clear hb1
  have q1 := L1.num 1 _ rfl
  have f1 := L1.fr 1
  go_wp2
  clear q1 f1
  have M1 := L1.set 1 n1 (by simp)
  have bs1 := bl1.setCell (p := ⟨w.heap.size + 1 + 1, 1, Option.none⟩) (by simp; omega) (.int .i64 n1)
  rw [rounds_succ]
  have t2 := M1.str 2 _ rfl
  go_wp2_with fail
  clear t2
  refine (A2 _ (hv.below bs1)).mono ?_
  rintro e w4 ⟨x2, rfl, hb2⟩
  have bl2 := bs1.trans (hb2.mono bs1.size)
  have L2 := M1.below hb2
  clear hb2
  have q2 := L2.num 2 _ rfl
  have f2 := L2.fr 2
  go_wp2
  clear q2 f2
  have M2 := L2.set 2 n2 (by simp)
  have bs2 := bl2.setCell (p := ⟨w.heap.size + 1 + 1, 2, Option.none⟩) (by simp; omega) (.int .i64 n2)
  rw [rounds_succ]
  have t3 := M2.str 3 _ rfl
  go_wp2_with fail
  clear t3
  refine (A3 _ (hv.below bs2)).mono ?_
  rintro e w5 ⟨x3, rfl, hb3⟩
  have bl3 := bs2.trans (hb3.mono bs2.size)
  have L3 := M2.below hb3
  clear hb3
  have q3 := L3.num 3 _ rfl
  have f3 := L3.fr 3
  go_wp2
  clear q3 f3
  have M3 := L3.set 3 n3 (by simp)
  have bs3 := bl3.setCell (p := ⟨w.heap.size + 1 + 1, 3, Option.none⟩) (by simp; omega) (.int .i64 n3)
  rw [rounds_succ]
  have t0 := M3.num 0 _ rfl
  have t1 := M3.num 1 _ rfl
  have t2 := M3.num 2 _ rfl
  have t3 := M3.num 3 _ rfl
  go_wp2_with fail
  refine (HW.out _).mono ?_
  rintro e w6 ⟨rfl, hb6⟩
  have hz5 := M3.sz
  have L4 := (M3.below (((Below.refl _ _).alloc (Nat.le_refl _) _).trans (hb6.mono (by simp))))
  have e6 : w6.cell? ⟨w5.heap.size, 0, Option.none⟩ = some (.int .i64 n0) := (hb6.cell (p := ⟨w5.heap.size, 0, Option.none⟩) (by simp)).trans ((World.cell?_alloc_at _ _ _ _ (by simp)).trans rfl)
  have e7 : w6.cell? ⟨w5.heap.size, 1, Option.none⟩ = some (.int .i64 n1) := (hb6.cell (p := ⟨w5.heap.size, 1, Option.none⟩) (by simp)).trans ((World.cell?_alloc_at _ _ _ _ (by simp)).trans rfl)
  have e8 : w6.cell? ⟨w5.heap.size, 2, Option.none⟩ = some (.int .i64 n2) := (hb6.cell (p := ⟨w5.heap.size, 2, Option.none⟩) (by simp)).trans ((World.cell?_alloc_at _ _ _ _ (by simp)).trans rfl)
  have e9 : w6.cell? ⟨w5.heap.size, 3, Option.none⟩ = some (.int .i64 n3) := (hb6.cell (p := ⟨w5.heap.size, 3, Option.none⟩) (by simp)).trans ((World.cell?_alloc_at _ _ _ _ (by simp)).trans rfl)
  have r0 := L4.res 0 (by decide)
  have r1 := L4.res 1 (by decide)
  have r2 := L4.res 2 (by decide)
  have r3 := L4.res 3 (by decide)
  have g0 := L4.rfr 0
  have g1 := L4.rfr 1
  have g2 := L4.rfr 2
  have g3 := L4.rfr 3
  have bl6 := (bs3.alloc (by simpa using bs3.size) (.cells #[.int .i64 n0, .int .i64 n1, .int .i64 n2, .int .i64 n3] 25)).trans (hb6.mono (by simpa using Nat.le_succ_of_le bs3.size))
  clear hb6
  go_wp2_with fail
  all_goals
    refine bodyPost_ret (v := .tuple #[.agg #[.int .i64 0, .int .i64 0, .int .i64 0, .int .i64 0], .int .i64 4]) (by simp [results, Tryz.results7, go_sem, r0, r1, r2, r3]) rfl ⟨rfl, ?_⟩
    exact (((bl6.setCell (by simp) _).setCell (by simp) _).setCell (by simp) _).setCell (by simp) _

set_option maxRecDepth 100000 in
set_option maxHeartbeats 1000000 in
theorem read7_ok (s s0 s1 s2 s3 : ByteArray) (n0 n1 n2 n3 : Int) (hs : s.size ≤ 40) (hk : Lib.countB s sp = 3) (hp : Lib.splitB sp 0 3 s = [s0, s1, s2, s3]) (l0 : s0.size ≤ 40) (l1 : s1.size ≤ 40) (l2 : s2.size ≤ 40) (l3 : s3.size ≤ 40) (m : Int) (w : World)
    (hn0 : n0 = atoiV s0) (hn1 : n1 = atoiV s1) (hn2 : n2 = atoiV s2) (hn3 : n3 = atoiV s3)
    (hm : w.cell? ⟨3, 0, Option.none⟩ = some (.int .i64 m)) (hv : ErrVars w) (h1 : 0 < n1)
    (hW : ∀ W, Calls Tryz.prog 5 #[.agg #[.int .i64 n0, .int .i64 n1, .int .i64 n2, .int .i64 n3]] W fun e w' => e = .returned (.tuple #[.string s, .int .i64 0]) ∧ Below W.heap.size W w') :
    Calls Tryz.prog 7 #[.string s] w fun e w' => e = .returned (.tuple #[.agg #[.int .i64 n0, .int .i64 n1, .int .i64 n2, .int .i64 n3], .int .i64 0]) ∧ Below w.heap.size w w' := by
  have H3 := cell_lt hm
  have Hk := Lib.hid hk
  have Hp := Lib.hid hp
  have HW := Lib.hid hW
  clear hk hp hW
  have A0 : ∀ W, ErrVars W → Calls Tryz.prog 27 #[.string s0] W (SomeErr n0 W) := fun W h => hn0 ▸ atoi_any s0 l0 W h
  have A1 : ∀ W, ErrVars W → Calls Tryz.prog 27 #[.string s1] W (SomeErr n1 W) := fun W h => hn1 ▸ atoi_any s1 l1 W h
  have A2 : ∀ W, ErrVars W → Calls Tryz.prog 27 #[.string s2] W (SomeErr n2 W) := fun W h => hn2 ▸ atoi_any s2 l2 W h
  have A3 : ∀ W, ErrVars W → Calls Tryz.prog 27 #[.string s3] W (SomeErr n3 W) := fun W h => hn3 ▸ atoi_any s3 l3 W h
  clear hn0 hn1 hn2 hn3
  have hm1 : (w.alloc (.cells #[.int .i64 0, .int .i64 0, .int .i64 0, .int .i64 0] 25)).cell? ⟨3, 0, Option.none⟩ = some (.int .i64 m) := by
    rw [World.cell?_alloc_past _ _ _ H3]; exact hm
  have bl : Below w.heap.size w (((w.alloc (.cells #[.int .i64 0, .int .i64 0, .int .i64 0, .int .i64 0] 25)).alloc (.cells #[.string s0, .string s1, .string s2, .string s3] 9)).alloc (.cells #[.int .i64 0, .int .i64 0, .int .i64 0, .int .i64 0] 69)) :=
    (((Below.refl _ _).alloc (Nat.le_refl _) _).alloc (by simp) _).alloc (by simp; omega) _
  have L : Lay (((w.alloc (.cells #[.int .i64 0, .int .i64 0, .int .i64 0, .int .i64 0] 25)).alloc (.cells #[.string s0, .string s1, .string s2, .string s3] 9)).alloc (.cells #[.int .i64 0, .int .i64 0, .int .i64 0, .int .i64 0] 69)) w.heap.size [s0, s1, s2, s3] [0, 0, 0, 0] := by
    refine ⟨fun j x h => ?_, fun j n h => ?_, fun j => ?_, fun j h => ?_, fun j => ?_, by simp⟩
    · rw [World.cell?_alloc_past _ _ _ (by simp), World.cell?_alloc_at _ _ _ _ (by simp)]
      match j, h with
      | 0, h | 1, h | 2, h | 3, h => cases h; rfl
    · rw [World.cell?_alloc_at _ _ _ _ (by simp)]
      match j, h with
      | 0, h | 1, h | 2, h | 3, h => cases h; rfl
    · exact World.frozen?_alloc_at _ _ _ _ (by simp)
    · rw [World.cell?_alloc_past _ _ _ (by simp; omega), World.cell?_alloc_past _ _ _ (by simp), World.cell?_alloc_at _ _ _ _ (by simp)]
      match j, h with
      | 0, h | 1, h | 2, h | 3, h => rfl
    · rw [World.frozen?_alloc_past _ _ _ (by simp; omega), World.frozen?_alloc_past _ _ _ (by simp)]
      exact World.frozen?_alloc_at _ _ _ _ (by simp)
  go_enter Tryz.func7, Tryz.ntmps7
  go_wp2_with fail
  refine (Tryz.strings_Split s sp m _ (by omega) hm1 (by decide)).mono ?_
  rw [Hk.out, Hp.out]
  rintro e w1 ⟨rfl, rfl⟩
  clear hm1
  go_wp2
  refine wp_loop_rounds 5 ?_
  rw [rounds_succ]
  go_wp2_with fail
  refine (A0 _ (hv.below bl)).mono ?_
  rintro e w2 ⟨x0, rfl, hb0⟩
  have bl0 := bl.trans (hb0.mono bl.size)
  have L0 := L.below hb0
  clear hb0
  have q0 := L0.num 0 _ rfl
  have f0 := L0.fr 0
  go_wp2
  clear q0 f0
  have M0 := L0.set 0 n0 (by simp)
  have bs0 := bl0.setCell (p := ⟨w.heap.size + 1 + 1, 0, Option.none⟩) (by simp; omega) (.int .i64 n0)
  rw [rounds_succ]
  have t1 := M0.str 1 _ rfl
  go_wp2_with fail
  clear t1
  refine (A1 _ (hv.below bs0)).mono ?_
  rintro e w3 ⟨x1, rfl, hb1⟩
  have bl1 := bs0.trans (hb1.mono bs0.size)
  have L1 := M0.below hb1
  clear hb1
  have q1 := L1.num 1 _ rfl
  have f1 := L1.fr 1
  go_wp2
  clear q1 f1
  have M1 := L1.set 1 n1 (by simp)
  have bs1 := bl1.setCell (p := ⟨w.heap.size + 1 + 1, 1, Option.none⟩) (by simp; omega) (.int .i64 n1)
  rw [rounds_succ]
  have t2 := M1.str 2 _ rfl
  go_wp2_with fail
  clear t2
  refine (A2 _ (hv.below bs1)).mono ?_
  rintro e w4 ⟨x2, rfl, hb2⟩
  have bl2 := bs1.trans (hb2.mono bs1.size)
  have L2 := M1.below hb2
  clear hb2
  have q2 := L2.num 2 _ rfl
  have f2 := L2.fr 2
  go_wp2
  clear q2 f2
  have M2 := L2.set 2 n2 (by simp)
  have bs2 := bl2.setCell (p := ⟨w.heap.size + 1 + 1, 2, Option.none⟩) (by simp; omega) (.int .i64 n2)
  rw [rounds_succ]
  have t3 := M2.str 3 _ rfl
  go_wp2_with fail
  clear t3
  refine (A3 _ (hv.below bs2)).mono ?_
  rintro e w5 ⟨x3, rfl, hb3⟩
  have bl3 := bs2.trans (hb3.mono bs2.size)
  have L3 := M2.below hb3
  clear hb3
  have q3 := L3.num 3 _ rfl
  have f3 := L3.fr 3
  go_wp2
  clear q3 f3
  have M3 := L3.set 3 n3 (by simp)
  have bs3 := bl3.setCell (p := ⟨w.heap.size + 1 + 1, 3, Option.none⟩) (by simp; omega) (.int .i64 n3)
  rw [rounds_succ]
  have t0 := M3.num 0 _ rfl
  have t1 := M3.num 1 _ rfl
  have t2 := M3.num 2 _ rfl
  have t3 := M3.num 3 _ rfl
  go_wp2_with fail
  refine (HW.out _).mono ?_
  rintro e w6 ⟨rfl, hb6⟩
  have hz5 := M3.sz
  have L4 := (M3.below (((Below.refl _ _).alloc (Nat.le_refl _) _).trans (hb6.mono (by simp))))
  have e6 : w6.cell? ⟨w5.heap.size, 0, Option.none⟩ = some (.int .i64 n0) := (hb6.cell (p := ⟨w5.heap.size, 0, Option.none⟩) (by simp)).trans ((World.cell?_alloc_at _ _ _ _ (by simp)).trans rfl)
  have e7 : w6.cell? ⟨w5.heap.size, 1, Option.none⟩ = some (.int .i64 n1) := (hb6.cell (p := ⟨w5.heap.size, 1, Option.none⟩) (by simp)).trans ((World.cell?_alloc_at _ _ _ _ (by simp)).trans rfl)
  have e8 : w6.cell? ⟨w5.heap.size, 2, Option.none⟩ = some (.int .i64 n2) := (hb6.cell (p := ⟨w5.heap.size, 2, Option.none⟩) (by simp)).trans ((World.cell?_alloc_at _ _ _ _ (by simp)).trans rfl)
  have e9 : w6.cell? ⟨w5.heap.size, 3, Option.none⟩ = some (.int .i64 n3) := (hb6.cell (p := ⟨w5.heap.size, 3, Option.none⟩) (by simp)).trans ((World.cell?_alloc_at _ _ _ _ (by simp)).trans rfl)
  have r0 := L4.res 0 (by decide)
  have r1 := L4.res 1 (by decide)
  have r2 := L4.res 2 (by decide)
  have r3 := L4.res 3 (by decide)
  have g0 := L4.rfr 0
  have g1 := L4.rfr 1
  have g2 := L4.rfr 2
  have g3 := L4.rfr 3
  have bl6 := (bs3.alloc (by simpa using bs3.size) (.cells #[.int .i64 n0, .int .i64 n1, .int .i64 n2, .int .i64 n3] 25)).trans (hb6.mono (by simpa using Nat.le_succ_of_le bs3.size))
  clear hb6
  go_wp2_with fail
  all_goals
    refine bodyPost_ret (v := .tuple #[.agg #[.int .i64 n0, .int .i64 n1, .int .i64 n2, .int .i64 n3], .int .i64 0]) (by simp [results, Tryz.results7, go_sem, r0, r1, r2, r3]) rfl ⟨rfl, ?_⟩
    exact (((bl6.setCell (by simp) _).setCell (by simp) _).setCell (by simp) _).setCell (by simp) _

end Go.Proofs.YtnipnoffofoedaaGreatDoor
