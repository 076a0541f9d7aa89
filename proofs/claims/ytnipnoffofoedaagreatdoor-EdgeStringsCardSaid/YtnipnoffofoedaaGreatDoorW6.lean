/- Read of the reference. -/
import Derived.Test.YtnipnoffofoedaaGreatDoorW5
import Derived.Deep.LoopGhost
import Derived.Test.YtnipnoffofoedaaGreatDoorE8
namespace Go.Proofs.YtnipnoffofoedaaGreatDoor
open Go Go.RowKit

/-- the string of a pairing -/
def strS (a b c d : Nat) : ByteArray := ⟨(strOf a b c d).toArray⟩
def okP (s : ByteArray) (a b c d : Nat) : Prop := a < b ∧ b ≤ 16 ∧ d ≤ 16 ∧ b + c = a + d ∧ strS a b c d = s
/-- whatever pairing the string is of, it does not stand ahead of this place -/
def Rest (s : ByteArray) (i n k : Nat) : Prop := ∀ a b c d, okP s a b c d → i < a ∨ (i = a ∧ (i + n < b ∨ (i + n = b ∧ k ≤ c)))
theorem Rest.start (s : ByteArray) : Rest s 0 1 0 := fun a b c d h => by obtain ⟨h1, h2, h3, h4, h5⟩ := h; omega
theorem Rest.rowEnd {s : ByteArray} {i n k : Nat} (h : Rest s i n k) (hk : 16 < k + n) : Rest s i (n + 1) 0 := fun a b c d hp => by
  have := h a b c d hp
  obtain ⟨h1, h2, h3, h4, h5⟩ := hp
  omega
theorem Rest.colEnd {s : ByteArray} {i n : Nat} (h : Rest s i n 0) (hn : 16 < i + n) : Rest s (i + 1) 1 0 := fun a b c d hp => by
  have := h a b c d hp
  obtain ⟨h1, h2, h3, h4, h5⟩ := hp
  omega
theorem Rest.none {s : ByteArray} (h : Rest s 16 1 0) (a b c d : Nat) : ¬ okP s a b c d := fun hp => by
  have := h a b c d hp
  obtain ⟨h1, h2, h3, h4, h5⟩ := hp
  omega
theorem Rest.next {s : ByteArray} {i n k : Nat} (h : Rest s i n k) (hne : strS i (i + n) k (k + n) ≠ s) : Rest s i n (k + 1) := fun a b c d hp => by
  have := h a b c d hp
  obtain ⟨h1, h2, h3, h4, h5⟩ := hp
  rcases this with h6 | ⟨h6, h7 | ⟨h7, h8⟩⟩
  · exact .inl h6
  · exact .inr ⟨h6, .inl h7⟩
  · rcases Nat.lt_or_eq_of_le h8 with h9 | h9
    · exact .inr ⟨h6, .inr ⟨h7, h9⟩⟩
    · exfalso
      apply hne
      rw [h7, ← h5, h6, h9]
      congr 1
      omega

/-- the world of the loops -/
structure RdW (w wr : World) : Prop where
  bl : Below w.heap.size w wr
  res : ∀ j, j < 4 → wr.cell? ⟨w.heap.size, j, Option.none⟩ = some (.int .i64 0)
  rfr : ∀ j, wr.frozen? ⟨w.heap.size, j, Option.none⟩ = false
  sz : w.heap.size < wr.heap.size
theorem RdW.start (w : World) : RdW w (w.alloc (.cells #[.int .i64 0, .int .i64 0, .int .i64 0, .int .i64 0] 25)) := by
  refine ⟨(Below.refl _ _).alloc (Nat.le_refl _) _, fun j h => ?_, fun j => World.frozen?_alloc_at _ _ _ _ (by simp), by simp⟩
  rw [World.cell?_alloc_at _ _ _ _ (by simp)]
  match j, h with
  | 0, h | 1, h | 2, h | 3, h => rfl
theorem RdW.on {w wr w' : World} (h : RdW w wr) (hb : Below wr.heap.size wr w') : RdW w w' :=
  ⟨h.bl.trans (hb.mono (Nat.le_of_lt h.sz)), fun j hj => (hb.cell (p := ⟨w.heap.size, j, Option.none⟩) h.sz).trans (h.res j hj), fun j => (hb.frozen (p := ⟨w.heap.size, j, Option.none⟩) h.sz).trans (h.rfr j), Nat.lt_of_lt_of_le h.sz hb.size⟩

/-- what Read answers -/
def ReadPost (s : ByteArray) (w : World) (e : Ending) (w' : World) : Prop :=
  Below w.heap.size w w' ∧ ((∃ a b c d : Nat, okP s a b c d ∧ e = .returned (.tuple #[.agg #[.int .i64 a, .int .i64 b, .int .i64 c, .int .i64 d], .int .i64 0])) ∨
    ((∀ a b c d, ¬ okP s a b c d) ∧ e = .returned (.tuple #[.agg #[.int .i64 0, .int .i64 0, .int .i64 0, .int .i64 0], .int .i64 4])))

set_option maxRecDepth 100000 in
set_option maxHeartbeats 1000000 in
theorem read8_loop (s : ByteArray) (hs : s.size ≤ 40) (h7 : 7 ≤ s.size) (h11 : s.size ≤ 11) (w : World) : Calls Tryz.prog 8 #[.string s] w (ReadPost s w) := by
  have hst := RdW.start w
  go_enter Tryz.func8, Tryz.ntmps8
  go_wp2
  go_loopg [4] 16 (fun g i wr => ∃ r : Nat, r ≤ 16 ∧ g = 16 - r ∧ i = .int .i64 r ∧ RdW w wr ∧ Rest s r 1 0)
  case atStart => exact ⟨0, by omega, rfl, rfl, hst, Rest.start s⟩
  case round =>
    obtain ⟨i, hi, rfl, rfl, hR, hRest⟩ := hrel
    clear hst
    by_cases hi16 : i < 16
    · have hiz : (i : Int) < 16 := by omega
      go_wp2
      go_loopg [5] (17 - i) (fun g n wr2 => ∃ r : Nat, 1 ≤ r ∧ i + r ≤ 17 ∧ g = 18 - i - r ∧ n = .int .i64 r ∧ RdW w wr2 ∧ Rest s i r 0)
      case atStart => exact ⟨1, by omega, by omega, by omega, rfl, hR, hRest⟩
      case round =>
        obtain ⟨n, hn1, hn17, rfl, rfl, hR2, hRest2⟩ := hrel
        clear hR hRest
        by_cases hn16 : i + n ≤ 16
        · have hnz : (i : Int) + (n : Int) ≤ 16 := by omega
          go_wp2
          go_loopg [6] (17 - n) (fun g k wr3 => ∃ r : Nat, n + r ≤ 17 ∧ g = 17 - n - r ∧ k = .int .i64 r ∧ RdW w wr3 ∧ Rest s i n r)
          case atStart => exact ⟨0, by omega, by omega, rfl, hR2, hRest2⟩
          case round =>
            obtain ⟨k, hk17, rfl, rfl, hR3, hRest3⟩ := hrel
            clear hR2 hRest2
            by_cases hk16 : k + n ≤ 16
            · have hkz : (k : Int) + (n : Int) ≤ 16 := by omega
              obtain ⟨t, ht⟩ : ∃ t, t = strS i (i + n) k (k + n) := ⟨_, rfl⟩
              have hW : ∀ W, Calls Tryz.prog 6 #[.agg #[.int .i64 i, .int .i64 ((i : Int) + (n : Int)), .int .i64 k, .int .i64 ((k : Int) + (n : Int))]] W fun e w' => e = .returned (.tuple #[.string t, .int .i64 0]) ∧ Below W.heap.size W w' := fun W => by
                have := write6_yes (a := i) (b := i + n) (c := k) (d := k + n) (by omega) hn16 hk16 (by omega) W
                rw [ht]
                unfold strS
                simpa using this
              have HW := Lib.hid hW
              have HR := Lib.hid hRest3
              have HT := Lib.hid ht
              clear hW hRest3 ht
              go_wp2_with fail
              refine (HW.out _).mono ?_
              rintro e w2 ⟨rfl, hb2⟩
              have hR4 := hR3.on (((Below.refl _ _).alloc (Nat.le_refl _) _).trans (hb2.mono (by simp)))
              by_cases hit : t = s
              · subst hit
                have r0 := hR4.res 0 (by decide)
                have r1 := hR4.res 1 (by decide)
                have r2 := hR4.res 2 (by decide)
                have r3 := hR4.res 3 (by decide)
                have g0 := hR4.rfr 0
                have g1 := hR4.rfr 1
                have g2 := hR4.rfr 2
                have g3 := hR4.rfr 3
                have p0 : w2.cell? ⟨wr.heap.size, 0, Option.none⟩ = some (.int .i64 i) := (hb2.cell (p := ⟨wr.heap.size, 0, Option.none⟩) (by simp)).trans ((World.cell?_alloc_at _ _ _ _ (by simp)).trans rfl)
                have p1 : w2.cell? ⟨wr.heap.size, 1, Option.none⟩ = some (.int .i64 ((i : Int) + (n : Int))) := (hb2.cell (p := ⟨wr.heap.size, 1, Option.none⟩) (by simp)).trans ((World.cell?_alloc_at _ _ _ _ (by simp)).trans rfl)
                have p2 : w2.cell? ⟨wr.heap.size, 2, Option.none⟩ = some (.int .i64 k) := (hb2.cell (p := ⟨wr.heap.size, 2, Option.none⟩) (by simp)).trans ((World.cell?_alloc_at _ _ _ _ (by simp)).trans rfl)
                have p3 : w2.cell? ⟨wr.heap.size, 3, Option.none⟩ = some (.int .i64 ((k : Int) + (n : Int))) := (hb2.cell (p := ⟨wr.heap.size, 3, Option.none⟩) (by simp)).trans ((World.cell?_alloc_at _ _ _ _ (by simp)).trans rfl)
                go_wp2
                refine bodyPost_ret (v := .tuple #[.agg #[.int .i64 i, .int .i64 ((i : Int) + (n : Int)), .int .i64 k, .int .i64 ((k : Int) + (n : Int))], .int .i64 0]) (by simp [results, Tryz.results8, go_sem, r0, r1, r2, r3]) rfl ⟨?_, .inl ⟨i, i + n, k, k + n, ⟨by omega, hn16, hk16, by omega, HT.out.symm⟩, by simp⟩⟩
                exact (((hR4.bl.setCell (by simp) _).setCell (by simp) _).setCell (by simp) _).setCell (by simp) _
              · have Hne : (t.toList == s.toList) = false := by
                  rw [Bool.eq_false_iff]
                  intro e
                  exact hit (by have := eq_of_beq e; exact ByteArray.ext (by simpa [ByteArray.toList_eq] using this))
                go_wp2
                go_roundg (17 - n - (k + 1))
                case measure => omega
                case rel => exact ⟨k + 1, by omega, rfl, by go_num, hR4, HR.out.next (by rw [← HT.out]; exact hit)⟩
            · have hkz : ¬ (k : Int) + (n : Int) ≤ 16 := by omega
              go_wp2
              go_roundg (18 - i - (n + 1))
              case measure => omega
              case rel => exact ⟨n + 1, by omega, by omega, rfl, by go_num, hR3, hRest3.rowEnd (by omega)⟩
        · have hnz : ¬ (i : Int) + (n : Int) ≤ 16 := by omega
          go_wp2
          go_roundg (16 - (i + 1))
          case measure => omega
          case rel => exact ⟨i + 1, by omega, rfl, by go_num, hR2, hRest2.colEnd (by omega)⟩
    · have hiz : ¬ (i : Int) < 16 := by omega
      obtain rfl : i = 16 := by omega
      have r0 := hR.res 0 (by decide)
      have r1 := hR.res 1 (by decide)
      have r2 := hR.res 2 (by decide)
      have r3 := hR.res 3 (by decide)
      have g0 := hR.rfr 0
      have g1 := hR.rfr 1
      have g2 := hR.rfr 2
      have g3 := hR.rfr 3
      have hN := hRest.none
      have HN := Lib.hid hN
      clear hN hRest
      go_wp2
      refine bodyPost_ret (v := .tuple #[.agg #[.int .i64 0, .int .i64 0, .int .i64 0, .int .i64 0], .int .i64 4]) (by simp [results, Tryz.results8, go_sem, r0, r1, r2, r3]) rfl ⟨?_, .inr ⟨HN.out, rfl⟩⟩
      exact (((hR.bl.setCell (by simp) _).setCell (by simp) _).setCell (by simp) _).setCell (by simp) _
end Go.Proofs.YtnipnoffofoedaaGreatDoor
