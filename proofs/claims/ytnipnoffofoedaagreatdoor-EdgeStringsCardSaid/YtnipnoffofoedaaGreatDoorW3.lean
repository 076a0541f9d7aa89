/- Atoi, whatever the string; what a string says, cut at its blanks. -/
import Derived.Test.YtnipnoffofoedaaGreatDoorW2
namespace Go.Proofs.YtnipnoffofoedaaGreatDoor
open Go Go.RowKit

/-- what Atoi returns beside the error -/
def atoiV (s : ByteArray) : Int := match Lib.atoiAll s.data.toList with | .ok v => v | .range => Lib.atoiSat s.data.toList | _ => 0
def SomeErr (v : Int) (W : World) (e : Ending) (w' : World) : Prop := ∃ x, e = .returned (.tuple #[.int .i64 v, x]) ∧ Below W.heap.size W w'
/-- the two error variables hold what an interface variable may hold -/
structure ErrVars (w : World) : Prop where
  h0 : ∃ ev, w.cell? ⟨0, 0, Option.none⟩ = some ev ∧ (ev = .nilIface ∨ ∃ te pe, ev = .iface te pe)
  h1 : ∃ ev, w.cell? ⟨1, 0, Option.none⟩ = some ev ∧ (ev = .nilIface ∨ ∃ te pe, ev = .iface te pe)
theorem cell_lt {w : World} {b o : Nat} {v : Value} (h : w.cell? ⟨b, o, Option.none⟩ = some v) : b < w.heap.size := by
  apply Nat.lt_of_not_le
  intro hle
  have hno : w.heap[b]? = Option.none := Array.getElem?_eq_none hle
  simp [World.cell?, hno] at h
theorem ErrVars.below {w w' : World} (h : ErrVars w) (hb : Below w.heap.size w w') : ErrVars w' := by
  obtain ⟨⟨e0, c0, k0⟩, ⟨e1, c1, k1⟩⟩ := h
  exact ⟨⟨e0, (hb.cell (p := ⟨0, 0, Option.none⟩) (cell_lt c0)).trans c0, k0⟩, ⟨e1, (hb.cell (p := ⟨1, 0, Option.none⟩) (cell_lt c1)).trans c1, k1⟩⟩
theorem atoi_any (s : ByteArray) (hs : s.size ≤ 40) (w : World) (hv : ErrVars w) : Calls Tryz.prog 27 #[.string s] w (SomeErr (atoiV s) w) := by
  cases h : Lib.atoiAll s.data.toList
  · rename_i v
    refine (Tryz.strconv_Atoi_ok s (by omega) v h w).mono ?_
    rintro e w' ⟨rfl, hw⟩
    refine ⟨_, by unfold atoiV; rw [h], ?_⟩
    rcases hw with rfl | ⟨t, rfl⟩
    · exact Below.refl _ _
    · exact Lib.bytesWorld_below _ _ _
  · obtain ⟨ev, hc, hev⟩ := hv.h0
    have c : Calls Tryz.prog 27 #[.string s] w fun e w' => ∃ N, e = .returned (.tuple #[.int .i64 (0), .iface 144 (.pointer (some ⟨N, 0, Option.none⟩))]) ∧ w.heap.size ≤ N ∧ w'.heap[N]? = some (.cells #[.string ⟨#[65, 116, 111, 105]⟩, .string s, ev] 203 (0, 0)) ∧ Below w.heap.size w w' :=
      Any.strconv_Atoi_syntax Tryz.laysC172 s (by omega) h ev w hc hev
    refine c.mono ?_
    rintro e w' ⟨N, rfl, _, _, hb⟩
    exact ⟨_, by unfold atoiV; rw [h], hb⟩
  · obtain ⟨ev, hc, hev⟩ := hv.h1
    refine (Tryz.strconv_Atoi_range s (by omega) h ev w hc hev).mono ?_
    rintro e w' ⟨N, rfl, _, _, hb⟩
    exact ⟨_, by unfold atoiV; rw [h], hb⟩
end Go.Proofs.YtnipnoffofoedaaGreatDoor
