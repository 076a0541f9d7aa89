/- EdgeStrings, the tied card: for every pairing and string EdgeStrings returns true. No condition; the listed package-level variables are tied to the program's text. -/
import Derived.Test.YtnipnoffofoedaaGreatDoorX1
namespace Go.Proofs.YtnipnoffofoedaaGreatDoor
open Go

theorem edgeStrings_card : Rows.EdgeStringsCardSaid :=
  Claim7.holds_tied_plain_at .later [] [.data, .data, .data, .data, .sentinel, .sentinel, .pinned] true (true, "d6a60f7fe68933b1e784f1fdc74dcd44bf0f0a8d3d0c0b16ab5f237923852ff3") true edgeStrings_row (fun _ h => by cases h) (by kernel_rfl) (fun _ h => by cases h) edgeStrings_row_tie rfl ⟨rfl, rfl⟩ (by kernel_rfl) rfl
    (fun f fn hf hfn => by
      obtain rfl : f = 3 := Option.some.inj ((show Tryz.prog.funcNamed "conjoin/conjoinlaw03.EdgeStrings" = some 3 by kernel_rfl).symm.trans hf) |>.symm
      obtain rfl : fn = Tryz.f3 := (Option.some.inj (Tryz.func3.symm.trans hfn)).symm
      exact ⟨by kernel_rfl, fun j t ht => by
        rw [Tryz.params3] at ht
        have hm : t ∈ [25, 9] := by simpa using Array.mem_of_getElem? ht
        have hall : ([25, 9].all fun u => !Tryz.prog.wantsStandIn u) = true := by kernel_rfl
        exact (show Tryz.prog.wantsStandIn t = false by simpa using List.all_eq_true.1 hall t hm)⟩)
    (by kernel_rfl)
#print axioms edgeStrings_card
end Go.Proofs.YtnipnoffofoedaaGreatDoor
