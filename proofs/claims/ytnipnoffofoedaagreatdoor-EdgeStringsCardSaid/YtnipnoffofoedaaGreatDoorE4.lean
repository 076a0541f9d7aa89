/- joined() is true, in every world. -/
import Derived.Test.YtnipnoffofoedaaGreatDoorE4a
namespace Go.Proofs.YtnipnoffofoedaaGreatDoor
open Go Go.RowKit Go.Ev Go.Proofs

noncomputable def ctr4 : FuncId → Option (List AV → AG → Rf) := ctrL [(111, kEmpty), (29, kMeets), (118, kSorted), (15, kLongest), (13, kShared)]
theorem ctr4_ok : CtrOK Tryz.prog noro ctr4 := ctrL_ok fun q hq => by
  simp only [List.mem_cons, List.not_mem_nil, or_false] at hq
  rcases hq with rfl | rfl | rfl | rfl | rfl
  · exact kEmpty_ok
  · exact kMeets_ok
  · exact kSorted_ok
  · exact kLongest_ok
  · exact kShared_ok
noncomputable def call4 : CallF := callN Tryz.prog noro ctr4 (regionD Tryz.prog noro) 60
theorem call4_ok : CallsOK Tryz.prog noro call4 := callN_ok noCount ctr4_ok (regionD_ok noCount mixed) 60
noncomputable def trueB (r : Rf) : Bool := match r with | .ok (.bool true) _ => true | _ => false
theorem trueB_ok {r : Rf} (h : trueB r = true) : ∃ G, r = .ok (.bool true) G := by
  unfold trueB at h
  split at h
  · exact ⟨_, rfl⟩
  · cases h
theorem joined_eval : trueB (call4 (.fn 4) [] G0 false) = true := by kernel_rfl
theorem joined_any (w : World) : Calls Tryz.prog 4 #[] w fun e w' => e = .returned (.bool true) ∧ Below w.heap.size w w' := by
  obtain ⟨G, h⟩ := trueB_ok joined_eval
  exact calls_true call4_ok h w (roOK w)
#print axioms joined_any
end Go.Proofs.YtnipnoffofoedaaGreatDoor
