/- The closed facts of the seat that the evaluator leans on; the first contracts. -/
import Derived.Test.YtnipnoffofoedaaGreatDoorEvG
import Derived.KernelRfl
import Derived.Test.YtnipnoffofoedaaGreatDoorChecked
namespace Go.Proofs.YtnipnoffofoedaaGreatDoor
open Go Go.RowKit Go.Ev Go.Proofs

theorem noCount : NoCount Tryz.prog := by
  have h : (Tryz.prog.funcs.toList.all fun fn => fn.name != "runtime.NumGoroutine") = true := by kernel_rfl
  intro f fn hf
  have := List.all_eq_true.1 h fn (by
    have : Tryz.prog.funcs.toList[f]? = some fn := by simpa using hf
    exact List.mem_of_getElem? this)
  simpa using this
theorem mixed : Tryz.prog.follows .mixedOrders = true := by kernel_rfl
noncomputable def noro : Nat → Option CB := fun _ => Option.none
theorem roOK (w : World) : RoOK noro w w.heap.size := ⟨Nat.le_refl _, fun _ _ h => by cases h⟩

noncomputable def call0 : CallF := callN Tryz.prog noro (fun _ => Option.none) (regionD Tryz.prog noro) 60
theorem call0_ok : CallsOK Tryz.prog noro call0 := callN_ok noCount (fun _ _ h => by cases h) (regionD_ok noCount mixed) 60

/-- a row of sums, all none -/
noncomputable def row60 : AV := .agg (List.replicate 60 (.int .i64 1099511627776))
theorem empty_memo : memoB call0 111 [] [] .h row60 = true := by kernel_rfl
noncomputable def kEmpty : List AV → AG → Rf := fun args G => memoK [] [] row60 (.no 902) args G
theorem kEmpty_ok : CtrOne Tryz.prog noro 111 kEmpty := memoK_ok call0_ok empty_memo (k := fun _ _ => .no 902) ctrNo
end Go.Proofs.YtnipnoffofoedaaGreatDoor
