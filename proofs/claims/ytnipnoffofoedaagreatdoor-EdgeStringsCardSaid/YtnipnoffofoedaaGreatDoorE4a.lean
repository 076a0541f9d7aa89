/- Longest and Shared over the two outlines: found once. -/
import Derived.Test.YtnipnoffofoedaaGreatDoorE2
import Derived.Test.YtnipnoffofoedaaGreatDoorE3
namespace Go.Proofs.YtnipnoffofoedaaGreatDoor
open Go Go.RowKit Go.Ev Go.Proofs

theorem kMeets_ok : CtrOne Tryz.prog noro 29 kMeets :=
  memoK_ok call1_ok m0101 <| memoK_ok call1_ok m0112 <| memoK_ok call1_ok m0123 <| memoK_ok call1_ok m1201 <| memoK_ok call1_ok m1212 <| memoK_ok call1_ok m1223 <| memoK_ok call1_ok m2301 <| memoK_ok call1_ok m2312 <|
  memoK_ok call1_ok m2323 <| memoK_ok call1_ok m0202 <| memoK_ok call1_ok m0213 <| memoK_ok call1_ok m1302 <| memoK_ok call1_ok m1313 <| memoK_ok call1_ok m0303 (k := fun _ _ => .no 903) ctrNo
noncomputable def ctr2 : FuncId → Option (List AV → AG → Rf) := ctrL [(111, kEmpty), (29, kMeets), (118, kSorted)]
theorem ctr2_ok : CtrOK Tryz.prog noro ctr2 := ctrL_ok fun q hq => by
  simp only [List.mem_cons, List.not_mem_nil, or_false] at hq
  rcases hq with rfl | rfl | rfl
  · exact kEmpty_ok
  · exact kMeets_ok
  · exact kSorted_ok
noncomputable def call2 : CallF := callN Tryz.prog noro ctr2 (regionD Tryz.prog noro) 60
theorem call2_ok : CallsOK Tryz.prog noro call2 := callN_ok noCount ctr2_ok (regionD_ok noCount mixed) 60
noncomputable def outA : AV := .agg [.int .i64 3, .sl .h 0 6 (.ex 6), .sl (.l .h) 0 4 (.ex 4)]
noncomputable def outB : AV := .agg [.int .i64 3, .sl (.r .h) 0 6 (.ex 6), .sl (.l (.l .h)) 0 4 (.ex 4)]
noncomputable def pairing (a b c d : Nat) : AV := .agg [.int .i64 (Int.ofNat a), .int .i64 (Int.ofNat b), .int .i64 (Int.ofNat c), .int .i64 (Int.ofNat d)]
noncomputable def resLongest : AV := .tup [.int .i64 2, .int .i64 0]
noncomputable def resShared : AV := .tup [.int .i64 11, .int .i64 12, .int .i64 0]
theorem longest_memo : memoB call2 15 [outA, outB] twoHs (.r (.l .h)) resLongest = true := by kernel_rfl
theorem shared_memo : memoB call2 13 [outA, outB, pairing 0 1 1 2] twoHs (.r (.l .h)) resShared = true := by kernel_rfl
noncomputable def kLongest : List AV → AG → Rf := fun args G => memoK [outA, outB] twoHs resLongest (.no 904) args G
noncomputable def kShared : List AV → AG → Rf := fun args G => memoK [outA, outB, pairing 0 1 1 2] twoHs resShared (.no 905) args G
theorem kLongest_ok : CtrOne Tryz.prog noro 15 kLongest := memoK_ok call2_ok longest_memo (k := fun _ _ => .no 904) ctrNo
theorem kShared_ok : CtrOne Tryz.prog noro 13 kShared := memoK_ok call2_ok shared_memo (k := fun _ _ => .no 905) ctrNo
end Go.Proofs.YtnipnoffofoedaaGreatDoor
