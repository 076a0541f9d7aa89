/- meets over the two outlines: for each pairing, found once. -/
import Derived.Test.YtnipnoffofoedaaGreatDoorE1
namespace Go.Proofs.YtnipnoffofoedaaGreatDoor
open Go Go.RowKit Go.Ev Go.Proofs

noncomputable def ctr1 : FuncId → Option (List AV → AG → Rf) := ctrL [(111, kEmpty)]
theorem ctr1_ok : CtrOK Tryz.prog noro ctr1 := ctrL_ok fun q hq => by
  rw [List.mem_singleton] at hq
  subst hq
  exact kEmpty_ok
noncomputable def call1 : CallF := callN Tryz.prog noro ctr1 (regionD Tryz.prog noro) 60
theorem call1_ok : CallsOK Tryz.prog noro call1 := callN_ok noCount ctr1_ok (regionD_ok noCount mixed) 60

noncomputable def blkAW : AB := .cells ⟨50, 4, false, .no, [.int .i64 (Int.ofNat 0), .int .i64 (Int.ofNat 1), .int .i64 (Int.ofNat 12), .int .i64 (Int.ofNat 1), .int .i64 (Int.ofNat 1), .int .i64 (Int.ofNat 0), .int .i64 (Int.negSucc 9), .int .i64 (Int.ofNat 1), .int .i64 (Int.ofNat 1), .int .i64 (Int.ofNat 2), .int .i64 (Int.ofNat 22), .int .i64 (Int.ofNat 2), .int .i64 (Int.ofNat 2), .int .i64 (Int.ofNat 1), .int .i64 (Int.negSucc 19), .int .i64 (Int.ofNat 2), .int .i64 (Int.ofNat 2), .int .i64 (Int.ofNat 3), .int .i64 (Int.ofNat 5), .int .i64 (Int.ofNat 3), .int .i64 (Int.ofNat 3), .int .i64 (Int.ofNat 2), .int .i64 (Int.negSucc 4), .int .i64 (Int.ofNat 3)]⟩
noncomputable def blkAT : AB := .cells ⟨50, 4, false, .no, [.int .i64 (Int.ofNat 0), .int .i64 (Int.ofNat 1), .int .i64 (Int.ofNat 100), .int .i64 (Int.ofNat 4), .int .i64 (Int.ofNat 1), .int .i64 (Int.ofNat 0), .int .i64 (Int.negSucc 89), .int .i64 (Int.ofNat 4), .int .i64 (Int.ofNat 1), .int .i64 (Int.ofNat 2), .int .i64 (Int.ofNat 140), .int .i64 (Int.ofNat 5), .int .i64 (Int.ofNat 2), .int .i64 (Int.ofNat 1), .int .i64 (Int.negSucc 99), .int .i64 (Int.ofNat 5)]⟩
noncomputable def blkBW : AB := .cells ⟨50, 4, false, .no, [.int .i64 (Int.ofNat 0), .int .i64 (Int.ofNat 1), .int .i64 (Int.ofNat 25), .int .i64 (Int.ofNat 6), .int .i64 (Int.ofNat 1), .int .i64 (Int.ofNat 0), .int .i64 (Int.negSucc 19), .int .i64 (Int.ofNat 6), .int .i64 (Int.ofNat 1), .int .i64 (Int.ofNat 2), .int .i64 (Int.ofNat 15), .int .i64 (Int.ofNat 7), .int .i64 (Int.ofNat 2), .int .i64 (Int.ofNat 1), .int .i64 (Int.negSucc 10), .int .i64 (Int.ofNat 7), .int .i64 (Int.ofNat 2), .int .i64 (Int.ofNat 3), .int .i64 (Int.ofNat 9), .int .i64 (Int.ofNat 8), .int .i64 (Int.ofNat 3), .int .i64 (Int.ofNat 2), .int .i64 (Int.negSucc 8), .int .i64 (Int.ofNat 8)]⟩
noncomputable def blkBT : AB := .cells ⟨50, 4, false, .no, [.int .i64 (Int.ofNat 0), .int .i64 (Int.ofNat 1), .int .i64 (Int.negSucc 94), .int .i64 (Int.ofNat 9), .int .i64 (Int.ofNat 1), .int .i64 (Int.ofNat 0), .int .i64 (Int.ofNat 120), .int .i64 (Int.ofNat 9), .int .i64 (Int.ofNat 1), .int .i64 (Int.ofNat 2), .int .i64 (Int.negSucc 19), .int .i64 (Int.ofNat 10), .int .i64 (Int.ofNat 2), .int .i64 (Int.ofNat 1), .int .i64 (Int.ofNat 30), .int .i64 (Int.ofNat 10)]⟩
noncomputable def twoHs : List (Pth × AB) := [(.h, blkAW), (.l .h, blkAT), (.r .h, blkBW), (.l (.l .h), blkBT)]
noncomputable def pairAV (a b c d : Nat) : AV := .agg [.int .i64 3, .sl .h 0 6 (.ex 6), .sl (.l .h) 0 4 (.ex 4), .int .i64 3, .sl (.r .h) 0 6 (.ex 6), .sl (.l (.l .h)) 0 4 (.ex 4), .int .i64 (Int.ofNat a), .int .i64 (Int.ofNat b), .int .i64 (Int.ofNat c), .int .i64 (Int.ofNat d)]
theorem m0101 : memoB call1 29 [pairAV 0 1 0 1] twoHs (.r (.l .h)) (.bool false) = true := by kernel_rfl
theorem m0112 : memoB call1 29 [pairAV 0 1 1 2] twoHs (.r (.l .h)) (.bool true) = true := by kernel_rfl
theorem m0123 : memoB call1 29 [pairAV 0 1 2 3] twoHs (.r (.l .h)) (.bool false) = true := by kernel_rfl
theorem m1201 : memoB call1 29 [pairAV 1 2 0 1] twoHs (.r (.l .h)) (.bool true) = true := by kernel_rfl
theorem m1212 : memoB call1 29 [pairAV 1 2 1 2] twoHs (.r (.l .h)) (.bool false) = true := by kernel_rfl
theorem m1223 : memoB call1 29 [pairAV 1 2 2 3] twoHs (.r (.l .h)) (.bool false) = true := by kernel_rfl
theorem m2301 : memoB call1 29 [pairAV 2 3 0 1] twoHs (.r (.l .h)) (.bool false) = true := by kernel_rfl
theorem m2312 : memoB call1 29 [pairAV 2 3 1 2] twoHs (.r (.l .h)) (.bool false) = true := by kernel_rfl
theorem m2323 : memoB call1 29 [pairAV 2 3 2 3] twoHs (.r (.l .h)) (.bool false) = true := by kernel_rfl
theorem m0202 : memoB call1 29 [pairAV 0 2 0 2] twoHs (.r (.l .h)) (.bool true) = true := by kernel_rfl
theorem m0213 : memoB call1 29 [pairAV 0 2 1 3] twoHs (.r (.l .h)) (.bool false) = true := by kernel_rfl
theorem m1302 : memoB call1 29 [pairAV 1 3 0 2] twoHs (.r (.l .h)) (.bool false) = true := by kernel_rfl
theorem m1313 : memoB call1 29 [pairAV 1 3 1 3] twoHs (.r (.l .h)) (.bool false) = true := by kernel_rfl
theorem m0303 : memoB call1 29 [pairAV 0 3 0 3] twoHs (.r (.l .h)) (.bool false) = true := by kernel_rfl
noncomputable def kMeets : List AV → AG → Rf := fun args G =>
  memoK [pairAV 0 1 0 1] twoHs (.bool false) (  memoK [pairAV 0 1 1 2] twoHs (.bool true) (  memoK [pairAV 0 1 2 3] twoHs (.bool false) (  memoK [pairAV 1 2 0 1] twoHs (.bool true) (  memoK [pairAV 1 2 1 2] twoHs (.bool false) (  memoK [pairAV 1 2 2 3] twoHs (.bool false) (  memoK [pairAV 2 3 0 1] twoHs (.bool false) (  memoK [pairAV 2 3 1 2] twoHs (.bool false) (  memoK [pairAV 2 3 2 3] twoHs (.bool false) (  memoK [pairAV 0 2 0 2] twoHs (.bool true) (  memoK [pairAV 0 2 1 3] twoHs (.bool false) (  memoK [pairAV 1 3 0 2] twoHs (.bool false) (  memoK [pairAV 1 3 1 3] twoHs (.bool false) (  memoK [pairAV 0 3 0 3] twoHs (.bool false) (.no 903 ) args G) args G) args G) args G) args G) args G) args G) args G) args G) args G) args G) args G) args G) args G
