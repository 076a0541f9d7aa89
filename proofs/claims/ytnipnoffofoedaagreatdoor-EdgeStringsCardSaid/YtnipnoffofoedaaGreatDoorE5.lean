/- Write of the program and of the reference at each pairing that there is: found by the evaluator. The numbers first. -/
import Derived.Test.YtnipnoffofoedaaGreatDoorEvG
import Derived.Test.YtnipnoffofoedaaGreatDoorE1
import Derived.Test.YtnipnoffofoedaaGreatDoorE3j
namespace Go.Proofs.YtnipnoffofoedaaGreatDoor
open Go Go.RowKit Go.Ev Go.Proofs

/-- the digits of a number below 20 -/
def dg (n : Nat) : List UInt8 := if n < 10 then [UInt8.ofNat (48 + n)] else [49, UInt8.ofNat (38 + n)]
def strOf (a b c d : Nat) : List UInt8 := dg a ++ 32 :: (dg b ++ 32 :: (dg c ++ 32 :: dg d))
noncomputable def numB (f n : Nat) : Bool := memoB call0 f [.int .i64 (Int.ofNat n)] [] .h (.str (dg n))
theorem nums22 : (List.range 17).all (numB 22) = true := by kernel_rfl
theorem nums25 : (List.range 17).all (numB 25) = true := by kernel_rfl
noncomputable def kNum (args : List AV) (G : AG) : Rf := match args with
  | [.int .i64 (.ofNat n)] => br (Nat.ble n 16) (.ok (.str (dg n)) G) (.no 930)
  | _ => .no 931
theorem kNum_ok {f : Nat} (h : (List.range 17).all (numB f) = true) : CtrOne Tryz.prog noro f kNum := by
  intro args G v G' hk
  unfold kNum at hk
  split at hk
  · rename_i n
    obtain ⟨hn, h1⟩ := br_inv hk nofun
    cases h1
    have hn' : n < 17 := by have := Nat.le_of_ble_eq_true hn; omega
    have := List.all_eq_true.1 h n (List.mem_range.2 hn')
    exact memoB_ok call0_ok this (args := [.int .i64 (Int.ofNat n)]) (G := G) (by
      unfold memM
      simp [colHs, colAVs, colAV, renAVs, renAV, plainAV, injR, blksR, eqAV, kEq, iEq])
  · cases hk
noncomputable def ctr3 : FuncId → Option (List AV → AG → Rf) := ctrL [(22, kNum), (25, kNum), (23, kJoin)]
theorem ctr3_ok : CtrOK Tryz.prog noro ctr3 := ctrL_ok fun q hq => by
  simp only [List.mem_cons, List.not_mem_nil, or_false] at hq
  rcases hq with rfl | rfl | rfl
  · exact kNum_ok nums22
  · exact kNum_ok nums25
  · exact kJoin_ok
noncomputable def call3 : CallF := callN Tryz.prog noro ctr3 (regionD Tryz.prog noro) 60
theorem call3_ok : CallsOK Tryz.prog noro call3 := callN_ok noCount ctr3_ok (regionD_ok noCount mixed) 60

/-- the pairings whose first stretch begins at i -/
def pairsAt (i : Nat) : List (Nat × Nat × Nat) := (List.range (16 - i)).flatMap fun n => (List.range (16 - n)).map fun k => (i + n + 1, k, k + n + 1)
noncomputable def pav (a b c d : Nat) : AV := .agg [.int .i64 (Int.ofNat a), .int .i64 (Int.ofNat b), .int .i64 (Int.ofNat c), .int .i64 (Int.ofNat d)]
noncomputable def writeB (f i : Nat) (q : Nat × Nat × Nat) : Bool := match call3 (.fn f) [pav i q.1 q.2.1 q.2.2] G0 false with
  | .ok (.tup [.str s, .int .i64 e]) _ => sEq s (strOf i q.1 q.2.1 q.2.2) && iEq e 0
  | _ => false
end Go.Proofs.YtnipnoffofoedaaGreatDoor
