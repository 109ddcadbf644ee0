import Derived.Test.YtkclgbccnbiojaaGreatDoorTopF
set_option linter.unusedVariables false
set_option linter.unusedSimpArgs false
namespace Go.Proofs.YtkclgbccnbiojaaGreatDoor.SX
open Go.Proofs Go.Proofs.YtkclgbccnbiojaaGreatDoor.Mor
set_option maxRecDepth 1000000
set_option maxHeartbeats 0
noncomputable def kB_0Q (S : List Nat) : Int := ↑(List.length S)
noncomputable def kB_1Q (S : List Nat) : Int := wr IntKind.i64 (Int.add (Int.ofNat 6) (kB_0Q S))
noncomputable def kB_2Q (S : List Nat) : Nat := Int.toNat (kB_1Q S)
noncomputable def kB_3Q (S : List Nat) : List Int := List.replicate (kB_2Q S) (Int.ofNat 0)
noncomputable def kB_4Q (S : List Nat) : Int := wr IntKind.u64 (wr IntKind.i64 (Int.sub (kB_1Q S) (Int.ofNat 6)))
noncomputable def kB_5Q (S : List Nat) : List Nat := Prod.snd (true, [Nat.mod (Int.toNat (wr IntKind.u8 (Int.fdiv (kB_4Q S) (Int.ofNat 1)))) 256, Nat.mod (Int.toNat (wr IntKind.u8 (Int.fdiv (kB_4Q S) (Int.ofNat 256)))) 256])
noncomputable def kB_6Q (S : List Nat) : Int := ↑(kB_2Q S)
noncomputable def kB_7Q (S : List Nat) : Nat := Int.toNat (kB_6Q S)
noncomputable def kB_8Q (S : List Nat) : Nat := min (List.length (kB_5Q S)) ((kB_7Q S) - 0)
noncomputable def kB_9Q (S : List Nat) : List Int := putN (kB_3Q S) 0 (kB_8Q S) (natInts (kB_5Q S))
noncomputable def kB_10Q (S : List Nat) : Nat := (kB_7Q S) - 2
noncomputable def kB_11Q (S : List Nat) : Nat := min 4 (kB_10Q S)
noncomputable def kB_12Q (S : List Nat) : List Int := putN (kB_9Q S) 2 (kB_11Q S) (natInts (Prod.snd (false, [0, 0, 0, 0])))
noncomputable def kB_13Q (S : List Nat) : Nat := min (List.length S) ((kB_7Q S) - 6)
noncomputable def kB_14Q (S : List Nat) : List Int := putN (kB_12Q S) 6 (kB_13Q S) (natInts S)
noncomputable def kB_15Q (S : List Nat) : Nat := (kB_2Q S) - 6
noncomputable def kB_16Q (S : List Nat) : List Nat := numBytes (List.take (kB_15Q S) (List.drop 6 (kB_14Q S)))
noncomputable def kB_17Q (S : List Nat) : Int := wr IntKind.u64 ↑(adlerMore 1 (kB_16Q S))
noncomputable def kB_18Q (S : List Nat) : List Nat := Prod.snd (true, [Nat.mod (Int.toNat (wr IntKind.u8 (Int.fdiv (kB_17Q S) (Int.ofNat 16777216)))) 256, Nat.mod (Int.toNat (wr IntKind.u8 (Int.fdiv (kB_17Q S) (Int.ofNat 65536)))) 256, Nat.mod (Int.toNat (wr IntKind.u8 (Int.fdiv (kB_17Q S) (Int.ofNat 256)))) 256, Nat.mod (Int.toNat (wr IntKind.u8 (Int.fdiv (kB_17Q S) (Int.ofNat 1)))) 256])
noncomputable def kB_19Q (S : List Nat) : Nat := min (List.length (kB_18Q S)) (kB_10Q S)
noncomputable def kB_20Q (S : List Nat) : List Int := putN (kB_14Q S) 2 (kB_19Q S) (natInts (kB_18Q S))
noncomputable def kB_21Q (S : List Nat) : Nat := List.length (kB_14Q S)
noncomputable def pcB (S : List Nat) : Cs := [(Nat.ble (0 + (kB_2Q S)) (List.length (kB_20Q S)), true), (ilt (Int.ofNat 6) (kB_1Q S), true), (ilt (Int.ofNat 6) (kB_1Q S), true), (ilt (Int.ofNat 6) (kB_1Q S), true), (ilt (Int.ofNat 6) (kB_1Q S), true), (ilt (Int.ofNat 6) (kB_1Q S), true), (ilt (Int.ofNat 6) (kB_1Q S), true), (Nat.ble (2 + (kB_19Q S)) (kB_21Q S), true), (Nat.beq (kB_2Q S) 2, false), (okCut (Int.ofNat 2) (kB_6Q S) (kB_2Q S), true), (ilt (Int.ofNat 32) ↑(lenB (Int.toNat (kB_17Q S))), false), (inU64 (kB_17Q S), true), (Nat.ble (List.length (kB_16Q S)) 5000, true), (Nat.ble (6 + (kB_15Q S)) (kB_21Q S), true), (Nat.beq (kB_2Q S) 6, false), (okCut (Int.ofNat 6) (kB_1Q S) (kB_2Q S), true), (Nat.ble (6 + (kB_13Q S)) (List.length (kB_12Q S)), true), (Nat.beq (kB_2Q S) 6, false), (okCut (Int.ofNat 6) (kB_6Q S) (kB_2Q S), true), (Nat.ble (2 + (kB_11Q S)) (List.length (kB_9Q S)), true), (Nat.beq (kB_2Q S) 2, false), (okCut (Int.ofNat 2) (kB_6Q S) (kB_2Q S), true), (Nat.ble (0 + (kB_8Q S)) (List.length (kB_3Q S)), true), (Nat.beq (kB_2Q S) 0, false), (okCut (Int.ofNat 0) (kB_6Q S) (kB_2Q S), true), (ilt (Int.ofNat 16) ↑(lenB (Int.toNat (kB_4Q S))), false), (inU64 (kB_4Q S), true), (Nat.ble ((kB_2Q S) * 1) 140737488355328 && Nat.ble (kB_2Q S) 140737488355328, true), (!ilt (kB_1Q S) (Int.ofNat 0) && !ilt (kB_1Q S) (kB_1Q S), true), (!ieq (kB_4Q S) (wr IntKind.u64 (kB_0Q S)), false), (ilt (Int.ofNat 4611686018427387904) (kB_4Q S), false), (ilt (Int.ofNat 16) ↑(lenB (Int.toNat (kB_4Q S))), false), (inU64 (kB_4Q S), true), (ilt (Int.ofNat 2000) (kB_1Q S), false), (sEq S S, true), (sEq S S, true), (sEq S S, true)]
noncomputable def outB (S : List Nat) : List Nat := (numBytes (List.take (kB_2Q S) (List.drop 0 (kB_20Q S))))
theorem layB (m w : Int) (S : List Nat) : wkX 115 [0,9,10,11,12,14] mvD 1104 (exec S5i tT sP 1000 (stR vOA w S m chLay)) = some (.normal, stP [(0, .str true S), (9, .int true .u32 w), (10, .ptr 1103 0), (11, .int false .i64 (Int.ofNat 0)), (12, .str true (outB S)), (14, .int false .i64 (Int.ofNat 0))] (glObs m ++ vOA) 1104 (pcB S) []) := by kernel_rfl
end Go.Proofs.YtkclgbccnbiojaaGreatDoor.SX
