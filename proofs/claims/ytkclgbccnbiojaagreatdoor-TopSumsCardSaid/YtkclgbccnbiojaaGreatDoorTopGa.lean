import Derived.Test.YtkclgbccnbiojaaGreatDoorTopF
set_option linter.unusedVariables false
set_option linter.unusedSimpArgs false
namespace Go.Proofs.YtkclgbccnbiojaaGreatDoor.SX
open Go.Proofs Go.Proofs.YtkclgbccnbiojaaGreatDoor.Mor
set_option maxRecDepth 1000000
set_option maxHeartbeats 0
noncomputable def kA_0Q (S : List Nat) : Int := ↑(List.length S)
noncomputable def kA_1Q (S : List Nat) : Int := wr IntKind.i64 (Int.add (Int.ofNat 6) (kA_0Q S))
noncomputable def kA_2Q (S : List Nat) : Nat := Int.toNat (kA_1Q S)
noncomputable def kA_3Q (S : List Nat) : List Int := List.replicate (kA_2Q S) (Int.ofNat 0)
noncomputable def kA_4Q (S : List Nat) : Int := wr IntKind.u64 (wr IntKind.i64 (Int.sub (kA_1Q S) (Int.ofNat 6)))
noncomputable def kA_5Q (S : List Nat) : List Nat := Prod.snd (true, [Nat.mod (Int.toNat (wr IntKind.u8 (Int.fdiv (kA_4Q S) (Int.ofNat 1)))) 256, Nat.mod (Int.toNat (wr IntKind.u8 (Int.fdiv (kA_4Q S) (Int.ofNat 256)))) 256])
noncomputable def kA_6Q (S : List Nat) : Int := ↑(kA_2Q S)
noncomputable def kA_7Q (S : List Nat) : Nat := Int.toNat (kA_6Q S)
noncomputable def kA_8Q (S : List Nat) : Nat := min (List.length (kA_5Q S)) ((kA_7Q S) - 0)
noncomputable def kA_9Q (S : List Nat) : List Int := putN (kA_3Q S) 0 (kA_8Q S) (natInts (kA_5Q S))
noncomputable def kA_10Q (S : List Nat) : Nat := (kA_7Q S) - 2
noncomputable def kA_11Q (S : List Nat) : Nat := min 4 (kA_10Q S)
noncomputable def kA_12Q (S : List Nat) : List Int := putN (kA_9Q S) 2 (kA_11Q S) (natInts (Prod.snd (false, [0, 0, 0, 0])))
noncomputable def kA_13Q (S : List Nat) : Nat := min (List.length S) ((kA_7Q S) - 6)
noncomputable def kA_14Q (S : List Nat) : List Int := putN (kA_12Q S) 6 (kA_13Q S) (natInts S)
noncomputable def kA_15Q (S : List Nat) : Nat := (kA_2Q S) - 6
noncomputable def kA_16Q (S : List Nat) : List Nat := numBytes (List.take (kA_15Q S) (List.drop 6 (kA_14Q S)))
noncomputable def kA_17Q (S : List Nat) : Int := wr IntKind.u64 ↑(crcMore 0 (kA_16Q S))
noncomputable def kA_18Q (S : List Nat) : List Nat := Prod.snd (true, [Nat.mod (Int.toNat (wr IntKind.u8 (Int.fdiv (kA_17Q S) (Int.ofNat 16777216)))) 256, Nat.mod (Int.toNat (wr IntKind.u8 (Int.fdiv (kA_17Q S) (Int.ofNat 65536)))) 256, Nat.mod (Int.toNat (wr IntKind.u8 (Int.fdiv (kA_17Q S) (Int.ofNat 256)))) 256, Nat.mod (Int.toNat (wr IntKind.u8 (Int.fdiv (kA_17Q S) (Int.ofNat 1)))) 256])
noncomputable def kA_19Q (S : List Nat) : Nat := min (List.length (kA_18Q S)) (kA_10Q S)
noncomputable def kA_20Q (S : List Nat) : List Int := putN (kA_14Q S) 2 (kA_19Q S) (natInts (kA_18Q S))
noncomputable def kA_21Q (S : List Nat) : Nat := List.length (kA_14Q S)
noncomputable def pcA (S : List Nat) : Cs := [(Nat.ble (0 + (kA_2Q S)) (List.length (kA_20Q S)), true), (ilt (Int.ofNat 6) (kA_1Q S), true), (ilt (Int.ofNat 6) (kA_1Q S), true), (ilt (Int.ofNat 6) (kA_1Q S), true), (ilt (Int.ofNat 6) (kA_1Q S), true), (ilt (Int.ofNat 6) (kA_1Q S), true), (ilt (Int.ofNat 6) (kA_1Q S), true), (Nat.ble (2 + (kA_19Q S)) (kA_21Q S), true), (Nat.beq (kA_2Q S) 2, false), (okCut (Int.ofNat 2) (kA_6Q S) (kA_2Q S), true), (ilt (Int.ofNat 32) ↑(lenB (Int.toNat (kA_17Q S))), false), (inU64 (kA_17Q S), true), (Nat.ble (List.length (kA_16Q S)) 1000000, true), (Nat.ble (6 + (kA_15Q S)) (kA_21Q S), true), (Nat.beq (kA_2Q S) 6, false), (okCut (Int.ofNat 6) (kA_1Q S) (kA_2Q S), true), (Nat.ble (6 + (kA_13Q S)) (List.length (kA_12Q S)), true), (Nat.beq (kA_2Q S) 6, false), (okCut (Int.ofNat 6) (kA_6Q S) (kA_2Q S), true), (Nat.ble (2 + (kA_11Q S)) (List.length (kA_9Q S)), true), (Nat.beq (kA_2Q S) 2, false), (okCut (Int.ofNat 2) (kA_6Q S) (kA_2Q S), true), (Nat.ble (0 + (kA_8Q S)) (List.length (kA_3Q S)), true), (Nat.beq (kA_2Q S) 0, false), (okCut (Int.ofNat 0) (kA_6Q S) (kA_2Q S), true), (ilt (Int.ofNat 16) ↑(lenB (Int.toNat (kA_4Q S))), false), (inU64 (kA_4Q S), true), (Nat.ble ((kA_2Q S) * 1) 140737488355328 && Nat.ble (kA_2Q S) 140737488355328, true), (!ilt (kA_1Q S) (Int.ofNat 0) && !ilt (kA_1Q S) (kA_1Q S), true), (!ieq (kA_4Q S) (wr IntKind.u64 (kA_0Q S)), false), (ilt (Int.ofNat 4611686018427387904) (kA_4Q S), false), (ilt (Int.ofNat 16) ↑(lenB (Int.toNat (kA_4Q S))), false), (inU64 (kA_4Q S), true), (ilt (Int.ofNat 2000) (kA_1Q S), false), (sEq S S, true), (sEq S S, true), (sEq S S, true)]
noncomputable def outA (S : List Nat) : List Nat := (numBytes (List.take (kA_2Q S) (List.drop 0 (kA_20Q S))))
theorem layA (m w : Int) (S : List Nat) : wkX 115 [0,9,10,11,12,14] mvD 1104 (exec S5i tT sP 1000 (stR vOC w S m chLay)) = some (.normal, stP [(0, .str true S), (9, .int true .u32 w), (10, .ptr 1103 0), (11, .int false .i64 (Int.ofNat 0)), (12, .str true (outA S)), (14, .int false .i64 (Int.ofNat 0))] (glObs m ++ vOC) 1104 (pcA S) []) := by kernel_rfl
end Go.Proofs.YtkclgbccnbiojaaGreatDoor.SX
