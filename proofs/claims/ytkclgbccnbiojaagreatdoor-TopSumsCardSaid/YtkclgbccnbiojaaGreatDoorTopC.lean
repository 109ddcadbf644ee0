import Derived.Test.YtkclgbccnbiojaaGreatDoorTopB
set_option linter.unusedVariables false
set_option linter.unusedSimpArgs false
namespace Go.Proofs.YtkclgbccnbiojaaGreatDoor.SX
open Go.Proofs Go.Proofs.YtkclgbccnbiojaaGreatDoor
set_option maxRecDepth 1000000
def selCrc : List Nat := [1300, 1288, 1296]
def valCrc : AV := .tup [.agg [.sl false 1300 0 1 (.un 0), .sl false 1288 0 1 (.un 0)], .int false .i64 (Int.ofNat 0)]
def obsCrc : List (Option AObj) := [some (.cells 62 [.str false [97], .sl false 1296 0 3 (.un 0)] true), some (.cells 192 [.str false [], .str false [110], .int false .u64 (Int.ofNat 0), .int false .i64 (Int.ofNat 0), .int false .i64 (Int.ofNat 0)] true), some (.cells 65 [.str false [110], .int false .i64 (Int.ofNat 1), .int false .i64 (Int.ofNat 2), .bool false false, .bool false false, .int false .u64 (Int.ofNat 0), .int false .i64 (Int.ofNat 1), .str false [98], .str false [], .int false .i64 (Int.negSucc 0), .str false [], .str false [], .bool false false, .int false .i64 (Int.ofNat 0), .nils, .str false [], .str false [109], .int false .i64 (Int.ofNat 1), .int false .i64 (Int.ofNat 4), .bool false true, .bool false false, .int false .u64 (Int.ofNat 0), .int false .i64 (Int.ofNat 4), .str false [98], .str false [98], .int false .i64 (Int.negSucc 0), .str false [], .str false [], .bool false false, .int false .i64 (Int.ofNat 0), .nils, .str false [], .str false [98], .int false .i64 (Int.ofNat 2), .int false .i64 (Int.ofNat 0), .bool false false, .bool false false, .int false .u64 (Int.ofNat 0), .int false .i64 (Int.ofNat 0), .str false [], .str false [], .int false .i64 (Int.ofNat 0), .str false [], .str false [], .bool false false, .int false .i64 (Int.ofNat 0), .nils, .str false []] true)]
theorem runCrc (m : Int) : grab selCrc (bP .no 16 [.str false txCrc] (gG m)) = some (valCrc, obsCrc, []) := by kernel_rfl
noncomputable def pDCrc : Pr := prAt 16 (runP [.str false txCrc] selCrc valCrc obsCrc)
theorem pDCrc_ok : PrOk Tryz.prog pDCrc := runP_ok bP_ok (fnOk_of Tryz.func16 (body_of Tryz.func16 (by kernel_rfl)) (by kernel_rfl)) runCrc (by kernel_rfl) (by kernel_rfl) (by kernel_rfl)
end Go.Proofs.YtkclgbccnbiojaaGreatDoor.SX
