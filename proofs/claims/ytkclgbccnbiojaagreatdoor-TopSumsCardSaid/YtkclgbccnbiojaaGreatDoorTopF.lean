import Derived.Test.YtkclgbccnbiojaaGreatDoorTopE
import Derived.Test.YtkclgbccnbiojaaGreatDoorTopC
import Derived.Test.YtkclgbccnbiojaaGreatDoorTopD
set_option linter.unusedVariables false
set_option linter.unusedSimpArgs false
namespace Go.Proofs.YtkclgbccnbiojaaGreatDoor.SX
open Go.Proofs Go.Proofs.YtkclgbccnbiojaaGreatDoor
set_option maxRecDepth 1000000
noncomputable def wP : CallT := callN tT (prCall (prOr pDRows pBase)) 1000 30
theorem wP_ok : CallOk Tryz.prog wP := sx_ok tT_ok tM (pDRows_ok.or pBase_ok).call 1000 30
theorem runWorks (m : Int) : grab [] (wP .no 10 [] (gG m)) = some (.bool false true, [], []) := by kernel_rfl
noncomputable def pWorks : Pr := prAt 10 (runP [] [] (.bool false true) [])
theorem pWorks_ok : PrOk Tryz.prog pWorks := runP_ok wP_ok (fnOk_of Tryz.func10 (body_of Tryz.func10 (by kernel_rfl)) (by kernel_rfl)) runWorks (by kernel_rfl) (by kernel_rfl) (by kernel_rfl)
end Go.Proofs.YtkclgbccnbiojaaGreatDoor.SX

namespace Go.Proofs.YtkclgbccnbiojaaGreatDoor.SX
open Go.Proofs Go.Proofs.YtkclgbccnbiojaaGreatDoor
set_option maxRecDepth 1000000
noncomputable def pSum : Pr := prOr pWorks (prOr pDCrc (prOr pDAdl pBase))
theorem pSum_ok : PrOk Tryz.prog pSum := pWorks_ok.or (pDCrc_ok.or (pDAdl_ok.or pBase_ok))
noncomputable def sP : CallT := callN tT (prCall pSum) 1000 30
theorem sP_ok : CallOk Tryz.prog sP := sx_ok tT_ok tM pSum_ok.call 1000 30
def chs : List Nat → List Bool := fun l => l.map fun n => n.beq 1
noncomputable def gC (m : Int) (ch : List Bool) : G := ⟨gMem m, 1100, [], ch⟩
noncomputable def topS (S : List Nat) (at_ : Int) (ad : Bool) (m : Int) (ch : List Bool) : Option (CR × PM × G) := sP .no 5 [.str true S, .int true .i64 at_, .bool true ad] (gC m ch)
end Go.Proofs.YtkclgbccnbiojaaGreatDoor.SX

namespace Go.Proofs.YtkclgbccnbiojaaGreatDoor.SX
open Go.Proofs Go.Proofs.YtkclgbccnbiojaaGreatDoor.Mor
set_option maxRecDepth 1000000
noncomputable def B5 : Code := bodyOf 5
noncomputable def S5a : Code := c1 B5
noncomputable def S5b : Code := c1 (c2 B5)
noncomputable def S5c : Code := c1 (c2 (c2 B5))
noncomputable def S5d : Code := c1 (c2 (c2 (c2 B5)))
noncomputable def S5e : Code := c1 (c2 (c2 (c2 (c2 B5))))
noncomputable def S5f : Code := c1 (c2 (c2 (c2 (c2 (c2 B5)))))
noncomputable def S5g : Code := c1 (c2 (c2 (c2 (c2 (c2 (c2 B5))))))
noncomputable def S5h : Code := c1 (c2 (c2 (c2 (c2 (c2 (c2 (c2 B5)))))))
noncomputable def S5i : Code := c1 (c2 (c2 (c2 (c2 (c2 (c2 (c2 (c2 B5))))))))
noncomputable def S5j : Code := c2 (c2 (c2 (c2 (c2 (c2 (c2 (c2 (c2 B5))))))))
theorem B5_eq : B5 = .seq S5a (.seq S5b (.seq S5c (.seq S5d (.seq S5e (.seq S5f (.seq S5g (.seq S5h (.seq S5i S5j)))))))) := by kernel_rfl
noncomputable def stM (N : Nat) (l : List (Nat × AV)) (o : List (Nat × Option AObj)) (nx : Nat) (m : Int) (ch : List Bool) : St := ⟨mkEnv N l, ⟨⟨mkT (glObs m ++ o), fun _ => none⟩, nx, [], ch⟩, [], .no, []⟩
end Go.Proofs.YtkclgbccnbiojaaGreatDoor.SX

namespace Go.Proofs.YtkclgbccnbiojaaGreatDoor.SX
open Go.Proofs Go.Proofs.YtkclgbccnbiojaaGreatDoor
noncomputable def mvG : List Mv := [⟨0,0,false⟩,⟨1,1,false⟩,⟨2,2,false⟩,⟨3,3,false⟩,⟨6,6,false⟩,⟨1000,1000,false⟩,⟨1001,1001,false⟩,⟨1002,1002,false⟩,⟨1003,1003,false⟩,⟨1004,1004,false⟩,⟨1005,1005,false⟩]
noncomputable def mvD : List Mv := [⟨0,0,false⟩,⟨1,1,false⟩,⟨2,2,false⟩,⟨3,3,false⟩,⟨6,6,false⟩,⟨1000,1000,false⟩,⟨1001,1001,false⟩,⟨1002,1002,false⟩,⟨1003,1003,false⟩,⟨1004,1004,false⟩,⟨1005,1005,false⟩,⟨1100,1100,false⟩,⟨1101,1101,false⟩,⟨1102,1102,false⟩,⟨1103,1103,false⟩]
def vRecsC : AObj := .cells 62 [.str false [97], .sl false 1102 0 3 (.un 0)] true
def vFieldsC : AObj := .cells 65 [.str false [110], .int false .i64 (Int.ofNat 1), .int false .i64 (Int.ofNat 2),
              .bool false false, .bool false false, .int false .u64 (Int.ofNat 0),
              .int false .i64 (Int.ofNat 1), .str false [98], .str false [],
              .int false .i64 (Int.negSucc 0), .str false [], .str false [], .bool false false,
              .int false .i64 (Int.ofNat 0), .nils, .str false [], .str false [109],
              .int false .i64 (Int.ofNat 1), .int false .i64 (Int.ofNat 4), .bool false true,
              .bool false false, .int false .u64 (Int.ofNat 0), .int false .i64 (Int.ofNat 4),
              .str false [98], .str false [98], .int false .i64 (Int.negSucc 0), .str false [],
              .str false [], .bool false false, .int false .i64 (Int.ofNat 0), .nils, .str false [],
              .str false [98], .int false .i64 (Int.ofNat 2), .int false .i64 (Int.ofNat 0),
              .bool false false, .bool false false, .int false .u64 (Int.ofNat 0),
              .int false .i64 (Int.ofNat 0), .str false [], .str false [],
              .int false .i64 (Int.ofNat 0), .str false [], .str false [], .bool false false,
              .int false .i64 (Int.ofNat 0), .nils, .str false []] true
def vExpsC : AObj := .cells 192 [.str false [], .str false [110], .int false .u64 (Int.ofNat 0), .int false .i64 (Int.ofNat 0), .int false .i64 (Int.ofNat 0)] true
def vBoxC : AObj := .cells 25 [.sl false 1100 0 1 (.un 0), .sl false 1101 0 1 (.un 0)] false
def vOC : List (Nat × Option AObj) := [(1100, some vRecsC), (1101, some vExpsC), (1102, some vFieldsC), (1103, some vBoxC)]
def vRecsA : AObj := .cells 62 [.str false [97], .sl false 1102 0 3 (.un 0)] true
def vFieldsA : AObj := .cells 65 [.str false [110], .int false .i64 (Int.ofNat 1), .int false .i64 (Int.ofNat 2),
              .bool false false, .bool false false, .int false .u64 (Int.ofNat 0),
              .int false .i64 (Int.ofNat 1), .str false [98], .str false [],
              .int false .i64 (Int.negSucc 0), .str false [], .str false [], .bool false false,
              .int false .i64 (Int.ofNat 0), .nils, .str false [], .str false [109],
              .int false .i64 (Int.ofNat 1), .int false .i64 (Int.ofNat 4), .bool false true,
              .bool false false, .int false .u64 (Int.ofNat 0), .int false .i64 (Int.ofNat 5),
              .str false [98], .str false [98], .int false .i64 (Int.negSucc 0), .str false [],
              .str false [], .bool false false, .int false .i64 (Int.ofNat 0), .nils, .str false [],
              .str false [98], .int false .i64 (Int.ofNat 2), .int false .i64 (Int.ofNat 0),
              .bool false false, .bool false false, .int false .u64 (Int.ofNat 0),
              .int false .i64 (Int.ofNat 0), .str false [], .str false [],
              .int false .i64 (Int.ofNat 0), .str false [], .str false [], .bool false false,
              .int false .i64 (Int.ofNat 0), .nils, .str false []] true
def vExpsA : AObj := .cells 192 [.str false [], .str false [110], .int false .u64 (Int.ofNat 0), .int false .i64 (Int.ofNat 0), .int false .i64 (Int.ofNat 0)] true
def vBoxA : AObj := .cells 25 [.sl false 1100 0 1 (.un 0), .sl false 1101 0 1 (.un 0)] false
def vOA : List (Nat × Option AObj) := [(1100, some vRecsA), (1101, some vExpsA), (1102, some vFieldsA), (1103, some vBoxA)]

noncomputable def stP (l : List (Nat × AV)) (o : List (Nat × Option AObj)) (nx : Nat) (pc : Cs) (ch : List Bool) : St := ⟨mkEnv 115 l, ⟨⟨mkT o, fun _ => none⟩, nx, pc, ch⟩, [], .no, []⟩
noncomputable def stL (wd S : List Nat) (w : Int) (m : Int) (ch : List Bool) : St := stM 115 [(0, .str true S), (8, .str false wd), (9, .int true .u32 w)] [] 1100 m ch
noncomputable def stQ (vo : List (Nat × Option AObj)) (w : Int) (S : List Nat) (T : List Nat) (m : Int) (ch : List Bool) : St := stM 115 [(0, .str true S), (9, .int true .u32 w), (10, .ptr 1103 0), (11, .int false .i64 (Int.ofNat 0)), (12, .str true T), (14, .int false .i64 (Int.ofNat 0))] vo 1104 m ch
noncomputable def stR (vo : List (Nat × Option AObj)) (w : Int) (S : List Nat) (m : Int) (ch : List Bool) : St := stM 115 [(0, .str true S), (9, .int true .u32 w), (10, .ptr 1103 0), (11, .int false .i64 (Int.ofNat 0))] vo 1104 m ch
noncomputable def chLay : List Bool := [false,false,false,false,false,false,false,false,false,false,false,true,true,true,true,true,true]
noncomputable def chPar : List Bool := [false,false,false,false,false,false,false,false,false,false,false,false,false,false,false,false,false,false,false,false,false,false,false,false,false,false,false,false,false,false,false,false,false,false,false,false,false,false,false,false,false,false,false,false,false,false,false,false,false,false,true,true,true,true,true,true,true,true,true,false,true,true,true,true,true,true,true,true,true,false,false,true,true,true,true,true,true,true,true,true,true,true,true]
noncomputable def chLay0 : List Bool := [false,false,false,false,false,false,false,true,true,false,false,false,false,false,false,false,false]
noncomputable def chPar0 : List Bool := [false,false,false,false,false,false,false,false,false,false,false,false,false,false,false,false,false,false,false,false,false,false,false,false,false,false,false,false,false,false,false,false,false,false,false,false,false,false,false,false,false,false,false,false,false,false,false,false,false,false,false,false,false,false,false,false,false,false,true,true,true,true,true,true,true,true,true,true,true,true]
end Go.Proofs.YtkclgbccnbiojaaGreatDoor.SX
