import Derived.Test.YticfagianocfiaaBitsQ
import Derived.Below
set_option linter.unusedVariables false
set_option linter.unusedSimpArgs false
namespace Go.Proofs.Yticfagianocfiaa.SX
open Go.Proofs Go.Proofs.Yticfagianocfiaa Go.RowKit
set_option maxRecDepth 1000000
/-! the law BitsWrites -/
noncomputable def L4 : Code := c1 (c1 (c2 (c1 (c2 (c2 (c2 (bodyOf 4)))))))
noncomputable def opF (d v n : Nat → Int) (s : Nat → List Nat) (i : Nat) : List AV := [.int true .i64 (d i), .int true .u32 (v i), .int true .i64 (n i), .str true (s i)]
noncomputable def hO (m : Nat) (f : Nat → List AV) : Nat × Option AObj := (1000, some (.rows 44 4 m f))
noncomputable def hLA (m : Nat) (f : Nat → List AV) : Tr AObj := mkH [hO m f, (1001, some (.cells 39 [.int false .i64 0, .nils] false)), (1002, some (.cells 42 [.nils] false))]
noncomputable def hLB (m : Nat) (f : Nat → List AV) (a : Int) (xs ys : List Int) (l k : Nat) : Tr AObj := mkH [hO m f, (1001, some (.cells 39 [.int true .i64 a, .sl true 1003 0 l (.un 0)] false)), (1002, some (.cells 42 [.sl true 1004 0 k (.un 0)] false)), (1003, some (.nums 5 .u8 xs true)), (1004, some (.nums 5 .u8 ys true))]
noncomputable def e4 (m : Nat) (i : Int) : Tr AV := mkEnv 76 [(0, .osl 1000 m), (3, .ptr 1001 0), (4, .ptr 1002 0), (5, .int true .i64 i)]
noncomputable def gLA (m : Nat) (f : Nat → List AV) (pc : Prop) (ch : List Bool) : G := ⟨hLA m f, 1003, pc, ch⟩
noncomputable def gLB (m : Nat) (f : Nat → List AV) (a : Int) (xs ys : List Int) (l k : Nat) (pc : Prop) (ch : List Bool) : G := ⟨hLB m f a xs ys l k, 1005, pc, ch⟩
noncomputable def s4 (m : Nat) (i : Int) (g : G) : St := ⟨e4 m i, g, [], .no, []⟩
noncomputable def r4 (b : Bool) (g : G) : St := ⟨mkEnv 76 [(2, .bool false b)], g, [], .no, []⟩
def mA : List Mv := [⟨1000, 1000, false⟩, ⟨1001, 1001, false⟩, ⟨1002, 1002, false⟩]
def mB (p q : Nat) : List Mv := [⟨1000, 1000, false⟩, ⟨1001, 1001, false⟩, ⟨1002, 1002, false⟩, ⟨p, 1003, false⟩, ⟨q, 1004, false⟩]
theorem wf4 : wf 76 L4 = true := by kernel_rfl
theorem okA : okM mA 1003 = true := by kernel_rfl
theorem okB1 : okM (mB 1003 1004) 1005 = true := by kernel_rfl
theorem okB2 : okM (mB 1003 1006) 1005 = true := by kernel_rfl
theorem okB3 : okM (mB 1004 1005) 1005 = true := by kernel_rfl
theorem okB4 : okM (mB 1006 1007) 1005 = true := by kernel_rfl
noncomputable def anN (x : Int) : Int := bitsM .andNot .i64 (wr .i64 (x.add 7)) 7
noncomputable def atN (x : Int) (l : Nat) : Int := wr .i64 ((anN x).add (wr .i64 (Int.mul 8 l)))
noncomputable def pc_x1A (m a B : Nat) (d v n : Nat → Int) (s : Nat → List Nat) (i : Int) : Prop := ilt i ↑m = false ∧ ilt i ↑m = false ∧ ilt i ↑m = false ∧ True
noncomputable def pc_x2A (m a B : Nat) (d v n : Nat → Int) (s : Nat → List Nat) (i : Int) : Prop := ilt i 100 = false ∧ ilt i ↑m = true ∧ ilt i ↑m = true ∧ ilt i ↑m = true ∧ True
noncomputable def pc_r1A (m a B : Nat) (d v n : Nat → Int) (s : Nat → List Nat) (i : Int) : Prop := ilt 200 ↑(List.length (s (Int.toNat i))) = true ∧ Nat.blt (Int.toNat i) m = true ∧ inB i m = true ∧ ilt i 100 = true ∧ ilt i ↑m = true ∧ ilt i ↑m = true ∧ ilt i ↑m = true ∧ True
noncomputable def pc_x1B (m a B : Nat) (d v n : Nat → Int) (s : Nat → List Nat) (i : Int) : Prop := ilt i ↑m = false ∧ ilt i ↑m = false ∧ ilt i ↑m = false ∧ True
noncomputable def pc_x2B (m a B : Nat) (d v n : Nat → Int) (s : Nat → List Nat) (i : Int) : Prop := ilt i 100 = false ∧ ilt i ↑m = true ∧ ilt i ↑m = true ∧ ilt i ↑m = true ∧ True
noncomputable def pc_r1B (m a B : Nat) (d v n : Nat → Int) (s : Nat → List Nat) (i : Int) : Prop := ilt 200 ↑(List.length (s (Int.toNat i))) = true ∧ Nat.blt (Int.toNat i) m = true ∧ inB i m = true ∧ ilt i 100 = true ∧ ilt i ↑m = true ∧ ilt i ↑m = true ∧ ilt i ↑m = true ∧ True
noncomputable def pc_alA (m a B : Nat) (d v n : Nat → Int) (s : Nat → List Nat) (i : Int) : Prop := (42 = WKind.t KR ∧ [AV.nils] = List.map (AV.int false IntKind.i64) (WKind.preA KR) ++ [AV.nils] ∧ false = false ∧ a = 0) ∧ (B < 2 ^ a ∧ a < 2 ^ 42) ∧ ieq (d (Int.toNat i)) 1 = true ∧ ilt 200 ↑(List.length (s (Int.toNat i))) = false ∧ Nat.blt (Int.toNat i) m = true ∧ inB i m = true ∧ ilt i 100 = true ∧ ilt i ↑m = true ∧ ilt i ↑m = true ∧ ilt i ↑m = true ∧ True
noncomputable def pc_alB (m a B : Nat) (d v n : Nat → Int) (s : Nat → List Nat) (i : Int) : Prop := (!ieq (bitsM BinOp.andNot IntKind.i64 (wr IntKind.i64 (Int.add (↑a) 7)) 7) ↑(WKind.len KR (up8 a))) = false ∧ ieq ↑(WKind.len KR (up8 a)) ↑(WKind.len KR (up8 a)) = true ∧ (Nat.beq 0 0 && Nat.beq (WKind.len KR (up8 a)) (WKind.len KR (up8 a)) && sameCap (Cap.un 0) (Cap.un 0)) = true ∧ (42 = WKind.t KR ∧ [AV.sl true 1004 0 a (Cap.un 0)] = List.map (AV.int true IntKind.i64) (WKind.pre KR a) ++ [AV.sl true 1004 0 (WKind.len KR a) (Cap.un 0)] ∧ false = false ∧ 5 = 5 ∧ IntKind.u8 = IntKind.u8 ∧ rb a B = WKind.row KR a B ∧ true = true ∧ 0 < a ∧ 0 < up8 a) ∧ (B < 2 ^ a ∧ a < 2 ^ 42) ∧ ieq (d (Int.toNat i)) 1 = true ∧ ilt 200 ↑(List.length (s (Int.toNat i))) = false ∧ Nat.blt (Int.toNat i) m = true ∧ inB i m = true ∧ ilt i 100 = true ∧ ilt i ↑m = true ∧ ilt i ↑m = true ∧ ilt i ↑m = true ∧ True
noncomputable def pc_adA0 (m a B : Nat) (d v n : Nat → Int) (s : Nat → List Nat) (i : Int) : Prop := (!ieq (wr IntKind.i64 (Int.add (bitsM BinOp.andNot IntKind.i64 (wr IntKind.i64 (Int.add 0 7)) 7) (wr IntKind.i64 (Int.mul 8 ↑(List.length (s (Int.toNat i))))))) 0) = false ∧ (42 = WKind.t KR ∧ [AV.nils] = List.map (AV.int false IntKind.i64) (WKind.preA KR) ++ [AV.nils] ∧ false = false ∧ a = 0) ∧ Nat.beq (List.length (s (Int.toNat i))) 0 = true ∧ ((B < 2 ^ a ∧ a < 2 ^ 42) ∧ a < 2 ^ 41 ∧ List.length (s (Int.toNat i)) < 2 ^ 37 ∧ ∃ t, s (Int.toNat i) = bts t) ∧ Nat.beq (List.length (s (Int.toNat i))) 0 = true ∧ ieq (d (Int.toNat i)) 2 = true ∧ ieq (d (Int.toNat i)) 1 = false ∧ ilt 200 ↑(List.length (s (Int.toNat i))) = false ∧ Nat.blt (Int.toNat i) m = true ∧ inB i m = true ∧ ilt i 100 = true ∧ ilt i ↑m = true ∧ ilt i ↑m = true ∧ ilt i ↑m = true ∧ True
noncomputable def pc_adA1 (m a B : Nat) (d v n : Nat → Int) (s : Nat → List Nat) (i : Int) : Prop := (!ieq (wr IntKind.i64 (Int.add (bitsM BinOp.andNot IntKind.i64 (wr IntKind.i64 (Int.add 0 7)) 7) (wr IntKind.i64 (Int.mul 8 ↑(List.length (s (Int.toNat i))))))) ↑(WKind.len KR (up8 a + 8 * List.length (s (Int.toNat i))))) = false ∧ ieq ↑(WKind.len KR (up8 a + 8 * List.length (s (Int.toNat i)))) ↑(WKind.len KR (up8 a + 8 * List.length (s (Int.toNat i)))) = true ∧ (Nat.beq 0 0 && Nat.beq (WKind.len KR (up8 a + 8 * List.length (s (Int.toNat i)))) (WKind.len KR (up8 a + 8 * List.length (s (Int.toNat i)))) && sameCap (Cap.un 0) (Cap.un 0)) = true ∧ (42 = WKind.t KR ∧ [AV.nils] = List.map (AV.int false IntKind.i64) (WKind.preA KR) ++ [AV.nils] ∧ false = false ∧ a = 0 ∧ 0 < up8 a + 8 * List.length (s (Int.toNat i))) ∧ Nat.beq (List.length (s (Int.toNat i))) 0 = false ∧ ((B < 2 ^ a ∧ a < 2 ^ 42) ∧ a < 2 ^ 41 ∧ List.length (s (Int.toNat i)) < 2 ^ 37 ∧ ∃ t, s (Int.toNat i) = bts t) ∧ (Nat.ble (List.length (s (Int.toNat i)) * 1) 140737488355328 && Nat.ble (List.length (s (Int.toNat i))) 140737488355328) = true ∧ Nat.beq (List.length (s (Int.toNat i))) 0 = false ∧ ieq (d (Int.toNat i)) 2 = true ∧ ieq (d (Int.toNat i)) 1 = false ∧ ilt 200 ↑(List.length (s (Int.toNat i))) = false ∧ Nat.blt (Int.toNat i) m = true ∧ inB i m = true ∧ ilt i 100 = true ∧ ilt i ↑m = true ∧ ilt i ↑m = true ∧ ilt i ↑m = true ∧ True
noncomputable def pc_adB0 (m a B : Nat) (d v n : Nat → Int) (s : Nat → List Nat) (i : Int) : Prop := (!ieq (wr IntKind.i64 (Int.add (bitsM BinOp.andNot IntKind.i64 (wr IntKind.i64 (Int.add (↑a) 7)) 7) (wr IntKind.i64 (Int.mul 8 ↑(List.length (s (Int.toNat i))))))) ↑(WKind.len KR (up8 a + 8 * List.length (s (Int.toNat i))))) = false ∧ ieq ↑(WKind.len KR (up8 a + 8 * List.length (s (Int.toNat i)))) ↑(WKind.len KR (up8 a + 8 * List.length (s (Int.toNat i)))) = true ∧ (Nat.beq 0 0 && Nat.beq (WKind.len KR (up8 a + 8 * List.length (s (Int.toNat i)))) (WKind.len KR (up8 a + 8 * List.length (s (Int.toNat i)))) && sameCap (Cap.un 0) (Cap.un 0)) = true ∧ (42 = WKind.t KR ∧ [AV.sl true 1004 0 a (Cap.un 0)] = List.map (AV.int true IntKind.i64) (WKind.pre KR a) ++ [AV.sl true 1004 0 (WKind.len KR a) (Cap.un 0)] ∧ false = false ∧ 5 = 5 ∧ IntKind.u8 = IntKind.u8 ∧ rb a B = WKind.row KR a B ∧ true = true ∧ 0 < a ∧ 0 < up8 a + 8 * List.length (s (Int.toNat i))) ∧ Nat.beq (List.length (s (Int.toNat i))) 0 = true ∧ ((B < 2 ^ a ∧ a < 2 ^ 42) ∧ a < 2 ^ 41 ∧ List.length (s (Int.toNat i)) < 2 ^ 37 ∧ ∃ t, s (Int.toNat i) = bts t) ∧ Nat.beq (List.length (s (Int.toNat i))) 0 = true ∧ ieq (d (Int.toNat i)) 2 = true ∧ ieq (d (Int.toNat i)) 1 = false ∧ ilt 200 ↑(List.length (s (Int.toNat i))) = false ∧ Nat.blt (Int.toNat i) m = true ∧ inB i m = true ∧ ilt i 100 = true ∧ ilt i ↑m = true ∧ ilt i ↑m = true ∧ ilt i ↑m = true ∧ True
noncomputable def pc_adB1 (m a B : Nat) (d v n : Nat → Int) (s : Nat → List Nat) (i : Int) : Prop := (!ieq (wr IntKind.i64 (Int.add (bitsM BinOp.andNot IntKind.i64 (wr IntKind.i64 (Int.add (↑a) 7)) 7) (wr IntKind.i64 (Int.mul 8 ↑(List.length (s (Int.toNat i))))))) ↑(WKind.len KR (up8 a + 8 * List.length (s (Int.toNat i))))) = false ∧ ieq ↑(WKind.len KR (up8 a + 8 * List.length (s (Int.toNat i)))) ↑(WKind.len KR (up8 a + 8 * List.length (s (Int.toNat i)))) = true ∧ (Nat.beq 0 0 && Nat.beq (WKind.len KR (up8 a + 8 * List.length (s (Int.toNat i)))) (WKind.len KR (up8 a + 8 * List.length (s (Int.toNat i)))) && sameCap (Cap.un 0) (Cap.un 0)) = true ∧ (42 = WKind.t KR ∧ [AV.sl true 1004 0 a (Cap.un 0)] = List.map (AV.int true IntKind.i64) (WKind.pre KR a) ++ [AV.sl true 1004 0 (WKind.len KR a) (Cap.un 0)] ∧ false = false ∧ 5 = 5 ∧ IntKind.u8 = IntKind.u8 ∧ rb a B = WKind.row KR a B ∧ true = true ∧ 0 < a ∧ 0 < up8 a + 8 * List.length (s (Int.toNat i))) ∧ Nat.beq (List.length (s (Int.toNat i))) 0 = false ∧ ((B < 2 ^ a ∧ a < 2 ^ 42) ∧ a < 2 ^ 41 ∧ List.length (s (Int.toNat i)) < 2 ^ 37 ∧ ∃ t, s (Int.toNat i) = bts t) ∧ (Nat.ble (((a + 7) / 8 + List.length (s (Int.toNat i))) * 1) 140737488355328 && Nat.ble ((a + 7) / 8 + List.length (s (Int.toNat i))) 140737488355328) = true ∧ Nat.beq (List.length (enc a B)) ((a + 7) / 8) = true ∧ Nat.beq (List.length (s (Int.toNat i))) 0 = false ∧ ieq (d (Int.toNat i)) 2 = true ∧ ieq (d (Int.toNat i)) 1 = false ∧ ilt 200 ↑(List.length (s (Int.toNat i))) = false ∧ Nat.blt (Int.toNat i) m = true ∧ inB i m = true ∧ ilt i 100 = true ∧ ilt i ↑m = true ∧ ilt i ↑m = true ∧ ilt i ↑m = true ∧ True
noncomputable def pc_puA0 (m a B : Nat) (d v n : Nat → Int) (s : Nat → List Nat) (i : Int) : Prop := ieq (n (Int.toNat i)) (n (Int.toNat i)) = true ∧ ieq (v (Int.toNat i)) (v (Int.toNat i)) = true ∧ (42 = WKind.t KR ∧ [AV.nils] = List.map (AV.int false IntKind.i64) (WKind.preA KR) ++ [AV.nils] ∧ false = false ∧ a = 0) ∧ ieq (n (Int.toNat i)) 0 = true ∧ takesB (v (Int.toNat i)) (n (Int.toNat i)) = true ∧ (0 ≤ v (Int.toNat i) ∧ v (Int.toNat i) < 4294967296 ∧ B < 2 ^ a ∧ a < 2 ^ 42) ∧ (39 = WKind.t KW ∧ [AV.int false IntKind.i64 0, AV.nils] = List.map (AV.int false IntKind.i64) (WKind.preA KW) ++ [AV.nils] ∧ false = false ∧ a = 0) ∧ ieq (n (Int.toNat i)) 0 = true ∧ takesB (v (Int.toNat i)) (n (Int.toNat i)) = true ∧ (0 ≤ v (Int.toNat i) ∧ v (Int.toNat i) < 4294967296 ∧ B < 2 ^ a ∧ a < 2 ^ 42) ∧ ieq (d (Int.toNat i)) 2 = false ∧ ieq (d (Int.toNat i)) 1 = false ∧ ilt 200 ↑(List.length (s (Int.toNat i))) = false ∧ Nat.blt (Int.toNat i) m = true ∧ inB i m = true ∧ ilt i 100 = true ∧ ilt i ↑m = true ∧ ilt i ↑m = true ∧ ilt i ↑m = true ∧ True
noncomputable def pc_puA1 (m a B : Nat) (d v n : Nat → Int) (s : Nat → List Nat) (i : Int) : Prop := (!ieq ↑(a + Int.toNat (n (Int.toNat i))) ↑(WKind.len KR (a + Int.toNat (n (Int.toNat i))))) = false ∧ ieq ↑(WKind.len KR (a + Int.toNat (n (Int.toNat i)))) ↑(WKind.len KR (a + Int.toNat (n (Int.toNat i)))) = true ∧ (Nat.beq 0 0 && Nat.beq (WKind.len KR (a + Int.toNat (n (Int.toNat i)))) (WKind.len KR (a + Int.toNat (n (Int.toNat i)))) && sameCap (Cap.un 0) (Cap.un 0)) = true ∧ ieq (n (Int.toNat i)) (n (Int.toNat i)) = true ∧ ieq (v (Int.toNat i)) (v (Int.toNat i)) = true ∧ (42 = WKind.t KR ∧ [AV.nils] = List.map (AV.int false IntKind.i64) (WKind.preA KR) ++ [AV.nils] ∧ false = false ∧ a = 0 ∧ 0 < a + Int.toNat (n (Int.toNat i))) ∧ ieq (n (Int.toNat i)) 0 = false ∧ takesB (v (Int.toNat i)) (n (Int.toNat i)) = true ∧ (0 ≤ v (Int.toNat i) ∧ v (Int.toNat i) < 4294967296 ∧ B < 2 ^ a ∧ a < 2 ^ 42) ∧ (39 = WKind.t KW ∧ [AV.int false IntKind.i64 0, AV.nils] = List.map (AV.int false IntKind.i64) (WKind.preA KW) ++ [AV.nils] ∧ false = false ∧ a = 0 ∧ 0 < a + Int.toNat (n (Int.toNat i))) ∧ ieq (n (Int.toNat i)) 0 = false ∧ takesB (v (Int.toNat i)) (n (Int.toNat i)) = true ∧ (0 ≤ v (Int.toNat i) ∧ v (Int.toNat i) < 4294967296 ∧ B < 2 ^ a ∧ a < 2 ^ 42) ∧ ieq (d (Int.toNat i)) 2 = false ∧ ieq (d (Int.toNat i)) 1 = false ∧ ilt 200 ↑(List.length (s (Int.toNat i))) = false ∧ Nat.blt (Int.toNat i) m = true ∧ inB i m = true ∧ ilt i 100 = true ∧ ilt i ↑m = true ∧ ilt i ↑m = true ∧ ilt i ↑m = true ∧ True
noncomputable def pc_puAn (m a B : Nat) (d v n : Nat → Int) (s : Nat → List Nat) (i : Int) : Prop := ieq (n (Int.toNat i)) (n (Int.toNat i)) = true ∧ ieq (v (Int.toNat i)) (v (Int.toNat i)) = true ∧ (42 = WKind.t KR ∧ [AV.nils] = List.map (AV.int false IntKind.i64) (WKind.preA KR) ++ [AV.nils] ∧ false = false ∧ a = 0) ∧ takesB (v (Int.toNat i)) (n (Int.toNat i)) = false ∧ (0 ≤ v (Int.toNat i) ∧ v (Int.toNat i) < 4294967296 ∧ B < 2 ^ a ∧ a < 2 ^ 42) ∧ (39 = WKind.t KW ∧ [AV.int false IntKind.i64 0, AV.nils] = List.map (AV.int false IntKind.i64) (WKind.preA KW) ++ [AV.nils] ∧ false = false ∧ a = 0) ∧ takesB (v (Int.toNat i)) (n (Int.toNat i)) = false ∧ (0 ≤ v (Int.toNat i) ∧ v (Int.toNat i) < 4294967296 ∧ B < 2 ^ a ∧ a < 2 ^ 42) ∧ ieq (d (Int.toNat i)) 2 = false ∧ ieq (d (Int.toNat i)) 1 = false ∧ ilt 200 ↑(List.length (s (Int.toNat i))) = false ∧ Nat.blt (Int.toNat i) m = true ∧ inB i m = true ∧ ilt i 100 = true ∧ ilt i ↑m = true ∧ ilt i ↑m = true ∧ ilt i ↑m = true ∧ True
noncomputable def pc_puB1 (m a B : Nat) (d v n : Nat → Int) (s : Nat → List Nat) (i : Int) : Prop := (!ieq ↑(a + Int.toNat (n (Int.toNat i))) ↑(WKind.len KR (a + Int.toNat (n (Int.toNat i))))) = false ∧ ieq ↑(WKind.len KR (a + Int.toNat (n (Int.toNat i)))) ↑(WKind.len KR (a + Int.toNat (n (Int.toNat i)))) = true ∧ (Nat.beq 0 0 && Nat.beq (WKind.len KR (a + Int.toNat (n (Int.toNat i)))) (WKind.len KR (a + Int.toNat (n (Int.toNat i)))) && sameCap (Cap.un 0) (Cap.un 0)) = true ∧ ieq (n (Int.toNat i)) (n (Int.toNat i)) = true ∧ ieq (v (Int.toNat i)) (v (Int.toNat i)) = true ∧ (42 = WKind.t KR ∧ [AV.sl true 1004 0 a (Cap.un 0)] = List.map (AV.int true IntKind.i64) (WKind.pre KR a) ++ [AV.sl true 1004 0 (WKind.len KR a) (Cap.un 0)] ∧ false = false ∧ 5 = 5 ∧ IntKind.u8 = IntKind.u8 ∧ rb a B = WKind.row KR a B ∧ true = true ∧ 0 < a ∧ 0 < a + Int.toNat (n (Int.toNat i))) ∧ takesB (v (Int.toNat i)) (n (Int.toNat i)) = true ∧ (0 ≤ v (Int.toNat i) ∧ v (Int.toNat i) < 4294967296 ∧ B < 2 ^ a ∧ a < 2 ^ 42) ∧ (39 = WKind.t KW ∧ [AV.int true IntKind.i64 ↑a, AV.sl true 1003 0 ((a + 7) / 8) (Cap.un 0)] = List.map (AV.int true IntKind.i64) (WKind.pre KW a) ++ [AV.sl true 1003 0 (WKind.len KW a) (Cap.un 0)] ∧ false = false ∧ 5 = 5 ∧ IntKind.u8 = IntKind.u8 ∧ enc a B = WKind.row KW a B ∧ true = true ∧ 0 < a ∧ 0 < a + Int.toNat (n (Int.toNat i))) ∧ takesB (v (Int.toNat i)) (n (Int.toNat i)) = true ∧ (0 ≤ v (Int.toNat i) ∧ v (Int.toNat i) < 4294967296 ∧ B < 2 ^ a ∧ a < 2 ^ 42) ∧ ieq (d (Int.toNat i)) 2 = false ∧ ieq (d (Int.toNat i)) 1 = false ∧ ilt 200 ↑(List.length (s (Int.toNat i))) = false ∧ Nat.blt (Int.toNat i) m = true ∧ inB i m = true ∧ ilt i 100 = true ∧ ilt i ↑m = true ∧ ilt i ↑m = true ∧ ilt i ↑m = true ∧ True
noncomputable def pc_puBn (m a B : Nat) (d v n : Nat → Int) (s : Nat → List Nat) (i : Int) : Prop := (!ieq ↑a ↑(WKind.len KR a)) = false ∧ ieq ↑(WKind.len KR a) ↑(WKind.len KR a) = true ∧ (Nat.beq 0 0 && Nat.beq (WKind.len KR a) (WKind.len KR a) && sameCap (Cap.un 0) (Cap.un 0)) = true ∧ ieq (n (Int.toNat i)) (n (Int.toNat i)) = true ∧ ieq (v (Int.toNat i)) (v (Int.toNat i)) = true ∧ (42 = WKind.t KR ∧ [AV.sl true 1004 0 a (Cap.un 0)] = List.map (AV.int true IntKind.i64) (WKind.pre KR a) ++ [AV.sl true 1004 0 (WKind.len KR a) (Cap.un 0)] ∧ false = false ∧ 5 = 5 ∧ IntKind.u8 = IntKind.u8 ∧ rb a B = WKind.row KR a B ∧ true = true ∧ 0 < a ∧ 0 < a) ∧ takesB (v (Int.toNat i)) (n (Int.toNat i)) = false ∧ (0 ≤ v (Int.toNat i) ∧ v (Int.toNat i) < 4294967296 ∧ B < 2 ^ a ∧ a < 2 ^ 42) ∧ (39 = WKind.t KW ∧ [AV.int true IntKind.i64 ↑a, AV.sl true 1003 0 ((a + 7) / 8) (Cap.un 0)] = List.map (AV.int true IntKind.i64) (WKind.pre KW a) ++ [AV.sl true 1003 0 (WKind.len KW a) (Cap.un 0)] ∧ false = false ∧ 5 = 5 ∧ IntKind.u8 = IntKind.u8 ∧ enc a B = WKind.row KW a B ∧ true = true ∧ 0 < a ∧ 0 < a) ∧ takesB (v (Int.toNat i)) (n (Int.toNat i)) = false ∧ (0 ≤ v (Int.toNat i) ∧ v (Int.toNat i) < 4294967296 ∧ B < 2 ^ a ∧ a < 2 ^ 42) ∧ ieq (d (Int.toNat i)) 2 = false ∧ ieq (d (Int.toNat i)) 1 = false ∧ ilt 200 ↑(List.length (s (Int.toNat i))) = false ∧ Nat.blt (Int.toNat i) m = true ∧ inB i m = true ∧ ilt i 100 = true ∧ ilt i ↑m = true ∧ ilt i ↑m = true ∧ ilt i ↑m = true ∧ True
theorem w_x1A (m a B : Nat) (d v n : Nat → Int) (s : Nat → List Nat) (i : Int) : wkX 76 [0, 3, 4, 5] mA 1003 (exec L4 bT (wC a B) 1000 (s4 m i (gLA m (opF d v n s) True [false,false,false]))) = some (.exit 0, s4 m i (gLA m (opF d v n s) (pc_x1A m a B d v n s i) [])) := by kernel_rfl
theorem w_x2A (m a B : Nat) (d v n : Nat → Int) (s : Nat → List Nat) (i : Int) : wkX 76 [0, 3, 4, 5] mA 1003 (exec L4 bT (wC a B) 1000 (s4 m i (gLA m (opF d v n s) True [true,true,true,false]))) = some (.exit 0, s4 m i (gLA m (opF d v n s) (pc_x2A m a B d v n s i) [])) := by kernel_rfl
theorem w_r1A (m a B : Nat) (d v n : Nat → Int) (s : Nat → List Nat) (i : Int) : wkX 76 [2] mA 1003 (exec L4 bT (wC a B) 1000 (s4 m i (gLA m (opF d v n s) True [true,true,true,true,true]))) = some (.ret, r4 true (gLA m (opF d v n s) (pc_r1A m a B d v n s i) [])) := by kernel_rfl
theorem w_x1B (m a B : Nat) (d v n : Nat → Int) (s : Nat → List Nat) (i : Int) : wkX 76 [0, 3, 4, 5] (mB 1003 1004) 1005 (exec L4 bT (wC a B) 1000 (s4 m i (gLB m (opF d v n s) (a : Int) (enc a B) (rb a B) ((a + 7) / 8) a True [false,false,false]))) = some (.exit 0, s4 m i (gLB m (opF d v n s) (a : Int) (enc a B) (rb a B) ((a + 7) / 8) a (pc_x1B m a B d v n s i) [])) := by kernel_rfl
theorem w_x2B (m a B : Nat) (d v n : Nat → Int) (s : Nat → List Nat) (i : Int) : wkX 76 [0, 3, 4, 5] (mB 1003 1004) 1005 (exec L4 bT (wC a B) 1000 (s4 m i (gLB m (opF d v n s) (a : Int) (enc a B) (rb a B) ((a + 7) / 8) a True [true,true,true,false]))) = some (.exit 0, s4 m i (gLB m (opF d v n s) (a : Int) (enc a B) (rb a B) ((a + 7) / 8) a (pc_x2B m a B d v n s i) [])) := by kernel_rfl
theorem w_r1B (m a B : Nat) (d v n : Nat → Int) (s : Nat → List Nat) (i : Int) : wkX 76 [2] (mB 1003 1004) 1005 (exec L4 bT (wC a B) 1000 (s4 m i (gLB m (opF d v n s) (a : Int) (enc a B) (rb a B) ((a + 7) / 8) a True [true,true,true,true,true]))) = some (.ret, r4 true (gLB m (opF d v n s) (a : Int) (enc a B) (rb a B) ((a + 7) / 8) a (pc_r1B m a B d v n s i) [])) := by kernel_rfl
theorem w_alA (m a B : Nat) (d v n : Nat → Int) (s : Nat → List Nat) (i : Int) : wkX 76 [0, 3, 4, 5] mA 1003 (exec L4 bT (wC a B) 1000 (s4 m i (gLA m (opF d v n s) True [true,true,true,true,false,true]))) = some (.normal, s4 m (wr .i64 (i.add 1)) (gLA m (opF d v n s) (pc_alA m a B d v n s i) [])) := by kernel_rfl
theorem w_alB (m a B : Nat) (d v n : Nat → Int) (s : Nat → List Nat) (i : Int) : wkX 76 [0, 3, 4, 5] (mB 1003 1006) 1005 (exec L4 bT (wC a B) 1000 (s4 m i (gLB m (opF d v n s) (a : Int) (enc a B) (rb a B) ((a + 7) / 8) a True [true,true,true,true,false,true,false]))) = some (.normal, s4 m (wr .i64 (i.add 1)) (gLB m (opF d v n s) (anN a) (enc a B) (rb (up8 a) B) ((a + 7) / 8) (up8 a) (pc_alB m a B d v n s i) [])) := by kernel_rfl
theorem w_adA0 (m a B : Nat) (d v n : Nat → Int) (s : Nat → List Nat) (i : Int) : wkX 76 [0, 3, 4, 5] mA 1003 (exec L4 bT (wC a B) 1000 (s4 m i (gLA m (opF d v n s) True [true,true,true,true,false,false,true,true,true,false]))) = some (.normal, s4 m (wr .i64 (i.add 1)) ⟨mkH [hO m (opF d v n s), (1001, some (.cells 39 [.int true .i64 (atN 0 (s i.toNat).length), .nils] false)), (1002, some (.cells 42 [.nils] false))], 1003, (pc_adA0 m a B d v n s i), []⟩) := by kernel_rfl
theorem w_adA1 (m a B : Nat) (d v n : Nat → Int) (s : Nat → List Nat) (i : Int) : wkX 76 [0, 3, 4, 5] (mB 1004 1005) 1005 (exec L4 bT (wC a B) 1000 (s4 m i (gLA m (opF d v n s) True [true,true,true,true,false,false,true,false,false,false]))) = some (.normal, s4 m (wr .i64 (i.add 1)) (gLB m (opF d v n s) (atN 0 (s i.toNat).length) (natInts (s i.toNat)) (rb (up8 a + 8 * (s i.toNat).length) (B + numB (s i.toNat) * 2 ^ up8 a)) ((s i.toNat).length) (up8 a + 8 * (s i.toNat).length) (pc_adA1 m a B d v n s i) [])) := by kernel_rfl
theorem w_adB0 (m a B : Nat) (d v n : Nat → Int) (s : Nat → List Nat) (i : Int) : wkX 76 [0, 3, 4, 5] (mB 1003 1006) 1005 (exec L4 bT (wC a B) 1000 (s4 m i (gLB m (opF d v n s) (a : Int) (enc a B) (rb a B) ((a + 7) / 8) a True [true,true,true,true,false,false,true,true,true,false]))) = some (.normal, s4 m (wr .i64 (i.add 1)) (gLB m (opF d v n s) (atN a (s i.toNat).length) (enc a B) (rb (up8 a + 8 * (s i.toNat).length) (B + numB (s i.toNat) * 2 ^ up8 a)) ((a + 7) / 8) (up8 a + 8 * (s i.toNat).length) (pc_adB0 m a B d v n s i) [])) := by kernel_rfl
theorem w_adB1 (m a B : Nat) (d v n : Nat → Int) (s : Nat → List Nat) (i : Int) : wkX 76 [0, 3, 4, 5] (mB 1006 1007) 1005 (exec L4 bT (wC a B) 1000 (s4 m i (gLB m (opF d v n s) (a : Int) (enc a B) (rb a B) ((a + 7) / 8) a True [true,true,true,true,false,false,true,false,false,false]))) = some (.normal, s4 m (wr .i64 (i.add 1)) (gLB m (opF d v n s) (atN a (s i.toNat).length) (enc a B ++ natInts (s i.toNat)) (rb (up8 a + 8 * (s i.toNat).length) (B + numB (s i.toNat) * 2 ^ up8 a)) ((a + 7) / 8 + (s i.toNat).length) (up8 a + 8 * (s i.toNat).length) (pc_adB1 m a B d v n s i) [])) := by kernel_rfl
theorem w_puA0 (m a B : Nat) (d v n : Nat → Int) (s : Nat → List Nat) (i : Int) : wkX 76 [0, 3, 4, 5] mA 1003 (exec L4 bT (wC a B) 1000 (s4 m i (gLA m (opF d v n s) True [true,true,true,true,false,false,false,true,true,true,true]))) = some (.normal, s4 m (wr .i64 (i.add 1)) (gLA m (opF d v n s) (pc_puA0 m a B d v n s i) [])) := by kernel_rfl
theorem w_puA1 (m a B : Nat) (d v n : Nat → Int) (s : Nat → List Nat) (i : Int) : wkX 76 [0, 3, 4, 5] (mB 1004 1005) 1005 (exec L4 bT (wC a B) 1000 (s4 m i (gLA m (opF d v n s) True [true,true,true,true,false,false,false,true,false,true,false,false]))) = some (.normal, s4 m (wr .i64 (i.add 1)) (gLB m (opF d v n s) (((a + (n i.toNat).toNat : Nat) : Int)) (enc (a + (n i.toNat).toNat) (B + (v i.toNat).toNat * 2 ^ a)) (rb (a + (n i.toNat).toNat) (B + (v i.toNat).toNat * 2 ^ a)) ((a + (n i.toNat).toNat + 7) / 8) (a + (n i.toNat).toNat) (pc_puA1 m a B d v n s i) [])) := by kernel_rfl
theorem w_puAn (m a B : Nat) (d v n : Nat → Int) (s : Nat → List Nat) (i : Int) : wkX 76 [0, 3, 4, 5] mA 1003 (exec L4 bT (wC a B) 1000 (s4 m i (gLA m (opF d v n s) True [true,true,true,true,false,false,false,false,false]))) = some (.normal, s4 m (wr .i64 (i.add 1)) (gLA m (opF d v n s) (pc_puAn m a B d v n s i) [])) := by kernel_rfl
theorem w_puB1 (m a B : Nat) (d v n : Nat → Int) (s : Nat → List Nat) (i : Int) : wkX 76 [0, 3, 4, 5] (mB 1006 1007) 1005 (exec L4 bT (wC a B) 1000 (s4 m i (gLB m (opF d v n s) (a : Int) (enc a B) (rb a B) ((a + 7) / 8) a True [true,true,true,true,false,false,false,true,true,false]))) = some (.normal, s4 m (wr .i64 (i.add 1)) (gLB m (opF d v n s) (((a + (n i.toNat).toNat : Nat) : Int)) (enc (a + (n i.toNat).toNat) (B + (v i.toNat).toNat * 2 ^ a)) (rb (a + (n i.toNat).toNat) (B + (v i.toNat).toNat * 2 ^ a)) ((a + (n i.toNat).toNat + 7) / 8) (a + (n i.toNat).toNat) (pc_puB1 m a B d v n s i) [])) := by kernel_rfl
theorem w_puBn (m a B : Nat) (d v n : Nat → Int) (s : Nat → List Nat) (i : Int) : wkX 76 [0, 3, 4, 5] (mB 1006 1007) 1005 (exec L4 bT (wC a B) 1000 (s4 m i (gLB m (opF d v n s) (a : Int) (enc a B) (rb a B) ((a + 7) / 8) a True [true,true,true,true,false,false,false,false,false,false]))) = some (.normal, s4 m (wr .i64 (i.add 1)) (gLB m (opF d v n s) ((a : Int)) (enc a B) (rb a B) ((a + 7) / 8) (a) (pc_puBn m a B d v n s i) [])) := by kernel_rfl
open Go.Proofs Go.Proofs.Yticfagianocfiaa Go.RowKit
set_option maxRecDepth 1000000
/-! what goes on to a whole byte -/
theorem and_high (a : Nat) (ha : a < 2 ^ 64) : a &&& (2 ^ 64 - 8) = 8 * (a / 8) := by
  have e : 8 * (a / 8) = (a >>> 3) <<< 3 := by
    rw [Nat.shiftLeft_eq, Nat.shiftRight_eq_div_pow]; omega
  rw [e]
  apply Nat.eq_of_testBit_eq
  intro i
  rw [Nat.testBit_and, Nat.testBit_shiftLeft, Nat.testBit_shiftRight, show (2 : Nat) ^ 64 - 8 = 2 ^ 64 - (7 + 1) from rfl, Nat.testBit_two_pow_sub_succ (by decide), show (7 : Nat) = 2 ^ 3 - 1 from rfl, Nat.testBit_two_pow_sub_one]
  by_cases h3 : i < 3
  · simp [h3, show ¬ 3 ≤ i from by omega]
  · by_cases h64 : i < 64
    · simp [h3, h64, show 3 ≤ i from by omega, show 3 + (i - 3) = i from by omega]
    · have : a.testBit i = false := Nat.testBit_lt_two_pow (Nat.lt_of_lt_of_le ha (Nat.pow_le_pow_right (by decide) (by omega)))
      simp [h3, h64, show 3 ≤ i from by omega, show 3 + (i - 3) = i from by omega, this]
theorem anN_nat (a : Nat) (ha : a < 2 ^ 62) : anN (a : Int) = ((up8 a : Nat) : Int) := by
  unfold anN
  have e0 : wr .i64 ((a : Int).add 7) = ((a + 7 : Nat) : Int) := by show wr .i64 ((a : Int) + 7) = _; rw [wr_i64 (by omega) (by omega)]; omega
  rw [e0, bitsM_eq]
  have h := and_high (a + 7) (by omega)
  simp only [bits, BitVec.ofInt_natCast, BitVec.toNat_and, BitVec.toNat_ofNat, BitVec.toNat_not]
  have e2 : (a + 7) % 2 ^ IntKind.i64.bits = a + 7 := Nat.mod_eq_of_lt (by show a + 7 < 2 ^ 64; omega)
  rw [e2]
  have e3 : 2 ^ IntKind.i64.bits - 1 - (BitVec.ofInt IntKind.i64.bits 7).toNat = 2 ^ 64 - 8 := by decide
  rw [e3, h, ← wr_eq]
  rw [wr_i64 (by omega) (by omega)]
  unfold up8
  rw [Nat.mul_comm]
theorem atN_nat (a l : Nat) (ha : a < 2 ^ 60) (hl : l < 2 ^ 50) : atN (a : Int) l = ((up8 a + 8 * l : Nat) : Int) := by
  unfold atN
  have e1 : wr .i64 (Int.mul 8 (l : Int)) = ((8 * l : Nat) : Int) := by show wr .i64 (8 * (l : Int)) = _; rw [wr_i64 (by omega) (by omega)]; omega
  rw [anN_nat a (by omega), e1]
  have : up8 a < 2 ^ 61 := by unfold up8; omega
  show wr .i64 (((up8 a : Nat) : Int) + ((8 * l : Nat) : Int)) = _
  rw [wr_i64 (by omega) (by omega)]; omega
theorem enc_up (a B : Nat) : enc (up8 a) B = enc a B := by
  unfold enc
  rw [show (up8 a + 7) / 8 = (a + 7) / 8 from by unfold up8; omega]
theorem up8_len (a : Nat) : (up8 a + 7) / 8 = (a + 7) / 8 := by unfold up8; omega
/-- a byte of a text's number -/
theorem numB_byte : ∀ (l : List Nat) (i : Nat), (∀ x ∈ l, x < 256) → ∀ h : i < l.length, numB l / 2 ^ (8 * i) % 256 = l[i] := by
  intro l
  induction l with
  | nil => intro i _ h; simp at h
  | cons b r ih =>
    intro i hb h
    have h0 : b < 256 := hb b (List.mem_cons_self ..)
    cases i with
    | zero => simp [numB]; omega
    | succ i =>
      have e : numB (b :: r) / 2 ^ (8 * (i + 1)) = numB r / 2 ^ (8 * i) := by
        rw [show 8 * (i + 1) = 8 + 8 * i from by omega, Nat.pow_add, ← Nat.div_div_eq_div_mul]
        congr 1
        show (b + 256 * numB r) / 256 = numB r
        omega
      rw [e, ih i (fun x hx => hb x (List.mem_cons_of_mem _ hx)) (by simpa using h)]
      simp
theorem enc_app (a B : Nat) (s : List Nat) (hB : B < 2 ^ a) (hs : ∀ x ∈ s, x < 256) : enc a B ++ natInts s = enc (up8 a + 8 * s.length) (B + numB s * 2 ^ up8 a) := by
  have hB8 : B < 2 ^ up8 a := Nat.lt_of_lt_of_le hB (Nat.pow_le_pow_right (by omega) (by unfold up8; omega))
  have eu : up8 a = 8 * ((a + 7) / 8) := by unfold up8; rw [Nat.mul_comm]
  have el : (up8 a + 8 * s.length + 7) / 8 = (a + 7) / 8 + s.length := by rw [eu]; omega
  unfold enc
  rw [el]
  apply List.ext_getElem
  · rw [List.length_append, bytes_length, bytes_length]; simp [natInts]
  · intro i h1 h2
    rw [bytes_length] at h2
    rw [bytes_get, List.getElem_append]
    split
    · rename_i h
      rw [bytes_length] at h
      rw [bytes_get]
      congr 1
      rw [up_div _ _ _ _ (by omega)]
      have e : 2 ^ (up8 a - 8 * i) = 2 ^ (up8 a - 8 * i - 8) * 256 := by
        rw [show (256 : Nat) = 2 ^ 8 from rfl, ← Nat.pow_add]; congr 1; omega
      rw [e, ← Nat.mul_assoc, Nat.add_mul_mod_self_right]
    · rename_i h
      rw [bytes_length] at h
      have hk : i - (a + 7) / 8 < s.length := by omega
      have e1 : 8 * i = up8 a + 8 * (i - (a + 7) / 8) := by omega
      rw [e1, Nat.pow_add, ← Nat.div_div_eq_div_mul, up_div _ _ _ _ (Nat.le_refl _), Nat.sub_self, Nat.pow_zero, Nat.mul_one, Nat.div_eq_of_lt hB8, Nat.zero_add, numB_byte s _ hs hk]
      simp [natInts, bytes_length]
/-- an object is told otherwise -/
theorem SL.turn {P : Program} {N : Nat} {F : List Nat} {ρ0 : Rn} {H0 : Nat → Option AObj} {w0 : World} {st st' : St} {a : Act} {w : World} (h : SL P N F ρ0 H0 w0 st a w) (h1 : st'.env = st.env) (h2 : st'.g.nx = st.g.nx) (h3 : ∀ b o', st'.g.h.get b = some o' → ∃ o, st.g.h.get b = some o ∧ (o'.fixed = false → o.fixed = false) ∧ ∀ (ρ : Rn) (D : Nat → Prop) (r : Obj), OR P ρ D b o r → OR P ρ D b o' r) : SL P N F ρ0 H0 w0 st' a w := by
  obtain ⟨ρ, he, hg, hr, hf, hfx, hd⟩ := h
  refine ⟨ρ, by rw [h1, h2]; exact he, by rw [h2]; exact hg, ⟨fun b o hb => ?_, fun b o hb => ?_, fun b b' o o' hb hb' e => ?_⟩, ⟨hf.os, hf.tape, hf.output, hf.size, hf.keep, fun b o hb hx => ?_⟩, by rw [h2]; exact hfx, hd⟩
  · obtain ⟨o1, q1, _⟩ := h3 b o hb; rw [h2]; exact hr.dom b o1 q1
  · obtain ⟨o1, q1, _, q2⟩ := h3 b o hb
    obtain ⟨r, hr1, hr2⟩ := hr.at_ b o1 q1
    exact ⟨r, hr1, q2 _ _ _ (by rw [h2]; exact hr2)⟩
  · obtain ⟨o1, q1, _⟩ := h3 b o hb
    obtain ⟨o2, q2, _⟩ := h3 b' o' hb'
    exact hr.inj _ _ _ _ q1 q2 e
  · obtain ⟨o1, q1, qf, _⟩ := h3 b o hb
    exact hf.own b o1 q1 (qf hx)
theorem hA_turn {P : Program} {m : Nat} {f : Nat → List AV} : ∀ b o', (hLA m f).get b = some o' → ∃ o, (mkH [hO m f, (1001, some (.cells 39 [.int true .i64 0, .nils] false)), (1002, some (.cells 42 [.nils] false))]).get b = some o ∧ (o'.fixed = false → o.fixed = false) ∧ ∀ (ρ : Rn) (D : Nat → Prop) (r : Obj), OR P ρ D b o r → OR P ρ D b o' r := by
  intro b o' h
  have g1 : (hLA m f).get b = if b = 1000 then some (.rows 44 4 m f) else if b = 1001 then some (.cells 39 [.int false .i64 0, .nils] false) else if b = 1002 then some (.cells 42 [.nils] false) else none := by
    have e : hLA m f = (((Tr.e : Tr AObj).put 1002 (some (.cells 42 [.nils] false))).put 1001 (some (.cells 39 [.int false .i64 0, .nils] false))).put 1000 (some (.rows 44 4 m f)) := rfl
    rw [e, get_put _ _ _ _ (by omega), get_put _ _ _ _ (by omega), get_put _ _ _ _ (by omega), get_e]
  have g2 : (mkH [hO m f, (1001, some (.cells 39 [.int true .i64 0, .nils] false)), (1002, some (.cells 42 [.nils] false))]).get b = if b = 1000 then some (.rows 44 4 m f) else if b = 1001 then some (.cells 39 [.int true .i64 0, .nils] false) else if b = 1002 then some (.cells 42 [.nils] false) else none := by
    have e : mkH [hO m f, (1001, some (.cells 39 [.int true .i64 0, .nils] false)), (1002, some (.cells 42 [.nils] false))] = (((Tr.e : Tr AObj).put 1002 (some (.cells 42 [.nils] false))).put 1001 (some (.cells 39 [.int true .i64 0, .nils] false))).put 1000 (some (.rows 44 4 m f)) := rfl
    rw [e, get_put _ _ _ _ (by omega), get_put _ _ _ _ (by omega), get_put _ _ _ _ (by omega), get_e]
  rw [g1] at h
  rw [g2]
  by_cases e0 : b = 1000
  · rw [if_pos e0] at h ⊢; injection h with h; subst h; exact ⟨_, rfl, id, fun _ _ _ h => h⟩
  · rw [if_neg e0] at h ⊢
    by_cases e1 : b = 1001
    · rw [if_pos e1] at h ⊢
      injection h with h
      subst h
      refine ⟨_, rfl, fun _ => rfl, fun ρ D r ho => ?_⟩
      cases ho with
      | cells e cs gr arr fz hR ho hr => exact .cells _ _ _ arr fz (ints_conv (xs := [0]) (s := true) (s' := false) (k := .i64) (v := .nils) (v' := .nils) hR fun x hx => by cases hx; exact .nils) ho ⟨hr.1, hr.2.1, fun h => by cases h⟩
    · rw [if_neg e1] at h ⊢
      by_cases e2 : b = 1002
      · rw [if_pos e2] at h ⊢; injection h with h; subst h; exact ⟨_, rfl, id, fun _ _ _ h => h⟩
      · rw [if_neg e2] at h; cases h
theorem win_ok (k : Nat) : (Nat.beq 0 0 && Nat.beq k k && sameCap (.un 0) (.un 0)) = true := by
  have h := Nat.beq_refl k
  rw [h]; rfl
/-! the loop of BitsWrites -/
noncomputable def gL (m : Nat) (f : Nat → List AV) (a B : Nat) (pc : Prop) (ch : List Bool) : G := match a with
  | 0 => gLA m f pc ch
  | a + 1 => gLB m f ((a + 1 : Nat) : Int) (enc (a + 1) B) (rb (a + 1) B) ((a + 1 + 7) / 8) (a + 1) pc ch
theorem gL_pos {a : Nat} (h : 0 < a) (m : Nat) (f : Nat → List AV) (B : Nat) (pc : Prop) (ch : List Bool) : gL m f a B pc ch = gLB m f (a : Int) (enc a B) (rb a B) ((a + 7) / 8) a pc ch := by
  cases a with
  | zero => omega
  | succ a => rfl
noncomputable def sL (m : Nat) (f : Nat → List AV) (a B i : Nat) : St := s4 m (i : Int) (gL m f a B True [])
structure OpsOk (m : Nat) (v : Nat → Int) (s : Nat → List Nat) : Prop where
  v : ∀ j, j < m → 0 ≤ v j ∧ v j < 4294967296
  s : ∀ j, j < m → ∃ t : ByteArray, s j = bts t
theorem bts_lt (t : ByteArray) : ∀ x ∈ bts t, x < 256 := fun x hx => by
  unfold bts at hx
  obtain ⟨u, _, rfl⟩ := List.mem_map.1 hx
  exact u.toNat_lt
section
variable {ρ0 : Rn} {H0 : Nat → Option AObj} {w0 : World} {act : Act} {w : World}
/-- where a round leads -/
def Rd (m : Nat) (d v n : Nat → Int) (s : Nat → List Nat) (a B i : Nat) (ρ0 : Rn) (H0 : Nat → Option AObj) (w0 : World) (x : Exit) (a' : Act) (w' : World) : Prop :=
  (x = .exit 0 ∧ SL Try.prog 76 [] ρ0 H0 w0 (sL m (opF d v n s) a B i) a' w') ∨ (x = .ret ∧ SL Try.prog 76 [] ρ0 H0 w0 (r4 true (gL m (opF d v n s) a B True [])) a' w') ∨
  (x = .normal ∧ i < 100 ∧ ∃ a1 B1, B1 < 2 ^ a1 ∧ a1 ≤ a + 2000 ∧ SL Try.prog 76 [] ρ0 H0 w0 (sL m (opF d v n s) a1 B1 (i + 1)) a' w')
theorem kF (m : List Mv) (nx : Nat) : keepF [] m nx = true := rfl
theorem law_round {m a B i : Nat} {d v n : Nat → Int} {s : Nat → List Nat} (hO : OpsOk m v s) (hB : B < 2 ^ a) (ha : a < 2 ^ 40) (hi : i < 2 ^ 50) (hs : SL Try.prog 76 [] ρ0 H0 w0 (sL m (opF d v n s) a B i) act w) :
    L4.wp Try.prog (Rd m d v n s a B i ρ0 H0 w0) act w := by
  have hF : Fine a B := ⟨hB, by omega⟩
  have e1 : wr .i64 ((i : Int).add 1) = ((i + 1 : Nat) : Int) := by show wr .i64 ((i : Int) + 1) = _; rw [wr_i64 (by omega) (by omega)]; omega
  have hj : (i : Int).toNat = i := Int.toNat_natCast i
  rcases Nat.lt_or_ge i m with him | him
  · have t1 : ilt (i : Int) (m : Int) = true := ilt_t (by omega)
    have t3 : inB (i : Int) m = true := inB_t (by omega) (by omega)
    have t4 : Nat.blt (Int.toNat (i : Int)) m = true := blt_t (by rw [hj]; exact him)
    rcases Nat.lt_or_ge i 100 with hi1 | hi1
    · have t2 : ilt (i : Int) 100 = true := ilt_t (by omega)
      obtain ⟨t, ht⟩ := hO.s i him
      obtain ⟨hv0, hv1⟩ := hO.v i him
      obtain ⟨vv, hvv⟩ := Int.eq_ofNat_of_zero_le hv0
      by_cases h200 : 200 < (s i).length
      · have t5 : ilt 200 ((List.length (s (Int.toNat (i : Int))) : Nat) : Int) = true := by rw [hj]; exact ilt_t (by omega)
        rcases Nat.eq_zero_or_pos a with rfl | hpos
        · refine wp_mono (exec_sl bT_ok bM (wC_ok 0 B) wf4 (w_r1A m 0 B d v n s i) okA (fun v h => by cases h) ⟨t5, t4, t3, t2, t1, t1, t1, trivial⟩ rfl rfl (kF _ _) (hs.alike rfl rfl rfl)) ?_
          exact fun x a' w' ⟨h1, h2⟩ => .inr (.inl ⟨h1.ret, h2.alike rfl rfl rfl⟩)
        · unfold sL at hs
          rw [gL_pos hpos] at hs
          refine wp_mono (exec_sl bT_ok bM (wC_ok a B) wf4 (w_r1B m a B d v n s i) okB1 (fun v h => by cases h) ⟨t5, t4, t3, t2, t1, t1, t1, trivial⟩ rfl rfl (kF _ _) (hs.alike rfl rfl rfl)) ?_
          exact fun x a' w' ⟨h1, h2⟩ => .inr (.inl ⟨h1.ret, by rw [gL_pos hpos]; exact h2.alike rfl rfl rfl⟩)
      · have t5 : ilt 200 ((List.length (s (Int.toNat (i : Int))) : Nat) : Int) = false := by rw [hj]; exact ilt_f (by omega)
        by_cases hd1 : d i = 1
        · have t6 : ieq (d (Int.toNat (i : Int))) 1 = true := by rw [hj]; exact ieq_t hd1
          have hB8 : B < 2 ^ up8 a := Nat.lt_of_lt_of_le hB (Nat.pow_le_pow_right (by omega) (by unfold up8; omega))
          rcases Nat.eq_zero_or_pos a with rfl | hpos
          · have e0 := w_alA m 0 B d v n s i
            rw [e1] at e0
            refine wp_mono (exec_sl bT_ok bM (wC_ok 0 B) wf4 e0 okA (fun v h => by cases h) ⟨⟨rfl, rfl, rfl, rfl⟩, hF, t6, t5, t4, t3, t2, t1, t1, t1, trivial⟩ rfl rfl (kF _ _) (hs.alike rfl rfl rfl)) ?_
            exact fun x a' w' ⟨h1, h2⟩ => .inr (.inr ⟨h1.normal, hi1, 0, B, hB, by omega, h2.alike rfl rfl rfl⟩)
          · unfold sL at hs
            rw [gL_pos hpos] at hs
            have hup : 0 < up8 a := by unfold up8; omega
            have hk : KR.len (up8 a) = up8 a := rfl
            have e0 := w_alB m a B d v n s i
            rw [e1, anN_nat a (by omega)] at e0
            refine wp_mono (exec_sl bT_ok bM (wC_ok a B) wf4 e0 okB2 (fun v h => by cases h) ⟨?_, ieq_t rfl, ?_, ⟨rfl, rfl, rfl, rfl, rfl, rfl, rfl, hpos, hup⟩, hF, t6, t5, t4, t3, t2, t1, t1, t1, trivial⟩ rfl rfl (kF _ _) (hs.alike rfl rfl rfl)) ?_
            · show (!ieq (anN (a : Int)) ((up8 a : Nat) : Int)) = false
              rw [anN_nat a (by omega), ieq_t rfl]; rfl
            · show (Nat.beq 0 0 && Nat.beq (up8 a) (up8 a) && sameCap (.un 0) (.un 0)) = true
              exact win_ok (up8 a)
            · refine fun x a' w' ⟨h1, h2⟩ => .inr (.inr ⟨h1.normal, hi1, up8 a, B, hB8, by unfold up8; omega, ?_⟩)
              unfold sL
              rw [gL_pos hup, enc_up, up8_len]
              exact h2.alike rfl rfl rfl
        · have t6 : ieq (d (Int.toNat (i : Int))) 1 = false := by rw [hj]; exact ieq_f hd1
          by_cases hd2 : d i = 2
          · have t7 : ieq (d (Int.toNat (i : Int))) 2 = true := by rw [hj]; exact ieq_t hd2
            have hsl : ∀ x ∈ s i, x < 256 := by rw [ht]; exact bts_lt t
            have hl : (s i).length ≤ 200 := by omega
            have hcond : (Fine a B ∧ a < 2 ^ 41 ∧ List.length (s (Int.toNat (i : Int))) < 2 ^ 37 ∧ ∃ t : ByteArray, s (Int.toNat (i : Int)) = bts t) := ⟨hF, by omega, by rw [hj]; omega, t, by rw [hj]; exact ht⟩
            have hB1 : B + numB (s i) * 2 ^ up8 a < 2 ^ (up8 a + 8 * (s i).length) := by
              have h1 := numB_lt (s i) hsl
              have hB8 : B < 2 ^ up8 a := Nat.lt_of_lt_of_le hB (Nat.pow_le_pow_right (by omega) (by unfold up8; omega))
              have h2 : (numB (s i) + 1) * 2 ^ up8 a ≤ 2 ^ (8 * (s i).length) * 2 ^ up8 a := Nat.mul_le_mul_right _ h1
              rw [Nat.add_mul, Nat.one_mul] at h2
              rw [Nat.add_comm (up8 a), Nat.pow_add]
              omega
            have hle : up8 a + 8 * (s i).length ≤ a + 2000 := by unfold up8; omega
            have hat : atN (a : Int) (s i).length = ((up8 a + 8 * (s i).length : Nat) : Int) := atN_nat a _ (by omega) (by omega)
            have hw2 : ∀ k : Nat, (Nat.beq 0 0 && Nat.beq k k && sameCap (.un 0) (.un 0)) = true := fun k => win_ok k
            by_cases hz : (s i).length = 0
            · have tz : Nat.beq (List.length (s (Int.toNat (i : Int)))) 0 = true := by rw [hj, hz]; rfl
              have hs0 : s i = [] := List.length_eq_zero_iff.1 hz
              rcases Nat.eq_zero_or_pos a with rfl | hpos
              · have e0 := w_adA0 m 0 B d v n s i
                rw [e1, hj] at e0
                have h0 : atN 0 (s i).length = 0 := by
                  have : ((0 : Nat) : Int) = 0 := rfl
                  rw [this] at hat
                  rw [hat, hz]; rfl
                rw [h0] at e0
                refine wp_mono (exec_sl bT_ok bM (wC_ok 0 B) wf4 e0 okA (fun v h => by cases h) ?_ rfl rfl (kF _ _) (hs.alike rfl rfl rfl)) ?_
                · refine ⟨?_, ⟨rfl, rfl, rfl, rfl⟩, tz, hcond, tz, t7, t6, t5, t4, t3, t2, t1, t1, t1, trivial⟩
                  show (!ieq (atN 0 (s (Int.toNat (i : Int))).length) 0) = false
                  rw [hj, h0]; rfl
                · refine fun x a' w' ⟨h1, h2⟩ => .inr (.inr ⟨h1.normal, hi1, 0, B, hB, by omega, ?_⟩)
                  refine h2.turn rfl rfl ?_
                  exact hA_turn
              · unfold sL at hs
                rw [gL_pos hpos] at hs
                have hup : 0 < up8 a + 8 * (s i).length := by unfold up8; omega
                have e0 := w_adB0 m a B d v n s i
                rw [e1, hj, hat] at e0
                refine wp_mono (exec_sl bT_ok bM (wC_ok a B) wf4 e0 okB2 (fun v h => by cases h) ?_ rfl rfl (kF _ _) (hs.alike rfl rfl rfl)) ?_
                · refine ⟨?_, ieq_t rfl, hw2 _, ⟨rfl, rfl, rfl, rfl, rfl, rfl, rfl, hpos, by rw [hj]; exact hup⟩, tz, hcond, tz, t7, t6, t5, t4, t3, t2, t1, t1, t1, trivial⟩
                  show (!ieq (atN (a : Int) (s (Int.toNat (i : Int))).length) ((up8 a + 8 * (s (Int.toNat (i : Int))).length : Nat) : Int)) = false
                  rw [hj, hat, ieq_t rfl]; rfl
                · refine fun x a' w' ⟨h1, h2⟩ => .inr (.inr ⟨h1.normal, hi1, _, _, hB1, hle, ?_⟩)
                  unfold sL
                  rw [gL_pos hup, ← enc_app a B (s i) hB hsl, hs0]
                  rw [hs0] at h2
                  have el : (up8 a + 8 * List.length ([] : List Nat) + 7) / 8 = (a + 7) / 8 := up8_len a
                  rw [el]
                  have en : enc a B ++ natInts [] = enc a B := List.append_nil _
                  rw [en]
                  exact h2.alike rfl rfl rfl
            · have tz : Nat.beq (List.length (s (Int.toNat (i : Int)))) 0 = false := by rw [hj]; exact beq_f hz
              have hup : 0 < up8 a + 8 * (s i).length := by omega
              have el : (up8 a + 8 * (s i).length + 7) / 8 = (a + 7) / 8 + (s i).length := by unfold up8; omega
              have hen := enc_app a B (s i) hB hsl
              rcases Nat.eq_zero_or_pos a with rfl | hpos
              · have e0 := w_adA1 m 0 B d v n s i
                have h0 : atN 0 (s i).length = ((up8 0 + 8 * (s i).length : Nat) : Int) := hat
                rw [e1, hj, h0] at e0
                refine wp_mono (exec_sl bT_ok bM (wC_ok 0 B) wf4 e0 okB3 (fun v h => by cases h) ?_ rfl rfl (kF _ _) (hs.alike rfl rfl rfl)) ?_
                · refine ⟨?_, ieq_t rfl, hw2 _, ⟨rfl, rfl, rfl, rfl, by rw [hj]; exact hup⟩, tz, hcond, ?_, tz, t7, t6, t5, t4, t3, t2, t1, t1, t1, trivial⟩
                  · show (!ieq (atN 0 (s (Int.toNat (i : Int))).length) ((up8 0 + 8 * (s (Int.toNat (i : Int))).length : Nat) : Int)) = false
                    rw [hj, h0, ieq_t rfl]; rfl
                  · rw [hj, Bool.and_eq_true]; exact ⟨ble_t (by omega), ble_t (by omega)⟩
                · refine fun x a' w' ⟨h1, h2⟩ => .inr (.inr ⟨h1.normal, hi1, _, _, hB1, hle, ?_⟩)
                  unfold sL
                  rw [gL_pos hup, ← hen, el]
                  have e9 : enc 0 B ++ natInts (s i) = natInts (s i) := rfl
                  have e10 : (0 + 7) / 8 + (s i).length = (s i).length := by omega
                  rw [e9, e10]
                  exact h2.alike rfl rfl rfl
              · unfold sL at hs
                rw [gL_pos hpos] at hs
                have e0 := w_adB1 m a B d v n s i
                rw [e1, hj, hat] at e0
                refine wp_mono (exec_sl bT_ok bM (wC_ok a B) wf4 e0 okB4 (fun v h => by cases h) ?_ rfl rfl (kF _ _) (hs.alike rfl rfl rfl)) ?_
                · refine ⟨?_, ieq_t rfl, hw2 _, ⟨rfl, rfl, rfl, rfl, rfl, rfl, rfl, hpos, by rw [hj]; exact hup⟩, tz, hcond, ?_, beq_t (enc_length a B), tz, t7, t6, t5, t4, t3, t2, t1, t1, t1, trivial⟩
                  · show (!ieq (atN (a : Int) (s (Int.toNat (i : Int))).length) ((up8 a + 8 * (s (Int.toNat (i : Int))).length : Nat) : Int)) = false
                    rw [hj, hat, ieq_t rfl]; rfl
                  · rw [hj, Bool.and_eq_true]; exact ⟨ble_t (by omega), ble_t (by omega)⟩
                · refine fun x a' w' ⟨h1, h2⟩ => .inr (.inr ⟨h1.normal, hi1, _, _, hB1, hle, ?_⟩)
                  unfold sL
                  rw [gL_pos hup, ← hen, el]
                  exact h2.alike rfl rfl rfl
          · have t7 : ieq (d (Int.toNat (i : Int))) 2 = false := by rw [hj]; exact ieq_f hd2
            have hc : 0 ≤ v (Int.toNat (i : Int)) ∧ v (Int.toNat (i : Int)) < 4294967296 ∧ B < 2 ^ a ∧ a < 2 ^ 42 := by rw [hj]; exact ⟨hv0, hv1, hB, by omega⟩
            have q1 : ieq (n (Int.toNat (i : Int))) (n (Int.toNat (i : Int))) = true := ieq_t rfl
            have q2 : ieq (v (Int.toNat (i : Int))) (v (Int.toNat (i : Int))) = true := ieq_t rfl
            have hvn : (v i).toNat = vv := by rw [hvv]; exact Int.toNat_natCast vv
            have hw2 : ∀ k : Nat, (Nat.beq 0 0 && Nat.beq k k && sameCap (.un 0) (.un 0)) = true := fun k => win_ok k
            have hq : ∀ k : Nat, (!ieq (k : Int) (k : Int)) = false := fun k => by rw [ieq_t rfl]; rfl
            by_cases ht2 : Takes vv (n i)
            · have t8 : takesB (v (Int.toNat (i : Int))) (n (Int.toNat (i : Int))) = true := by rw [hj, hvv]; exact takesB_iff.2 ht2
              obtain ⟨nn, hnn⟩ := Int.eq_ofNat_of_zero_le ht2.1
              have hnt : (n i).toNat = nn := by rw [hnn]; exact Int.toNat_natCast nn
              have hn32 : nn ≤ 32 := by have := ht2.2.1; omega
              have hvlt : vv < 2 ^ nn := by have := ht2.2.2; rw [hnt] at this; exact this
              have hB1 : B + vv * 2 ^ a < 2 ^ (a + nn) := by
                have h2 : (vv + 1) * 2 ^ a ≤ 2 ^ nn * 2 ^ a := Nat.mul_le_mul_right _ hvlt
                rw [Nat.add_mul, Nat.one_mul] at h2
                rw [Nat.add_comm a, Nat.pow_add]
                omega
              rcases Nat.eq_zero_or_pos a with rfl | hpos
              · by_cases hn0 : nn = 0
                · have t9 : ieq (n (Int.toNat (i : Int))) 0 = true := by rw [hj]; exact ieq_t (by rw [hnn, hn0]; rfl)
                  have e0 := w_puA0 m 0 B d v n s i
                  rw [e1] at e0
                  refine wp_mono (exec_sl bT_ok bM (wC_ok 0 B) wf4 e0 okA (fun v h => by cases h) ⟨q1, q2, ⟨rfl, rfl, rfl, rfl⟩, t9, t8, hc, ⟨rfl, rfl, rfl, rfl⟩, t9, t8, hc, t7, t6, t5, t4, t3, t2, t1, t1, t1, trivial⟩ rfl rfl (kF _ _) (hs.alike rfl rfl rfl)) ?_
                  exact fun x a' w' ⟨h1, h2⟩ => .inr (.inr ⟨h1.normal, hi1, 0, B, hB, by omega, h2.alike rfl rfl rfl⟩)
                · have t9 : ieq (n (Int.toNat (i : Int))) 0 = false := by rw [hj]; exact ieq_f (by rw [hnn]; omega)
                  have hp : 0 < 0 + (n (Int.toNat (i : Int))).toNat := by rw [hj, hnt]; omega
                  have e0 := w_puA1 m 0 B d v n s i
                  rw [e1, hj, hnt, hvn] at e0
                  refine wp_mono (exec_sl bT_ok bM (wC_ok 0 B) wf4 e0 okB3 (fun v h => by cases h) ⟨hq _, ieq_t rfl, hw2 _, q1, q2, ⟨rfl, rfl, rfl, rfl, hp⟩, t9, t8, hc, ⟨rfl, rfl, rfl, rfl, hp⟩, t9, t8, hc, t7, t6, t5, t4, t3, t2, t1, t1, t1, trivial⟩ rfl rfl (kF _ _) (hs.alike rfl rfl rfl)) ?_
                  refine fun x a' w' ⟨h1, h2⟩ => .inr (.inr ⟨h1.normal, hi1, _, _, hB1, by omega, ?_⟩)
                  unfold sL
                  rw [gL_pos (by omega)]
                  exact h2.alike rfl rfl rfl
              · unfold sL at hs
                rw [gL_pos hpos] at hs
                have hp : 0 < a + (n (Int.toNat (i : Int))).toNat := by omega
                have e0 := w_puB1 m a B d v n s i
                rw [e1, hj, hnt, hvn] at e0
                refine wp_mono (exec_sl bT_ok bM (wC_ok a B) wf4 e0 okB4 (fun v h => by cases h) ⟨hq _, ieq_t rfl, hw2 _, q1, q2, ⟨rfl, rfl, rfl, rfl, rfl, rfl, rfl, hpos, hp⟩, t8, hc, ⟨rfl, rfl, rfl, rfl, rfl, rfl, rfl, hpos, hp⟩, t8, hc, t7, t6, t5, t4, t3, t2, t1, t1, t1, trivial⟩ rfl rfl (kF _ _) (hs.alike rfl rfl rfl)) ?_
                refine fun x a' w' ⟨h1, h2⟩ => .inr (.inr ⟨h1.normal, hi1, _, _, hB1, by omega, ?_⟩)
                unfold sL
                rw [gL_pos (by omega)]
                exact h2.alike rfl rfl rfl
            · have t8 : takesB (v (Int.toNat (i : Int))) (n (Int.toNat (i : Int))) = false := by
                rw [hj, hvv]
                cases hx : takesB (vv : Int) (n i) with
                | false => rfl
                | true => exact absurd (takesB_iff.1 hx) ht2
              rcases Nat.eq_zero_or_pos a with rfl | hpos
              · have e0 := w_puAn m 0 B d v n s i
                rw [e1] at e0
                refine wp_mono (exec_sl bT_ok bM (wC_ok 0 B) wf4 e0 okA (fun v h => by cases h) ⟨q1, q2, ⟨rfl, rfl, rfl, rfl⟩, t8, hc, ⟨rfl, rfl, rfl, rfl⟩, t8, hc, t7, t6, t5, t4, t3, t2, t1, t1, t1, trivial⟩ rfl rfl (kF _ _) (hs.alike rfl rfl rfl)) ?_
                exact fun x a' w' ⟨h1, h2⟩ => .inr (.inr ⟨h1.normal, hi1, 0, B, hB, by omega, h2.alike rfl rfl rfl⟩)
              · unfold sL at hs
                rw [gL_pos hpos] at hs
                have e0 := w_puBn m a B d v n s i
                rw [e1] at e0
                refine wp_mono (exec_sl bT_ok bM (wC_ok a B) wf4 e0 okB4 (fun v h => by cases h) ⟨hq _, ieq_t rfl, hw2 _, q1, q2, ⟨rfl, rfl, rfl, rfl, rfl, rfl, rfl, hpos, hpos⟩, t8, hc, ⟨rfl, rfl, rfl, rfl, rfl, rfl, rfl, hpos, hpos⟩, t8, hc, t7, t6, t5, t4, t3, t2, t1, t1, t1, trivial⟩ rfl rfl (kF _ _) (hs.alike rfl rfl rfl)) ?_
                refine fun x a' w' ⟨h1, h2⟩ => .inr (.inr ⟨h1.normal, hi1, _, _, hB, by omega, ?_⟩)
                unfold sL
                rw [gL_pos hpos]
                exact h2.alike rfl rfl rfl
    · have t2 : ilt (i : Int) 100 = false := ilt_f (by omega)
      rcases Nat.eq_zero_or_pos a with rfl | hpos
      · refine wp_mono (exec_sl bT_ok bM (wC_ok 0 B) wf4 (w_x2A m 0 B d v n s i) okA (fun v h => by cases h) ⟨t2, t1, t1, t1, trivial⟩ rfl rfl (kF _ _) (hs.alike rfl rfl rfl)) ?_
        exact fun x a' w' ⟨h1, h2⟩ => .inl ⟨h1.exit, h2.alike rfl rfl rfl⟩
      · unfold sL at hs
        rw [gL_pos hpos] at hs
        refine wp_mono (exec_sl bT_ok bM (wC_ok a B) wf4 (w_x2B m a B d v n s i) okB1 (fun v h => by cases h) ⟨t2, t1, t1, t1, trivial⟩ rfl rfl (kF _ _) (hs.alike rfl rfl rfl)) ?_
        exact fun x a' w' ⟨h1, h2⟩ => .inl ⟨h1.exit, by unfold sL; rw [gL_pos hpos]; exact h2.alike rfl rfl rfl⟩
  · have t1 : ilt (i : Int) (m : Int) = false := ilt_f (by omega)
    rcases Nat.eq_zero_or_pos a with rfl | hpos
    · refine wp_mono (exec_sl bT_ok bM (wC_ok 0 B) wf4 (w_x1A m 0 B d v n s i) okA (fun v h => by cases h) ⟨t1, t1, t1, trivial⟩ rfl rfl (kF _ _) (hs.alike rfl rfl rfl)) ?_
      exact fun x a' w' ⟨h1, h2⟩ => .inl ⟨h1.exit, h2.alike rfl rfl rfl⟩
    · unfold sL at hs
      rw [gL_pos hpos] at hs
      refine wp_mono (exec_sl bT_ok bM (wC_ok a B) wf4 (w_x1B m a B d v n s i) okB1 (fun v h => by cases h) ⟨t1, t1, t1, trivial⟩ rfl rfl (kF _ _) (hs.alike rfl rfl rfl)) ?_
      exact fun x a' w' ⟨h1, h2⟩ => .inl ⟨h1.exit, by unfold sL; rw [gL_pos hpos]; exact h2.alike rfl rfl rfl⟩
end
open Go.Proofs Go.Proofs.Yticfagianocfiaa Go.RowKit
set_option maxRecDepth 1000000
noncomputable def Z4 : Code := c2 (c2 (c2 (c2 (bodyOf 4))))
noncomputable def R4a : Code := c1 (bodyOf 4)
noncomputable def R4b : Code := c1 (c2 (bodyOf 4))
noncomputable def R4c : Code := c1 (c2 (c2 (bodyOf 4)))
noncomputable def R4d : Code := c1 (c1 (c2 (c2 (c2 (bodyOf 4)))))
theorem body4 : bodyOf 4 = .seq R4a (.seq R4b (.seq R4c (.seq (.seq R4d (.block 0 (.loop L4))) Z4))) := by kernel_rfl
theorem wf4' : wf 76 R4a = true ∧ wf 76 R4b = true ∧ wf 76 R4c = true ∧ wf 76 R4d = true ∧ wf 76 Z4 = true := ⟨by kernel_rfl, by kernel_rfl, by kernel_rfl, by kernel_rfl, by kernel_rfl⟩
theorem fits4 : Try.f4.body = some (bodyOf 4) ∧ Try.f4.ntmps = 76 := ⟨by kernel_rfl, by kernel_rfl⟩
noncomputable def sEqs (l r : List Nat) : Prop := sEq l r = true
noncomputable def cRA (a : Nat) : Prop := 42 = KR.t ∧ [AV.nils] = KR.preA.map (.int false .i64) ++ [.nils] ∧ false = false ∧ a = 0
noncomputable def cRA2 (a : Nat) : Prop := KR.t = KR.t ∧ KR.preA.map (AV.int false .i64) ++ [.nils] = KR.preA.map (.int false .i64) ++ [.nils] ∧ false = false ∧ a = 0
noncomputable def pcz (p q : Prop) (e : Prop) : Prop := e ∧ e ∧ e ∧ e ∧ p ∧ e ∧ e ∧ e ∧ q
noncomputable def pc_zA (a B : Nat) : Prop := sEqs [] (nbytes ((a + 7) / 8) B) ∧ sEqs [] (nbytes ((a + 7) / 8) B) ∧ sEqs [] (nbytes ((a + 7) / 8) B) ∧ sEqs [] (nbytes ((a + 7) / 8) B) ∧ cRA2 a ∧ Fine a B ∧ sEqs [] (nbytes ((a + 7) / 8) B) ∧ sEqs [] (nbytes ((a + 7) / 8) B) ∧ sEqs [] (nbytes ((a + 7) / 8) B) ∧ cRA a ∧ Fine a B ∧ True
noncomputable def sz (a B : Nat) : Prop := sEqs (numBytes (List.take ((a + 7) / 8) (List.drop 0 (enc a B)))) (nbytes ((a + 7) / 8) B)
noncomputable def cRB (t : Nat) (cs : List AV) (a B b2 : Nat) (xs : List Int) : Prop := t = KR.t ∧ cs = (KR.pre a).map (.int true .i64) ++ [.sl true b2 0 (KR.len a) (.un 0)] ∧ false = false ∧ 5 = 5 ∧ IntKind.u8 = .u8 ∧ xs = KR.row a B ∧ true = true ∧ 0 < a ∧ 0 < a
noncomputable def bl (a B : Nat) : Prop := Nat.ble (0 + (a + 7) / 8) (enc a B).length = true
noncomputable def pc_zB (a B : Nat) : Prop := sz a B ∧ sz a B ∧ sz a B ∧ sz a B ∧ cRB KR.t ((KR.pre a).map (.int true .i64) ++ [.sl true 1005 0 (KR.len a) (.un 0)]) a B 1005 (KR.row a B) ∧ Fine a B ∧ sz a B ∧ sz a B ∧ bl a B ∧ sz a B ∧ cRB 42 [.sl true 1004 0 a (.un 0)] a B 1004 (rb a B) ∧ Fine a B ∧ bl a B ∧ True
theorem w_zA (m a B : Nat) (d v n : Nat → Int) (s : Nat → List Nat) (i : Int) : wkX 76 [2] mA 1003 (exec Z4 bT (wC a B) 1000 (s4 m i (gLA m (opF d v n s) True [true,true,true,true,true,true,true]))) = some (.ret, r4 true (gLA m (opF d v n s) (pc_zA a B) [])) := by kernel_rfl
theorem w_zB (m a B : Nat) (d v n : Nat → Int) (s : Nat → List Nat) (i : Int) : wkX 76 [2] (mB 1003 1006) 1005 (exec Z4 bT (wC a B) 1000 (s4 m i (gLB m (opF d v n s) (a : Int) (enc a B) (rb a B) ((a + 7) / 8) a True [true,true,true,true,true,true,true]))) = some (.ret, r4 true (gLB m (opF d v n s) (a : Int) (enc a B) (rb a B) ((a + 7) / 8) a (pc_zB a B) [])) := by kernel_rfl
noncomputable def g0 (m : Nat) (f : Nat → List AV) : G := ⟨mkH [hO m f], 1001, True, []⟩
noncomputable def g1 (m : Nat) (f : Nat → List AV) : G := ⟨mkH [hO m f, (1001, some (.cells 39 [.int false .i64 0, .nils] false))], 1002, True, []⟩
def ma0 : List Mv := [⟨1000, 1000, false⟩]
def ma1 : List Mv := [⟨1000, 1000, false⟩, ⟨1001, 1001, false⟩]
theorem okm0 : okM ma0 1001 = true := by kernel_rfl
theorem okm1 : okM ma1 1002 = true := by kernel_rfl
theorem w_a (m : Nat) (d v n : Nat → Int) (s : Nat → List Nat) : wkX 76 [0] ma0 1001 (exec R4a bT bC 1000 ⟨argsEnv [.osl 1000 m] 0 .e, g0 m (opF d v n s), [], .no, []⟩) = some (.normal, ⟨mkEnv 76 [(0, .osl 1000 m)], g0 m (opF d v n s), [], .no, []⟩) := by kernel_rfl
theorem w_b (m : Nat) (d v n : Nat → Int) (s : Nat → List Nat) : wkX 76 [0, 3] ma1 1002 (exec R4b bT bC 1000 ⟨mkEnv 76 [(0, .osl 1000 m)], g0 m (opF d v n s), [], .no, []⟩) = some (.normal, ⟨mkEnv 76 [(0, .osl 1000 m), (3, .ptr 1001 0)], g1 m (opF d v n s), [], .no, []⟩) := by kernel_rfl
theorem w_c (m : Nat) (d v n : Nat → Int) (s : Nat → List Nat) : wkX 76 [0, 3, 4] mA 1003 (exec R4c bT bC 1000 ⟨mkEnv 76 [(0, .osl 1000 m), (3, .ptr 1001 0)], g1 m (opF d v n s), [], .no, []⟩) = some (.normal, ⟨mkEnv 76 [(0, .osl 1000 m), (3, .ptr 1001 0), (4, .ptr 1002 0)], gLA m (opF d v n s) True [], [], .no, []⟩) := by kernel_rfl
theorem w_d (m : Nat) (d v n : Nat → Int) (s : Nat → List Nat) : wkX 76 [0, 3, 4, 5] mA 1003 (exec R4d bT bC 1000 ⟨mkEnv 76 [(0, .osl 1000 m), (3, .ptr 1001 0), (4, .ptr 1002 0)], gLA m (opF d v n s) True [], [], .no, []⟩) = some (.normal, ⟨mkEnv 76 [(0, .osl 1000 m), (3, .ptr 1001 0), (4, .ptr 1002 0), (5, .int false .i64 0)], gLA m (opF d v n s) True [], [], .no, []⟩) := by kernel_rfl
theorem res4 (b : Bool) (g : G) : SX.results bT (mkEnv 76 [(2, .bool false b)]) g Try.f4.results.toList = some [.bool false b] := by kernel_rfl
theorem sEq_self (l : List Nat) : sEq l l = true := by
  induction l with
  | nil => rfl
  | cons x r ih =>
    show (bif x.beq x then sEq r r else false) = true
    rw [Nat.beq_refl, cond_true]; exact ih
theorem sz_ok (a B : Nat) : sz a B := by
  unfold sz sEqs
  have e : numBytes (List.take ((a + 7) / 8) (List.drop 0 (enc a B))) = nbytes ((a + 7) / 8) B := by
    rw [List.drop_zero, List.take_of_length_le (by rw [enc_length]; exact Nat.le_refl _)]
    exact bytes_nat _ _
  rw [e]; exact sEq_self _
section
variable {ρ0 : Rn} {H0 : Nat → Option AObj} {w0 : World} {act : Act} {w : World}
/-- how the law ends -/
def En (m : Nat) (d v n : Nat → Int) (s : Nat → List Nat) (ρ0 : Rn) (H0 : Nat → Option AObj) (w0 : World) (a' : Act) (w' : World) : Prop := ∃ a B, SL Try.prog 76 [] ρ0 H0 w0 (r4 true (gL m (opF d v n s) a B True [])) a' w'
theorem law_loop {m : Nat} {d v n : Nat → Int} {s : Nat → List Nat} (hO : OpsOk m v s) (hs : SL Try.prog 76 [] ρ0 H0 w0 (s4 m 0 (gLA m (opF d v n s) True [])) act w) :
    (Code.block 0 (.loop L4)).wp Try.prog (fun x a' w' => (x = .normal ∧ ∃ a B i, B < 2 ^ a ∧ a < 2 ^ 40 ∧ SL Try.prog 76 [] ρ0 H0 w0 (sL m (opF d v n s) a B i) a' w') ∨ (x = .ret ∧ En m d v n s ρ0 H0 w0 a' w')) act w := by
  refine wp_block (loop_sl (ι := Nat × Nat × Nat) (fun i => sL m (opF d v n s) i.1 i.2.1 i.2.2) (fun i => i.2.1 < 2 ^ i.1 ∧ i.1 ≤ 2000 * i.2.2 ∧ i.2.2 ≤ 100) (fun i => 100 - i.2.2) (0, 0, 0) ⟨Nat.zero_lt_one, Nat.zero_le _, Nat.zero_le _⟩ (hs.alike rfl rfl rfl) ?_)
  rintro ⟨a, B, i⟩ ⟨h1, h2, h3⟩ act w hs
  simp only at h1 h2 h3
  have h4 : i < 2 ^ 50 := by omega
  refine wp_mono (law_round hO h1 (by omega) h4 hs) ?_
  rintro x a' w' (⟨rfl, hs'⟩ | ⟨rfl, hs'⟩ | ⟨rfl, hi, a1, B1, q1, q2, hs'⟩)
  · exact .inl ⟨rfl, a, B, i, h1, by omega, hs'⟩
  · exact .inr ⟨rfl, a, B, hs'⟩
  · have g1 : a1 ≤ 2000 * (i + 1) := by omega
    have g2 : i + 1 ≤ 100 := hi
    have g3 : 100 - (i + 1) < 100 - i := by omega
    exact ⟨(a1, B1, i + 1), ⟨q1, g1, g2⟩, g3, hs'⟩
theorem law_end {m a B i : Nat} {d v n : Nat → Int} {s : Nat → List Nat} (hB : B < 2 ^ a) (ha : a < 2 ^ 40) (hs : SL Try.prog 76 [] ρ0 H0 w0 (sL m (opF d v n s) a B i) act w) :
    Z4.wp Try.prog (fun x a' w' => x = .ret ∧ En m d v n s ρ0 H0 w0 a' w') act w := by
  have hF : Fine a B := ⟨hB, by omega⟩
  rcases Nat.eq_zero_or_pos a with rfl | hpos
  · have e : sEqs [] (nbytes ((0 + 7) / 8) B) := rfl
    refine wp_mono (exec_sl bT_ok bM (wC_ok 0 B) wf4'.2.2.2.2 (w_zA m 0 B d v n s i) okA (fun v h => by cases h) ⟨e, e, e, e, ⟨rfl, rfl, rfl, rfl⟩, hF, e, e, e, ⟨rfl, rfl, rfl, rfl⟩, hF, trivial⟩ rfl rfl (kF _ _) (hs.alike rfl rfl rfl)) ?_
    exact fun x a' w' ⟨h1, h2⟩ => ⟨h1.ret, 0, B, h2.alike rfl rfl rfl⟩
  · have e := sz_ok a B
    have eb : bl a B := ble_t (by rw [enc_length]; omega)
    unfold sL at hs
    rw [gL_pos hpos] at hs
    refine wp_mono (exec_sl bT_ok bM (wC_ok a B) wf4'.2.2.2.2 (w_zB m a B d v n s i) okB2 (fun v h => by cases h) ⟨e, e, e, e, ⟨rfl, rfl, rfl, rfl, rfl, rfl, rfl, hpos, hpos⟩, hF, e, e, eb, e, ⟨rfl, rfl, rfl, rfl, rfl, rfl, rfl, hpos, hpos⟩, hF, eb, trivial⟩ rfl rfl (kF _ _) (hs.alike rfl rfl rfl)) ?_
    exact fun x a' w' ⟨h1, h2⟩ => ⟨h1.ret, a, B, by rw [gL_pos hpos]; exact h2.alike rfl rfl rfl⟩
end
/-- BitsWrites: it returns true -/
theorem bitsWrites_calls {ρ : Rn} {W : World} {x : Value} (m : Nat) (d v n : Nat → Int) (s : Nat → List Nat) (hOk : OpsOk m v s) (hg : Gl ρ 1001) (hx : VR ρ (Dm N0 1001) (.osl 1000 m) x) (hw : GR Try.prog ρ (Dm N0 1001) (mkH [hO m (opF d v n s)]).get W) :
    Calls Try.prog 4 #[x] W fun e W' => e = .returned (.bool true) ∧ Below W.heap.size W W' := by
  have hH : ∀ b o, (mkH [SX.hO m (opF d v n s)]).get b = some o → o.fixed = true := by
    intro b o hb
    have e : mkH [SX.hO m (opF d v n s)] = (Tr.e : Tr AObj).put 1000 (some (.rows 44 4 m (opF d v n s))) := rfl
    rw [e, get_put _ _ _ _ (by omega), get_e] at hb
    split at hb
    · injection hb with hb; subst hb; rfl
    · cases hb
  refine (calls_sl (F := []) (g := g0 m (opF d v n s)) (ρ := ρ) (w := W) (vs := [x]) (args := [.osl 1000 m]) bT_ok Try.func4 fits4.1 (by rw [fits4.2]; show 1 ≤ 76; omega) (by rw [fits4.2]; omega)
    (R := fun st' l => l = [.bool false true]) (fun b hb => by cases hb) hg (LR.cons hx (LR.nil _ _)) hw ?_).mono ?_
  · intro act hs
    rw [fits4.2] at hs ⊢
    rw [body4]
    have fin : ∀ a' w', En m d v n s ρ (g0 m (opF d v n s)).h.get W a' w' → ∃ st' l, SL Try.prog 76 [] ρ (g0 m (opF d v n s)).h.get W st' a' w' ∧ st'.g.pc ∧ SX.results bT st'.env st'.g Try.f4.results.toList = some l ∧ l = [.bool false true] := by
      rintro a' w' ⟨a, B, hs'⟩
      refine ⟨_, _, hs', ?_, res4 true _, rfl⟩
      cases a <;> trivial
    refine wp_seq (wp_mono (exec_sl bT_ok bM bC_ok wf4'.1 (w_a m d v n s) okm0 (fun v h => by cases h) trivial rfl rfl (kF _ _) hs) ?_)
    rintro x a1 w1 ⟨hx1, hs1⟩
    obtain rfl := hx1.normal
    refine wp_seq (wp_mono (exec_sl bT_ok bM bC_ok wf4'.2.1 (w_b m d v n s) okm1 (fun v h => by cases h) trivial rfl rfl (kF _ _) hs1) ?_)
    rintro x a2 w2 ⟨hx2, hs2⟩
    obtain rfl := hx2.normal
    refine wp_seq (wp_mono (exec_sl bT_ok bM bC_ok wf4'.2.2.1 (w_c m d v n s) okA (fun v h => by cases h) trivial rfl rfl (kF _ _) hs2) ?_)
    rintro x a3 w3 ⟨hx3, hs3⟩
    obtain rfl := hx3.normal
    refine wp_seq (wp_seq (wp_mono (exec_sl bT_ok bM bC_ok wf4'.2.2.2.1 (w_d m d v n s) okA (fun v h => by cases h) trivial rfl rfl (kF _ _) hs3) ?_))
    rintro x a4 w4 ⟨hx4, hs4⟩
    obtain rfl := hx4.normal
    refine wp_mono (law_loop hOk (hs4.sim rfl rfl (.same (.same (.same (.int .nil)))) rfl rfl)) ?_
    rintro x a5 w5 (⟨rfl, a, B, i, hB, ha, hs5⟩ | ⟨rfl, hs5⟩)
    · refine wp_mono (law_end hB ha hs5) ?_
      rintro x a6 w6 ⟨rfl, hs6⟩
      exact ⟨.inr rfl, fin _ _ hs6⟩
    · exact ⟨.inr rfl, fin _ _ hs5⟩
  · rintro e W' ⟨st', l, y, ρ', rfl, rfl, hy, _, _, hfr, _⟩
    have hy' : VR ρ' (Dm N0 st'.g.nx) (.bool false true) y := hy
    obtain rfl := hy'.bool_inv
    exact ⟨rfl, hfr.os, hfr.tape, hfr.output, hfr.size, fun k hk => hfr.keep k hk fun b o hb hfx => by rw [hH b o hb] at hfx; cases hfx⟩
open Go.Proofs Go.Proofs.Yticfagianocfiaa Go.RowKit
set_option maxRecDepth 1000000
/-- a run out of nothing that returns true -/
theorem says_calls {prim : CallT} (hp : CallOk Try.prog prim) {nx : Nat} {ch : List Bool} {f : FuncId} {args : List AV} {vs : List Value} {W : World} {ρ : Rn} (h : saysTrue (callN bT prim 1000 20 .no f args ⟨.e, nx, True, ch⟩) = true) (hpc : pcOf (callN bT prim 1000 20 .no f args ⟨.e, nx, True, ch⟩)) (hg : Gl ρ nx) (hL : LR ρ (Dm N0 nx) args vs) :
    Calls Try.prog f vs.toArray W fun e W' => e = .returned (.bool true) ∧ Below W.heap.size W W' := by
  cases hr : callN bT prim 1000 20 .no f args ⟨.e, nx, True, ch⟩ with
  | none => rw [hr] at h; cases h
  | some q =>
    obtain ⟨cr, pm', g'⟩ := q
    rw [hr] at h hpc
    obtain ⟨hfn, hok⟩ := (sx_ok bT_ok bM hp 1000 20).ok _ _ _ _ _ _ _ hr
    have he : ∀ b, (Tr.e : Tr AObj).get b = none := fun b => get_e b
    have hG : GR Try.prog ρ (Dm N0 nx) (Tr.e : Tr AObj).get W := ⟨fun b o hb => by { rw [he] at hb; cases hb }, fun b o hb => by { rw [he] at hb; cases hb }, fun b b' o o' hb => by { rw [he] at hb; cases hb }⟩
    refine ((hok N0 ρ vs W hpc (fun b hb => hb.elim) hg hL hG).1 rfl).mono fun e W' ⟨ρ', hf, hend⟩ => ?_
    have hB : Below W.heap.size W W' := ⟨hf.fr.os, hf.fr.tape, hf.fr.output, hf.fr.size, fun k hk => hf.fr.keep k hk fun b o hb _ => by rw [he] at hb; cases hb⟩
    refine ⟨?_, hB⟩
    cases cr with
    | pan v => cases h
    | ret v =>
      cases e with
      | returned x =>
        cases v <;> first | (cases h; done) | skip
        rename_i s t hh
        have hx : VR ρ' (Dm N0 g'.nx) (.bool s t) x := hend
        obtain rfl := hx.bool_inv
        have hb : t = true := h
        subst hb
        rfl
      | panicked c => exact hend.elim
      | outgrown => exact hend.elim
theorem bw0_true : saysTrue (callN bT lP 1000 20 .no 4 [.osl 1000 0] ⟨.e, 1001, True, [false, false, false]⟩) = true := by kernel_rfl
theorem bw0_pc : pcOf (callN bT lP 1000 20 .no 4 [.osl 1000 0] ⟨.e, 1001, True, [false, false, false]⟩) = (ilt 0 0 = false ∧ ilt 0 0 = false ∧ ilt 0 0 = false ∧ True) := by kernel_rfl
/-- a slice of operations in memory -/
structure OpsAt (W : World) (a : Option Addr) (len : Nat) (d v n : Nat → Int) (t : Nat → ByteArray) : Prop where
  at_ : ∀ i, i < len → ∃ ad, a = some ad ∧ W.cell? (ad.add (i * 4)) = some (.int .i64 (d i)) ∧ W.cell? (ad.add (i * 4 + 1)) = some (.int .u32 (v i)) ∧ W.cell? (ad.add (i * 4 + 2)) = some (.int .i64 (n i)) ∧ W.cell? (ad.add (i * 4 + 3)) = some (.string (t i))
  v : ∀ i, i < len → 0 ≤ v i ∧ v i < 4294967296
noncomputable def opR (ad : Addr) : Rn := ⟨fun b => if b = 1000 then ad.block else b, fun b => if b = 1000 then ad.off else 0⟩
theorem opR_gl (ad : Addr) (n : Nat) (h : 1000 ≤ n) : Gl (opR ad) n := ⟨h, fun g hg => by show (if g = 1000 then ad.block else g) = g; rw [if_neg (by omega)]⟩
theorem ops_open {W : World} {a : Option Addr} {len : Nat} {d v n : Nat → Int} {t : Nat → ByteArray} (h : OpsAt W a len d v n t) (h0 : 0 < len) (cap : Nat) :
    ∃ ad, a = some ad ∧ VR (opR ad) (Dm N0 1001) (.osl 1000 len) (.slice a len cap) ∧ ∃ arr e2 fz, W.heap[ad.block]? = some (.cells arr e2 fz) ∧ OR Try.prog (opR ad) (Dm N0 1001) 1000 (.rows 44 4 len (opF d v n fun i => bts (t i))) (.cells arr e2 fz) := by
  obtain ⟨ad, had, c0, _⟩ := h.at_ 0 h0
  have hz : ad.add (0 * 4) = ad := by rw [Nat.zero_mul]; rfl
  rw [hz] at c0
  unfold World.cell? at c0
  split at c0
  · rename_i arr e2 fz hblk
    have hsp : ad.spot = none := by
      cases hs : ad.spot with
      | none => rfl
      | some q => rw [hs] at c0; cases c0
    have cell : ∀ k x, W.cell? (ad.add k) = some x → arr[ad.off + k]? = some x := by
      intro k x hx
      unfold Addr.add at hx
      split at hx
      · rename_i hk
        subst hk
        unfold World.cell? at hx
        rw [hblk] at hx
        simp only [hsp] at hx
        exact hx
      · unfold World.cell? at hx
        simp only [hblk] at hx
        exact hx
    refine ⟨ad, had, .osl 1000 len a cap (.inl (by omega)) (fun _ => ?_), arr, e2, fz, hblk, .rows 44 e2 4 len _ arr fz (fun i hi => rfl) (fun i j x hi hx => ?_)⟩
    · rw [had]
      cases ad
      simp only at hsp
      subst hsp
      simp [opR]
    · obtain ⟨ad', e, q0, q1, q2, q3⟩ := h.at_ i hi
      rw [had] at e
      injection e with e
      subst e
      have hc : (opR ad).c 1000 = ad.off := by simp [opR]
      rw [hc]
      match j, hx with
      | 0, hx => injection hx with hx; subst hx; exact ⟨_, cell _ _ q0, .int _ _ _⟩
      | 1, hx => injection hx with hx; subst hx; exact ⟨_, cell _ _ q1, .int _ _ _⟩
      | 2, hx => injection hx with hx; subst hx; exact ⟨_, cell _ _ q2, .int _ _ _⟩
      | 3, hx => injection hx with hx; subst hx; exact ⟨_, cell _ _ q3, .str _ _⟩
  · cases c0
theorem one_GR {W : World} {ad : Addr} {o : AObj} {r : Obj} (h : W.heap[ad.block]? = some r) (ho : OR Try.prog (opR ad) (Dm N0 1001) 1000 o r) : GR Try.prog (opR ad) (Dm N0 1001) (mkH [(1000, some o)]).get W := by
  have get : ∀ b, (mkH [(1000, some o)]).get b = if b = 1000 then some o else none := by
    intro b
    have e : mkH [(1000, some o)] = (Tr.e : Tr AObj).put 1000 (some o) := rfl
    rw [e, get_put _ _ _ _ (by omega), get_e]
  refine ⟨fun b o' hb => ?_, fun b o' hb => ?_, fun b b' o1 o2 hb hb' e => ?_⟩
  · rw [get] at hb
    split at hb
    · rename_i e; subst e; exact ⟨.inl (by omega), by omega⟩
    · cases hb
  · rw [get] at hb
    split at hb
    · rename_i e
      subst e
      injection hb with hb
      subst hb
      exact ⟨r, by simpa [opR] using h, ho⟩
    · cases hb
  · rw [get] at hb hb'
    split at hb
    · split at hb'
      · rename_i e1 e2; rw [e1, e2]
      · cases hb'
    · cases hb
theorem writes_calls {W : World} {a : Option Addr} {len cap : Nat} {d v n : Nat → Int} {t : Nat → ByteArray} (h : OpsAt W a len d v n t) :
    Calls Try.prog 4 #[.slice a len cap] W fun e W' => e = .returned (.bool true) ∧ Below W.heap.size W W' := by
  rcases Nat.eq_zero_or_pos len with rfl | hpos
  · exact says_calls (vs := [.slice a 0 cap]) (ρ := idR) lP_ok bw0_true (by rw [bw0_pc]; exact ⟨rfl, rfl, rfl, trivial⟩) ⟨by omega, fun g _ => rfl⟩ (LR.cons (.osl 1000 0 a cap (.inl (by omega)) (fun h => absurd h (Nat.lt_irrefl 0))) (LR.nil _ _))
  · obtain ⟨ad, had, hv, arr, e2, fz, hblk, ho⟩ := ops_open h hpos cap
    exact bitsWrites_calls len d v n (fun i => bts (t i)) ⟨h.v, fun j hj => ⟨t j, rfl⟩⟩ (opR_gl ad 1001 (by omega)) hv (one_GR hblk ho)
end Go.Proofs.Yticfagianocfiaa.SX
