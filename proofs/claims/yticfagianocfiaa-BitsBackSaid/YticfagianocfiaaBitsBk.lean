import Derived.Test.YticfagianocfiaaBitsRd
set_option linter.unusedVariables false
set_option linter.unusedSimpArgs false
namespace Go.Proofs.Yticfagianocfiaa.SX
open Go.Proofs Go.Proofs.Yticfagianocfiaa Go.RowKit
set_option maxRecDepth 1000000
/-! the law BitsBack -/
noncomputable def LA : Code := c1 (c1 (c2 (c1 (c2 (c2 (c2 (bodyOf 6)))))))
noncomputable def kV (x : Option (Nat × (Nat → List AV))) : AV := match x with | none => .nils | some p => .sl true 1002 0 p.1 (.un 0)
noncomputable def kO (x : Option (Nat × (Nat → List AV))) : Option AObj := match x with | none => none | some p => some (.grows 44 4 p.1 p.2)
noncomputable def wV (w : Option (Int × List Int × Nat)) : List AV := match w with | none => [.int false .i64 0, .nils] | some p => [.int true .i64 p.1, .sl true 1003 0 p.2.2 (.un 0)]
noncomputable def wO (w : Option (Int × List Int × Nat)) : Option AObj := match w with | none => none | some p => some (.nums 5 .u8 p.2.1 true)
noncomputable def hB (m : Nat) (f : Nat → List AV) (w : Option (Int × List Int × Nat)) (x : Option (Nat × (Nat → List AV))) : Tr AObj := mkH [hO m f, (1001, some (.cells 39 (wV w) false)), (1002, kO x), (1003, wO w)]
noncomputable def gBk (m : Nat) (f : Nat → List AV) (w : Option (Int × List Int × Nat)) (x : Option (Nat × (Nat → List AV))) (pc : Prop) (ch : List Bool) : G := ⟨hB m f w x, 1004, pc, ch⟩
noncomputable def eA (m : Nat) (t : List Nat) (x : Option (Nat × (Nat → List AV))) (i : Int) : Tr AV := mkEnv 104 [(0, .osl 1000 m), (1, .str true t), (5, .ptr 1001 0), (6, kV x), (7, .int true .i64 i)]
noncomputable def sBk (m : Nat) (t : List Nat) (i : Int) (f : Nat → List AV) (w : Option (Int × List Int × Nat)) (x : Option (Nat × (Nat → List AV))) (pc : Prop) (ch : List Bool) : St := ⟨eA m t x i, gBk m f w x pc ch, [], .no, []⟩
noncomputable def mK (p q : Nat) (cv : Bool) : List Mv := [⟨1000, 1000, false⟩, ⟨1001, 1001, false⟩, ⟨p, 1002, cv⟩, ⟨q, 1003, false⟩]
noncomputable def kf (d v n : Nat → Int) (u : Nat → List Nat) (c : Nat → Nat) (j : Nat) : List AV := opF d v n u (c j)
noncomputable def kA (d v n : Nat → Int) (u : Nat → List Nat) (c : Nat → Nat) (k : Nat) (i : Int) (mv : List Mv) (j : Nat) : List AV := (bif j.blt k then opF d v n u (c j) else opF d v n u i.toNat).map (wkV mv)
open Go.Proofs Go.Proofs.Yticfagianocfiaa Go.RowKit
set_option maxRecDepth 1000000
noncomputable def pc_e1nn (m a B k : Nat) (i : Int) (d v n : Nat → Int) (u : Nat → List Nat) (t : List Nat) (c : Nat → Nat) : Prop := ilt i ↑m = false ∧ ilt i ↑m = false ∧ ilt i ↑m = false ∧ True
noncomputable def pc_e2nn (m a B k : Nat) (i : Int) (d v n : Nat → Int) (u : Nat → List Nat) (t : List Nat) (c : Nat → Nat) : Prop := ilt i (60 : Int) = false ∧ ilt i ↑m = true ∧ ilt i ↑m = true ∧ ilt i ↑m = true ∧ True
noncomputable def pc_nonn (m a B k : Nat) (i : Int) (d v n : Nat → Int) (u : Nat → List Nat) (t : List Nat) (c : Nat → Nat) : Prop := ((39 : TypeId) = WKind.t KW ∧ [AV.int false IntKind.i64 (0 : Int), AV.nils] = [AV.int false IntKind.i64 (0 : Int), AV.nils] ∧ false = false ∧ a = (0 : Nat)) ∧ takesB (v (Int.toNat i)) (n (Int.toNat i)) = false ∧ ((0 : Int) ≤ v (Int.toNat i) ∧ v (Int.toNat i) < (4294967296 : Int) ∧ B < (2 : Nat) ^ a ∧ a < (2 : Nat) ^ (42 : Nat)) ∧ Nat.blt (Int.toNat i) m = true ∧ inB i m = true ∧ Nat.blt (Int.toNat i) m = true ∧ inB i m = true ∧ ilt i (60 : Int) = true ∧ ilt i ↑m = true ∧ ilt i ↑m = true ∧ ilt i ↑m = true ∧ True
noncomputable def pc_e1ns (m a B k : Nat) (i : Int) (d v n : Nat → Int) (u : Nat → List Nat) (t : List Nat) (c : Nat → Nat) : Prop := ilt i ↑m = false ∧ ilt i ↑m = false ∧ ilt i ↑m = false ∧ True
noncomputable def pc_e2ns (m a B k : Nat) (i : Int) (d v n : Nat → Int) (u : Nat → List Nat) (t : List Nat) (c : Nat → Nat) : Prop := ilt i (60 : Int) = false ∧ ilt i ↑m = true ∧ ilt i ↑m = true ∧ ilt i ↑m = true ∧ True
noncomputable def pc_nons (m a B k : Nat) (i : Int) (d v n : Nat → Int) (u : Nat → List Nat) (t : List Nat) (c : Nat → Nat) : Prop := ((39 : TypeId) = WKind.t KW ∧ [AV.int false IntKind.i64 (0 : Int), AV.nils] = [AV.int false IntKind.i64 (0 : Int), AV.nils] ∧ false = false ∧ a = (0 : Nat)) ∧ takesB (v (Int.toNat i)) (n (Int.toNat i)) = false ∧ ((0 : Int) ≤ v (Int.toNat i) ∧ v (Int.toNat i) < (4294967296 : Int) ∧ B < (2 : Nat) ^ a ∧ a < (2 : Nat) ^ (42 : Nat)) ∧ Nat.blt (Int.toNat i) m = true ∧ inB i m = true ∧ Nat.blt (Int.toNat i) m = true ∧ inB i m = true ∧ ilt i (60 : Int) = true ∧ ilt i ↑m = true ∧ ilt i ↑m = true ∧ ilt i ↑m = true ∧ True
noncomputable def pc_e1ss (m a B k : Nat) (i : Int) (d v n : Nat → Int) (u : Nat → List Nat) (t : List Nat) (c : Nat → Nat) : Prop := ilt i ↑m = false ∧ ilt i ↑m = false ∧ ilt i ↑m = false ∧ True
noncomputable def pc_e2ss (m a B k : Nat) (i : Int) (d v n : Nat → Int) (u : Nat → List Nat) (t : List Nat) (c : Nat → Nat) : Prop := ilt i (60 : Int) = false ∧ ilt i ↑m = true ∧ ilt i ↑m = true ∧ ilt i ↑m = true ∧ True
noncomputable def pc_noss (m a B k : Nat) (i : Int) (d v n : Nat → Int) (u : Nat → List Nat) (t : List Nat) (c : Nat → Nat) : Prop := ((39 : TypeId) = WKind.t KW ∧ [AV.int true IntKind.i64 (Prod.fst (↑a, enc a B, (a + (7 : Nat)) / (8 : Nat))), AV.sl true ((1003 : Nat)) ((0 : Nat)) (Prod.snd (Prod.snd (↑a, enc a B, (a + (7 : Nat)) / (8 : Nat)))) (Cap.un ((0 : Nat)))] = [AV.int true IntKind.i64 ↑a, AV.sl true ((1003 : Nat)) ((0 : Nat)) (WKind.len KW a) (Cap.un ((0 : Nat)))] ∧ false = false ∧ (5 : TypeId) = (5 : TypeId) ∧ IntKind.u8 = IntKind.u8 ∧ Prod.fst (Prod.snd (↑a, enc a B, (a + (7 : Nat)) / (8 : Nat))) = WKind.row KW a B ∧ true = true ∧ (0 : Nat) < a ∧ (0 : Nat) < a) ∧ takesB (v (Int.toNat i)) (n (Int.toNat i)) = false ∧ ((0 : Int) ≤ v (Int.toNat i) ∧ v (Int.toNat i) < (4294967296 : Int) ∧ B < (2 : Nat) ^ a ∧ a < (2 : Nat) ^ (42 : Nat)) ∧ Nat.blt (Int.toNat i) m = true ∧ inB i m = true ∧ Nat.blt (Int.toNat i) m = true ∧ inB i m = true ∧ ilt i (60 : Int) = true ∧ ilt i ↑m = true ∧ ilt i ↑m = true ∧ ilt i ↑m = true ∧ True
noncomputable def pc_z0n (m a B k : Nat) (i : Int) (d v n : Nat → Int) (u : Nat → List Nat) (t : List Nat) (c : Nat → Nat) : Prop := Nat.blt (Int.toNat i) m = true ∧ inB i m = true ∧ ((39 : TypeId) = WKind.t KW ∧ [AV.int false IntKind.i64 (0 : Int), AV.nils] = [AV.int false IntKind.i64 (0 : Int), AV.nils] ∧ false = false ∧ a = (0 : Nat)) ∧ ieq (n (Int.toNat i)) (0 : Int) = true ∧ takesB (v (Int.toNat i)) (n (Int.toNat i)) = true ∧ ((0 : Int) ≤ v (Int.toNat i) ∧ v (Int.toNat i) < (4294967296 : Int) ∧ B < (2 : Nat) ^ a ∧ a < (2 : Nat) ^ (42 : Nat)) ∧ Nat.blt (Int.toNat i) m = true ∧ inB i m = true ∧ Nat.blt (Int.toNat i) m = true ∧ inB i m = true ∧ ilt i (60 : Int) = true ∧ ilt i ↑m = true ∧ ilt i ↑m = true ∧ ilt i ↑m = true ∧ True
noncomputable def pc_z0s (m a B k : Nat) (i : Int) (d v n : Nat → Int) (u : Nat → List Nat) (t : List Nat) (c : Nat → Nat) : Prop := (Nat.ble ((Prod.fst (k, kf d v n u c) + (1 : Nat)) * 40) (140737488355328 : Nat) && Nat.ble (Prod.fst (k, kf d v n u c) + (1 : Nat)) (140737488355328 : Nat)) = true ∧ Nat.beq (Prod.fst (k, kf d v n u c)) (Prod.fst (k, kf d v n u c)) = true ∧ Nat.blt (Int.toNat i) m = true ∧ inB i m = true ∧ ((39 : TypeId) = WKind.t KW ∧ [AV.int false IntKind.i64 (0 : Int), AV.nils] = [AV.int false IntKind.i64 (0 : Int), AV.nils] ∧ false = false ∧ a = (0 : Nat)) ∧ ieq (n (Int.toNat i)) (0 : Int) = true ∧ takesB (v (Int.toNat i)) (n (Int.toNat i)) = true ∧ ((0 : Int) ≤ v (Int.toNat i) ∧ v (Int.toNat i) < (4294967296 : Int) ∧ B < (2 : Nat) ^ a ∧ a < (2 : Nat) ^ (42 : Nat)) ∧ Nat.blt (Int.toNat i) m = true ∧ inB i m = true ∧ Nat.blt (Int.toNat i) m = true ∧ inB i m = true ∧ ilt i (60 : Int) = true ∧ ilt i ↑m = true ∧ ilt i ↑m = true ∧ ilt i ↑m = true ∧ True
noncomputable def pc_z1n (m a B k : Nat) (i : Int) (d v n : Nat → Int) (u : Nat → List Nat) (t : List Nat) (c : Nat → Nat) : Prop := Nat.blt (Int.toNat i) m = true ∧ inB i m = true ∧ ((39 : TypeId) = WKind.t KW ∧ [AV.int false IntKind.i64 (0 : Int), AV.nils] = [AV.int false IntKind.i64 (0 : Int), AV.nils] ∧ false = false ∧ a = (0 : Nat) ∧ (0 : Nat) < a + Int.toNat (n (Int.toNat i))) ∧ ieq (n (Int.toNat i)) (0 : Int) = false ∧ takesB (v (Int.toNat i)) (n (Int.toNat i)) = true ∧ ((0 : Int) ≤ v (Int.toNat i) ∧ v (Int.toNat i) < (4294967296 : Int) ∧ B < (2 : Nat) ^ a ∧ a < (2 : Nat) ^ (42 : Nat)) ∧ Nat.blt (Int.toNat i) m = true ∧ inB i m = true ∧ Nat.blt (Int.toNat i) m = true ∧ inB i m = true ∧ ilt i (60 : Int) = true ∧ ilt i ↑m = true ∧ ilt i ↑m = true ∧ ilt i ↑m = true ∧ True
noncomputable def pc_z1s (m a B k : Nat) (i : Int) (d v n : Nat → Int) (u : Nat → List Nat) (t : List Nat) (c : Nat → Nat) : Prop := (Nat.ble ((Prod.fst (k, kf d v n u c) + (1 : Nat)) * 40) (140737488355328 : Nat) && Nat.ble (Prod.fst (k, kf d v n u c) + (1 : Nat)) (140737488355328 : Nat)) = true ∧ Nat.beq (Prod.fst (k, kf d v n u c)) (Prod.fst (k, kf d v n u c)) = true ∧ Nat.blt (Int.toNat i) m = true ∧ inB i m = true ∧ ((39 : TypeId) = WKind.t KW ∧ [AV.int false IntKind.i64 (0 : Int), AV.nils] = [AV.int false IntKind.i64 (0 : Int), AV.nils] ∧ false = false ∧ a = (0 : Nat) ∧ (0 : Nat) < a + Int.toNat (n (Int.toNat i))) ∧ ieq (n (Int.toNat i)) (0 : Int) = false ∧ takesB (v (Int.toNat i)) (n (Int.toNat i)) = true ∧ ((0 : Int) ≤ v (Int.toNat i) ∧ v (Int.toNat i) < (4294967296 : Int) ∧ B < (2 : Nat) ^ a ∧ a < (2 : Nat) ^ (42 : Nat)) ∧ Nat.blt (Int.toNat i) m = true ∧ inB i m = true ∧ Nat.blt (Int.toNat i) m = true ∧ inB i m = true ∧ ilt i (60 : Int) = true ∧ ilt i ↑m = true ∧ ilt i ↑m = true ∧ ilt i ↑m = true ∧ True
noncomputable def pc_zs (m a B k : Nat) (i : Int) (d v n : Nat → Int) (u : Nat → List Nat) (t : List Nat) (c : Nat → Nat) : Prop := (Nat.ble ((Prod.fst (k, kf d v n u c) + (1 : Nat)) * 40) (140737488355328 : Nat) && Nat.ble (Prod.fst (k, kf d v n u c) + (1 : Nat)) (140737488355328 : Nat)) = true ∧ Nat.beq (Prod.fst (k, kf d v n u c)) (Prod.fst (k, kf d v n u c)) = true ∧ Nat.blt (Int.toNat i) m = true ∧ inB i m = true ∧ ((39 : TypeId) = WKind.t KW ∧ [AV.int true IntKind.i64 (Prod.fst (↑a, enc a B, (a + (7 : Nat)) / (8 : Nat))), AV.sl true ((1003 : Nat)) ((0 : Nat)) (Prod.snd (Prod.snd (↑a, enc a B, (a + (7 : Nat)) / (8 : Nat)))) (Cap.un ((0 : Nat)))] = [AV.int true IntKind.i64 ↑a, AV.sl true ((1003 : Nat)) ((0 : Nat)) (WKind.len KW a) (Cap.un ((0 : Nat)))] ∧ false = false ∧ (5 : TypeId) = (5 : TypeId) ∧ IntKind.u8 = IntKind.u8 ∧ Prod.fst (Prod.snd (↑a, enc a B, (a + (7 : Nat)) / (8 : Nat))) = WKind.row KW a B ∧ true = true ∧ (0 : Nat) < a ∧ (0 : Nat) < a + Int.toNat (n (Int.toNat i))) ∧ takesB (v (Int.toNat i)) (n (Int.toNat i)) = true ∧ ((0 : Int) ≤ v (Int.toNat i) ∧ v (Int.toNat i) < (4294967296 : Int) ∧ B < (2 : Nat) ^ a ∧ a < (2 : Nat) ^ (42 : Nat)) ∧ Nat.blt (Int.toNat i) m = true ∧ inB i m = true ∧ Nat.blt (Int.toNat i) m = true ∧ inB i m = true ∧ ilt i (60 : Int) = true ∧ ilt i ↑m = true ∧ ilt i ↑m = true ∧ ilt i ↑m = true ∧ True
theorem y_e1nn (m a B k : Nat) (i : Int) (d v n : Nat → Int) (u : Nat → List Nat) (t : List Nat) (c : Nat → Nat) : wkX 104 [0, 1, 5, 6, 7] (mK 1002 1003 false) 1004 (exec LA bT (wC a B) 1000 (sBk m t i (opF d v n u) none none True [false,false,false])) = some (.exit 0, sBk m t i (opF d v n u) none none (pc_e1nn m a B k i d v n u t c) []) := by kernel_rfl
theorem y_e2nn (m a B k : Nat) (i : Int) (d v n : Nat → Int) (u : Nat → List Nat) (t : List Nat) (c : Nat → Nat) : wkX 104 [0, 1, 5, 6, 7] (mK 1002 1003 false) 1004 (exec LA bT (wC a B) 1000 (sBk m t i (opF d v n u) none none True [true,true,true,false])) = some (.exit 0, sBk m t i (opF d v n u) none none (pc_e2nn m a B k i d v n u t c) []) := by kernel_rfl
theorem y_nonn (m a B k : Nat) (i : Int) (d v n : Nat → Int) (u : Nat → List Nat) (t : List Nat) (c : Nat → Nat) : wkX 104 [0, 1, 5, 6, 7] (mK 1002 1003 false) 1004 (exec LA bT (wC a B) 1000 (sBk m t i (opF d v n u) none none True [true,true,true,true,false])) = some (.normal, sBk m t (wr .i64 (i.add 1)) (opF d v n u) none none (pc_nonn m a B k i d v n u t c) []) := by kernel_rfl
theorem y_e1ns (m a B k : Nat) (i : Int) (d v n : Nat → Int) (u : Nat → List Nat) (t : List Nat) (c : Nat → Nat) : wkX 104 [0, 1, 5, 6, 7] (mK 1002 1003 false) 1004 (exec LA bT (wC a B) 1000 (sBk m t i (opF d v n u) none (some (k, kf d v n u c)) True [false,false,false])) = some (.exit 0, sBk m t i (opF d v n u) none (some (k, kf d v n u c)) (pc_e1ns m a B k i d v n u t c) []) := by kernel_rfl
theorem y_e2ns (m a B k : Nat) (i : Int) (d v n : Nat → Int) (u : Nat → List Nat) (t : List Nat) (c : Nat → Nat) : wkX 104 [0, 1, 5, 6, 7] (mK 1002 1003 false) 1004 (exec LA bT (wC a B) 1000 (sBk m t i (opF d v n u) none (some (k, kf d v n u c)) True [true,true,true,false])) = some (.exit 0, sBk m t i (opF d v n u) none (some (k, kf d v n u c)) (pc_e2ns m a B k i d v n u t c) []) := by kernel_rfl
theorem y_nons (m a B k : Nat) (i : Int) (d v n : Nat → Int) (u : Nat → List Nat) (t : List Nat) (c : Nat → Nat) : wkX 104 [0, 1, 5, 6, 7] (mK 1002 1003 false) 1004 (exec LA bT (wC a B) 1000 (sBk m t i (opF d v n u) none (some (k, kf d v n u c)) True [true,true,true,true,false])) = some (.normal, sBk m t (wr .i64 (i.add 1)) (opF d v n u) none (some (k, kf d v n u c)) (pc_nons m a B k i d v n u t c) []) := by kernel_rfl
theorem y_e1ss (m a B k : Nat) (i : Int) (d v n : Nat → Int) (u : Nat → List Nat) (t : List Nat) (c : Nat → Nat) : wkX 104 [0, 1, 5, 6, 7] (mK 1002 1003 false) 1004 (exec LA bT (wC a B) 1000 (sBk m t i (opF d v n u) (some ((a : Int), enc a B, (a + 7) / 8)) (some (k, kf d v n u c)) True [false,false,false])) = some (.exit 0, sBk m t i (opF d v n u) (some ((a : Int), enc a B, (a + 7) / 8)) (some (k, kf d v n u c)) (pc_e1ss m a B k i d v n u t c) []) := by kernel_rfl
theorem y_e2ss (m a B k : Nat) (i : Int) (d v n : Nat → Int) (u : Nat → List Nat) (t : List Nat) (c : Nat → Nat) : wkX 104 [0, 1, 5, 6, 7] (mK 1002 1003 false) 1004 (exec LA bT (wC a B) 1000 (sBk m t i (opF d v n u) (some ((a : Int), enc a B, (a + 7) / 8)) (some (k, kf d v n u c)) True [true,true,true,false])) = some (.exit 0, sBk m t i (opF d v n u) (some ((a : Int), enc a B, (a + 7) / 8)) (some (k, kf d v n u c)) (pc_e2ss m a B k i d v n u t c) []) := by kernel_rfl
theorem y_noss (m a B k : Nat) (i : Int) (d v n : Nat → Int) (u : Nat → List Nat) (t : List Nat) (c : Nat → Nat) : wkX 104 [0, 1, 5, 6, 7] (mK 1002 1004 false) 1004 (exec LA bT (wC a B) 1000 (sBk m t i (opF d v n u) (some ((a : Int), enc a B, (a + 7) / 8)) (some (k, kf d v n u c)) True [true,true,true,true,false])) = some (.normal, sBk m t (wr .i64 (i.add 1)) (opF d v n u) (some ((a : Int), enc a B, (a + 7) / 8)) (some (k, kf d v n u c)) (pc_noss m a B k i d v n u t c) []) := by kernel_rfl
theorem y_z0n (m a B k : Nat) (i : Int) (d v n : Nat → Int) (u : Nat → List Nat) (t : List Nat) (c : Nat → Nat) : wkX 104 [0, 1, 5, 6, 7] (mK 1005 1003 true) 1004 (exec LA bT (wC a B) 1000 (sBk m t i (opF d v n u) none none True [true,true,true,true,true,true])) = some (.normal, sBk m t (wr .i64 (i.add 1)) (opF d v n u) none (some (1, fun _ => opF d v n u i.toNat)) (pc_z0n m a B k i d v n u t c) []) := by kernel_rfl
theorem y_z0s (m a B k : Nat) (i : Int) (d v n : Nat → Int) (u : Nat → List Nat) (t : List Nat) (c : Nat → Nat) : wkX 104 [0, 1, 5, 6, 7] (mK 1005 1003 false) 1004 (exec LA bT (wC a B) 1000 (sBk m t i (opF d v n u) none (some (k, kf d v n u c)) True [true,true,true,true,true,true])) = some (.normal, sBk m t (wr .i64 (i.add 1)) (opF d v n u) none (some (k + 1, kA d v n u c k i (mK 1005 1003 false))) (pc_z0s m a B k i d v n u t c) []) := by kernel_rfl
theorem y_z1n (m a B k : Nat) (i : Int) (d v n : Nat → Int) (u : Nat → List Nat) (t : List Nat) (c : Nat → Nat) : wkX 104 [0, 1, 5, 6, 7] (mK 1006 1004 true) 1004 (exec LA bT (wC a B) 1000 (sBk m t i (opF d v n u) none none True [true,true,true,true,true,false])) = some (.normal, sBk m t (wr .i64 (i.add 1)) (opF d v n u) (some (((a + (n i.toNat).toNat) : Nat), enc (a + (n i.toNat).toNat) (B + (v i.toNat).toNat * 2 ^ a), ((a + (n i.toNat).toNat) + 7) / 8)) (some (1, fun _ => opF d v n u i.toNat)) (pc_z1n m a B k i d v n u t c) []) := by kernel_rfl
theorem y_z1s (m a B k : Nat) (i : Int) (d v n : Nat → Int) (u : Nat → List Nat) (t : List Nat) (c : Nat → Nat) : wkX 104 [0, 1, 5, 6, 7] (mK 1006 1004 false) 1004 (exec LA bT (wC a B) 1000 (sBk m t i (opF d v n u) none (some (k, kf d v n u c)) True [true,true,true,true,true,false])) = some (.normal, sBk m t (wr .i64 (i.add 1)) (opF d v n u) (some (((a + (n i.toNat).toNat) : Nat), enc (a + (n i.toNat).toNat) (B + (v i.toNat).toNat * 2 ^ a), ((a + (n i.toNat).toNat) + 7) / 8)) (some (k + 1, kA d v n u c k i (mK 1006 1004 false))) (pc_z1s m a B k i d v n u t c) []) := by kernel_rfl
theorem y_zs (m a B k : Nat) (i : Int) (d v n : Nat → Int) (u : Nat → List Nat) (t : List Nat) (c : Nat → Nat) : wkX 104 [0, 1, 5, 6, 7] (mK 1006 1004 false) 1004 (exec LA bT (wC a B) 1000 (sBk m t i (opF d v n u) (some ((a : Int), enc a B, (a + 7) / 8)) (some (k, kf d v n u c)) True [true,true,true,true,true])) = some (.normal, sBk m t (wr .i64 (i.add 1)) (opF d v n u) (some (((a + (n i.toNat).toNat) : Nat), enc (a + (n i.toNat).toNat) (B + (v i.toNat).toNat * 2 ^ a), ((a + (n i.toNat).toNat) + 7) / 8)) (some (k + 1, kA d v n u c k i (mK 1006 1004 false))) (pc_zs m a B k i d v n u t c) []) := by kernel_rfl
/-- the numbers that were kept, and where they stand -/
structure Bk (m : Nat) (v n : Nat → Int) (a B k : Nat) (c p : Nat → Nat) : Prop where
  hB : B < 2 ^ a
  ha : a ≤ 32 * k
  p0 : p 0 = 0
  pk : p k = a
  st : ∀ j, j < k → c j < m ∧ ∃ nn vv : Nat, n (c j) = (nn : Int) ∧ v (c j) = (vv : Int) ∧ nn ≤ 32 ∧ vv < 2 ^ nn ∧ p (j + 1) = p j + nn ∧ p (j + 1) ≤ a ∧ B / 2 ^ p j % 2 ^ nn = vv
def cN (c : Nat → Nat) (k i : Nat) (j : Nat) : Nat := bif j.blt k then c j else i
theorem cN_lt {c : Nat → Nat} {k i j : Nat} (h : j < k) : cN c k i j = c j := by unfold cN; rw [blt_iff.2 h]; rfl
theorem cN_ge {c : Nat → Nat} {k i j : Nat} (h : k ≤ j) : cN c k i j = i := by
  unfold cN
  have : j.blt k = false := by
    cases hh : j.blt k with
    | false => rfl
    | true => have := blt_iff.1 hh; omega
  rw [this]; rfl
theorem Bk.add {m : Nat} {v n : Nat → Int} {a B k i nn vv : Nat} {c p : Nat → Nat} (h : Bk m v n a B k c p) (hi : i < m) (hn : n i = (nn : Int)) (hv : v i = (vv : Int)) (hn2 : nn ≤ 32) (hv2 : vv < 2 ^ nn) :
    Bk m v n (a + nn) (B + vv * 2 ^ a) (k + 1) (cN c k i) (fun j => if j ≤ k then p j else a + nn) := by
  refine ⟨?_, by have := h.ha; omega, by show (if 0 ≤ k then p 0 else a + nn) = 0; rw [if_pos (Nat.zero_le _)]; exact h.p0, by show (if k + 1 ≤ k then p (k + 1) else a + nn) = a + nn; rw [if_neg (by omega)], fun j hj => ?_⟩
  · have h2 : (vv + 1) * 2 ^ a ≤ 2 ^ nn * 2 ^ a := Nat.mul_le_mul_right _ hv2
    rw [Nat.add_mul, Nat.one_mul] at h2
    have := h.hB
    rw [Nat.add_comm a, Nat.pow_add]
    omega
  · rcases Nat.lt_or_ge j k with hlt | hge
    · obtain ⟨h1, n1, v1, q1, q2, q3, q4, q5, q6, q7⟩ := h.st j hlt
      rw [cN_lt hlt]
      refine ⟨h1, n1, v1, q1, q2, q3, q4, ?_, ?_, ?_⟩
      · show (if j + 1 ≤ k then p (j + 1) else a + nn) = (if j ≤ k then p j else a + nn) + n1
        rw [if_pos (by omega), if_pos (by omega)]; exact q5
      · show (if j + 1 ≤ k then p (j + 1) else a + nn) ≤ a + nn
        rw [if_pos (by omega)]; omega
      · show (B + vv * 2 ^ a) / 2 ^ (if j ≤ k then p j else a + nn) % 2 ^ n1 = v1
        rw [if_pos (by omega), up_div _ _ _ _ (by omega)]
        have e : 2 ^ (a - p j) = 2 ^ (a - p j - n1) * 2 ^ n1 := by rw [← Nat.pow_add]; congr 1; omega
        rw [e, ← Nat.mul_assoc, Nat.add_mul_mod_self_right]
        exact q7
    · obtain rfl : j = k := by omega
      rw [cN_ge (Nat.le_refl _)]
      refine ⟨hi, nn, vv, hn, hv, hn2, hv2, ?_, ?_, ?_⟩
      · show (if j + 1 ≤ j then p (j + 1) else a + nn) = (if j ≤ j then p j else a + nn) + nn
        rw [if_neg (by omega), if_pos (Nat.le_refl _), h.pk]
      · show (if j + 1 ≤ j then p (j + 1) else a + nn) ≤ a + nn
        rw [if_neg (by omega)]; exact Nat.le_refl _
      · show (B + vv * 2 ^ a) / 2 ^ (if j ≤ j then p j else a + nn) % 2 ^ nn = vv
        rw [if_pos (Nat.le_refl _), h.pk, up_div _ _ _ _ (Nat.le_refl _), Nat.sub_self, Nat.pow_zero, Nat.mul_one, Nat.div_eq_of_lt h.hB, Nat.zero_add, Nat.mod_eq_of_lt hv2]
noncomputable def wS (a B : Nat) : Option (Int × List Int × Nat) := match a with | 0 => none | a + 1 => some (((a + 1 : Nat) : Int), enc (a + 1) B, (a + 1 + 7) / 8)
theorem wS_pos {a : Nat} (B : Nat) (h : 0 < a) : wS a B = some ((a : Int), enc a B, (a + 7) / 8) := by cases a with | zero => omega | succ a => rfl
noncomputable def xS (d v n : Nat → Int) (u : Nat → List Nat) (k : Nat) (c : Nat → Nat) : Option (Nat × (Nat → List AV)) := match k with | 0 => none | k + 1 => some (k + 1, kf d v n u c)
theorem xS_pos {d v n : Nat → Int} {u : Nat → List Nat} {k : Nat} (c : Nat → Nat) (h : 0 < k) : xS d v n u k c = some (k, kf d v n u c) := by cases k with | zero => omega | succ k => rfl
noncomputable def sS (m : Nat) (t : List Nat) (d v n : Nat → Int) (u : Nat → List Nat) (a B k : Nat) (c : Nat → Nat) (i : Nat) : St := sBk m t (i : Int) (opF d v n u) (wS a B) (xS d v n u k c) True []
theorem kA_eq (d v n : Nat → Int) (u : Nat → List Nat) (c : Nat → Nat) (k i : Nat) (mv : List Mv) : kA d v n u c k (i : Int) mv = kf d v n u (cN c k i) := by
  funext j
  have hj : (i : Int).toNat = i := Int.toNat_natCast i
  unfold kA kf cN
  rw [hj]
  cases j.blt k <;> rfl
theorem X1_eq (d v n : Nat → Int) (u : Nat → List Nat) (c : Nat → Nat) (i : Nat) : (fun _ : Nat => opF d v n u (i : Int).toNat) = kf d v n u (cN c 0 i) := by
  funext j
  have hj : (i : Int).toNat = i := Int.toNat_natCast i
  unfold kf
  rw [hj, cN_ge (Nat.zero_le _)]
theorem okN1 : okM (mK 1002 1003 false) 1004 = true := by kernel_rfl
theorem okN2 : okM (mK 1002 1004 false) 1004 = true := by kernel_rfl
theorem okN3 : okM (mK 1005 1003 true) 1004 = true := by kernel_rfl
theorem okN4 : okM (mK 1005 1003 false) 1004 = true := by kernel_rfl
theorem okN5 : okM (mK 1006 1004 true) 1004 = true := by kernel_rfl
theorem okN6 : okM (mK 1006 1004 false) 1004 = true := by kernel_rfl
section
variable {ρ0 : Rn} {H0 : Nat → Option AObj} {w0 : World} {act : Act} {w : World}
theorem wfA : wf 104 LA = true := by kernel_rfl
theorem back_round {m a B k i : Nat} {t : List Nat} {d v n : Nat → Int} {u : Nat → List Nat} {c p : Nat → Nat} (hv : ∀ j, j < m → 0 ≤ v j ∧ v j < 4294967296) (h : Bk m v n a B k c p) (hk : k ≤ i) (hi : i ≤ 60) (hs : SL Try.prog 104 [] ρ0 H0 w0 (sS m t d v n u a B k c i) act w) :
    LA.wp Try.prog (fun x a' w' => (x = .exit 0 ∧ SL Try.prog 104 [] ρ0 H0 w0 (sS m t d v n u a B k c i) a' w') ∨
      (x = .normal ∧ i < 60 ∧ ∃ a1 B1 k1 c1 p1, Bk m v n a1 B1 k1 c1 p1 ∧ k1 ≤ i + 1 ∧ SL Try.prog 104 [] ρ0 H0 w0 (sS m t d v n u a1 B1 k1 c1 (i + 1)) a' w')) act w := by
  have e1 : wr .i64 (Int.add (i : Int) 1) = ((i + 1 : Nat) : Int) := by show wr .i64 ((i : Int) + 1) = _; rw [wr_i64 (by omega) (by omega)]; omega
  have hj : (i : Int).toNat = i := Int.toNat_natCast i
  have ha42 : a < 2 ^ 42 := by have := h.ha; omega
  have k0 : k = 0 → a = 0 := fun e => by have := h.ha; omega
  rcases Nat.lt_or_ge i m with him | him
  · have t1 : ilt (i : Int) (m : Int) = true := ilt_t (by omega)
    have t3 : inB (i : Int) m = true := inB_t (by omega) (by omega)
    have t4 : Nat.blt (Int.toNat (i : Int)) m = true := blt_t (by rw [hj]; exact him)
    rcases Nat.lt_or_ge i 60 with hi1 | hi1
    · have t2 : ilt (i : Int) 60 = true := ilt_t (by omega)
      obtain ⟨hv0, hv1⟩ := hv i him
      obtain ⟨vv, hvv⟩ := Int.eq_ofNat_of_zero_le hv0
      have hvn : (v i).toNat = vv := by rw [hvv]; exact Int.toNat_natCast vv
      have hc : 0 ≤ v (Int.toNat (i : Int)) ∧ v (Int.toNat (i : Int)) < 4294967296 ∧ B < 2 ^ a ∧ a < 2 ^ 42 := by rw [hj]; exact ⟨hv0, hv1, h.hB, ha42⟩
      by_cases ht2 : Takes vv (n i)
      · have t8 : takesB (v (Int.toNat (i : Int))) (n (Int.toNat (i : Int))) = true := by rw [hj, hvv]; exact takesB_iff.2 ht2
        obtain ⟨nn, hnn⟩ := Int.eq_ofNat_of_zero_le ht2.1
        have hnt : (n i).toNat = nn := by rw [hnn]; exact Int.toNat_natCast nn
        have hn32 : nn ≤ 32 := by have := ht2.2.1; omega
        have hvlt : vv < 2 ^ nn := by have := ht2.2.2; rw [hnt] at this; exact this
        have hadd := h.add him hnn hvv hn32 hvlt
        have hk2 : k + 1 ≤ i + 1 := by omega
        rcases Nat.eq_zero_or_pos k with rfl | hk0
        · obtain rfl := k0 rfl
          by_cases hn0 : nn = 0
          · have t9 : ieq (n (Int.toNat (i : Int))) 0 = true := by rw [hj]; exact ieq_t (by rw [hnn, hn0]; rfl)
            have e0 := y_z0n m 0 B 0 i d v n u t c
            rw [e1, X1_eq d v n u c] at e0
            refine wp_mono (exec_sl bT_ok bM (wC_ok 0 B) wfA e0 okN3 (fun v h => by cases h) ⟨t4, t3, ⟨rfl, rfl, rfl, rfl⟩, t9, t8, hc, t4, t3, t4, t3, t2, t1, t1, t1, trivial⟩ rfl rfl (kF _ _) (hs.alike rfl rfl rfl)) ?_
            subst hn0
            refine fun x a' w' ⟨h1, h2⟩ => .inr ⟨h1.normal, hi1, _, _, _, _, _, hadd, hk2, ?_⟩
            unfold sS
            rw [xS_pos _ (Nat.succ_pos _)]
            exact h2.alike rfl rfl rfl
          · have t9 : ieq (n (Int.toNat (i : Int))) 0 = false := by rw [hj]; exact ieq_f (by rw [hnn]; omega)
            have hp : 0 < 0 + (n (Int.toNat (i : Int))).toNat := by rw [hj, hnt]; omega
            have e0 := y_z1n m 0 B 0 i d v n u t c
            rw [e1, X1_eq d v n u c, hj, hnt, hvn] at e0
            refine wp_mono (exec_sl bT_ok bM (wC_ok 0 B) wfA e0 okN5 (fun v h => by cases h) ⟨t4, t3, ⟨rfl, rfl, rfl, rfl, hp⟩, t9, t8, hc, t4, t3, t4, t3, t2, t1, t1, t1, trivial⟩ rfl rfl (kF _ _) (hs.alike rfl rfl rfl)) ?_
            refine fun x a' w' ⟨h1, h2⟩ => .inr ⟨h1.normal, hi1, _, _, _, _, _, hadd, hk2, ?_⟩
            unfold sS
            rw [xS_pos _ (Nat.succ_pos _), wS_pos _ (by omega)]
            exact h2.alike rfl rfl rfl
        · rcases Nat.eq_zero_or_pos a with rfl | ha0
          · unfold sS at hs
            rw [xS_pos c hk0] at hs
            by_cases hn0 : nn = 0
            · have t9 : ieq (n (Int.toNat (i : Int))) 0 = true := by rw [hj]; exact ieq_t (by rw [hnn, hn0]; rfl)
              have e0 := y_z0s m 0 B k i d v n u t c
              rw [e1, kA_eq] at e0
              refine wp_mono (exec_sl bT_ok bM (wC_ok 0 B) wfA e0 okN4 (fun v h => by cases h) ⟨by rw [Bool.and_eq_true]; exact ⟨ble_t (by show (k + 1) * 40 ≤ 140737488355328; omega), ble_t (by show k + 1 ≤ 140737488355328; omega)⟩, beq_t rfl, t4, t3, ⟨rfl, rfl, rfl, rfl⟩, t9, t8, hc, t4, t3, t4, t3, t2, t1, t1, t1, trivial⟩ rfl rfl (kF _ _) (hs.alike rfl rfl rfl)) ?_
              subst hn0
              refine fun x a' w' ⟨h1, h2⟩ => .inr ⟨h1.normal, hi1, _, _, _, _, _, hadd, hk2, ?_⟩
              unfold sS
              rw [xS_pos _ (Nat.succ_pos _)]
              exact h2.alike rfl rfl rfl
            · have t9 : ieq (n (Int.toNat (i : Int))) 0 = false := by rw [hj]; exact ieq_f (by rw [hnn]; omega)
              have hp : 0 < 0 + (n (Int.toNat (i : Int))).toNat := by rw [hj, hnt]; omega
              have e0 := y_z1s m 0 B k i d v n u t c
              rw [e1, kA_eq, hj, hnt, hvn] at e0
              refine wp_mono (exec_sl bT_ok bM (wC_ok 0 B) wfA e0 okN6 (fun v h => by cases h) ⟨by rw [Bool.and_eq_true]; exact ⟨ble_t (by show (k + 1) * 40 ≤ 140737488355328; omega), ble_t (by show k + 1 ≤ 140737488355328; omega)⟩, beq_t rfl, t4, t3, ⟨rfl, rfl, rfl, rfl, hp⟩, t9, t8, hc, t4, t3, t4, t3, t2, t1, t1, t1, trivial⟩ rfl rfl (kF _ _) (hs.alike rfl rfl rfl)) ?_
              refine fun x a' w' ⟨h1, h2⟩ => .inr ⟨h1.normal, hi1, _, _, _, _, _, hadd, hk2, ?_⟩
              unfold sS
              rw [xS_pos _ (Nat.succ_pos _), wS_pos _ (by omega)]
              exact h2.alike rfl rfl rfl
          · unfold sS at hs
            rw [xS_pos c hk0, wS_pos B ha0] at hs
            have hp : 0 < a + (n (Int.toNat (i : Int))).toNat := by omega
            have e0 := y_zs m a B k i d v n u t c
            rw [e1, kA_eq, hj, hnt, hvn] at e0
            refine wp_mono (exec_sl bT_ok bM (wC_ok a B) wfA e0 okN6 (fun v h => by cases h) ⟨by rw [Bool.and_eq_true]; exact ⟨ble_t (by show (k + 1) * 40 ≤ 140737488355328; omega), ble_t (by show k + 1 ≤ 140737488355328; omega)⟩, beq_t rfl, t4, t3, ⟨rfl, rfl, rfl, rfl, rfl, rfl, rfl, ha0, hp⟩, t8, hc, t4, t3, t4, t3, t2, t1, t1, t1, trivial⟩ rfl rfl (kF _ _) (hs.alike rfl rfl rfl)) ?_
            refine fun x a' w' ⟨h1, h2⟩ => .inr ⟨h1.normal, hi1, _, _, _, _, _, hadd, hk2, ?_⟩
            unfold sS
            rw [xS_pos _ (Nat.succ_pos _), wS_pos _ (by omega)]
            exact h2.alike rfl rfl rfl
      · have t8 : takesB (v (Int.toNat (i : Int))) (n (Int.toNat (i : Int))) = false := by
          rw [hj, hvv]
          cases hx : takesB (vv : Int) (n i) with
          | false => rfl
          | true => exact absurd (takesB_iff.1 hx) ht2
        rcases Nat.eq_zero_or_pos k with rfl | hk0
        · obtain rfl := k0 rfl
          have e0 := y_nonn m 0 B 0 i d v n u t c
          rw [e1] at e0
          refine wp_mono (exec_sl bT_ok bM (wC_ok 0 B) wfA e0 okN1 (fun v h => by cases h) ⟨⟨rfl, rfl, rfl, rfl⟩, t8, hc, t4, t3, t4, t3, t2, t1, t1, t1, trivial⟩ rfl rfl (kF _ _) (hs.alike rfl rfl rfl)) ?_
          exact fun x a' w' ⟨h1, h2⟩ => .inr ⟨h1.normal, hi1, _, _, _, _, _, h, by omega, h2.alike rfl rfl rfl⟩
        · rcases Nat.eq_zero_or_pos a with rfl | ha0
          · unfold sS at hs
            rw [xS_pos c hk0] at hs
            have e0 := y_nons m 0 B k i d v n u t c
            rw [e1] at e0
            refine wp_mono (exec_sl bT_ok bM (wC_ok 0 B) wfA e0 okN1 (fun v h => by cases h) ⟨⟨rfl, rfl, rfl, rfl⟩, t8, hc, t4, t3, t4, t3, t2, t1, t1, t1, trivial⟩ rfl rfl (kF _ _) (hs.alike rfl rfl rfl)) ?_
            exact fun x a' w' ⟨h1, h2⟩ => .inr ⟨h1.normal, hi1, _, _, _, _, _, h, by omega, by unfold sS; rw [xS_pos c hk0]; exact h2.alike rfl rfl rfl⟩
          · unfold sS at hs
            rw [xS_pos c hk0, wS_pos B ha0] at hs
            have e0 := y_noss m a B k i d v n u t c
            rw [e1] at e0
            refine wp_mono (exec_sl bT_ok bM (wC_ok a B) wfA e0 okN2 (fun v h => by cases h) ⟨⟨rfl, rfl, rfl, rfl, rfl, rfl, rfl, ha0, ha0⟩, t8, hc, t4, t3, t4, t3, t2, t1, t1, t1, trivial⟩ rfl rfl (kF _ _) (hs.alike rfl rfl rfl)) ?_
            exact fun x a' w' ⟨h1, h2⟩ => .inr ⟨h1.normal, hi1, _, _, _, _, _, h, by omega, by unfold sS; rw [xS_pos c hk0, wS_pos B ha0]; exact h2.alike rfl rfl rfl⟩
    · have t2 : ilt (i : Int) 60 = false := ilt_f (by omega)
      rcases Nat.eq_zero_or_pos k with rfl | hk0
      · obtain rfl := k0 rfl
        refine wp_mono (exec_sl bT_ok bM (wC_ok 0 B) wfA (y_e2nn m 0 B 0 i d v n u t c) okN1 (fun v h => by cases h) ⟨t2, t1, t1, t1, trivial⟩ rfl rfl (kF _ _) (hs.alike rfl rfl rfl)) ?_
        exact fun x a' w' ⟨h1, h2⟩ => .inl ⟨h1.exit, h2.alike rfl rfl rfl⟩
      · rcases Nat.eq_zero_or_pos a with rfl | ha0
        · unfold sS at hs
          rw [xS_pos c hk0] at hs
          refine wp_mono (exec_sl bT_ok bM (wC_ok 0 B) wfA (y_e2ns m 0 B k i d v n u t c) okN1 (fun v h => by cases h) ⟨t2, t1, t1, t1, trivial⟩ rfl rfl (kF _ _) (hs.alike rfl rfl rfl)) ?_
          exact fun x a' w' ⟨h1, h2⟩ => .inl ⟨h1.exit, by unfold sS; rw [xS_pos c hk0]; exact h2.alike rfl rfl rfl⟩
        · unfold sS at hs
          rw [xS_pos c hk0, wS_pos B ha0] at hs
          refine wp_mono (exec_sl bT_ok bM (wC_ok a B) wfA (y_e2ss m a B k i d v n u t c) okN1 (fun v h => by cases h) ⟨t2, t1, t1, t1, trivial⟩ rfl rfl (kF _ _) (hs.alike rfl rfl rfl)) ?_
          exact fun x a' w' ⟨h1, h2⟩ => .inl ⟨h1.exit, by unfold sS; rw [xS_pos c hk0, wS_pos B ha0]; exact h2.alike rfl rfl rfl⟩
  · have t1 : ilt (i : Int) (m : Int) = false := ilt_f (by omega)
    rcases Nat.eq_zero_or_pos k with rfl | hk0
    · obtain rfl := k0 rfl
      refine wp_mono (exec_sl bT_ok bM (wC_ok 0 B) wfA (y_e1nn m 0 B 0 i d v n u t c) okN1 (fun v h => by cases h) ⟨t1, t1, t1, trivial⟩ rfl rfl (kF _ _) (hs.alike rfl rfl rfl)) ?_
      exact fun x a' w' ⟨h1, h2⟩ => .inl ⟨h1.exit, h2.alike rfl rfl rfl⟩
    · rcases Nat.eq_zero_or_pos a with rfl | ha0
      · unfold sS at hs
        rw [xS_pos c hk0] at hs
        refine wp_mono (exec_sl bT_ok bM (wC_ok 0 B) wfA (y_e1ns m 0 B k i d v n u t c) okN1 (fun v h => by cases h) ⟨t1, t1, t1, trivial⟩ rfl rfl (kF _ _) (hs.alike rfl rfl rfl)) ?_
        exact fun x a' w' ⟨h1, h2⟩ => .inl ⟨h1.exit, by unfold sS; rw [xS_pos c hk0]; exact h2.alike rfl rfl rfl⟩
      · unfold sS at hs
        rw [xS_pos c hk0, wS_pos B ha0] at hs
        refine wp_mono (exec_sl bT_ok bM (wC_ok a B) wfA (y_e1ss m a B k i d v n u t c) okN1 (fun v h => by cases h) ⟨t1, t1, t1, trivial⟩ rfl rfl (kF _ _) (hs.alike rfl rfl rfl)) ?_
        exact fun x a' w' ⟨h1, h2⟩ => .inl ⟨h1.exit, by unfold sS; rw [xS_pos c hk0, wS_pos B ha0]; exact h2.alike rfl rfl rfl⟩
end
open Go.Proofs Go.Proofs.Yticfagianocfiaa Go.RowKit
set_option maxRecDepth 1000000
noncomputable def t7 : Code := c2 (c2 (c2 (c2 (c2 (c2 (c2 (bodyOf 6)))))))
noncomputable def A8 : Code := c1 (c2 (c2 (c2 (c2 (bodyOf 6)))))
noncomputable def A9 : Code := c1 (c2 (c2 (c2 (c2 (c2 (bodyOf 6))))))
noncomputable def A10 : Code := c1 (c2 (c2 (c2 (c2 (c2 (c2 (bodyOf 6)))))))
noncomputable def A12 : Code := c1 (c1 t7)
noncomputable def LB : Code := c1 (c1 (c2 (c1 t7)))
noncomputable def ZB : Code := c2 t7
/-- the writer behind Add -/
noncomputable def wC2 (x : Option (List Int × Nat)) : AV := match x with | none => .nils | some p => .sl true 1003 0 p.2 (.un 0)
noncomputable def rO (x : Option (List Int × Nat)) : Option AObj := match x with | none => none | some p => some (.nums 5 .u8 p.1 true)
noncomputable def s8 (m : Nat) (t : List Nat) (f : Nat → List AV) (x : Option (Nat × (Nat → List AV))) (a : Int) (y : Option (List Int × Nat)) (pc : Prop) (ch : List Bool) : St :=
  ⟨mkEnv 104 [(1, .str true t), (5, .ptr 1001 0), (6, kV x)], ⟨mkH [hO m f, (1001, some (.cells 39 [.int true .i64 a, wC2 y] false)), (1002, kO x), (1003, rO y)], 1004, pc, ch⟩, [], .no, []⟩
noncomputable def h9 (m : Nat) (f : Nat → List AV) (x : Option (Nat × (Nat → List AV))) (b1 b2 : Bool) (a : Int) (T : List Nat) : Tr AObj := mkH [hO m f, (1001, some (.cells 59 [.int b1 .i64 a, .str b2 T] false)), (1002, kO x)]
noncomputable def s9 (m : Nat) (t : List Nat) (f : Nat → List AV) (x : Option (Nat × (Nat → List AV))) (b1 b2 : Bool) (a : Int) (T : List Nat) (l : List (Nat × AV)) (pc : Prop) (ch : List Bool) : St :=
  ⟨mkEnv 104 ((1, .str true t) :: (6, kV x) :: (8, .ptr 1001 0) :: l), ⟨h9 m f x b1 b2 a T, 1004, pc, ch⟩, [], .no, []⟩
noncomputable def m9 : List Mv := [⟨1000, 1000, false⟩, ⟨1004, 1001, false⟩, ⟨1002, 1002, false⟩]
noncomputable def m10 : List Mv := [⟨1000, 1000, false⟩, ⟨1001, 1001, false⟩, ⟨1002, 1002, false⟩]
noncomputable def bkC : CallT := callN bT (orP lP rP) 1000 20
theorem bkC_ok : CallOk Try.prog bkC := sx_ok bT_ok bM (orP_ok lP_ok rP_ok) 1000 20
noncomputable def pc_a8nn0 (m a B k l : Nat) (i j q : Int) (d v n : Nat → Int) (u : Nat → List Nat) (t T : List Nat) (c : Nat → Nat) (xs : List Int) : Prop := Nat.beq (List.length t) (0 : Nat) = true ∧ True
noncomputable def pc_a8nn1 (m a B k l : Nat) (i j q : Int) (d v n : Nat → Int) (u : Nat → List Nat) (t T : List Nat) (c : Nat → Nat) (xs : List Int) : Prop := (Nat.ble (List.length t * 1) (140737488355328 : Nat) && Nat.ble (List.length t) (140737488355328 : Nat)) = true ∧ Nat.beq (List.length t) (0 : Nat) = false ∧ True
noncomputable def pc_a8ns0 (m a B k l : Nat) (i j q : Int) (d v n : Nat → Int) (u : Nat → List Nat) (t T : List Nat) (c : Nat → Nat) (xs : List Int) : Prop := Nat.beq (List.length t) (0 : Nat) = true ∧ True
noncomputable def pc_a8ns1 (m a B k l : Nat) (i j q : Int) (d v n : Nat → Int) (u : Nat → List Nat) (t T : List Nat) (c : Nat → Nat) (xs : List Int) : Prop := (Nat.ble (List.length t * 1) (140737488355328 : Nat) && Nat.ble (List.length t) (140737488355328 : Nat)) = true ∧ Nat.beq (List.length t) (0 : Nat) = false ∧ True
noncomputable def pc_a8ss0 (m a B k l : Nat) (i j q : Int) (d v n : Nat → Int) (u : Nat → List Nat) (t T : List Nat) (c : Nat → Nat) (xs : List Int) : Prop := Nat.beq (List.length t) (0 : Nat) = true ∧ True
noncomputable def pc_a8ss1 (m a B k l : Nat) (i j q : Int) (d v n : Nat → Int) (u : Nat → List Nat) (t T : List Nat) (c : Nat → Nat) (xs : List Int) : Prop := (Nat.ble ((Prod.snd (Prod.snd (↑a, enc a B, (a + (7 : Nat)) / (8 : Nat))) + List.length t) * 1) (140737488355328 : Nat) && Nat.ble (Prod.snd (Prod.snd (↑a, enc a B, (a + (7 : Nat)) / (8 : Nat))) + List.length t) (140737488355328 : Nat)) = true ∧ Nat.beq (List.length (Prod.fst (Prod.snd (↑a, enc a B, (a + (7 : Nat)) / (8 : Nat))))) (Prod.snd (Prod.snd (↑a, enc a B, (a + (7 : Nat)) / (8 : Nat)))) = true ∧ Nat.beq (List.length t) (0 : Nat) = false ∧ True
noncomputable def pc_a9nn (m a B k l : Nat) (i j q : Int) (d v n : Nat → Int) (u : Nat → List Nat) (t T : List Nat) (c : Nat → Nat) (xs : List Int) : Prop := True
noncomputable def pc_a9ns (m a B k l : Nat) (i j q : Int) (d v n : Nat → Int) (u : Nat → List Nat) (t T : List Nat) (c : Nat → Nat) (xs : List Int) : Prop := Nat.ble ((0 : Nat) + Prod.snd (xs, l)) (List.length (Prod.fst (xs, l))) = true ∧ True
noncomputable def pc_a10n (m a B k l : Nat) (i j q : Int) (d v n : Nat → Int) (u : Nat → List Nat) (t T : List Nat) (c : Nat → Nat) (xs : List Int) : Prop := True
noncomputable def pc_zbn (m a B k l : Nat) (i j q : Int) (d v n : Nat → Int) (u : Nat → List Nat) (t T : List Nat) (c : Nat → Nat) (xs : List Int) : Prop := sEq (List.take (Int.toNat ↑(List.length t) - Int.toNat ↑(0 : Nat)) (List.drop (Int.toNat ↑(0 : Nat)) (List.take (Int.toNat ↑(List.length T) - Int.toNat (wr IntKind.i64 (Int.tdiv (bitsM BinOp.andNot IntKind.i64 (wr IntKind.i64 (Int.add q (7 : Int))) (7 : Int)) (8 : Int)))) (List.drop (Int.toNat (wr IntKind.i64 (Int.tdiv (bitsM BinOp.andNot IntKind.i64 (wr IntKind.i64 (Int.add q (7 : Int))) (7 : Int)) (8 : Int)))) T)))) t = true ∧ sEq (List.take (Int.toNat ↑(List.length t) - Int.toNat ↑(0 : Nat)) (List.drop (Int.toNat ↑(0 : Nat)) (List.take (Int.toNat ↑(List.length T) - Int.toNat (wr IntKind.i64 (Int.tdiv (bitsM BinOp.andNot IntKind.i64 (wr IntKind.i64 (Int.add q (7 : Int))) (7 : Int)) (8 : Int)))) (List.drop (Int.toNat (wr IntKind.i64 (Int.tdiv (bitsM BinOp.andNot IntKind.i64 (wr IntKind.i64 (Int.add q (7 : Int))) (7 : Int)) (8 : Int)))) T)))) t = true ∧ sEq (List.take (Int.toNat ↑(List.length t) - Int.toNat ↑(0 : Nat)) (List.drop (Int.toNat ↑(0 : Nat)) (List.take (Int.toNat ↑(List.length T) - Int.toNat (wr IntKind.i64 (Int.tdiv (bitsM BinOp.andNot IntKind.i64 (wr IntKind.i64 (Int.add q (7 : Int))) (7 : Int)) (8 : Int)))) (List.drop (Int.toNat (wr IntKind.i64 (Int.tdiv (bitsM BinOp.andNot IntKind.i64 (wr IntKind.i64 (Int.add q (7 : Int))) (7 : Int)) (8 : Int)))) T)))) t = true ∧ ((59 : TypeId) = (59 : TypeId) ∧ false = false) ∧ fitN (wr IntKind.i64 (Int.add (bitsM BinOp.andNot IntKind.i64 (wr IntKind.i64 (Int.add q (7 : Int))) (7 : Int)) (wr IntKind.i64 (Int.mul (8 : Int) ↑(List.length t))))) (1 : Int) T = false ∧ okN (1 : Int) = true ∧ ((0 : Int) ≤ wr IntKind.i64 (Int.add (bitsM BinOp.andNot IntKind.i64 (wr IntKind.i64 (Int.add q (7 : Int))) (7 : Int)) (wr IntKind.i64 (Int.mul (8 : Int) ↑(List.length t)))) ∧ wr IntKind.i64 (Int.add (bitsM BinOp.andNot IntKind.i64 (wr IntKind.i64 (Int.add q (7 : Int))) (7 : Int)) (wr IntKind.i64 (Int.mul (8 : Int) ↑(List.length t)))) ≤ (8 : Int) * ↑(List.length T) ∧ List.length T ≤ (140737488355328 : Nat) ∧ ∀ (x : Nat), x ∈ T → x < (256 : Nat)) ∧ okCut (↑(0 : Nat)) (↑(List.length t)) (List.length (List.take (Int.toNat ↑(List.length T) - Int.toNat (wr IntKind.i64 (Int.tdiv (bitsM BinOp.andNot IntKind.i64 (wr IntKind.i64 (Int.add q (7 : Int))) (7 : Int)) (8 : Int)))) (List.drop (Int.toNat (wr IntKind.i64 (Int.tdiv (bitsM BinOp.andNot IntKind.i64 (wr IntKind.i64 (Int.add q (7 : Int))) (7 : Int)) (8 : Int)))) T))) = true ∧ ilt ↑(List.length (List.take (Int.toNat ↑(List.length T) - Int.toNat (wr IntKind.i64 (Int.tdiv (bitsM BinOp.andNot IntKind.i64 (wr IntKind.i64 (Int.add q (7 : Int))) (7 : Int)) (8 : Int)))) (List.drop (Int.toNat (wr IntKind.i64 (Int.tdiv (bitsM BinOp.andNot IntKind.i64 (wr IntKind.i64 (Int.add q (7 : Int))) (7 : Int)) (8 : Int)))) T))) ↑(List.length t) = false ∧ okCut (wr IntKind.i64 (Int.tdiv (bitsM BinOp.andNot IntKind.i64 (wr IntKind.i64 (Int.add q (7 : Int))) (7 : Int)) (8 : Int))) (↑(List.length T)) (List.length T) = true ∧ ilt ↑(List.length t) (0 : Int) = false ∧ True
noncomputable def pc_a9sn (m a B k l : Nat) (i j q : Int) (d v n : Nat → Int) (u : Nat → List Nat) (t T : List Nat) (c : Nat → Nat) (xs : List Int) : Prop := True
noncomputable def pc_a9ss (m a B k l : Nat) (i j q : Int) (d v n : Nat → Int) (u : Nat → List Nat) (t T : List Nat) (c : Nat → Nat) (xs : List Int) : Prop := Nat.ble ((0 : Nat) + Prod.snd (xs, l)) (List.length (Prod.fst (xs, l))) = true ∧ True
noncomputable def pc_a10s (m a B k l : Nat) (i j q : Int) (d v n : Nat → Int) (u : Nat → List Nat) (t T : List Nat) (c : Nat → Nat) (xs : List Int) : Prop := True
noncomputable def pc_zbs (m a B k l : Nat) (i j q : Int) (d v n : Nat → Int) (u : Nat → List Nat) (t T : List Nat) (c : Nat → Nat) (xs : List Int) : Prop := sEq (List.take (Int.toNat ↑(List.length t) - Int.toNat ↑(0 : Nat)) (List.drop (Int.toNat ↑(0 : Nat)) (List.take (Int.toNat ↑(List.length T) - Int.toNat (wr IntKind.i64 (Int.tdiv (bitsM BinOp.andNot IntKind.i64 (wr IntKind.i64 (Int.add q (7 : Int))) (7 : Int)) (8 : Int)))) (List.drop (Int.toNat (wr IntKind.i64 (Int.tdiv (bitsM BinOp.andNot IntKind.i64 (wr IntKind.i64 (Int.add q (7 : Int))) (7 : Int)) (8 : Int)))) T)))) t = true ∧ sEq (List.take (Int.toNat ↑(List.length t) - Int.toNat ↑(0 : Nat)) (List.drop (Int.toNat ↑(0 : Nat)) (List.take (Int.toNat ↑(List.length T) - Int.toNat (wr IntKind.i64 (Int.tdiv (bitsM BinOp.andNot IntKind.i64 (wr IntKind.i64 (Int.add q (7 : Int))) (7 : Int)) (8 : Int)))) (List.drop (Int.toNat (wr IntKind.i64 (Int.tdiv (bitsM BinOp.andNot IntKind.i64 (wr IntKind.i64 (Int.add q (7 : Int))) (7 : Int)) (8 : Int)))) T)))) t = true ∧ sEq (List.take (Int.toNat ↑(List.length t) - Int.toNat ↑(0 : Nat)) (List.drop (Int.toNat ↑(0 : Nat)) (List.take (Int.toNat ↑(List.length T) - Int.toNat (wr IntKind.i64 (Int.tdiv (bitsM BinOp.andNot IntKind.i64 (wr IntKind.i64 (Int.add q (7 : Int))) (7 : Int)) (8 : Int)))) (List.drop (Int.toNat (wr IntKind.i64 (Int.tdiv (bitsM BinOp.andNot IntKind.i64 (wr IntKind.i64 (Int.add q (7 : Int))) (7 : Int)) (8 : Int)))) T)))) t = true ∧ ((59 : TypeId) = (59 : TypeId) ∧ false = false) ∧ fitN (wr IntKind.i64 (Int.add (bitsM BinOp.andNot IntKind.i64 (wr IntKind.i64 (Int.add q (7 : Int))) (7 : Int)) (wr IntKind.i64 (Int.mul (8 : Int) ↑(List.length t))))) (1 : Int) T = false ∧ okN (1 : Int) = true ∧ ((0 : Int) ≤ wr IntKind.i64 (Int.add (bitsM BinOp.andNot IntKind.i64 (wr IntKind.i64 (Int.add q (7 : Int))) (7 : Int)) (wr IntKind.i64 (Int.mul (8 : Int) ↑(List.length t)))) ∧ wr IntKind.i64 (Int.add (bitsM BinOp.andNot IntKind.i64 (wr IntKind.i64 (Int.add q (7 : Int))) (7 : Int)) (wr IntKind.i64 (Int.mul (8 : Int) ↑(List.length t)))) ≤ (8 : Int) * ↑(List.length T) ∧ List.length T ≤ (140737488355328 : Nat) ∧ ∀ (x : Nat), x ∈ T → x < (256 : Nat)) ∧ okCut (↑(0 : Nat)) (↑(List.length t)) (List.length (List.take (Int.toNat ↑(List.length T) - Int.toNat (wr IntKind.i64 (Int.tdiv (bitsM BinOp.andNot IntKind.i64 (wr IntKind.i64 (Int.add q (7 : Int))) (7 : Int)) (8 : Int)))) (List.drop (Int.toNat (wr IntKind.i64 (Int.tdiv (bitsM BinOp.andNot IntKind.i64 (wr IntKind.i64 (Int.add q (7 : Int))) (7 : Int)) (8 : Int)))) T))) = true ∧ ilt ↑(List.length (List.take (Int.toNat ↑(List.length T) - Int.toNat (wr IntKind.i64 (Int.tdiv (bitsM BinOp.andNot IntKind.i64 (wr IntKind.i64 (Int.add q (7 : Int))) (7 : Int)) (8 : Int)))) (List.drop (Int.toNat (wr IntKind.i64 (Int.tdiv (bitsM BinOp.andNot IntKind.i64 (wr IntKind.i64 (Int.add q (7 : Int))) (7 : Int)) (8 : Int)))) T))) ↑(List.length t) = false ∧ okCut (wr IntKind.i64 (Int.tdiv (bitsM BinOp.andNot IntKind.i64 (wr IntKind.i64 (Int.add q (7 : Int))) (7 : Int)) (8 : Int))) (↑(List.length T)) (List.length T) = true ∧ ilt ↑(List.length t) (0 : Int) = false ∧ True
noncomputable def pc_c0 (m a B k l : Nat) (i j q : Int) (d v n : Nat → Int) (u : Nat → List Nat) (t T : List Nat) (c : Nat → Nat) (xs : List Int) : Prop := True
noncomputable def pc_a12 (m a B k l : Nat) (i j q : Int) (d v n : Nat → Int) (u : Nat → List Nat) (t T : List Nat) (c : Nat → Nat) (xs : List Int) : Prop := True
noncomputable def pc_lbe (m a B k l : Nat) (i j q : Int) (d v n : Nat → Int) (u : Nat → List Nat) (t T : List Nat) (c : Nat → Nat) (xs : List Int) : Prop := ilt j ↑(Prod.fst (k, kf d v n u c)) = false ∧ True
noncomputable def pc_lbr (m a B k l : Nat) (i j q : Int) (d v n : Nat → Int) (u : Nat → List Nat) (t T : List Nat) (c : Nat → Nat) (xs : List Int) : Prop := (!ieq (↑(bitsAt T (Int.toNat q) (Int.toNat (n (c (Int.toNat j)))))) (v (c (Int.toNat j)))) = false ∧ Nat.blt (Int.toNat j) (Prod.fst (k, kf d v n u c)) = true ∧ inB j (Prod.fst (k, kf d v n u c)) = true ∧ ((59 : TypeId) = (59 : TypeId) ∧ false = false) ∧ fitN q (n (c (Int.toNat j))) T = true ∧ okN (n (c (Int.toNat j))) = true ∧ ((0 : Int) ≤ q ∧ q ≤ (8 : Int) * ↑(List.length T) ∧ List.length T ≤ (140737488355328 : Nat) ∧ ∀ (x : Nat), x ∈ T → x < (256 : Nat)) ∧ Nat.blt (Int.toNat j) (Prod.fst (k, kf d v n u c)) = true ∧ inB j (Prod.fst (k, kf d v n u c)) = true ∧ ilt j ↑(Prod.fst (k, kf d v n u c)) = true ∧ True
theorem y_a8nn0 (m a B k l : Nat) (i j q : Int) (d v n : Nat → Int) (u : Nat → List Nat) (t T : List Nat) (c : Nat → Nat) (xs : List Int) : wkX 104 [1, 5, 6] (mK 1002 1003 false) 1004 (exec A8 bT bC 1000 (sBk m t i (opF d v n u) none none True [true])) = some (.normal, s8 m t (opF d v n u) none (atN 0 t.length) none (pc_a8nn0 m a B k l i j q d v n u t T c xs) []) := by kernel_rfl
theorem y_a8nn1 (m a B k l : Nat) (i j q : Int) (d v n : Nat → Int) (u : Nat → List Nat) (t T : List Nat) (c : Nat → Nat) (xs : List Int) : wkX 104 [1, 5, 6] (mK 1002 1004 false) 1004 (exec A8 bT bC 1000 (sBk m t i (opF d v n u) none none True [false])) = some (.normal, s8 m t (opF d v n u) none (atN 0 t.length) (some (natInts t, t.length)) (pc_a8nn1 m a B k l i j q d v n u t T c xs) []) := by kernel_rfl
theorem y_a8ns0 (m a B k l : Nat) (i j q : Int) (d v n : Nat → Int) (u : Nat → List Nat) (t T : List Nat) (c : Nat → Nat) (xs : List Int) : wkX 104 [1, 5, 6] (mK 1002 1003 false) 1004 (exec A8 bT bC 1000 (sBk m t i (opF d v n u) none (some (k, kf d v n u c)) True [true])) = some (.normal, s8 m t (opF d v n u) (some (k, kf d v n u c)) (atN 0 t.length) none (pc_a8ns0 m a B k l i j q d v n u t T c xs) []) := by kernel_rfl
theorem y_a8ns1 (m a B k l : Nat) (i j q : Int) (d v n : Nat → Int) (u : Nat → List Nat) (t T : List Nat) (c : Nat → Nat) (xs : List Int) : wkX 104 [1, 5, 6] (mK 1002 1004 false) 1004 (exec A8 bT bC 1000 (sBk m t i (opF d v n u) none (some (k, kf d v n u c)) True [false])) = some (.normal, s8 m t (opF d v n u) (some (k, kf d v n u c)) (atN 0 t.length) (some (natInts t, t.length)) (pc_a8ns1 m a B k l i j q d v n u t T c xs) []) := by kernel_rfl
theorem y_a8ss0 (m a B k l : Nat) (i j q : Int) (d v n : Nat → Int) (u : Nat → List Nat) (t T : List Nat) (c : Nat → Nat) (xs : List Int) : wkX 104 [1, 5, 6] (mK 1002 1003 false) 1004 (exec A8 bT bC 1000 (sBk m t i (opF d v n u) (some ((a : Int), enc a B, (a + 7) / 8)) (some (k, kf d v n u c)) True [true])) = some (.normal, s8 m t (opF d v n u) (some (k, kf d v n u c)) (atN a t.length) (some (enc a B, (a + 7) / 8)) (pc_a8ss0 m a B k l i j q d v n u t T c xs) []) := by kernel_rfl
theorem y_a8ss1 (m a B k l : Nat) (i j q : Int) (d v n : Nat → Int) (u : Nat → List Nat) (t T : List Nat) (c : Nat → Nat) (xs : List Int) : wkX 104 [1, 5, 6] (mK 1002 1004 false) 1004 (exec A8 bT bC 1000 (sBk m t i (opF d v n u) (some ((a : Int), enc a B, (a + 7) / 8)) (some (k, kf d v n u c)) True [false])) = some (.normal, s8 m t (opF d v n u) (some (k, kf d v n u c)) (atN a t.length) (some (enc a B ++ natInts t, (a + 7) / 8 + t.length)) (pc_a8ss1 m a B k l i j q d v n u t T c xs) []) := by kernel_rfl
theorem y_a9nn (m a B k l : Nat) (i j q : Int) (d v n : Nat → Int) (u : Nat → List Nat) (t T : List Nat) (c : Nat → Nat) (xs : List Int) : wkX 104 [1, 6, 8] m9 1004 (exec A9 bT bC 1000 (s8 m t (opF d v n u) none q none True [])) = some (.normal, s9 m t (opF d v n u) none false false 0 [] [] (pc_a9nn m a B k l i j q d v n u t T c xs) []) := by kernel_rfl
theorem y_a9ns (m a B k l : Nat) (i j q : Int) (d v n : Nat → Int) (u : Nat → List Nat) (t T : List Nat) (c : Nat → Nat) (xs : List Int) : wkX 104 [1, 6, 8] m9 1004 (exec A9 bT bC 1000 (s8 m t (opF d v n u) none q (some (xs, l)) True [])) = some (.normal, s9 m t (opF d v n u) none false true 0 (numBytes (List.take l (List.drop 0 xs))) [] (pc_a9ns m a B k l i j q d v n u t T c xs) []) := by kernel_rfl
theorem y_a10n (m a B k l : Nat) (i j q : Int) (d v n : Nat → Int) (u : Nat → List Nat) (t T : List Nat) (c : Nat → Nat) (xs : List Int) : wkX 104 [1, 6, 8] m10 1004 (exec A10 bT bC 1000 (s9 m t (opF d v n u) none true true q T [] True [])) = some (.normal, s9 m t (opF d v n u) none true true q T [] (pc_a10n m a B k l i j q d v n u t T c xs) []) := by kernel_rfl
theorem y_zbn (m a B k l : Nat) (i j q : Int) (d v n : Nat → Int) (u : Nat → List Nat) (t T : List Nat) (c : Nat → Nat) (xs : List Int) : wkX 104 [4] m10 1004 (exec ZB bT bkC 1000 (s9 m t (opF d v n u) none true true q T [] True [false,false,true,false,true,true,true])) = some (.ret, ⟨mkEnv 104 [(4, .bool false true)], ⟨h9 m (opF d v n u) none true true (atN q t.length) T, 1004, (pc_zbn m a B k l i j q d v n u t T c xs), []⟩, [], .no, []⟩) := by kernel_rfl
theorem y_a9sn (m a B k l : Nat) (i j q : Int) (d v n : Nat → Int) (u : Nat → List Nat) (t T : List Nat) (c : Nat → Nat) (xs : List Int) : wkX 104 [1, 6, 8] m9 1004 (exec A9 bT bC 1000 (s8 m t (opF d v n u) (some (k, kf d v n u c)) q none True [])) = some (.normal, s9 m t (opF d v n u) (some (k, kf d v n u c)) false false 0 [] [] (pc_a9sn m a B k l i j q d v n u t T c xs) []) := by kernel_rfl
theorem y_a9ss (m a B k l : Nat) (i j q : Int) (d v n : Nat → Int) (u : Nat → List Nat) (t T : List Nat) (c : Nat → Nat) (xs : List Int) : wkX 104 [1, 6, 8] m9 1004 (exec A9 bT bC 1000 (s8 m t (opF d v n u) (some (k, kf d v n u c)) q (some (xs, l)) True [])) = some (.normal, s9 m t (opF d v n u) (some (k, kf d v n u c)) false true 0 (numBytes (List.take l (List.drop 0 xs))) [] (pc_a9ss m a B k l i j q d v n u t T c xs) []) := by kernel_rfl
theorem y_a10s (m a B k l : Nat) (i j q : Int) (d v n : Nat → Int) (u : Nat → List Nat) (t T : List Nat) (c : Nat → Nat) (xs : List Int) : wkX 104 [1, 6, 8] m10 1004 (exec A10 bT bC 1000 (s9 m t (opF d v n u) (some (k, kf d v n u c)) true true q T [] True [])) = some (.normal, s9 m t (opF d v n u) (some (k, kf d v n u c)) true true q T [] (pc_a10s m a B k l i j q d v n u t T c xs) []) := by kernel_rfl
theorem y_zbs (m a B k l : Nat) (i j q : Int) (d v n : Nat → Int) (u : Nat → List Nat) (t T : List Nat) (c : Nat → Nat) (xs : List Int) : wkX 104 [4] m10 1004 (exec ZB bT bkC 1000 (s9 m t (opF d v n u) (some (k, kf d v n u c)) true true q T [] True [false,false,true,false,true,true,true])) = some (.ret, ⟨mkEnv 104 [(4, .bool false true)], ⟨h9 m (opF d v n u) (some (k, kf d v n u c)) true true (atN q t.length) T, 1004, (pc_zbs m a B k l i j q d v n u t T c xs), []⟩, [], .no, []⟩) := by kernel_rfl
theorem y_c0 (m a B k l : Nat) (i j q : Int) (d v n : Nat → Int) (u : Nat → List Nat) (t T : List Nat) (c : Nat → Nat) (xs : List Int) : wkX 104 [1, 6, 8] m10 1004 (exec (c1 t7) bT bkC 1000 (s9 m t (opF d v n u) none true true q T [] True [])) = some (.normal, s9 m t (opF d v n u) none true true q T [] (pc_c0 m a B k l i j q d v n u t T c xs) []) := by kernel_rfl
theorem y_a12 (m a B k l : Nat) (i j q : Int) (d v n : Nat → Int) (u : Nat → List Nat) (t T : List Nat) (c : Nat → Nat) (xs : List Int) : wkX 104 [1, 6, 8, 9] m10 1004 (exec A12 bT bkC 1000 (s9 m t (opF d v n u) (some (k, kf d v n u c)) true true q T [] True [])) = some (.normal, s9 m t (opF d v n u) (some (k, kf d v n u c)) true true q T [(9, .int false .i64 0)] (pc_a12 m a B k l i j q d v n u t T c xs) []) := by kernel_rfl
theorem y_lbe (m a B k l : Nat) (i j q : Int) (d v n : Nat → Int) (u : Nat → List Nat) (t T : List Nat) (c : Nat → Nat) (xs : List Int) : wkX 104 [1, 6, 8, 9] m10 1004 (exec LB bT bkC 1000 (s9 m t (opF d v n u) (some (k, kf d v n u c)) true true q T [(9, .int true .i64 j)] True [false])) = some (.exit 2, s9 m t (opF d v n u) (some (k, kf d v n u c)) true true q T [(9, .int true .i64 j)] (pc_lbe m a B k l i j q d v n u t T c xs) []) := by kernel_rfl
theorem y_lbr (m a B k l : Nat) (i j q : Int) (d v n : Nat → Int) (u : Nat → List Nat) (t T : List Nat) (c : Nat → Nat) (xs : List Int) : wkX 104 [1, 6, 8, 9] m10 1004 (exec LB bT bkC 1000 (s9 m t (opF d v n u) (some (k, kf d v n u c)) true true q T [(9, .int true .i64 j)] True [true,true,true,false])) = some (.normal, s9 m t (opF d v n u) (some (k, kf d v n u c)) true true (q.add (n (c j.toNat))) T [(9, .int true .i64 (wr .i64 (j.add 1)))] (pc_lbr m a B k l i j q d v n u t T c xs) []) := by kernel_rfl
/-- the text that was written -/
def T0 (a B : Nat) (t : List Nat) : List Nat := nbytes ((up8 a + 8 * t.length + 7) / 8) (B + numB t * 2 ^ up8 a)
theorem up8_mod (a : Nat) : up8 a = 8 * ((a + 7) / 8) := by unfold up8; rw [Nat.mul_comm]
theorem T0_len (a B : Nat) (t : List Nat) : (T0 a B t).length = (a + 7) / 8 + t.length := by
  unfold T0 nbytes
  rw [List.length_map, List.length_range, up8_mod]; omega
theorem T0_lt (a B : Nat) (t : List Nat) : ∀ x ∈ T0 a B t, x < 256 := nbytes_lt _ _
theorem numB_nbytes (k B : Nat) : numB (nbytes k B) = B % 2 ^ (8 * k) := by
  induction k with
  | zero => simp [nbytes, numB, Nat.mod_one]
  | succ k ih =>
    have e : nbytes (k + 1) B = nbytes k B ++ [B / 2 ^ (8 * k) % 256] := by unfold nbytes; rw [List.range_succ, List.map_append]; rfl
    have el : (nbytes k B).length = k := by simp [nbytes]
    rw [e, numB_snoc, el, ih, show 8 * (k + 1) = 8 * k + 8 from by omega, Nat.pow_add, Nat.mod_mul, Nat.mul_comm (2 ^ (8 * k))]
theorem T0_num (a B : Nat) (t : List Nat) (hB : B < 2 ^ a) (ht : ∀ x ∈ t, x < 256) : numB (T0 a B t) = B + numB t * 2 ^ up8 a := by
  unfold T0
  rw [numB_nbytes]
  have h8 : 8 * ((up8 a + 8 * t.length + 7) / 8) = up8 a + 8 * t.length := by rw [up8_mod]; omega
  rw [h8]
  have hB8 : B < 2 ^ up8 a := Nat.lt_of_lt_of_le hB (Nat.pow_le_pow_right (by omega) (by unfold up8; omega))
  have h1 := numB_lt t ht
  have h2 : (numB t + 1) * 2 ^ up8 a ≤ 2 ^ (8 * t.length) * 2 ^ up8 a := Nat.mul_le_mul_right _ h1
  rw [Nat.add_mul, Nat.one_mul] at h2
  refine Nat.mod_eq_of_lt ?_
  rw [Nat.add_comm (up8 a), Nat.pow_add]
  omega
theorem T0_bits (a B x n : Nat) (t : List Nat) (hB : B < 2 ^ a) (ht : ∀ x ∈ t, x < 256) (hx : x + n ≤ a) : bitsAt (T0 a B t) x n = B / 2 ^ x % 2 ^ n := by
  unfold bitsAt
  have hu : a ≤ up8 a := by unfold up8; omega
  rw [T0_num a B t hB ht, up_div _ _ _ _ (by omega)]
  have e : 2 ^ (up8 a - x) = 2 ^ (up8 a - x - n) * 2 ^ n := by rw [← Nat.pow_add]; congr 1; omega
  rw [e, ← Nat.mul_assoc, Nat.add_mul_mod_self_right]
theorem nat_ints (t : List Nat) (ht : ∀ x ∈ t, x < 256) : numBytes (natInts t) = t := by
  unfold numBytes natInts
  rw [List.map_map]
  rw [List.map_congr_left (g := id)]
  · simp
  · intro x hx
    have := ht x hx
    show ((x : Int).toNat) % 256 = x
    rw [Int.toNat_natCast]
    exact Nat.mod_eq_of_lt this
theorem numBytes_append (a b : List Int) : numBytes (a ++ b) = numBytes a ++ numBytes b := by unfold numBytes; rw [List.map_append]
theorem T0_split (a B : Nat) (t : List Nat) (hB : B < 2 ^ a) (ht : ∀ x ∈ t, x < 256) : T0 a B t = numBytes (enc a B) ++ t := by
  have h := enc_app a B t hB ht
  have h2 := congrArg numBytes h
  rw [numBytes_append, nat_ints t ht] at h2
  rw [h2]
  exact (bytes_nat _ _).symm
theorem T0_drop (a B : Nat) (t : List Nat) (hB : B < 2 ^ a) (ht : ∀ x ∈ t, x < 256) : (T0 a B t).drop ((a + 7) / 8) = t := by
  rw [T0_split a B t hB ht]
  have hl : (numBytes (enc a B)).length = (a + 7) / 8 := by unfold numBytes; rw [List.length_map, enc_length]
  rw [← hl, List.drop_left]
theorem take_all (l : List Int) (n : Nat) (h : l.length = n) : List.take n (List.drop 0 l) = l := by rw [List.drop_zero, ← h, List.take_length]
theorem body6 : bodyOf 6 = .seq (c1 (bodyOf 6)) (.seq (c1 (c2 (bodyOf 6))) (.seq (c1 (c2 (c2 (bodyOf 6)))) (.seq (.seq (c1 (c1 (c2 (c2 (c2 (bodyOf 6)))))) (.block 0 (.loop LA))) (.seq A8 (.seq A9 (.seq A10 (.seq (c1 t7) ZB))))))) := by kernel_rfl
theorem body_t7 : c1 t7 = .seq A12 (.block 2 (.loop LB)) := by kernel_rfl
theorem wf6 : wf 104 (c1 (bodyOf 6)) = true ∧ wf 104 (c1 (c2 (bodyOf 6))) = true ∧ wf 104 (c1 (c2 (c2 (bodyOf 6)))) = true ∧ wf 104 (c1 (c1 (c2 (c2 (c2 (bodyOf 6)))))) = true ∧ wf 104 A8 = true ∧ wf 104 A9 = true ∧ wf 104 A10 = true ∧ wf 104 A12 = true ∧ wf 104 LB = true ∧ wf 104 ZB = true ∧ wf 104 (c1 t7) = true := ⟨by kernel_rfl, by kernel_rfl, by kernel_rfl, by kernel_rfl, by kernel_rfl, by kernel_rfl, by kernel_rfl, by kernel_rfl, by kernel_rfl, by kernel_rfl, by kernel_rfl⟩
theorem fits6 : Try.f6.body = some (bodyOf 6) ∧ Try.f6.ntmps = 104 := ⟨by kernel_rfl, by kernel_rfl⟩
theorem okM9 : okM m9 1004 = true := by kernel_rfl
theorem okM10 : okM m10 1004 = true := by kernel_rfl
theorem y_lbe2 (m k : Nat) (q j : Int) (d v n : Nat → Int) (u : Nat → List Nat) (t T : List Nat) (c : Nat → Nat) : wkX 104 [1, 6, 8] m10 1004 (exec LB bT bkC 1000 (s9 m t (opF d v n u) (some (k, kf d v n u c)) true true q T [(9, .int true .i64 j)] True [false])) = some (.exit 2, s9 m t (opF d v n u) (some (k, kf d v n u c)) true true q T [] (ilt j k = false ∧ True) []) := by kernel_rfl
section
variable {ρ0 : Rn} {H0 : Nat → Option AObj} {w0 : World} {act : Act} {w : World}
theorem back_loop {m : Nat} {t : List Nat} {d v n : Nat → Int} {u : Nat → List Nat} (hv : ∀ j, j < m → 0 ≤ v j ∧ v j < 4294967296) (hs : SL Try.prog 104 [] ρ0 H0 w0 (sBk m t 0 (opF d v n u) none none True []) act w) :
    (Code.block 0 (.loop LA)).wp Try.prog (fun x a' w' => x = .normal ∧ ∃ a B k i c p, Bk m v n a B k c p ∧ k ≤ 60 ∧ SL Try.prog 104 [] ρ0 H0 w0 (sS m t d v n u a B k c i) a' w') act w := by
  refine wp_block (loop_sl (ι := Nat × Nat × Nat × Nat × (Nat → Nat)) (fun z => sS m t d v n u z.1 z.2.1 z.2.2.1 z.2.2.2.2 z.2.2.2.1) (fun z => (∃ p, Bk m v n z.1 z.2.1 z.2.2.1 z.2.2.2.2 p) ∧ z.2.2.1 ≤ z.2.2.2.1 ∧ z.2.2.2.1 ≤ 60) (fun z => 60 - z.2.2.2.1) (0, 0, 0, 0, fun _ => 0) ⟨⟨fun _ => 0, ⟨by simp, Nat.zero_le _, rfl, rfl, fun j hj => absurd hj (Nat.not_lt_zero j)⟩⟩, Nat.le_refl _, Nat.zero_le _⟩ (hs.alike rfl rfl rfl) ?_)
  rintro ⟨a, B, k, i, c⟩ ⟨⟨p, h1⟩, h2, h3⟩ act w hs
  simp only at h1 h2 h3 hs
  refine wp_mono (back_round hv h1 h2 h3 hs) ?_
  rintro x a' w' (⟨rfl, hs'⟩ | ⟨rfl, hi, a1, B1, k1, c1', p1, q1, q2, hs'⟩)
  · exact ⟨rfl, a, B, k, i, c, p, h1, Nat.le_trans h2 h3, hs'⟩
  · have g2 : i + 1 ≤ 60 := hi
    have g3 : 60 - (i + 1) < 60 - i := by omega
    exact ⟨(a1, B1, k1, i + 1, c1'), ⟨⟨p1, q1⟩, q2, g2⟩, g3, hs'⟩
theorem kept_loop {m a B k : Nat} {t : List Nat} {d v n : Nat → Int} {u : Nat → List Nat} {c p : Nat → Nat} (h : Bk m v n a B k c p) (hk : k ≤ 60) (ht : ∀ x ∈ t, x < 256) (htl : t.length ≤ 140737488351232)
    (hs : SL Try.prog 104 [] ρ0 H0 w0 (s9 m t (opF d v n u) (some (k, kf d v n u c)) true true 0 (T0 a B t) [(9, .int true .i64 0)] True []) act w) :
    (Code.block 2 (.loop LB)).wp Try.prog (fun x a' w' => x = .normal ∧ SL Try.prog 104 [] ρ0 H0 w0 (s9 m t (opF d v n u) (some (k, kf d v n u c)) true true (a : Nat) (T0 a B t) [] True []) a' w') act w := by
  have ha := h.ha
  have hTl := T0_len a B t
  have hTb : (T0 a B t).length ≤ 140737488355328 := by rw [hTl]; omega
  refine wp_block (loop_sl (ι := Nat) (fun j => s9 m t (opF d v n u) (some (k, kf d v n u c)) true true (p j : Nat) (T0 a B t) [(9, .int true .i64 (j : Int))] True []) (fun j => j ≤ k) (fun j => k - j) 0 (Nat.zero_le _) (by rw [h.p0]; exact hs) ?_)
  intro j hj act w hs
  have ej : (j : Int).toNat = j := Int.toNat_natCast j
  rcases Nat.lt_or_ge j k with hlt | hge
  · obtain ⟨h1, nn, vv, q1, q2, q3, q4, q5, q6, q7⟩ := h.st j hlt
    have e1 : wr .i64 (Int.add (j : Int) 1) = ((j + 1 : Nat) : Int) := by show wr .i64 ((j : Int) + 1) = _; rw [wr_i64 (by omega) (by omega)]; omega
    have hn : n (c (Int.toNat (j : Int))) = (nn : Int) := by rw [ej]; exact q1
    have e0 := y_lbr m a B k 0 0 j (p j : Nat) d v n u t (T0 a B t) c []
    have hat : Int.add ((p j : Nat) : Int) (n (c (Int.toNat (j : Int)))) = ((p (j + 1) : Nat) : Int) := by rw [hn, q5]; rfl
    rw [hat, e1] at e0
    have hfit : p j + nn ≤ 8 * (T0 a B t).length := by rw [hTl]; omega
    refine wp_mono (exec_sl bT_ok bM bkC_ok wf6.2.2.2.2.2.2.2.2.1 e0 okM10 (fun v h => by cases h) ?_ rfl rfl (kF _ _) (hs.alike rfl rfl rfl)) ?_
    · have t3 : inB (j : Int) k = true := inB_t (by omega) (by omega)
      have t4 : Nat.blt (Int.toNat (j : Int)) k = true := blt_t (by rw [ej]; exact hlt)
      refine ⟨?_, t4, t3, ⟨rfl, rfl⟩, by rw [hn]; exact fit_t hfit, by rw [hn]; exact ok_t q3, ⟨by omega, by omega, hTb, T0_lt a B t⟩, t4, t3, ilt_t (by show (j : Int) < (k : Int); omega), trivial⟩
      rw [hn, Int.toNat_natCast, Int.toNat_natCast, ej, q2, T0_bits a B (p j) nn t h.hB ht (by omega), q7]
      exact sim_false _ (ieq_t rfl)
    · rintro x a' w' ⟨hx, hs'⟩
      obtain rfl := hx.normal
      have g : k - (j + 1) < k - j := by omega
      exact ⟨j + 1, hlt, g, hs'.alike rfl rfl rfl⟩
  · obtain rfl : j = k := by omega
    refine wp_mono (exec_sl (ks := [1, 6, 8]) (m := m10) (nx := 1004) bT_ok bM bkC_ok wf6.2.2.2.2.2.2.2.2.1 (st' := s9 m t (opF d v n u) (some (j, kf d v n u c)) true true (p j : Nat) (T0 a B t) [] (ilt (j : Int) (j : Int) = false ∧ True) []) (e := .exit 2) (st := s9 m t (opF d v n u) (some (j, kf d v n u c)) true true (p j : Nat) (T0 a B t) [(9, .int true .i64 (j : Int))] True [false]) (y_lbe2 m j (p j : Nat) j d v n u t (T0 a B t) c) okM10 (fun v h => by cases h) ⟨ilt_f (by omega), trivial⟩ rfl rfl (kF _ _) (hs.alike rfl rfl rfl)) ?_
    rintro x a' w' ⟨hx, hs'⟩
    obtain rfl := hx.exit
    rw [h.pk] at hs'
    exact ⟨rfl, hs'.alike rfl rfl rfl⟩
end
open Go.Proofs Go.Proofs.Yticfagianocfiaa Go.RowKit
set_option maxRecDepth 1000000
theorem h9_turn {P : Program} {m : Nat} {f : Nat → List AV} {x : Option (Nat × (Nat → List AV))} {b1 b2 : Bool} {a : Int} {T : List Nat} : ∀ b o', (h9 m f x true true a T).get b = some o' → ∃ o, (h9 m f x b1 b2 a T).get b = some o ∧ (o'.fixed = false → o.fixed = false) ∧ ∀ (ρ : Rn) (D : Nat → Prop) (r : Obj), OR P ρ D b o r → OR P ρ D b o' r := by
  intro b o' h
  have e1 : h9 m f x true true a T = mkH [(1000, some (.rows 44 4 m f)), (1001, some (.cells 59 [.int true .i64 a, .str true T] false)), (1002, kO x)] := rfl
  have e2 : h9 m f x b1 b2 a T = mkH [(1000, some (.rows 44 4 m f)), (1001, some (.cells 59 [.int b1 .i64 a, .str b2 T] false)), (1002, kO x)] := rfl
  rw [e1, mkH3_get] at h
  rw [e2, mkH3_get]
  by_cases c0 : b = 1000
  · rw [if_pos c0] at h ⊢; exact ⟨_, h, id, fun _ _ _ h => h⟩
  · rw [if_neg c0] at h ⊢
    by_cases c1 : b = 1001
    · rw [if_pos c1] at h ⊢
      injection h with h
      subst h
      exact ⟨_, rfl, fun _ => rfl, fun ρ D r ho => two_or (u := .int b1 .i64 a) (v := .str b2 T) (u' := .int true .i64 a) (v' := .str true T) (show _ ∧ _ from ⟨rfl, rfl⟩) (show T = T from rfl) ho⟩
    · rw [if_neg c1] at h ⊢
      by_cases c2 : b = 1002
      · rw [if_pos c2] at h ⊢; exact ⟨_, h, id, fun _ _ _ h => h⟩
      · rw [if_neg c2] at h; cases h
theorem T0_enc (a B : Nat) (t : List Nat) (hB : B < 2 ^ a) (ht : ∀ x ∈ t, x < 256) (l : Nat) (hl : l = (a + 7) / 8 + t.length) : numBytes (List.take l (List.drop 0 (enc a B ++ natInts t))) = T0 a B t := by
  have hlen : (enc a B ++ natInts t).length = l := by rw [List.length_append, enc_length, hl]; simp [natInts]
  rw [take_all _ _ hlen, numBytes_append, nat_ints t ht, T0_split a B t hB ht]
section
variable {ρ0 : Rn} {H0 : Nat → Option AObj} {w0 : World} {act : Act} {w : World}
/-- what was written is read: the reader at its begin -/
theorem back_mid {m a B k i : Nat} {t : List Nat} {d v n : Nat → Int} {u : Nat → List Nat} {c p : Nat → Nat} {Q : Exit → Act → World → Prop} {rest : Code} (h : Bk m v n a B k c p) (hk : k ≤ 60) (ht : ∀ x ∈ t, x < 256) (htl : t.length ≤ 140737488351232)
    (hs : SL Try.prog 104 [] ρ0 H0 w0 (sS m t d v n u a B k c i) act w)
    (next : ∀ a' w', SL Try.prog 104 [] ρ0 H0 w0 (s9 m t (opF d v n u) (xS d v n u k c) true true 0 (T0 a B t) [] True []) a' w' → rest.wp Try.prog Q a' w') :
    (Code.seq A8 (.seq A9 rest)).wp Try.prog Q act w := by
  have ha := h.ha
  have hB := h.hB
  have k0 : k = 0 → a = 0 := fun e => by omega
  -- behind Add
  have mid : A8.wp Try.prog (fun x a' w' => x = .normal ∧ ((t = [] ∧ a = 0 ∧ ∃ q, SL Try.prog 104 [] ρ0 H0 w0 (s8 m t (opF d v n u) (xS d v n u k c) q none True []) a' w') ∨
      (∃ q xs l, numBytes (List.take l (List.drop 0 xs)) = T0 a B t ∧ l = xs.length ∧ SL Try.prog 104 [] ρ0 H0 w0 (s8 m t (opF d v n u) (xS d v n u k c) q (some (xs, l)) True []) a' w'))) act w := by
    by_cases hz : t.length = 0
    · have ht0 : t = [] := List.length_eq_zero_iff.1 hz
      have tz : Nat.beq t.length 0 = true := by rw [hz]; rfl
      rcases Nat.eq_zero_or_pos a with rfl | ha0
      · rcases Nat.eq_zero_or_pos k with rfl | hk0
        · refine wp_mono (exec_sl bT_ok bM bC_ok wf6.2.2.2.2.1 (y_a8nn0 m 0 B 0 0 i 0 0 d v n u t [] c []) okN1 (fun v h => by cases h) ⟨tz, trivial⟩ rfl rfl (kF _ _) (hs.alike rfl rfl rfl)) ?_
          exact fun x a' w' ⟨h1, h2⟩ => ⟨h1.normal, .inl ⟨ht0, rfl, _, h2.alike rfl rfl rfl⟩⟩
        · unfold sS at hs
          rw [xS_pos c hk0] at hs ⊢
          refine wp_mono (exec_sl bT_ok bM bC_ok wf6.2.2.2.2.1 (y_a8ns0 m 0 B k 0 i 0 0 d v n u t [] c []) okN1 (fun v h => by cases h) ⟨tz, trivial⟩ rfl rfl (kF _ _) (hs.alike rfl rfl rfl)) ?_
          exact fun x a' w' ⟨h1, h2⟩ => ⟨h1.normal, .inl ⟨ht0, rfl, _, h2.alike rfl rfl rfl⟩⟩
      · have hk0 : 0 < k := by omega
        unfold sS at hs
        rw [xS_pos c hk0, wS_pos B ha0] at hs
        rw [xS_pos c hk0]
        refine wp_mono (exec_sl bT_ok bM bC_ok wf6.2.2.2.2.1 (y_a8ss0 m a B k 0 i 0 0 d v n u t [] c []) okN1 (fun v h => by cases h) ⟨tz, trivial⟩ rfl rfl (kF _ _) (hs.alike rfl rfl rfl)) ?_
        refine fun x a' w' ⟨h1, h2⟩ => ⟨h1.normal, .inr ⟨_, _, _, ?_, ?_, h2.alike rfl rfl rfl⟩⟩
        · have := T0_enc a B t hB ht ((a + 7) / 8) (by omega)
          rw [← this, ht0]
          have en : enc a B ++ natInts [] = enc a B := List.append_nil _
          rw [en]
        · exact (enc_length a B).symm
    · have tz : Nat.beq t.length 0 = false := beq_f hz
      rcases Nat.eq_zero_or_pos a with rfl | ha0
      · have rm : ((t.length * 1).ble 140737488355328 && t.length.ble 140737488355328) = true := by rw [Bool.and_eq_true]; exact ⟨ble_t (by omega), ble_t (by omega)⟩
        have hfin : numBytes (List.take t.length (List.drop 0 (natInts t))) = T0 0 B t := by
          have := T0_enc 0 B t hB ht t.length (by omega)
          exact this
        have hln : t.length = (natInts t).length := by simp [natInts]
        rcases Nat.eq_zero_or_pos k with rfl | hk0
        · refine wp_mono (exec_sl bT_ok bM bC_ok wf6.2.2.2.2.1 (y_a8nn1 m 0 B 0 0 i 0 0 d v n u t [] c []) okN2 (fun v h => by cases h) ⟨rm, tz, trivial⟩ rfl rfl (kF _ _) (hs.alike rfl rfl rfl)) ?_
          exact fun x a' w' ⟨h1, h2⟩ => ⟨h1.normal, .inr ⟨_, _, _, hfin, hln, h2.alike rfl rfl rfl⟩⟩
        · unfold sS at hs
          rw [xS_pos c hk0] at hs ⊢
          refine wp_mono (exec_sl bT_ok bM bC_ok wf6.2.2.2.2.1 (y_a8ns1 m 0 B k 0 i 0 0 d v n u t [] c []) okN2 (fun v h => by cases h) ⟨rm, tz, trivial⟩ rfl rfl (kF _ _) (hs.alike rfl rfl rfl)) ?_
          exact fun x a' w' ⟨h1, h2⟩ => ⟨h1.normal, .inr ⟨_, _, _, hfin, hln, h2.alike rfl rfl rfl⟩⟩
      · have hk0 : 0 < k := by omega
        unfold sS at hs
        rw [xS_pos c hk0, wS_pos B ha0] at hs
        rw [xS_pos c hk0]
        have rm : (Nat.ble (((a + 7) / 8 + t.length) * 1) 140737488355328 && Nat.ble ((a + 7) / 8 + t.length) 140737488355328) = true := by rw [Bool.and_eq_true]; exact ⟨ble_t (by omega), ble_t (by omega)⟩
        refine wp_mono (exec_sl bT_ok bM bC_ok wf6.2.2.2.2.1 (y_a8ss1 m a B k 0 i 0 0 d v n u t [] c []) okN2 (fun v h => by cases h) ⟨rm, beq_t (enc_length a B), tz, trivial⟩ rfl rfl (kF _ _) (hs.alike rfl rfl rfl)) ?_
        exact fun x a' w' ⟨h1, h2⟩ => ⟨h1.normal, .inr ⟨_, _, _, T0_enc a B t hB ht _ rfl, by rw [List.length_append, enc_length]; simp [natInts], h2.alike rfl rfl rfl⟩⟩
  refine wp_seq (wp_mono mid ?_)
  rintro x a1 w1 ⟨rfl, hmid⟩
  -- behind String and New
  have fin : A9.wp Try.prog (fun x a' w' => x = .normal ∧ SL Try.prog 104 [] ρ0 H0 w0 (s9 m t (opF d v n u) (xS d v n u k c) true true 0 (T0 a B t) [] True []) a' w') a1 w1 := by
    rcases hmid with ⟨ht0, rfl, q, h1⟩ | ⟨q, xs, l, hT, hl, h1⟩
    · have hT : T0 0 B t = [] := by
        rw [T0_split 0 B t hB ht, ht0]; rfl
      rw [hT]
      rcases Nat.eq_zero_or_pos k with rfl | hk0
      · refine wp_mono (exec_sl bT_ok bM bC_ok wf6.2.2.2.2.2.1 (y_a9nn m 0 B 0 0 i 0 q d v n u t [] c []) okM9 (fun v h => by cases h) trivial rfl rfl (kF _ _) (h1.alike rfl rfl rfl)) ?_
        exact fun x a' w' ⟨h1, h2⟩ => ⟨h1.normal, h2.turn rfl rfl h9_turn⟩
      · rw [xS_pos c hk0] at h1 ⊢
        refine wp_mono (exec_sl bT_ok bM bC_ok wf6.2.2.2.2.2.1 (y_a9sn m 0 B k 0 i 0 q d v n u t [] c []) okM9 (fun v h => by cases h) trivial rfl rfl (kF _ _) (h1.alike rfl rfl rfl)) ?_
        exact fun x a' w' ⟨h1, h2⟩ => ⟨h1.normal, h2.turn rfl rfl h9_turn⟩
    · have hble : Nat.ble (0 + l) xs.length = true := ble_t (by omega)
      rcases Nat.eq_zero_or_pos k with rfl | hk0
      · refine wp_mono (exec_sl bT_ok bM bC_ok wf6.2.2.2.2.2.1 (y_a9ns m a B 0 l i 0 q d v n u t [] c xs) okM9 (fun v h => by cases h) ⟨hble, trivial⟩ rfl rfl (kF _ _) (h1.alike rfl rfl rfl)) ?_
        refine fun x a' w' ⟨h1, h2⟩ => ⟨h1.normal, ?_⟩
        rw [hT] at h2
        exact h2.turn rfl rfl h9_turn
      · rw [xS_pos c hk0] at h1 ⊢
        refine wp_mono (exec_sl bT_ok bM bC_ok wf6.2.2.2.2.2.1 (y_a9ss m a B k l i 0 q d v n u t [] c xs) okM9 (fun v h => by cases h) ⟨hble, trivial⟩ rfl rfl (kF _ _) (h1.alike rfl rfl rfl)) ?_
        refine fun x a' w' ⟨h1, h2⟩ => ⟨h1.normal, ?_⟩
        rw [hT] at h2
        exact h2.turn rfl rfl h9_turn
  refine wp_seq (wp_mono fin ?_)
  rintro x a2 w2 ⟨rfl, h2⟩
  exact next a2 w2 h2
/-- how the law ends -/
def EnB (ρ0 : Rn) (H0 : Nat → Option AObj) (w0 : World) (a' : Act) (w' : World) : Prop := ∃ g : G, g.pc ∧ SL Try.prog 104 [] ρ0 H0 w0 ⟨mkEnv 104 [(4, .bool false true)], g, [], .no, []⟩ a' w'
theorem zb_pc {m a B k : Nat} {t : List Nat} {d v n : Nat → Int} {u : Nat → List Nat} {c : Nat → Nat} (hB : B < 2 ^ a) (ha : a ≤ 32 * 60) (ht : ∀ x ∈ t, x < 256) (htl : t.length ≤ 140737488351232) :
    pc_zbn m a B k 0 0 0 (a : Nat) d v n u t (T0 a B t) c [] ∧ pc_zbs m a B k 0 0 0 (a : Nat) d v n u t (T0 a B t) c [] := by
  have hA : bitsM .andNot .i64 (wr .i64 (Int.add (a : Int) 7)) 7 = ((up8 a : Nat) : Int) := anN_nat a (by omega)
  obtain ⟨q, hq⟩ : ∃ q, q = (a + 7) / 8 := ⟨_, rfl⟩
  have hu : up8 a = q * 8 := by rw [hq]; rfl
  have hT : wr .i64 (Int.tdiv ((up8 a : Nat) : Int) 8) = (q : Int) := by
    rw [hu]
    have : Int.tdiv ((q * 8 : Nat) : Int) 8 = ((q * 8 / 8 : Nat) : Int) := rfl
    rw [this, Nat.mul_div_cancel _ (by omega), wr_i64 (by omega) (by omega)]
  have hlen : (T0 a B t).length = q + t.length := by rw [T0_len, hq]
  have hTl : ((T0 a B t).length : Int).toNat = (T0 a B t).length := Int.toNat_natCast _
  have htn : (t.length : Int).toNat = t.length := Int.toNat_natCast _
  have hqn : (q : Int).toNat = q := Int.toNat_natCast _
  have h00 : (((0 : Nat) : Int)).toNat = 0 := rfl
  have hdrop : (T0 a B t).drop q = t := by rw [hq]; exact T0_drop a B t hB ht
  have hsub : (T0 a B t).length - q = t.length := by omega
  have h8l : wr .i64 (Int.mul 8 (t.length : Int)) = ((8 * t.length : Nat) : Int) := by show wr .i64 (8 * (t.length : Int)) = _; rw [wr_i64 (by omega) (by omega)]; omega
  have hst : wr .i64 (Int.add ((up8 a : Nat) : Int) ((8 * t.length : Nat) : Int)) = ((up8 a + 8 * t.length : Nat) : Int) := by
    show wr .i64 (((up8 a : Nat) : Int) + ((8 * t.length : Nat) : Int)) = _
    rw [wr_i64 (by omega) (by omega)]; omega
  have oc1 : okCut (q : Int) ((T0 a B t).length : Int) (T0 a B t).length = true := by
    unfold okCut
    rw [ilt_f (by omega), ilt_f (by omega), ilt_f (by omega)]; rfl
  have oc2 : okCut ((0 : Nat) : Int) (t.length : Int) t.length = true := by
    unfold okCut
    rw [ilt_f (by omega), ilt_f (by omega), ilt_f (by omega)]; rfl
  have tk : List.take t.length t = t := List.take_length
  have tk2 : List.take (t.length - 0) (List.drop 0 t) = t := by rw [Nat.sub_zero, List.drop_zero]; exact tk
  have ff : fitN ((up8 a + 8 * t.length : Nat) : Int) 1 (T0 a B t) = false := fit_f (n := 1) (by omega)
  have rr : (0 : Int) ≤ ((up8 a + 8 * t.length : Nat) : Int) ∧ ((up8 a + 8 * t.length : Nat) : Int) ≤ 8 * ((T0 a B t).length : Int) ∧ (T0 a B t).length ≤ 140737488355328 ∧ ∀ x ∈ T0 a B t, x < 256 := ⟨by omega, by omega, by omega, T0_lt a B t⟩
  have se := sEq_self t
  have ok1 : okN 1 = true := ok_t (n := 1) (by omega)
  have i1 : ilt (t.length : Int) (t.length : Int) = false := ilt_f (Int.le_refl _)
  have i2 : ilt (t.length : Int) 0 = false := ilt_f (by omega)
  constructor
  · unfold pc_zbn
    rw [hA, h8l, hst, hT, hTl, htn, hqn, h00, hdrop, hsub, tk, tk2]
    exact ⟨se, se, se, ⟨rfl, rfl⟩, ff, ok1, rr, oc2, i1, oc1, i2, trivial⟩
  · unfold pc_zbs
    rw [hA, h8l, hst, hT, hTl, htn, hqn, h00, hdrop, hsub, tk, tk2]
    exact ⟨se, se, se, ⟨rfl, rfl⟩, ff, ok1, rr, oc2, i1, oc1, i2, trivial⟩
theorem back_end {m a B k : Nat} {t : List Nat} {d v n : Nat → Int} {u : Nat → List Nat} {c p : Nat → Nat} (h : Bk m v n a B k c p) (hk : k ≤ 60) (ht : ∀ x ∈ t, x < 256) (htl : t.length ≤ 140737488351232)
    (hs : SL Try.prog 104 [] ρ0 H0 w0 (s9 m t (opF d v n u) (xS d v n u k c) true true 0 (T0 a B t) [] True []) act w) :
    (Code.seq A10 (.seq (c1 t7) ZB)).wp Try.prog (fun x a' w' => x = .ret ∧ EnB ρ0 H0 w0 a' w') act w := by
  have ha := h.ha
  have hz := zb_pc (m := m) (k := k) (d := d) (v := v) (n := n) (u := u) (c := c) h.hB (by omega : a ≤ 32 * 60) ht htl
  rcases Nat.eq_zero_or_pos k with rfl | hk0
  · obtain rfl : a = 0 := by omega
    refine wp_seq (wp_mono (exec_sl bT_ok bM bC_ok wf6.2.2.2.2.2.2.1 (y_a10n m 0 B 0 0 0 0 0 d v n u t (T0 0 B t) c []) okM10 (fun v h => by cases h) trivial rfl rfl (kF _ _) (hs.alike rfl rfl rfl)) ?_)
    rintro x a1 w1 ⟨hx, h1⟩
    obtain rfl := hx.normal
    refine wp_seq (wp_mono (exec_sl bT_ok bM bkC_ok wf6.2.2.2.2.2.2.2.2.2.2 (y_c0 m 0 B 0 0 0 0 0 d v n u t (T0 0 B t) c []) okM10 (fun v h => by cases h) trivial rfl rfl (kF _ _) (h1.alike rfl rfl rfl)) ?_)
    rintro x a2 w2 ⟨hx, h2⟩
    obtain rfl := hx.normal
    refine wp_mono (exec_sl bT_ok bM bkC_ok wf6.2.2.2.2.2.2.2.2.2.1 (y_zbn m 0 B 0 0 0 0 ((0 : Nat) : Int) d v n u t (T0 0 B t) c []) okM10 (fun v h => by cases h) hz.1 rfl rfl (kF _ _) (h2.alike rfl rfl rfl)) ?_
    exact fun x a' w' ⟨h1, h2⟩ => ⟨h1.ret, ⟨_, 1004, True, []⟩, trivial, h2.alike rfl rfl rfl⟩
  · rw [xS_pos c hk0] at hs
    refine wp_seq (wp_mono (exec_sl bT_ok bM bC_ok wf6.2.2.2.2.2.2.1 (y_a10s m a B k 0 0 0 0 d v n u t (T0 a B t) c []) okM10 (fun v h => by cases h) trivial rfl rfl (kF _ _) (hs.alike rfl rfl rfl)) ?_)
    rintro x a1 w1 ⟨hx, h1⟩
    obtain rfl := hx.normal
    rw [body_t7]
    refine wp_seq (wp_seq (wp_mono (exec_sl bT_ok bM bkC_ok wf6.2.2.2.2.2.2.2.1 (y_a12 m a B k 0 0 0 0 d v n u t (T0 a B t) c []) okM10 (fun v h => by cases h) trivial rfl rfl (kF _ _) (h1.alike rfl rfl rfl)) ?_))
    rintro x a2 w2 ⟨hx, h2⟩
    obtain rfl := hx.normal
    refine wp_mono (kept_loop h hk ht htl (SL.sim (st' := s9 m t (opF d v n u) (some (k, kf d v n u c)) true true 0 (T0 a B t) [(9, .int true .i64 0)] True []) h2 rfl rfl (.same (.same (.same (.int .nil)))) rfl rfl)) ?_
    rintro x a3 w3 ⟨rfl, h3⟩
    refine wp_mono (exec_sl bT_ok bM bkC_ok wf6.2.2.2.2.2.2.2.2.2.1 (y_zbs m a B k 0 0 0 ((a : Nat) : Int) d v n u t (T0 a B t) c []) okM10 (fun v h => by cases h) hz.2 rfl rfl (kF _ _) (h3.alike rfl rfl rfl)) ?_
    exact fun x a' w' ⟨h1, h2⟩ => ⟨h1.ret, ⟨_, 1004, True, []⟩, trivial, h2.alike rfl rfl rfl⟩
end
open Go.Proofs Go.Proofs.Yticfagianocfiaa Go.RowKit
set_option maxRecDepth 1000000
noncomputable def pB (t : List Nat) (ch : List Bool) : Option (CR × PM × G) := callN bT (orP lP rP) 1000 20 .no 6 [.osl 1000 0, .str true t] ⟨.e, 1001, True, ch⟩
noncomputable def pc_bk0 (t : List Nat) : Prop := sEq (List.take (Int.toNat ↑(List.length t) - Int.toNat ↑(0 : Nat)) (List.drop (Int.toNat ↑(0 : Nat)) (List.take (Int.toNat ↑(List.length ([] : List Nat)) - Int.toNat (wr IntKind.i64 (Int.tdiv (bitsM BinOp.andNot IntKind.i64 (wr IntKind.i64 (Int.add (0 : Int) (7 : Int))) (7 : Int)) (8 : Int)))) (List.drop (Int.toNat (wr IntKind.i64 (Int.tdiv (bitsM BinOp.andNot IntKind.i64 (wr IntKind.i64 (Int.add (0 : Int) (7 : Int))) (7 : Int)) (8 : Int)))) ([] : List Nat))))) t = true ∧ sEq (List.take (Int.toNat ↑(List.length t) - Int.toNat ↑(0 : Nat)) (List.drop (Int.toNat ↑(0 : Nat)) (List.take (Int.toNat ↑(List.length ([] : List Nat)) - Int.toNat (wr IntKind.i64 (Int.tdiv (bitsM BinOp.andNot IntKind.i64 (wr IntKind.i64 (Int.add (0 : Int) (7 : Int))) (7 : Int)) (8 : Int)))) (List.drop (Int.toNat (wr IntKind.i64 (Int.tdiv (bitsM BinOp.andNot IntKind.i64 (wr IntKind.i64 (Int.add (0 : Int) (7 : Int))) (7 : Int)) (8 : Int)))) ([] : List Nat))))) t = true ∧ sEq (List.take (Int.toNat ↑(List.length t) - Int.toNat ↑(0 : Nat)) (List.drop (Int.toNat ↑(0 : Nat)) (List.take (Int.toNat ↑(List.length ([] : List Nat)) - Int.toNat (wr IntKind.i64 (Int.tdiv (bitsM BinOp.andNot IntKind.i64 (wr IntKind.i64 (Int.add (0 : Int) (7 : Int))) (7 : Int)) (8 : Int)))) (List.drop (Int.toNat (wr IntKind.i64 (Int.tdiv (bitsM BinOp.andNot IntKind.i64 (wr IntKind.i64 (Int.add (0 : Int) (7 : Int))) (7 : Int)) (8 : Int)))) ([] : List Nat))))) t = true ∧ ((59 : Nat) = (59 : TypeId) ∧ false = false) ∧ fitN (wr IntKind.i64 (Int.add (bitsM BinOp.andNot IntKind.i64 (wr IntKind.i64 (Int.add (0 : Int) (7 : Int))) (7 : Int)) (wr IntKind.i64 (Int.mul (8 : Int) ↑(List.length t))))) (1 : Int) ([] : List Nat) = false ∧ okN (1 : Int) = true ∧ ((0 : Int) ≤ wr IntKind.i64 (Int.add (bitsM BinOp.andNot IntKind.i64 (wr IntKind.i64 (Int.add (0 : Int) (7 : Int))) (7 : Int)) (wr IntKind.i64 (Int.mul (8 : Int) ↑(List.length t)))) ∧ wr IntKind.i64 (Int.add (bitsM BinOp.andNot IntKind.i64 (wr IntKind.i64 (Int.add (0 : Int) (7 : Int))) (7 : Int)) (wr IntKind.i64 (Int.mul (8 : Int) ↑(List.length t)))) ≤ (8 : Int) * ↑(List.length ([] : List Nat)) ∧ List.length ([] : List Nat) ≤ (140737488355328 : Nat) ∧ ∀ (x : Nat), x ∈ ([] : List Nat) → x < (256 : Nat)) ∧ okCut (↑(0 : Nat)) (↑(List.length t)) (List.length (List.take (Int.toNat ↑(List.length ([] : List Nat)) - Int.toNat (wr IntKind.i64 (Int.tdiv (bitsM BinOp.andNot IntKind.i64 (wr IntKind.i64 (Int.add (0 : Int) (7 : Int))) (7 : Int)) (8 : Int)))) (List.drop (Int.toNat (wr IntKind.i64 (Int.tdiv (bitsM BinOp.andNot IntKind.i64 (wr IntKind.i64 (Int.add (0 : Int) (7 : Int))) (7 : Int)) (8 : Int)))) ([] : List Nat)))) = true ∧ ilt ↑(List.length (List.take (Int.toNat ↑(List.length ([] : List Nat)) - Int.toNat (wr IntKind.i64 (Int.tdiv (bitsM BinOp.andNot IntKind.i64 (wr IntKind.i64 (Int.add (0 : Int) (7 : Int))) (7 : Int)) (8 : Int)))) (List.drop (Int.toNat (wr IntKind.i64 (Int.tdiv (bitsM BinOp.andNot IntKind.i64 (wr IntKind.i64 (Int.add (0 : Int) (7 : Int))) (7 : Int)) (8 : Int)))) ([] : List Nat)))) ↑(List.length t) = false ∧ ilt ↑(List.length t) (0 : Int) = false ∧ Nat.beq (List.length t) (0 : Nat) = true ∧ ilt (0 : Int) ↑(0 : Nat) = false ∧ ilt (0 : Int) ↑(0 : Nat) = false ∧ ilt (0 : Int) ↑(0 : Nat) = false ∧ True
noncomputable def pc_bk1 (t : List Nat) : Prop := sEq (List.take (Int.toNat ↑(List.length t) - Int.toNat ↑(0 : Nat)) (List.drop (Int.toNat ↑(0 : Nat)) (List.take (Int.toNat ↑(List.length (numBytes (List.take (List.length t) (List.drop (0 : Nat) (natInts t))))) - Int.toNat (wr IntKind.i64 (Int.tdiv (bitsM BinOp.andNot IntKind.i64 (wr IntKind.i64 (Int.add (0 : Int) (7 : Int))) (7 : Int)) (8 : Int)))) (List.drop (Int.toNat (wr IntKind.i64 (Int.tdiv (bitsM BinOp.andNot IntKind.i64 (wr IntKind.i64 (Int.add (0 : Int) (7 : Int))) (7 : Int)) (8 : Int)))) (numBytes (List.take (List.length t) (List.drop (0 : Nat) (natInts t)))))))) t = true ∧ sEq (List.take (Int.toNat ↑(List.length t) - Int.toNat ↑(0 : Nat)) (List.drop (Int.toNat ↑(0 : Nat)) (List.take (Int.toNat ↑(List.length (numBytes (List.take (List.length t) (List.drop (0 : Nat) (natInts t))))) - Int.toNat (wr IntKind.i64 (Int.tdiv (bitsM BinOp.andNot IntKind.i64 (wr IntKind.i64 (Int.add (0 : Int) (7 : Int))) (7 : Int)) (8 : Int)))) (List.drop (Int.toNat (wr IntKind.i64 (Int.tdiv (bitsM BinOp.andNot IntKind.i64 (wr IntKind.i64 (Int.add (0 : Int) (7 : Int))) (7 : Int)) (8 : Int)))) (numBytes (List.take (List.length t) (List.drop (0 : Nat) (natInts t)))))))) t = true ∧ sEq (List.take (Int.toNat ↑(List.length t) - Int.toNat ↑(0 : Nat)) (List.drop (Int.toNat ↑(0 : Nat)) (List.take (Int.toNat ↑(List.length (numBytes (List.take (List.length t) (List.drop (0 : Nat) (natInts t))))) - Int.toNat (wr IntKind.i64 (Int.tdiv (bitsM BinOp.andNot IntKind.i64 (wr IntKind.i64 (Int.add (0 : Int) (7 : Int))) (7 : Int)) (8 : Int)))) (List.drop (Int.toNat (wr IntKind.i64 (Int.tdiv (bitsM BinOp.andNot IntKind.i64 (wr IntKind.i64 (Int.add (0 : Int) (7 : Int))) (7 : Int)) (8 : Int)))) (numBytes (List.take (List.length t) (List.drop (0 : Nat) (natInts t)))))))) t = true ∧ ((59 : Nat) = (59 : TypeId) ∧ false = false) ∧ fitN (wr IntKind.i64 (Int.add (bitsM BinOp.andNot IntKind.i64 (wr IntKind.i64 (Int.add (0 : Int) (7 : Int))) (7 : Int)) (wr IntKind.i64 (Int.mul (8 : Int) ↑(List.length t))))) (1 : Int) (numBytes (List.take (List.length t) (List.drop (0 : Nat) (natInts t)))) = false ∧ okN (1 : Int) = true ∧ ((0 : Int) ≤ wr IntKind.i64 (Int.add (bitsM BinOp.andNot IntKind.i64 (wr IntKind.i64 (Int.add (0 : Int) (7 : Int))) (7 : Int)) (wr IntKind.i64 (Int.mul (8 : Int) ↑(List.length t)))) ∧ wr IntKind.i64 (Int.add (bitsM BinOp.andNot IntKind.i64 (wr IntKind.i64 (Int.add (0 : Int) (7 : Int))) (7 : Int)) (wr IntKind.i64 (Int.mul (8 : Int) ↑(List.length t)))) ≤ (8 : Int) * ↑(List.length (numBytes (List.take (List.length t) (List.drop (0 : Nat) (natInts t))))) ∧ List.length (numBytes (List.take (List.length t) (List.drop (0 : Nat) (natInts t)))) ≤ (140737488355328 : Nat) ∧ ∀ (x : Nat), x ∈ numBytes (List.take (List.length t) (List.drop (0 : Nat) (natInts t))) → x < (256 : Nat)) ∧ okCut (↑(0 : Nat)) (↑(List.length t)) (List.length (List.take (Int.toNat ↑(List.length (numBytes (List.take (List.length t) (List.drop (0 : Nat) (natInts t))))) - Int.toNat (wr IntKind.i64 (Int.tdiv (bitsM BinOp.andNot IntKind.i64 (wr IntKind.i64 (Int.add (0 : Int) (7 : Int))) (7 : Int)) (8 : Int)))) (List.drop (Int.toNat (wr IntKind.i64 (Int.tdiv (bitsM BinOp.andNot IntKind.i64 (wr IntKind.i64 (Int.add (0 : Int) (7 : Int))) (7 : Int)) (8 : Int)))) (numBytes (List.take (List.length t) (List.drop (0 : Nat) (natInts t))))))) = true ∧ ilt ↑(List.length (List.take (Int.toNat ↑(List.length (numBytes (List.take (List.length t) (List.drop (0 : Nat) (natInts t))))) - Int.toNat (wr IntKind.i64 (Int.tdiv (bitsM BinOp.andNot IntKind.i64 (wr IntKind.i64 (Int.add (0 : Int) (7 : Int))) (7 : Int)) (8 : Int)))) (List.drop (Int.toNat (wr IntKind.i64 (Int.tdiv (bitsM BinOp.andNot IntKind.i64 (wr IntKind.i64 (Int.add (0 : Int) (7 : Int))) (7 : Int)) (8 : Int)))) (numBytes (List.take (List.length t) (List.drop (0 : Nat) (natInts t))))))) ↑(List.length t) = false ∧ okCut (wr IntKind.i64 (Int.tdiv (bitsM BinOp.andNot IntKind.i64 (wr IntKind.i64 (Int.add (0 : Int) (7 : Int))) (7 : Int)) (8 : Int))) (↑(List.length (numBytes (List.take (List.length t) (List.drop (0 : Nat) (natInts t)))))) (List.length (numBytes (List.take (List.length t) (List.drop (0 : Nat) (natInts t))))) = true ∧ ilt ↑(List.length t) (0 : Int) = false ∧ Nat.ble ((0 : Nat) + List.length t) (List.length (natInts t)) = true ∧ (Nat.ble (List.length t * 1) (140737488355328 : Nat) && Nat.ble (List.length t) (140737488355328 : Nat)) = true ∧ Nat.beq (List.length t) (0 : Nat) = false ∧ ilt (0 : Int) ↑(0 : Nat) = false ∧ ilt (0 : Int) ↑(0 : Nat) = false ∧ ilt (0 : Int) ↑(0 : Nat) = false ∧ True
theorem b0_true (t : List Nat) : saysTrue (pB t [false,false,false,true,false,false,true,false,true,true,true]) = true := by kernel_rfl
theorem b0_pc (t : List Nat) : pcOf (pB t [false,false,false,true,false,false,true,false,true,true,true]) = pc_bk0 t := by kernel_rfl
theorem b1_true (t : List Nat) : saysTrue (pB t [false,false,false,false,false,false,true,false,true,true,true]) = true := by kernel_rfl
theorem b1_pc (t : List Nat) : pcOf (pB t [false,false,false,false,false,false,true,false,true,true,true]) = pc_bk1 t := by kernel_rfl
theorem an0 : bitsM .andNot .i64 (wr .i64 (Int.add 0 7)) 7 = 0 := by decide +kernel
theorem td0 : wr .i64 (Int.tdiv 0 8) = 0 := by decide +kernel
theorem b_ways (t : List Nat) (ht : ∀ x ∈ t, x < 256) (hl : t.length ≤ 140737488351232) : ∃ ch, saysTrue (pB t ch) = true ∧ pcOf (pB t ch) := by
  have z : ilt 0 ((0 : Nat) : Int) = false := rfl
  have ok1 : okN 1 = true := ok_t (n := 1) (by omega)
  have tt : (59 : Nat) = 59 ∧ false = false := ⟨rfl, rfl⟩
  by_cases hz : t.length = 0
  · obtain rfl : t = [] := List.length_eq_zero_iff.1 hz
    refine ⟨_, b0_true [], ?_⟩
    rw [b0_pc]
    unfold pc_bk0
    have h8 : wr .i64 (Int.mul 8 ((List.length ([] : List Nat) : Nat) : Int)) = 0 := by decide +kernel
    have h9 : wr .i64 (Int.add 0 0) = 0 := by decide +kernel
    rw [an0, td0, h8, h9]
    have hz0 : (Int.toNat (0 : Int)) = 0 := rfl
    have hz1 : (Int.toNat ((List.length ([] : List Nat) : Nat) : Int)) = 0 := rfl
    have hz2 : (Int.toNat ((0 : Nat) : Int)) = 0 := rfl
    rw [hz0, hz1, hz2]
    exact ⟨rfl, rfl, rfl, tt, fit_f (a := 0) (n := 1) (by simp), ok1, ⟨Int.le_refl _, Int.le_refl _, Nat.zero_le _, fun x hx => by cases hx⟩, rfl, rfl, rfl, rfl, z, z, z, trivial⟩
  · refine ⟨_, b1_true t, ?_⟩
    rw [b1_pc]
    unfold pc_bk1
    have hln : (natInts t).length = t.length := by simp [natInts]
    have hn : numBytes (List.take t.length (List.drop 0 (natInts t))) = t := by rw [take_all _ _ hln, nat_ints t ht]
    have h8l : wr .i64 (Int.mul 8 (t.length : Int)) = ((8 * t.length : Nat) : Int) := by show wr .i64 (8 * (t.length : Int)) = _; rw [wr_i64 (by omega) (by omega)]; omega
    have hst : wr .i64 (Int.add 0 ((8 * t.length : Nat) : Int)) = ((8 * t.length : Nat) : Int) := by
      show wr .i64 (0 + ((8 * t.length : Nat) : Int)) = _
      rw [Int.zero_add, wr_i64 (by omega) (by omega)]
    have htn : (t.length : Int).toNat = t.length := Int.toNat_natCast _
    have hz0 : (Int.toNat (0 : Int)) = 0 := rfl
    have hz2 : (Int.toNat ((0 : Nat) : Int)) = 0 := rfl
    rw [hn, an0, td0, h8l, hst, htn, hz0, hz2]
    have hd : List.drop 0 t = t := List.drop_zero
    have hs0 : t.length - 0 = t.length := rfl
    rw [hd, hs0, List.take_length, hd, List.take_length]
    have se := sEq_self t
    have oc1 : okCut 0 (t.length : Int) t.length = true := by
      unfold okCut
      rw [ilt_f (by omega), ilt_f (by omega), ilt_f (by omega)]; rfl
    exact ⟨se, se, se, tt, fit_f (n := 1) (by omega), ok1, ⟨by omega, by omega, by omega, ht⟩, oc1, ilt_f (Int.le_refl _), oc1, ilt_f (by omega), ble_t (by omega), by rw [Bool.and_eq_true]; exact ⟨ble_t (by omega), ble_t (by omega)⟩, beq_f hz, z, z, z, trivial⟩
/-! the whole -/
noncomputable def st6 (l : List (Nat × AV)) (h : Tr AObj) (nx : Nat) : St := ⟨mkEnv 104 l, ⟨h, nx, True, []⟩, [], .no, []⟩
theorem w6a (m : Nat) (d v n : Nat → Int) (u : Nat → List Nat) (t : List Nat) : wkX 104 [0, 1] ma0 1001 (exec (c1 (bodyOf 6)) bT bC 1000 ⟨argsEnv [.osl 1000 m, .str true t] 0 .e, g0 m (opF d v n u), [], .no, []⟩) = some (.normal, st6 [(0, .osl 1000 m), (1, .str true t)] (mkH [hO m (opF d v n u)]) 1001) := by kernel_rfl
theorem w6b (m : Nat) (d v n : Nat → Int) (u : Nat → List Nat) (t : List Nat) : wkX 104 [0, 1, 5] ma1 1002 (exec (c1 (c2 (bodyOf 6))) bT bC 1000 (st6 [(0, .osl 1000 m), (1, .str true t)] (mkH [hO m (opF d v n u)]) 1001)) = some (.normal, st6 [(0, .osl 1000 m), (1, .str true t), (5, .ptr 1001 0)] (mkH [hO m (opF d v n u), (1001, some (.cells 39 [.int false .i64 0, .nils] false))]) 1002) := by kernel_rfl
theorem w6c (m : Nat) (d v n : Nat → Int) (u : Nat → List Nat) (t : List Nat) : wkX 104 [0, 1, 5, 6] (mK 1002 1003 false) 1004 (exec (c1 (c2 (c2 (bodyOf 6)))) bT bC 1000 (st6 [(0, .osl 1000 m), (1, .str true t), (5, .ptr 1001 0)] (mkH [hO m (opF d v n u), (1001, some (.cells 39 [.int false .i64 0, .nils] false))]) 1002)) = some (.normal, st6 [(0, .osl 1000 m), (1, .str true t), (5, .ptr 1001 0), (6, .nils)] (hB m (opF d v n u) none none) 1004) := by kernel_rfl
theorem w6d (m : Nat) (d v n : Nat → Int) (u : Nat → List Nat) (t : List Nat) : wkX 104 [0, 1, 5, 6, 7] (mK 1002 1003 false) 1004 (exec (c1 (c1 (c2 (c2 (c2 (bodyOf 6)))))) bT bC 1000 (st6 [(0, .osl 1000 m), (1, .str true t), (5, .ptr 1001 0), (6, .nils)] (hB m (opF d v n u) none none) 1004)) = some (.normal, st6 [(0, .osl 1000 m), (1, .str true t), (5, .ptr 1001 0), (6, .nils), (7, .int false .i64 0)] (hB m (opF d v n u) none none) 1004) := by kernel_rfl
theorem res6 (g : G) : SX.results bT (mkEnv 104 [(4, .bool false true)]) g Try.f6.results.toList = some [.bool false true] := by kernel_rfl
/-- BitsBack: it returns true -/
theorem bitsBack_calls {ρ : Rn} {W : World} {x y : Value} (m : Nat) (d v n : Nat → Int) (u : Nat → List Nat) (t : List Nat) (hv : ∀ j, j < m → 0 ≤ v j ∧ v j < 4294967296) (htl : t.length ≤ 140737488351232) (ht : ∀ x ∈ t, x < 256) (hg : Gl ρ 1001) (hy : VR ρ (Dm N0 1001) (.str true t) y) (hx : VR ρ (Dm N0 1001) (.osl 1000 m) x) (hw : GR Try.prog ρ (Dm N0 1001) (mkH [hO m (opF d v n u)]).get W) :
    Calls Try.prog 6 #[x, y] W fun e W' => e = .returned (.bool true) ∧ Below W.heap.size W W' := by
  have hH : ∀ b o, (mkH [hO m (opF d v n u)]).get b = some o → o.fixed = true := by
    intro b o hb
    have e : mkH [hO m (opF d v n u)] = (Tr.e : Tr AObj).put 1000 (some (.rows 44 4 m (opF d v n u))) := rfl
    rw [e, get_put _ _ _ _ (by omega), get_e] at hb
    split at hb
    · injection hb with hb; subst hb; rfl
    · cases hb
  refine (calls_sl (F := []) (g := g0 m (opF d v n u)) (ρ := ρ) (w := W) (vs := [x, y]) (args := [.osl 1000 m, .str true t]) bT_ok Try.func6 fits6.1 (by rw [fits6.2]; show 2 ≤ 104; omega) (by rw [fits6.2]; omega)
    (R := fun st' l => l = [.bool false true]) (fun b hb => by cases hb) hg (LR.cons hx (LR.cons hy (LR.nil _ _))) hw ?_).mono ?_
  · intro act hs
    rw [fits6.2] at hs ⊢
    rw [body6]
    refine wp_seq (wp_mono (exec_sl bT_ok bM bC_ok wf6.1 (w6a m d v n u t) okm0 (fun v h => by cases h) trivial rfl rfl (kF _ _) hs) ?_)
    rintro x a1 w1 ⟨hx1, hs1⟩
    obtain rfl := hx1.normal
    refine wp_seq (wp_mono (exec_sl bT_ok bM bC_ok wf6.2.1 (w6b m d v n u t) okm1 (fun v h => by cases h) trivial rfl rfl (kF _ _) hs1) ?_)
    rintro x a2 w2 ⟨hx2, hs2⟩
    obtain rfl := hx2.normal
    refine wp_seq (wp_mono (exec_sl bT_ok bM bC_ok wf6.2.2.1 (w6c m d v n u t) okN1 (fun v h => by cases h) trivial rfl rfl (kF _ _) hs2) ?_)
    rintro x a3 w3 ⟨hx3, hs3⟩
    obtain rfl := hx3.normal
    refine wp_seq (wp_seq (wp_mono (exec_sl bT_ok bM bC_ok wf6.2.2.2.1 (w6d m d v n u t) okN1 (fun v h => by cases h) trivial rfl rfl (kF _ _) hs3) ?_))
    rintro x a4 w4 ⟨hx4, hs4⟩
    obtain rfl := hx4.normal
    refine wp_mono (back_loop hv (SL.sim (st' := sBk m t 0 (opF d v n u) none none True []) hs4 rfl rfl (.same (.same (.same (.same (.int .nil))))) rfl rfl)) ?_
    rintro x a5 w5 ⟨rfl, a, B, k, i, c, p, hbk, hk, hs5⟩
    refine back_mid hbk hk ht htl hs5 fun a6 w6 hs6 => ?_
    refine wp_mono (back_end hbk hk ht htl hs6) ?_
    rintro x a7 w7 ⟨rfl, g, hpc, hs7⟩
    exact ⟨.inr rfl, _, _, hs7, hpc, res6 _, rfl⟩
  · rintro e W' ⟨st', l, y, ρ', rfl, rfl, hy, _, _, hfr, _⟩
    have hy' : VR ρ' (Dm N0 st'.g.nx) (.bool false true) y := hy
    obtain rfl := hy'.bool_inv
    exact ⟨rfl, hfr.os, hfr.tape, hfr.output, hfr.size, fun k hk => hfr.keep k hk fun b o hb hfx => by rw [hH b o hb] at hfx; cases hfx⟩
theorem back_calls {W : World} {s : ByteArray} {a : Option Addr} {len cap : Nat} {d v n : Nat → Int} {t : Nat → ByteArray} (hs : s.size ≤ 140737488351232) (h : OpsAt W a len d v n t) :
    Calls Try.prog 6 #[.slice a len cap, .string s] W fun e W' => e = .returned (.bool true) ∧ Below W.heap.size W W' := by
  rcases Nat.eq_zero_or_pos len with rfl | hpos
  · obtain ⟨ch, h1, h2⟩ := b_ways (bts s) (bts_lt s) (by rw [bts_length]; exact hs)
    exact says_calls (vs := [.slice a 0 cap, .string s]) (ρ := idR) (orP_ok lP_ok rP_ok) h1 h2 ⟨by omega, fun g _ => rfl⟩ (LR.cons (.osl 1000 0 a cap (.inl (by omega)) (fun h => absurd h (Nat.lt_irrefl 0))) (LR.cons (.str _ _) (LR.nil _ _)))
  · obtain ⟨ad, had, hv, arr, e2, fz, hblk, ho⟩ := ops_open h hpos cap
    exact bitsBack_calls len d v n (fun i => bts (t i)) (bts s) h.v (by rw [bts_length]; exact hs) (bts_lt s) (opR_gl ad 1001 (by omega)) (.str _ _) hv (one_GR hblk ho)
end Go.Proofs.Yticfagianocfiaa.SX
