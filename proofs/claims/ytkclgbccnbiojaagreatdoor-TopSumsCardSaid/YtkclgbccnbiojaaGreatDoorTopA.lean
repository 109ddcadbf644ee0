import Derived.Test.YtkclgbccnbiojaaGreatDoorRows
import Derived.Test.YtkclgbccnbiojaaGreatDoorSx7
import Derived.Lib.IndexMore
import Derived.Test.YtkclgbccnbiojaaGreatDoorTAdl
set_option linter.unusedVariables false
set_option linter.unusedSimpArgs false
namespace Go.Proofs.YtkclgbccnbiojaaGreatDoor.SX
open Go.Proofs Go.Proofs.YtkclgbccnbiojaaGreatDoor
noncomputable def tT : Tab := tabOf Tryz.prog Tryz.prog.types.size
theorem tT_ok : TabOk Tryz.prog tT := tabOf_ok (by decide +kernel) (by kernel_rfl)
theorem tM : Tryz.prog.follows .mixedOrders = true := by kernel_rfl
noncomputable def bodyOf (f : Nat) : Code := match Tryz.prog.funcs[f]? with | some fn => (match fn.body with | some c => c | none => .skip) | none => .skip
def c1 : Code → Code | .seq a _ => a | .cond _ a _ => a | .block _ c => c | .loop c => c | c => c
def c2 : Code → Code | .seq _ b => b | .cond _ _ b => b | c => c
noncomputable def noP : CallT := fun _ _ _ _ => none
end Go.Proofs.YtkclgbccnbiojaaGreatDoor.SX

namespace Go.Proofs.YtkclgbccnbiojaaGreatDoor.SX
open Go.Proofs Go.Proofs.YtkclgbccnbiojaaGreatDoor
set_option maxRecDepth 1000000
def txRows : List Nat := [114, 101, 99, 111, 114, 100, 32, 97, 32, 123, 32, 110, 58, 32, 117, 56, 32, 99, 111, 117, 110, 116, 32, 108, 59, 32, 108, 58, 32, 114, 111, 119, 91, 110, 93, 59, 32, 115, 58, 32, 117, 51, 50, 98, 101, 32, 99, 114, 99, 32, 110, 32, 108, 59, 32, 125, 32, 114, 101, 99, 111, 114, 100, 32, 114, 111, 119, 32, 123, 32, 107, 58, 32, 117, 56, 32, 115, 105, 122, 101, 32, 98, 59, 32, 98, 58, 32, 98, 121, 116, 101, 115, 91, 107, 93, 59, 32, 125]
def txPtr : List Nat := [114, 101, 99, 111, 114, 100, 32, 97, 32, 123, 32, 110, 58, 32, 117, 56, 32, 99, 111, 117, 110, 116, 32, 108, 59, 32, 108, 58, 32, 114, 111, 119, 91, 110, 93, 59, 32, 125, 32, 114, 101, 99, 111, 114, 100, 32, 114, 111, 119, 32, 123, 32, 112, 58, 32, 117, 51, 50, 108, 101, 32, 111, 102, 102, 115, 101, 116, 32, 118, 59, 32, 118, 58, 32, 110, 117, 109, 32, 97, 116, 32, 112, 59, 32, 125, 32, 114, 101, 99, 111, 114, 100, 32, 110, 117, 109, 32, 123, 32, 107, 58, 32, 117, 49, 54, 98, 101, 59, 32, 125]
def txCrc : List Nat := [114, 101, 99, 111, 114, 100, 32, 97, 32, 123, 32, 110, 58, 32, 117, 49, 54, 108, 101, 32, 115, 105, 122, 101, 32, 98, 59, 32, 109, 58, 32, 117, 51, 50, 98, 101, 32, 99, 114, 99, 32, 98, 32, 98, 59, 32, 98, 58, 32, 98, 121, 116, 101, 115, 91, 110, 93, 59, 32, 125]
def txAdl : List Nat := [114, 101, 99, 111, 114, 100, 32, 97, 32, 123, 32, 110, 58, 32, 117, 49, 54, 108, 101, 32, 115, 105, 122, 101, 32, 98, 59, 32, 109, 58, 32, 117, 51, 50, 98, 101, 32, 97, 100, 108, 101, 114, 32, 98, 32, 98, 59, 32, 98, 58, 32, 98, 121, 116, 101, 115, 91, 110, 93, 59, 32, 125]
def halfL : List Nat := [0, 498536548, 997073096, 651767980, 1994146192, 1802195444, 1303535960, 1342533948, 3988292384, 4027552580, 3604390888, 3412177804, 2607071920, 2262029012, 2685067896, 3183342108]
def gHalf : AObj := .rows 132 16 1 fun _ => halfL.map fun (x : Nat) => .int false .u32 (x : Int)
def gInts : AObj := .rows 250 21 1 fun _ => [.str false [117, 56], .int false .i64 1, .bool false false, .str false [117, 49, 54, 108, 101], .int false .i64 2, .bool false false, .str false [117, 49, 54, 98, 101], .int false .i64 2, .bool false true, .str false [117, 51, 50, 108, 101], .int false .i64 4, .bool false false, .str false [117, 51, 50, 98, 101], .int false .i64 4, .bool false true, .str false [117, 54, 52, 108, 101], .int false .i64 8, .bool false false, .str false [117, 54, 52, 98, 101], .int false .i64 8, .bool false true]
def gAutos : AObj := .rows 251 6 1 fun _ => [.str false [], .str false [115, 105, 122, 101], .str false [99, 111, 117, 110, 116], .str false [111, 102, 102, 115, 101, 116], .str false [99, 114, 99], .str false [97, 100, 108, 101, 114]]
def gLevels : AObj := .rows 272 6 1 fun _ => [.osl 1000 3, .osl 1001 1, .osl 1002 1, .osl 1003 2, .osl 1004 2, .osl 1005 3]
def gLev0 : AObj := .rows 9 1 3 fun i => [.str false ([[61, 61], [33, 61], [60]].getD i [])]
def gLev1 : AObj := .rows 9 1 1 fun i => [.str false ([[124]].getD i [])]
def gLev2 : AObj := .rows 9 1 1 fun i => [.str false ([[38]].getD i [])]
def gLev3 : AObj := .rows 9 1 2 fun i => [.str false ([[60, 60], [62, 62]].getD i [])]
def gLev4 : AObj := .rows 9 1 2 fun i => [.str false ([[43], [45]].getD i [])]
def gLev5 : AObj := .rows 9 1 3 fun i => [.str false ([[42], [47], [37]].getD i [])]
def gMax (m : Int) : AObj := .rows 3 1 1 fun _ => [.int true .i64 m]
noncomputable def glObs (m : Int) : List (Nat × Option AObj) := [(0, some gHalf), (1, some gInts), (2, some gAutos), (3, some gLevels), (6, some (gMax m)), (1000, some gLev0), (1001, some gLev1), (1002, some gLev2), (1003, some gLev3), (1004, some gLev4), (1005, some gLev5)]
noncomputable def gMem (m : Int) : Mem := mkH (glObs m)
noncomputable def gG (m : Int) : G := ⟨gMem m, 1100, [], []⟩
/-- does a text begin with another one? -/
noncomputable def isPreC (x : Nat) (ih : List Nat → Bool) (b : List Nat) : Bool := match b with | [] => false | y :: r => bif x.beq y then ih r else false
noncomputable def isPre (a : List Nat) : List Nat → Bool := List.rec (motive := fun _ => List Nat → Bool) (fun _ => true) (fun x _ ih => isPreC x ih) a
noncomputable def hasSub (b : List Nat) (a : List Nat) : Bool := List.rec (motive := fun _ => Bool) (isPre b []) (fun x r ih => isPre b (x :: r) || ih) a
noncomputable def primContains (args : List AV) (pm : PM) (g : G) : Option (CR × PM × G) := match args with
  | [.str false a, .str false b] => some (.ret (.bool false (hasSub b a)), pm, g)
  | _ => none
noncomputable def pC : CallT := fun pm f args g => bif f.beq 187 then primContains args pm g else none
def saysRet : Option (CR × PM × G) → Bool
  | some (.ret _, _) => true
  | _ => false
end Go.Proofs.YtkclgbccnbiojaaGreatDoor.SX

namespace Go.Proofs.YtkclgbccnbiojaaGreatDoor.SX
open Go.Proofs Go.Proofs.YtkclgbccnbiojaaGreatDoor.Mor
set_option maxRecDepth 1000000
/-! sums.AdlerMore -/
noncomputable def B20 : Code := bodyOf 20
noncomputable def R20a : Code := c1 B20
noncomputable def R20b : Code := c1 (c2 B20)
noncomputable def X20 : Code := c1 (c1 (c1 (c2 (c2 B20))))
noncomputable def Z20 : Code := c2 (c2 (c2 B20))
noncomputable def H20 : Code := c1 X20
noncomputable def R20c : Code := c1 (c1 (c2 X20))
noncomputable def I20 : Code := c1 (c2 (c1 (c2 X20)))
noncomputable def R20d : Code := c1 I20
noncomputable def Y20 : Code := c1 (c1 (c2 I20))
noncomputable def R20e : Code := c2 (c2 (c1 (c2 X20)))
theorem B20_eq : B20 = .seq R20a (.seq R20b (.seq (.block 0 (.loop (.seq H20 (.block 1 (.seq R20c (.seq (.seq R20d (.block 2 (.loop Y20))) R20e)))))) Z20)) := by kernel_rfl
noncomputable def bC : CallT := callN tT noP 1000 20
theorem bC_ok : CallOk Tryz.prog bC := sx_ok tT_ok tM none_ok 1000 20
noncomputable def g0 (pc : Cs) (ch : List Bool) : G := ⟨mkH [], 1000, pc, ch⟩
noncomputable def sO (S : List Nat) (x y : Int) (pc : Cs) (ch : List Bool) : St := ⟨mkEnv 46 [(1, .str true S), (5, .int true .u32 x), (6, .int true .u32 y)], g0 pc ch, [], .no, []⟩
noncomputable def sI (S : List Nat) (x y n k : Int) (pc : Cs) (ch : List Bool) : St := ⟨mkEnv 46 [(1, .str true S), (5, .int true .u32 x), (6, .int true .u32 y), (7, .int true .i64 n), (21, .int true .i64 n), (22, .int true .i64 k)], g0 pc ch, [], .no, []⟩
noncomputable def eS (S : List Nat) (a : Int) : Tr AV := mkEnv 46 [(0, .int true .u32 a), (1, .str true S)]
theorem p20a (a : Int) (S : List Nat) : wkX 46 [0, 1] [] 1000 (exec R20a tT bC 1000 ⟨argsEnv [.int true .u32 a, .str true S] 0 .e, g0 [] [], [], .no, []⟩) = some (.normal, ⟨eS S a, g0 [] [], [], .no, []⟩) := by kernel_rfl
theorem p20b (a : Int) (S : List Nat) : wkX 46 [1, 5, 6] [] 1000 (exec R20b tT bC 1000 ⟨eS S a, g0 [] [], [], .no, []⟩) = some (.normal, sO S ((bitI BinOp.and Nat.land IntKind.u32 a 65535).tmod 65521) ((a.fdiv (pow2 16 IntKind.u32.bits)).tmod 65521) [] []) := by kernel_rfl
theorem p20t (x y : Int) (S : List Nat) : wkX 46 [1, 5, 6] [] 1000 (exec H20 tT bC 1000 (sO S x y [] [true])) = some (.normal, sO S x y [(ilt 0 ((S.length : Nat) : Int), true)] []) := by kernel_rfl
theorem p20f (x y : Int) (S : List Nat) : wkX 46 [1, 5, 6] [] 1000 (exec H20 tT bC 1000 (sO S x y [] [false])) = some (.exit 0, sO S x y [(ilt 0 ((S.length : Nat) : Int), false)] []) := by kernel_rfl
noncomputable def sC (S : List Nat) (x y n : Int) (pc : Cs) (ch : List Bool) : St := ⟨mkEnv 46 [(1, .str true S), (5, .int true .u32 x), (6, .int true .u32 y), (7, .int true .i64 n)], g0 pc ch, [], .no, []⟩
theorem p20c (x y : Int) (S : List Nat) : wkX 46 [1, 5, 6, 7] [] 1000 (exec R20c tT bC 1000 (sO S x y [] [])) = some (.normal, sC S x y (bif ilt ((S.length : Nat) : Int) 5000 then ((S.length : Nat) : Int) else 5000) [] []) := by kernel_rfl
theorem p20d (x y n : Int) (S : List Nat) : wkX 46 [1, 5, 6, 7, 21, 22] [] 1000 (exec R20d tT bC 1000 (sC S x y n [] [])) = some (.normal, ⟨mkEnv 46 [(1, .str true S), (5, .int true .u32 x), (6, .int true .u32 y), (7, .int true .i64 n), (21, .int true .i64 n), (22, .int false .i64 0)], g0 [] [], [], .no, []⟩) := by kernel_rfl
theorem p20y (x y n k : Int) (S : List Nat) : wkX 46 [1, 5, 6, 7, 21, 22] [] 1000 (exec Y20 tT bC 1000 (sI S x y n k [] [true])) = some (.normal, sI S (wr IntKind.u32 (x.add (wr IntKind.u32 (byteAt S k)))) (wr IntKind.u32 (y.add (wr IntKind.u32 (x.add (wr IntKind.u32 (byteAt S k)))))) n (wr IntKind.i64 (k.add 1)) [(inB k S.length, true), (ilt k n, true)] []) := by kernel_rfl
theorem p20z (x y n k : Int) (S : List Nat) : wkX 46 [1, 5, 6, 7] [] 1000 (exec Y20 tT bC 1000 (sI S x y n k [] [false])) = some (.exit 2, sC S x y n [(ilt k n, false)] []) := by kernel_rfl
theorem p20e (x y n : Int) (S : List Nat) : wkX 46 [1, 5, 6] [] 1000 (exec R20e tT bC 1000 (sC S x y n [] [])) = some (.normal, sO ((S.drop n.toNat).take (((S.length : Nat) : Int).toNat - n.toNat)) (x.tmod 65521) (y.tmod 65521) [(okCut n ((S.length : Nat) : Int) S.length, true)] []) := by kernel_rfl
noncomputable def eZ (r : Int) : Tr AV := mkEnv 46 [(4, .int true .u32 r)]
theorem p20r (x y : Int) (S : List Nat) : wkX 46 [4] [] 1000 (exec Z20 tT bC 1000 (sO S x y [] [])) = some (.ret, ⟨eZ (bitI BinOp.or Nat.lor IntKind.u32 (wr IntKind.u32 (y.mul (pow2 16 IntKind.u32.bits))) x), g0 [] [], [], .no, []⟩) := by kernel_rfl
theorem ok0 : okM [] 1000 = true := by kernel_rfl
theorem kp0 : keepF [] [] 1000 = true := by kernel_rfl
theorem wf20 : wf 46 R20a = true ∧ wf 46 R20b = true ∧ wf 46 H20 = true ∧ wf 46 R20c = true ∧ wf 46 R20d = true ∧ wf 46 Y20 = true ∧ wf 46 R20e = true ∧ wf 46 Z20 = true := ⟨by kernel_rfl, by kernel_rfl, by kernel_rfl, by kernel_rfl, by kernel_rfl, by kernel_rfl, by kernel_rfl, by kernel_rfl⟩
theorem fn20 : Tryz.prog.funcs[20]? = some Tryz.f20 := Tryz.func20
theorem fits20 : Tryz.f20.body = some B20 ∧ Tryz.f20.ntmps = 46 := ⟨by kernel_rfl, by kernel_rfl⟩
theorem res20 (r : Int) (g : G) : SX.results tT (eZ r) g Tryz.f20.results.toList = some [.int true .u32 r] := by kernel_rfl
theorem bts_lt (s : ByteArray) : ∀ b ∈ bts s, b < 256 := by
  intro b hb
  obtain ⟨x, _, rfl⟩ := List.mem_map.1 hb
  exact x.toNat_lt
theorem byteAt_nat (S : List Nat) (k : Nat) (h : k < S.length) : byteAt S (k : Int) = ((S[k] : Nat) : Int) := by
  unfold byteAt
  simp only [Int.toNat_natCast]
  rw [List.getElem?_eq_getElem h]
theorem raw_take (p : Nat × Nat) (S : List Nat) (k : Nat) (h : k < S.length) : raw p (S.take (k + 1)) = ((raw p (S.take k)).1 + S[k], (raw p (S.take k)).2 + ((raw p (S.take k)).1 + S[k])) := by
  rw [List.take_succ_eq_append_getElem h, raw_snoc]
theorem room_takeL (p : Nat × Nat) (h1 : p.1 < 65521) (h2 : p.2 < 65521) (S : List Nat) (hS : ∀ b ∈ S, b < 256) : ∀ k, k ≤ S.length → Room k (raw p (S.take k)) := by
  intro k
  induction k with
  | zero => intro _; exact ⟨by simp [raw]; omega, by simp [raw]; omega⟩
  | succ k ih =>
    intro hk
    rw [raw_take p S k (by omega)]
    exact (ih (by omega)).next (hS _ (List.getElem_mem _))
theorem H1 {c b : Bool} {l : Cs} (h : c = b) (k : Holds l) : Holds ((c, b) :: l) := ⟨h, k⟩
section
variable {ρ0 : Rn} {H0 : Nat → Option AObj} {w0 w : World} {a : Act}
/-- the inner loop -/
theorem inner20 (S : List Nat) (hS : ∀ b ∈ S, b < 256) (hl : S.length ≤ 5000) (p : Nat × Nat) (h1 : p.1 < 65521) (h2 : p.2 < 65521) (hs : SL Tryz.prog 46 [] ρ0 H0 w0 (sI S p.1 p.2 (S.length : Nat) 0 [] [true]) a w) :
    (Code.block 2 (.loop Y20)).wp Tryz.prog (fun x a w => x = .normal ∧ SL Tryz.prog 46 [] ρ0 H0 w0 (sC S (raw p S).1 (raw p S).2 (S.length : Nat) [] []) a w) a w := by
  refine wp_block ?_
  refine loop_sl (fun k : Nat => sI S (raw p (S.take k)).1 (raw p (S.take k)).2 (S.length : Nat) k [] [true]) (fun k => k ≤ S.length) (fun k => S.length - k) 0 (Nat.zero_le _) (by simpa [raw] using hs) ?_
  intro k hk a w hs
  have hr := (room_takeL p h1 h2 S hS k hk)
  have hf := hr.fits (by omega)
  by_cases hlt : k < S.length
  · refine wp_mono (exec_sl tT_ok tM bC_ok wf20.2.2.2.2.2.1 (p20y _ _ _ _ S) ok0 (fun v h => by cases h) (H1 (inB_t (by omega) (by omega)) (H1 (ilt_t (by omega)) trivial)) rfl rfl kp0 (hs := hs)) ?_
    intro x a w ⟨hx, hs⟩
    obtain rfl := hx.normal
    refine ⟨k + 1, hlt, by omega, ?_⟩
    have hb := hS _ (List.getElem_mem hlt)
    have hr' := (room_takeL p h1 h2 S hS (k + 1) (by omega)).fits (by omega)
    rw [raw_take p S k hlt] at hr'
    have e0 : wr .u32 (byteAt S (k : Int)) = ((S[k] : Nat) : Int) := by rw [byteAt_nat S k hlt]; exact wr_u32 (by omega) (by omega)
    have e1 : wr .u32 (Int.add ((raw p (S.take k)).1 : Nat) (wr .u32 (byteAt S (k : Int)))) = (((raw p (S.take (k + 1))).1 : Nat) : Int) := by
      rw [e0, raw_take p S k hlt]
      show wr .u32 (((raw p (S.take k)).1 : Int) + ((S[k] : Nat) : Int)) = _
      rw [wr_u32 (by omega) (by simp only at hr'; omega)]; simp
    have e2 : wr .u32 (Int.add ((raw p (S.take k)).2 : Nat) (wr .u32 (Int.add ((raw p (S.take k)).1 : Nat) (wr .u32 (byteAt S (k : Int)))))) = (((raw p (S.take (k + 1))).2 : Nat) : Int) := by
      rw [e1, raw_take p S k hlt]
      show wr .u32 (((raw p (S.take k)).2 : Int) + (((raw p (S.take k)).1 + S[k] : Nat) : Int)) = _
      rw [wr_u32 (by omega) (by simp only at hr'; omega)]; simp
    have e3 : wr .i64 (Int.add (k : Int) 1) = ((k + 1 : Nat) : Int) := by
      show wr .i64 ((k : Int) + 1) = _
      rw [wr_i64 (by omega) (by omega)]; omega
    rw [e2, e1, e3] at hs
    exact hs.alike rfl rfl rfl
  · obtain rfl : k = S.length := by omega
    refine wp_mono (exec_sl tT_ok tM bC_ok wf20.2.2.2.2.2.1 (p20z _ _ _ _ S) ok0 (fun v h => by cases h) (H1 (ilt_f (by omega)) trivial) rfl rfl kp0 (hs := hs.alike (st' := sI S (raw p (S.take S.length)).1 (raw p (S.take S.length)).2 (S.length : Nat) (S.length : Nat) [] [false]) rfl rfl rfl)) ?_
    intro x a w ⟨hx, hs⟩
    obtain rfl := hx.exit
    refine ⟨rfl, ?_⟩
    rw [List.take_length] at hs
    exact hs.alike rfl rfl rfl
theorem adl_raw (p : Nat × Nat) (h1 : p.1 < 65521) (h2 : p.2 < 65521) (S : List Nat) : adl p S = ((raw p S).1 % 65521, (raw p S).2 % 65521) := by
  have := raw_adl S p
  rw [Nat.mod_eq_of_lt h1, Nat.mod_eq_of_lt h2] at this
  exact this
theorem outer20 (S : List Nat) (hS : ∀ b ∈ S, b < 256) (hl : S.length ≤ 5000) (p : Nat × Nat) (h1 : p.1 < 65521) (h2 : p.2 < 65521) (hs : SL Tryz.prog 46 [] ρ0 H0 w0 (sO S p.1 p.2 [] []) a w) :
    (Code.block 0 (.loop (.seq H20 (.block 1 (.seq R20c (.seq (.seq R20d (.block 2 (.loop Y20))) R20e)))))).wp Tryz.prog (fun x a w => x = .normal ∧ SL Tryz.prog 46 [] ρ0 H0 w0 (sO [] (adl p S).1 (adl p S).2 [] []) a w) a w := by
  refine wp_block ?_
  refine loop_sl (N := 46) (F := []) (ρ0 := ρ0) (H0 := H0) (w0 := w0) (fun b : Bool => match b with | false => sO S p.1 p.2 [] [] | true => sO [] (adl p S).1 (adl p S).2 [] []) (fun b => b = false → S ≠ []) (fun b => match b with | false => 1 | true => 0) S.isEmpty ?_ ?_ ?_
  · cases S with
    | nil => intro h; cases h
    | cons x r => intro _ h; cases h
  · cases S with
    | nil => exact hs
    | cons x r => exact hs
  intro b hb a w hs
  cases b with
  | true =>
    refine wp_seq (wp_mono (exec_sl tT_ok tM bC_ok wf20.2.2.1 (p20f _ _ []) ok0 (fun v h => by cases h) (H1 (by rfl) trivial) rfl rfl kp0 (hs := hs.alike (st' := sO [] (adl p S).1 (adl p S).2 [] [false]) rfl rfl rfl)) ?_)
    intro x a w ⟨hx, hs⟩
    obtain rfl := hx.exit
    exact ⟨rfl, hs.alike rfl rfl rfl⟩
  | false =>
    have hne := hb rfl
    have hpos : 0 < S.length := List.length_pos_iff.2 hne
    refine wp_seq (wp_mono (exec_sl tT_ok tM bC_ok wf20.2.2.1 (p20t _ _ S) ok0 (fun v h => by cases h) (H1 (ilt_t (by omega)) trivial) rfl rfl kp0 (hs := hs.alike (st' := sO S p.1 p.2 [] [true]) rfl rfl rfl)) ?_)
    intro x a w ⟨hx, hs⟩
    obtain rfl := hx.normal
    refine wp_block ?_
    refine wp_seq (wp_mono (exec_sl tT_ok tM bC_ok wf20.2.2.2.1 (p20c _ _ S) ok0 (fun v h => by cases h) trivial rfl rfl kp0 (hs := hs.alike (st' := sO S p.1 p.2 [] []) rfl rfl rfl)) ?_)
    intro x a w ⟨hx, hs⟩
    obtain rfl := hx.normal
    have en : (bif ilt ((S.length : Nat) : Int) 5000 then ((S.length : Nat) : Int) else 5000) = ((S.length : Nat) : Int) := by
      by_cases h : S.length < 5000
      · rw [ilt_t (by omega)]; rfl
      · rw [ilt_f (by omega)]; show (5000 : Int) = _; omega
    rw [en] at hs
    refine wp_seq (wp_seq (wp_mono (exec_sl tT_ok tM bC_ok wf20.2.2.2.2.1 (p20d _ _ _ S) ok0 (fun v h => by cases h) trivial rfl rfl kp0 (hs := hs)) ?_))
    intro x a w ⟨hx, hs⟩
    obtain rfl := hx.normal
    refine wp_mono (inner20 S hS hl p h1 h2 (hs.sim (st' := sI S p.1 p.2 (S.length : Nat) 0 [] [true]) rfl rfl (.same (.same (.same (.same (.same (.int .nil)))))) rfl rfl)) ?_
    intro x a w ⟨hx, hs⟩
    subst hx
    refine wp_mono (exec_sl tT_ok tM bC_ok wf20.2.2.2.2.2.2.1 (p20e _ _ _ S) ok0 (fun v h => by cases h) (H1 ?_ trivial) rfl rfl kp0 (hs := hs)) ?_
    · unfold okCut
      rw [nilt_t (a := ((S.length : Nat) : Int)) (b := 0) (by omega), nilt_t (a := ((S.length : Nat) : Int)) (b := ((S.length : Nat) : Int)) (by omega)]; rfl
    intro x a w ⟨hx, hs⟩
    obtain rfl := hx.normal
    refine ⟨true, fun h => (by cases h), Nat.zero_lt_one, ?_⟩
    have e1 : ((S.drop ((S.length : Nat) : Int).toNat).take (((S.length : Nat) : Int).toNat - ((S.length : Nat) : Int).toNat)) = [] := by simp
    have e2 : Int.tmod (((raw p S).1 : Nat) : Int) 65521 = (((adl p S).1 : Nat) : Int) := by rw [adl_raw p h1 h2]; rfl
    have e3 : Int.tmod (((raw p S).2 : Nat) : Int) 65521 = (((adl p S).2 : Nat) : Int) := by rw [adl_raw p h1 h2]; rfl
    rw [e1, e2, e3] at hs
    exact hs.alike rfl rfl rfl
end
/-- AdlerMore, of a text of at most 5000 bytes -/
theorem adler_calls (c : Nat) (s : ByteArray) (w : World) (hc : c < 4294967296) (hs : s.size ≤ 5000) :
    Calls Tryz.prog 20 #[.int .u32 c, .string s] w fun e w' => e = .returned (.int .u32 ((adlerMore c (bts s) : Nat) : Int)) ∧ ∃ ρ', Fram ⟨id, fun _ => 0⟩ (mkH []).get w ρ' (mkH []).get w' := by
  have hlen : (bts s).length = s.size := by unfold bts; simp
  have hget : ∀ b, (mkH []).get b = none := fun b => mget_e b
  have key := calls_sl (F := []) (g := g0 [] []) (ρ := ⟨id, fun _ => 0⟩) (w := w) (vs := [.int .u32 c, .string s]) (args := [.int true .u32 c, .str true (bts s)]) tT_ok fn20 fits20.1 (by rw [fits20.2]; show 2 ≤ 46; omega) (by rw [fits20.2]; omega)
    (R := fun st' l => l = [.int true .u32 ((adlerMore c (bts s) : Nat) : Int)] ∧ st'.g.h = mkH [])
    (fun b hb => by cases hb) ⟨Nat.le_refl _, fun g _ => rfl, fun g _ => rfl⟩ (LR.cons (.int _ _ _) (LR.cons (.str _ _) (LR.nil _ _))) ⟨fun b o hb => by (have := hget b; rw [show (g0 [] []).h.get b = none from this] at hb; cases hb), fun b o hb => by (have := hget b; rw [show (g0 [] []).h.get b = none from this] at hb; cases hb), fun b b' o o' hb => by (have := hget b; rw [show (g0 [] []).h.get b = none from this] at hb; cases hb)⟩ ?_
  · refine key.mono ?_
    rintro e w' ⟨st', l, x, ρ', ⟨rfl, h3⟩, rfl, hx, hg', hgr, hfr, hfx⟩
    rw [h3] at hfr
    obtain rfl := VR.int_inv hx
    exact ⟨rfl, ρ', hfr⟩
  · intro act hs0
    rw [fits20.2] at hs0 ⊢
    rw [B20_eq]
    refine wp_seq (wp_mono (exec_sl tT_ok tM bC_ok wf20.1 (p20a _ _) ok0 (fun v h => by cases h) trivial rfl rfl kp0 (hs := hs0)) ?_)
    intro x a w ⟨hx, hs1⟩
    obtain rfl := hx.normal
    refine wp_seq (wp_mono (exec_sl tT_ok tM bC_ok wf20.2.1 (p20b _ _) ok0 (fun v h => by cases h) trivial rfl rfl kp0 (hs := hs1)) ?_)
    intro x a w ⟨hx, hs2⟩
    obtain rfl := hx.normal
    have e1 : (bitI BinOp.and Nat.land IntKind.u32 (c : Int) 65535).tmod 65521 = ((c % 65536 % 65521 : Nat) : Int) := by
      have := land_u32 c 65535 (by omega)
      rw [show ((65535 : Nat) : Int) = 65535 from rfl] at this
      rw [this, show c &&& 65535 = c % 65536 from Nat.and_two_pow_sub_one_eq_mod c 16]; rfl
    have e2 : ((c : Int).fdiv (pow2 16 IntKind.u32.bits)).tmod 65521 = ((c / 65536 % 65521 : Nat) : Int) := by
      have := pow2_nat 16 32 (by omega)
      rw [show ((16 : Nat) : Int) = 16 from rfl] at this
      rw [show IntKind.u32.bits = 32 from rfl, this, fdiv_nat]; rfl
    rw [e1, e2] at hs2
    have hS := bts_lt s
    have hp1 : c % 65536 % 65521 < 65521 := Nat.mod_lt _ (by decide)
    have hp2 : c / 65536 % 65521 < 65521 := Nat.mod_lt _ (by decide)
    refine wp_seq (wp_mono (outer20 (bts s) hS (by rw [hlen]; exact hs) (c % 65536 % 65521, c / 65536 % 65521) hp1 hp2 (hs2.alike rfl rfl rfl)) ?_)
    intro x a w ⟨hx, hs3⟩
    subst hx
    have hlt := adl_lt (bts s) (c % 65536 % 65521, c / 65536 % 65521) hp1 hp2
    refine wp_mono (exec_sl tT_ok tM bC_ok wf20.2.2.2.2.2.2.2 (p20r _ _ []) ok0 (fun v h => by cases h) trivial rfl rfl kp0 (hs := hs3)) ?_
    intro x a w ⟨hx, hs4⟩
    obtain rfl := hx.ret
    refine ⟨.inr rfl, _, _, hs4, trivial, res20 _ _, ?_, rfl⟩
    congr 2
    unfold adlerMore
    generalize adl (c % 65536 % 65521, c / 65536 % 65521) (bts s) = q at *
    obtain ⟨x, y⟩ := q
    simp only at hlt
    have e5 : wr .u32 (Int.mul (y : Int) (pow2 16 IntKind.u32.bits)) = ((65536 * y : Nat) : Int) := by
      have := pow2_nat 16 32 (by omega)
      rw [show ((16 : Nat) : Int) = 16 from rfl] at this
      rw [show IntKind.u32.bits = 32 from rfl, this]
      show wr .u32 ((y : Int) * ((2 ^ 16 : Nat) : Int)) = _
      rw [wr_u32 (by omega) (by omega)]; omega
    show bitI BinOp.or Nat.lor IntKind.u32 (wr .u32 (Int.mul (y : Int) (pow2 16 IntKind.u32.bits))) (x : Int) = _
    rw [e5]
    show wr .u32 (Int.ofNat (65536 * y ||| x)) = _
    have h := Nat.two_pow_add_eq_or_of_lt (i := 16) (b := x) (by omega) y
    simp only [show (2 : Nat) ^ 16 = 65536 from rfl] at h
    rw [← h]
    exact wr_u32 (x := ((65536 * y + x : Nat) : Int)) (by omega) (by omega)
end Go.Proofs.YtkclgbccnbiojaaGreatDoor.SX
