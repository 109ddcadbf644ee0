import GoSem.Step
import Derived.Orders
import Derived.Laws.Sem
import Derived.Laws.Cells
import Derived.Laws.Entries
import Derived.RowKit
import Derived.Below
import Derived.Laws.StructEq
import Derived.KernelRfl
set_option linter.unusedVariables false
set_option linter.unusedSimpArgs false
namespace Go.Proofs.YtkclgbccnbiojaaGreatDoor.SX

inductive Tr (α : Type) where
  | e
  | n (l : Tr α) (v : Option α) (r : Tr α)
noncomputable def Tr.left {α : Type} (t : Tr α) : Tr α := Tr.rec (motive := fun _ => Tr α) .e (fun l _ _ _ _ => l) t
noncomputable def Tr.right {α : Type} (t : Tr α) : Tr α := Tr.rec (motive := fun _ => Tr α) .e (fun _ _ r _ _ => r) t
noncomputable def Tr.here {α : Type} (t : Tr α) : Option α := Tr.rec (motive := fun _ => Option α) none (fun _ v _ _ _ => v) t
/-- where a number stands in the tree: staged by the number -/
noncomputable def getStep {α : Type} (ih : Nat → Tr α → Option α) (k : Nat) : Tr α → Option α :=
  Bool.rec (motive := fun _ => Tr α → Option α) (Bool.rec (motive := fun _ => Tr α → Option α) (fun t => ih (Nat.sub (Nat.div k 2) 1) t.right) (fun t => ih (Nat.div k 2) t.left) ((Nat.mod k 2).beq 1)) Tr.here (k.beq 0)
noncomputable def getF {α : Type} (f : Nat) : Nat → Tr α → Option α := Nat.rec (motive := fun _ => Nat → Tr α → Option α) (fun _ _ => none) (fun _ ih => getStep ih) f
noncomputable def Tr.get {α : Type} (t : Tr α) (k : Nat) : Option α := getF 24 k t
noncomputable def putStep {α : Type} (ih : Nat → Option α → Tr α → Tr α) (k : Nat) : Option α → Tr α → Tr α :=
  Bool.rec (motive := fun _ => Option α → Tr α → Tr α) (Bool.rec (motive := fun _ => Option α → Tr α → Tr α) (fun x t => .n t.left t.here (ih (Nat.sub (Nat.div k 2) 1) x t.right)) (fun x t => .n (ih (Nat.div k 2) x t.left) t.here t.right) ((Nat.mod k 2).beq 1)) (fun x t => .n t.left x t.right) (k.beq 0)
noncomputable def putF {α : Type} (f : Nat) : Nat → Option α → Tr α → Tr α := Nat.rec (motive := fun _ => Nat → Option α → Tr α → Tr α) (fun _ _ t => t) (fun _ ih => putStep ih) f
noncomputable def Tr.put {α : Type} (t : Tr α) (k : Nat) (x : Option α) : Tr α := putF 24 k x t

/-! ### numbers, quickly -/
noncomputable def wrapU (m : Nat) (n : Int) : Int := Int.rec (motive := fun _ => Int) (fun a => .ofNat (Nat.mod a m)) (fun a => .ofNat (Nat.sub (Nat.sub m 1) (Nat.mod a m))) n
noncomputable def fold2 (m h r : Nat) : Int := Bool.rec (motive := fun _ => Int) (.negSucc (Nat.sub (Nat.sub m r) 1)) (.ofNat r) (r.blt h)
noncomputable def wrapS (m h : Nat) (n : Int) : Int := Int.rec (motive := fun _ => Int) (fun a => fold2 m h (Nat.mod a m)) (fun a => fold2 m h (Nat.sub (Nat.sub m 1) (Nat.mod a m))) n
noncomputable def wr (k : IntKind) : Int → Int := IntKind.rec (motive := fun _ => Int → Int) (wrapS 256 128) (wrapS 65536 32768) (wrapS 4294967296 2147483648) (wrapS 18446744073709551616 9223372036854775808) (wrapU 256) (wrapU 65536) (wrapU 4294967296) (wrapU 18446744073709551616) k
/-- & | ^ &^ as the model tells them -/
noncomputable def bitsM (op : BinOp) (k : IntKind) (x y : Int) : Int :=
  k.wrap (match op with
    | .and => (BitVec.ofInt k.bits x &&& BitVec.ofInt k.bits y).toNat
    | .or => (BitVec.ofInt k.bits x ||| BitVec.ofInt k.bits y).toNat
    | .xor => (BitVec.ofInt k.bits x ^^^ BitVec.ofInt k.bits y).toNat
    | _ => (BitVec.ofInt k.bits x &&& ~~~ BitVec.ofInt k.bits y).toNat)
noncomputable def bitI (op : BinOp) (f : Nat → Nat → Nat) (k : IntKind) (a b : Int) : Int := match a with
  | .ofNat x => (match b with | .ofNat y => wr k (.ofNat (f x y)) | .negSucc _ => bitsM op k a b)
  | .negSucc _ => bitsM op k a b
noncomputable def clip (n m : Nat) : Nat := match n.ble m with | true => n | false => m
noncomputable def pow2 (n : Int) (m : Nat) : Int := .ofNat (Nat.pow 2 (clip n.toNat m))
noncomputable def xorM (k : IntKind) (n : Int) : Int := match n with
  | .ofNat x => (match k.signed with | false => wr k (.ofNat (Nat.sub (Nat.sub (Nat.pow 2 k.bits) 1) (Nat.mod x (Nat.pow 2 k.bits)))) | true => bitsM .xor k (-1) n)
  | .negSucc _ => bitsM .xor k (bif k.signed then -1 else k.max) n
noncomputable def ieq (a b : Int) : Bool := Int.rec (motive := fun _ => Bool) (fun x => Int.rec (motive := fun _ => Bool) (fun y => x.beq y) (fun _ => false) b) (fun x => Int.rec (motive := fun _ => Bool) (fun _ => false) (fun y => x.beq y) b) a
noncomputable def ilt (a b : Int) : Bool := Int.rec (motive := fun _ => Bool) (fun x => Int.rec (motive := fun _ => Bool) (fun y => x.blt y) (fun _ => false) b) (fun x => Int.rec (motive := fun _ => Bool) (fun _ => true) (fun y => y.blt x) b) a

inductive Cap where
  | kn (c : Nat) | un (k : Nat)
inductive AV where
  | bad | und
  | bool (s b : Bool) | int (s : Bool) (k : IntKind) (n : Int) | str (s : Bool) (b : List Nat)
  | nilp | ptr (b o : Nat) | rptr (b sz i j : Nat)
  | nils | sl (s : Bool) (b o len : Nat) (cap : Cap)
  | nilm | mp (b : Nat)
  | nilf | fn (f : Fn) (first captured : List AV)
  | nili | ifc (t : TypeId) (v : AV)
  | agg (cs : List AV) | tup (vs : List AV)
  | osl (b n : Nat) | optr (b sz i j : Nat)
  | unk
inductive AObj where
  | cells (elem : TypeId) (cs : List AV) (grow : Bool)
  | nums (elem : TypeId) (k : IntKind) (xs : List Int) (grow : Bool)
  | rows (elem : TypeId) (sz n : Nat) (f : Nat → List AV)
  | grows (elem : TypeId) (sz n : Nat) (f : Nat → List AV)
  | map (es : List (AV × AV))
structure Mem where
  t : Tr AObj
  v : Nat → Option AObj
noncomputable def Mem.get (m : Mem) (k : Nat) : Option AObj := Bool.rec (motive := fun _ => Option AObj) (m.v k) (m.t.get k) (k.blt 16000000)
noncomputable def Mem.put (m : Mem) (k : Nat) (x : Option AObj) : Mem := Bool.rec (motive := fun _ => Mem) ⟨m.t, fun j => match j.beq k with | true => x | false => m.v j⟩ ⟨m.t.put k x, m.v⟩ (k.blt 16000000)
noncomputable def Mem.e : Mem := ⟨.e, fun _ => none⟩
inductive TK where
  | bool | int (k : IntKind) | string | pointer (e : TypeId) | slice (e : TypeId) | array (n : Nat) (e : TypeId) | map (k e : TypeId) | struct (fs : List (Nat × TypeId)) | iface | func | other
structure TI where
  k : TK
  size : Nat
  bytes : Nat
  zero : List AV
/-- what was told on the way: tests and their outcomes -/
abbrev Cs := List (Bool × Bool)
noncomputable def Holds (l : Cs) : Prop := List.rec (motive := fun _ => Prop) True (fun p _ ih => p.1 = p.2 ∧ ih) l
instance : CoeSort Cs Prop := ⟨Holds⟩
structure G where
  h : Mem
  nx : Nat
  pc : Cs
  ch : List Bool
inductive PM where
  | no | ret | pan (v : AV) (rec : Bool)
structure St where
  env : Tr AV
  g : G
  df : List (AV × List AV)
  pm : PM
  sn : List (Mem)
inductive Ex where
  | normal | exit (id : Nat) | ret | pan (v : AV)
inductive CR where
  | ret (v : AV) | pan (v : AV)
structure Tab where
  ti : Tr TI
  fs : Nat → Option Func
/-- a computation's result: a value and the memory -/
abbrev R (α : Type) := Option (α × G)

noncomputable def bts (s : ByteArray) : List Nat := s.data.toList.map fun x => x.toNat
noncomputable def ofCell : Value → AV
  | .bool b => .bool false b
  | .int k n => .int false k n
  | .string s => .str false (bts s)
  | .pointer none => .nilp
  | .slice none 0 0 => .nils
  | .map none => .nilm
  | .nilFunc => .nilf
  | .nilIface => .nili
  | _ => .bad
noncomputable def ofV : Value → AV
  | .agg cs => .agg (cs.toList.map ofCell)
  | .tuple vs => bif vs.size.beq 0 then .tup [] else .bad
  | .func f a b => bif a.size.beq 0 && b.size.beq 0 then .fn f [] [] else .bad
  | v => ofCell v
noncomputable def evT (env : Tr AV) (t : Nat) : AV := Option.rec (motive := fun _ => AV) .und (fun v => v) (env.get t)
noncomputable def glob (g : Nat) : AV := match g.blt 1000 with | true => .optr g 0 0 0 | false => .bad
noncomputable def ev (env : Tr AV) (x : Operand) : AV := Operand.rec (motive := fun _ => AV) (fun t => evT env t) ofV glob (fun f => .fn (.func f) [] []) x
noncomputable def TK.isAgg : TK → Bool
  | .struct _ | .array _ _ => true
  | _ => false
noncomputable def AV.cells : AV → List AV
  | .agg cs => cs
  | v => [v]
noncomputable def notBad : AV → Bool | .bad => false | _ => true
noncomputable def seg (cs : List AV) (o n : Nat) : List AV := (cs.drop o).take n
noncomputable def putSeg (cs : List AV) (o : Nat) (new : List AV) : List AV := cs.take o ++ (new ++ cs.drop (o + new.length))
noncomputable def rok {α : Type} (a : α) (g : G) : R α := some (a, g)
noncomputable def rbind {α β : Type} (r : R α) (f : α → G → R β) : R β := match r with | some (a, g) => f a g | none => none
noncomputable def obind {α β : Type} (r : Option α) (f : α → R β) : R β := Option.rec (motive := fun _ => R β) none f r
noncomputable def guardB {α : Type} (b : Bool) (r : R α) : R α := Bool.rec (motive := fun _ => R α) none r b
/-- a condition that must hold: told (symbolic) or seen -/
noncomputable def chk {α : Type} (s c : Bool) (g : G) (k : G → R α) : R α := Bool.rec (motive := fun _ => R α) (Bool.rec (motive := fun _ => R α) none (k g) c) (k { g with pc := (c, true) :: g.pc }) s
/-- a test: which way -/
noncomputable def testS {α : Type} (c : Bool) (g : G) (k : Bool → G → Option α) : Option α := match g.ch with | b :: r => k b { g with pc := (c, b) :: g.pc, ch := r } | [] => none
noncomputable def test {α : Type} (s c : Bool) (g : G) (k : Bool → G → Option α) : Option α := Bool.rec (motive := fun _ => Option α) (k c g) (testS c g k) s
noncomputable def ti {α : Type} (T : Tab) (t : Nat) (f : TI → R α) : R α := Option.rec (motive := fun _ => R α) none f (T.ti.get t)
noncomputable def TI.elem {α : Type} (i : TI) (f : Nat → R α) : R α := match i.k with | .slice e => f e | _ => none
noncomputable def alloc {α : Type} (g : G) (o : AObj) (k : Nat → G → R α) : R α := match g.nx.blt 16000000 with
  | true => k g.nx { g with h := g.h.put g.nx (some o), nx := g.nx + 1 }
  | false => none
noncomputable def G.set (g : G) (b : Nat) (o : Option AObj) : G := { g with h := g.h.put b o }
noncomputable def obj {α : Type} (g : G) (b : Nat) (f : AObj → R α) : R α := Option.rec (motive := fun _ => R α) none f (g.h.get b)
noncomputable def AObj.mapD {α : Type} (o : AObj) (f : List (AV × AV) → R α) : R α := match o with | .map es => f es | _ => none
noncomputable def nth (cs : List AV) : Nat → Option AV := List.rec (motive := fun _ => Nat → Option AV) (fun _ => none) (fun v _ ih o => Nat.rec (motive := fun _ => Option AV) (some v) (fun n _ => ih n) o) cs
noncomputable def at_ (cs : List AV) (o : Nat) (g : G) : R AV := Option.rec (motive := fun _ => R AV) none (fun v => some (v, g)) (nth cs o)

/-! ### operators -/
noncomputable def iArith (s : Bool) (k : IntKind) (n : Int) (g : G) : R AV := rok (.int s k (wr k n)) g
noncomputable def iBool (s b : Bool) (g : G) : R AV := rok (.bool s b) g
noncomputable def bShl (s s' : Bool) (k : IntKind) (a b : Int) (g : G) : R AV := chk s' (!(ilt b 0)) g fun g => rok (.int (s || s') k (wr k (Int.mul a (pow2 b k.bits)))) g
noncomputable def bShr (s s' : Bool) (k : IntKind) (a b : Int) (g : G) : R AV := chk s' (!(ilt b 0)) g fun g => rok (.int (s || s') k (Int.fdiv a (pow2 b k.bits))) g
noncomputable def bQuo (s s' : Bool) (k : IntKind) (a b : Int) (g : G) : R AV := chk s' (!(ieq b 0)) g fun g => rok (.int (s || s') k (wr k (Int.tdiv a b))) g
noncomputable def bRem (s s' : Bool) (k : IntKind) (a b : Int) (g : G) : R AV := chk s' (!(ieq b 0)) g fun g => rok (.int (s || s') k (Int.tmod a b)) g
noncomputable def binInt (op : BinOp) (s s' : Bool) (k : IntKind) (a b : Int) (g : G) : R AV := match op with
  | .add => iArith (s || s') k (Int.add a b) g
  | .sub => iArith (s || s') k (Int.sub a b) g
  | .mul => iArith (s || s') k (Int.mul a b) g
  | .and => rok (.int (s || s') k (bitI .and Nat.land k a b)) g
  | .or => rok (.int (s || s') k (bitI .or Nat.lor k a b)) g
  | .xor => rok (.int (s || s') k (bitI .xor Nat.xor k a b)) g
  | .andNot => rok (.int (s || s') k (bitsM .andNot k a b)) g
  | .eql => iBool (s || s') (ieq a b) g
  | .neq => iBool (s || s') (!(ieq a b)) g
  | .lss => iBool (s || s') (ilt a b) g
  | .leq => iBool (s || s') (!(ilt b a)) g
  | .gtr => iBool (s || s') (ilt b a) g
  | .geq => iBool (s || s') (!(ilt a b)) g
  | .shl => bShl s s' k a b g
  | .shr => bShr s s' k a b g
  | .quo => bQuo s s' k a b g
  | .rem => bRem s s' k a b g
noncomputable def intOf {α : Type} (v : AV) (f : Bool → IntKind → Int → R α) : R α := match v with | .int s k n => f s k n | _ => none
noncomputable def strOf {α : Type} (v : AV) (f : Bool → List Nat → R α) : R α := match v with | .str s b => f s b | _ => none
noncomputable def boolOf {α : Type} (v : AV) (f : Bool → Bool → R α) : R α := match v with | .bool s b => f s b | _ => none
noncomputable def sEqC (x : Nat) (ih : List Nat → Bool) (b : List Nat) : Bool := match b with | [] => false | y :: r => bif x.beq y then ih r else false
noncomputable def sEq (a : List Nat) : List Nat → Bool := List.rec (motive := fun _ => List Nat → Bool) (fun b => b.isEmpty) (fun x _ ih => sEqC x ih) a
noncomputable def catS (s : Bool) (a b : List Nat) (g : G) : R AV := chk s ((a.length + b.length).ble 9223372036854775807) g fun g => rok (.str s (a ++ b)) g
noncomputable def binStr (op : BinOp) (s s' : Bool) (a b : List Nat) (g : G) : R AV := match op with
  | .eql => iBool (s || s') (sEq a b) g
  | .neq => iBool (s || s') (!(sEq a b)) g
  | .add => catS (s || s') a b g
  | _ => none
noncomputable def binEq (op : BinOp) (s b : Bool) (g : G) : R AV := match op with
  | .eql => iBool s b g
  | .neq => iBool s (!b) g
  | _ => none
/-- nil against what is of its kind -/
inductive Nil where | yes | no | not
noncomputable def nilp? : AV → Nil | .nilp => .yes | .ptr _ _ => .no | .rptr _ _ _ _ => .no | _ => .not
noncomputable def nils? : AV → Nil | .nils => .yes | .sl _ _ _ _ _ => .no | _ => .not
noncomputable def nili? : AV → Nil | .nili => .yes | .ifc _ _ => .no | _ => .not
noncomputable def nilm? : AV → Nil | .nilm => .yes | .mp _ => .no | _ => .not
noncomputable def nilf? : AV → Nil | .nilf => .yes | .fn _ _ _ => .no | _ => .not
noncomputable def binNil (op : BinOp) (n : Nil) (g : G) : R AV := match n with
  | .yes => binEq op false true g
  | .no => binEq op false false g
  | .not => none
noncomputable def onlyNil (op : BinOp) (n : Nil) (g : G) : R AV := match n with
  | .yes => binEq op false false g
  | _ => none
noncomputable def kindEq (a b : IntKind) : Bool := Nat.beq a.ctorIdx b.ctorIdx
noncomputable def isShift : BinOp → Bool | .shl => true | .shr => true | _ => false
noncomputable def TK.tag : TK → Nat | .bool => 1 | .pointer _ => 2 | .slice _ => 3 | .iface => 4 | .map _ _ => 5 | .func => 6 | .string => 7 | .int _ => 8 | .struct _ => 9 | .array _ _ => 10 | .other => 0
noncomputable def isK (T : Tab) (t tag : Nat) (r : R AV) : R AV := ti T t fun i => guardB (i.k.tag.beq tag) r
noncomputable def bin (T : Tab) (op : BinOp) (t : Nat) (c : Bool) (x y : AV) (g : G) : R AV := match x with
  | .int s k a => intOf y fun s' k' b => guardB (isShift op || kindEq k k') (binInt op s s' k a b g)
  | .str s a => strOf y fun s' b => binStr op s s' a b g
  | .bool s a => boolOf y fun s' b => isK T t 1 (binEq op (s || s') (a == b) g)
  | .nilp => isK T t 2 (binNil op (nilp? y) g)
  | .ptr _ _ => isK T t 2 (onlyNil op (nilp? y) g)
  | .rptr _ _ _ _ => isK T t 2 (onlyNil op (nilp? y) g)
  | .nils => isK T t 3 (binNil op (nils? y) g)
  | .sl _ _ _ _ _ => isK T t 3 (onlyNil op (nils? y) g)
  | .nili => isK T t 4 (guardB c (binNil op (nili? y) g))
  | .ifc _ _ => isK T t 4 (onlyNil op (nili? y) g)
  | .nilm => isK T t 5 (binNil op (nilm? y) g)
  | .mp _ => isK T t 5 (onlyNil op (nilm? y) g)
  | .nilf => isK T t 6 (binNil op (nilf? y) g)
  | .fn _ _ _ => isK T t 6 (onlyNil op (nilf? y) g)
  | _ => none
noncomputable def isConst : Operand → Bool | .const _ => true | _ => false
noncomputable def unNot (v : AV) (g : G) : R AV := match v with | .bool s b => iBool s (!b) g | _ => none
noncomputable def unNeg (v : AV) (g : G) : R AV := intOf v fun s k n => iArith s k (Int.sub 0 n) g
noncomputable def unXor (v : AV) (g : G) : R AV := intOf v fun s k n => rok (.int s k (xorM k n)) g
noncomputable def un (op : UnOp) (v : AV) (g : G) : R AV := match op with
  | .not => unNot v g
  | .neg => unNeg v g
  | .xor => unXor v g
  | _ => none

/-! ### memory -/
noncomputable def fieldOf (i : TI) (f : Nat) (k : Nat → Nat → R AV) : R AV := match i.k with
  | .struct fs => (match fs[f]? with | some (o, t) => k o t | none => none)
  | _ => none
noncomputable def loadFrom (T : Tab) (t : Nat) (cs : List AV) (o : Nat) (g : G) : R AV := ti T t fun i => match i.k.isAgg with
  | true => guardB ((o + i.size).ble cs.length) (rok (.agg (seg cs o i.size)) g)
  | false => at_ cs o g
noncomputable def ptrOf {α : Type} (v : AV) (f : Nat → Nat → R α) : R α := match v with | .ptr b o => f b o | _ => none
noncomputable def ldNum (k : IntKind) (xs : List Int) (i : Nat) (g : G) : R AV := chk true (i.blt xs.length) g fun g => rok (.int true k (xs.getD i 0)) g
noncomputable def ldCell (T : Tab) (t o : Nat) (g : G) (ob : AObj) : R AV := match ob with
  | .cells _ cs _ => loadFrom T t cs o g
  | .nums _ k xs _ => isK T t 8 (ldNum k xs o g)
  | _ => none
noncomputable def ldRow (T : Tab) (t sz i j : Nat) (g : G) (ob : AObj) : R AV := match ob with
  | .nums _ k xs _ => isK T t 8 (guardB (sz.beq 1 && j.beq 0) (ldNum k xs i g))
  | .grows _ sz' n f => guardB (sz.beq sz') (chk true (i.blt n) g fun g => loadFrom T t (f i) j g)
  | _ => none
noncomputable def ldOut (T : Tab) (t b sz i j : Nat) (g : G) (ob : AObj) : R AV := match ob with
  | .rows _ sz' n f => guardB (sz.beq sz' || i.beq 0) (chk (!(b.blt 1100)) (i.blt n) g fun g => loadFrom T t (f i) j g)
  | _ => none
noncomputable def oLoad (T : Tab) (t : Nat) (p : AV) (g : G) : R AV := match p with
  | .ptr b o => obj g b (ldCell T t o g)
  | .rptr b sz i j => obj g b (ldRow T t sz i j g)
  | .optr b sz i j => obj g b (ldOut T t b sz i j g)
  | _ => none
noncomputable def oneCell : AV → Bool
  | .agg _ | .tup _ | .bad | .und => false
  | _ => true
noncomputable def fits (T : Tab) (t : Nat) (v : AV) (r : R Unit) : R Unit := ti T t fun i => guardB (i.size.beq v.cells.length && v.cells.all oneCell) r
noncomputable def stNum (b e : Nat) (k : IntKind) (xs : List Int) (gr : Bool) (i : Nat) (x : AV) (g : G) : R Unit := match x with
  | .int _ k' n => guardB (kindEq k k') (chk true (i.blt xs.length) g fun g => rok () (g.set b (some (.nums e k (xs.set i n) gr))))
  | _ => none
noncomputable def stCell (T : Tab) (t b o : Nat) (x : AV) (g : G) (ob : AObj) : R Unit := match ob with
  | .cells e cs gr => fits T t x (guardB ((o + x.cells.length).ble cs.length) (rok () (g.set b (some (.cells e (putSeg cs o x.cells) gr)))))
  | .nums e k xs gr => fits T t x (stNum b e k xs gr o x g)
  | _ => none
noncomputable def stRow (T : Tab) (t b sz i j : Nat) (x : AV) (g : G) (ob : AObj) : R Unit := match ob with
  | .nums e k xs gr => fits T t x (guardB (sz.beq 1 && j.beq 0) (stNum b e k xs gr i x g))
  | _ => none
noncomputable def oStore (T : Tab) (t : Nat) (p x : AV) (g : G) : R Unit := match p with
  | .ptr b o => obj g b (stCell T t b o x g)
  | .rptr b sz i j => obj g b (stRow T t b sz i j x g)
  | _ => none
noncomputable def fillOne (place : Nat → Option (Nat × Nat)) (p : Nat × AV) (ih : List AV → Option (List AV)) (cs : List AV) : Option (List AV) := match place p.1 with
    | none => none
    | some (off, size) => bif notBad p.2 && p.2.cells.length.beq size && (off + size).ble cs.length then ih (putSeg cs off p.2.cells) else none
noncomputable def fillParts (place : Nat → Option (Nat × Nat)) (l : List (Nat × AV)) : List AV → Option (List AV) := List.rec (motive := fun _ => List AV → Option (List AV)) (fun cs => some cs) (fun p _ ih => fillOne place p ih) l
noncomputable def parts (env : Tr AV) (ps : Array (Nat × Operand)) : List (Nat × AV) := ps.toList.map fun p => (p.1, ev env p.2)
noncomputable def reps (z : List AV) (n : Nat) : List AV := Nat.rec (motive := fun _ => List AV) [] (fun _ ih => z ++ ih) n
noncomputable def strBytes (b : List Nat) : List AV := b.map fun (x : Nat) => .int false .u8 (x : Int)
noncomputable def fieldPlace (T : Tab) (fs : List (Nat × TypeId)) (j : Nat) : Option (Nat × Nat) := match fs[j]? with
  | some (o, ft) => (match T.ti.get ft with | some fi => some (o, fi.size) | none => none)
  | none => none
noncomputable def hasTi (T : Tab) (t : Nat) : Bool := match T.ti.get t with | some _ => true | none => false
noncomputable def oBuildK (T : Tab) (z : List AV) (ps : List (Nat × AV)) (k : TK) (g : G) : R AV := match k with
  | .struct fs => guardB (fs.all fun f => hasTi T f.2) (obind (fillParts (fieldPlace T fs) ps z) fun cs => rok (.agg cs) g)
  | .array _ e => ti T e fun ei => obind (fillParts (fun j => some (j * ei.size, ei.size)) ps z) fun cs => rok (.agg cs) g
  | _ => none
noncomputable def oBuild (T : Tab) (t : Nat) (ps : List (Nat × AV)) (g : G) : R AV := ti T t fun i => oBuildK T i.zero ps i.k g
noncomputable def oBuildSlice (T : Tab) (t n : Nat) (ps : List (Nat × AV)) (g : G) : R AV := ti T t fun i => i.elem fun e => ti T e fun ei => guardB ((n * ei.size).ble 16777216) <|
  obind (fillParts (fun j => some (j * ei.size, ei.size)) ps (reps ei.zero n)) fun cs => alloc g (.cells e cs false) fun b g => rok (.sl false b 0 n (.kn n)) g
noncomputable def oAlloc (T : Tab) (t : Nat) (g : G) : R AV := ti T t fun i => alloc g (.cells t i.zero false) fun b g => rok (.ptr b 0) g
noncomputable def oBox (t : Nat) (v : AV) (g : G) : R AV := guardB (notBad v) <| alloc g (.cells t v.cells false) fun b g => rok (.ptr b 0) g
noncomputable def oNil (v : AV) (g : G) : R AV := match v with
  | .ptr b o => rok (.ptr b o) g
  | .fn (.func f) a b => rok (.fn (.func f) a b) g
  | _ => none
noncomputable def byteCell (v : AV) (ih : Option (Bool × List Nat)) : Option (Bool × List Nat) := match v with
  | .int s .u8 n => (match ih with | some (s', l) => some (s || s', Nat.mod n.toNat 256 :: l) | none => none)
  | _ => none
noncomputable def bytesOfCells (l : List AV) : Option (Bool × List Nat) := List.rec (motive := fun _ => Option (Bool × List Nat)) (some (false, [])) (fun v _ ih => byteCell v ih) l
noncomputable def numBytes (xs : List Int) : List Nat := xs.map fun v => Nat.mod v.toNat 256
noncomputable def toStrO (o n : Nat) (g : G) (ob : AObj) : R AV := match ob with
  | .cells _ cs _ => guardB ((o + n).ble cs.length) (obind (bytesOfCells (seg cs o n)) fun p => rok (.str p.1 p.2) g)
  | .nums _ .u8 xs _ => chk true ((o + n).ble xs.length) g fun g => rok (.str true (numBytes ((xs.drop o).take n))) g
  | _ => none
noncomputable def toStr (x : AV) (g : G) : R AV := match x with
  | .nils => rok (.str false []) g
  | .sl _ b o n _ => obj g b (toStrO o n g)
  | _ => none
noncomputable def natInts (b : List Nat) : List Int := b.map fun (x : Nat) => (x : Int)
noncomputable def fromStr (e : Nat) (x : AV) (g : G) : R AV := match x with
  | .str false b => alloc g (.cells e (strBytes b) true) fun i g => rok (.sl false i 0 b.length (.un 0)) g
  | .str true b => alloc g (.nums e .u8 (natInts b) true) fun i g => rok (.sl true i 0 b.length (.un 0)) g
  | _ => none
noncomputable def toInt (k : IntKind) (x : AV) (g : G) : R AV := intOf x fun s _ n => rok (.int s k (wr k n)) g
noncomputable def strKeep (x : AV) (g : G) : R AV := match x with | .str s b => rok (.str s b) g | _ => none
noncomputable def isU8 (T : Tab) (e : Nat) (r : R AV) : R AV := ti T e fun i => match i.k with | .int .u8 => r | _ => none
noncomputable def convStr (T : Tab) (k : TK) (x : AV) (g : G) : R AV := match k with
  | .slice e => isU8 T e (toStr x g)
  | .string => strKeep x g
  | _ => none
noncomputable def oConvK (T : Tab) (sk dk : TK) (x : AV) (g : G) : R AV := match dk with
  | .int k => toInt k x g
  | .string => convStr T sk x g
  | .slice e => isU8 T e (fromStr e x g)
  | _ => none
noncomputable def oConv (T : Tab) (s d : Nat) (x : AV) (g : G) : R AV := ti T s fun si => ti T d fun di => oConvK T si.k di.k x g
noncomputable def sized (T : Tab) (t : Nat) (r : R AV) : R AV := ti T t fun i => guardB (!(i.size.beq 0)) r
noncomputable def oFieldAddr (T : Tab) (t : Nat) (x : AV) (f : Nat) (g : G) : R AV := match x with
  | .ptr b o => ti T t fun i => fieldOf i f fun off ft => sized T ft (rok (.ptr b (o + off)) g)
  | .rptr b sz i j => ti T t fun it => fieldOf it f fun off ft => sized T ft (rok (.rptr b sz i (j + off)) g)
  | .optr b sz i j => ti T t fun it => fieldOf it f fun off ft => sized T ft (rok (.optr b sz i (j + off)) g)
  | _ => none
noncomputable def aggOf (v : AV) (f : List AV → R AV) : R AV := match v with | .agg cs => f cs | _ => none
noncomputable def oField (T : Tab) (t : Nat) (x : AV) (f : Nat) (g : G) : R AV := aggOf x fun cs => ti T t fun i => fieldOf i f fun off ft => loadFrom T ft cs off g
noncomputable def inB (j : Int) (n : Nat) : Bool := !(ilt j 0) && ilt j n
noncomputable def ixAddr (s : Bool) (b o sz j : Nat) (g : G) : R AV := match s with
  | false => rok (.ptr b (o + j * sz)) g
  | true => (match sz.beq 1 with
    | true => rok (.rptr b 1 (o + j) 0) g
    | false => guardB (o.beq 0) (rok (.rptr b sz j 0) g))
noncomputable def ixSlice (T : Tab) (e : Nat) (x : AV) (s' : Bool) (j : Int) (g : G) : R AV := match x with
  | .sl s b o n _ => chk (s || s') (inB j n) g fun g => ti T e fun ei => ixAddr (s || s') b o ei.size j.toNat g
  | .osl b n => chk (s' || !(b.blt 1100)) (inB j n) g fun g => ti T e fun ei => rok (.optr b ei.size j.toNat 0) g
  | _ => none
noncomputable def ixArr (T : Tab) (n e : Nat) (x : AV) (s' : Bool) (j : Int) (g : G) : R AV := match x with
  | .ptr b o => chk s' (inB j n) g fun g => ti T e fun ei => ixAddr s' b o ei.size j.toNat g
  | .optr b sz i o => guardB (!s') (guardB (inB j n) (ti T e fun ei => rok (.optr b sz i (o + j.toNat * ei.size)) g))
  | _ => none
noncomputable def oIndexAddrK (T : Tab) (k : TK) (x : AV) (s' : Bool) (j : Int) (g : G) : R AV := match k with
  | .slice e => ixSlice T e x s' j g
  | .array n e => ixArr T n e x s' j g
  | _ => none
noncomputable def oIndexAddr (T : Tab) (t : Nat) (x i : AV) (g : G) : R AV := intOf i fun s' _ j => ti T t fun it => oIndexAddrK T it.k x s' j g
noncomputable def byteAt (b : List Nat) (j : Int) : Int := match b[j.toNat]? with | some x => (x : Int) | none => 0
noncomputable def oIndexK (T : Tab) (k : TK) (x : AV) (s' : Bool) (j : Int) (g : G) : R AV := match k with
  | .string => strOf x fun s b => chk (s || s') (inB j b.length) g fun g => rok (.int (s || s') .u8 (byteAt b j)) g
  | .array n e => aggOf x fun cs => chk s' (inB j n) g fun g => ti T e fun ei => loadFrom T e cs (j.toNat * ei.size) g
  | _ => none
noncomputable def oIndex (T : Tab) (t : Nat) (x i : AV) (g : G) : R AV := intOf i fun s' _ j => ti T t fun it => oIndexK T it.k x s' j g
noncomputable def optInt (d : Nat) (v : Option AV) (f : Bool → Int → R AV) : R AV := match v with
  | none => f false d
  | some v => intOf v fun s _ n => f s n
noncomputable def okCut (l h : Int) (m : Nat) : Bool := !(ilt l 0) && !(ilt h l) && !(ilt m h)
noncomputable def cutAt (s : Bool) (b o sz n l m : Nat) (c : Nat → Cap) (g : G) : R AV := test s (m.beq l) g fun z g => match z with
  | true => rok (.sl s b o n (c l)) g
  | false => rok (.sl s b (o + l * sz) n (c l)) g
noncomputable def cutSl (s : Bool) (sz b o n : Nat) (c : Cap) (l h : Int) (g : G) : R AV := match c with
  | .kn c => chk s (okCut l h c) g fun g => cutAt s b o sz (h.toNat - l.toNat) l.toNat c (fun l => .kn (c - l)) g
  | .un k => chk s (okCut l h n) g fun g => test s (n.beq l.toNat) g fun z g => match z with
    | true => rok .bad g
    | false => rok (.sl s b (o + l.toNat * sz) (h.toNat - l.toNat) (.un (k + l.toNat))) g
noncomputable def cutArr (T : Tab) (k : TK) (b o : Nat) (lo hi : Option AV) (g : G) : R AV := match k with
  | .array n e => ti T e fun ei => optInt 0 lo fun s1 l => optInt n hi fun s2 h => cutSl (s1 || s2) ei.size b o n (.kn n) l h g
  | _ => none
noncomputable def oSlice (T : Tab) (t : Nat) (x : AV) (lo hi : Option AV) (g : G) : R AV := match x with
  | .str s b => isK T t 7 <| optInt 0 lo fun s1 l => optInt b.length hi fun s2 h => chk (s || s1 || s2) (okCut l h b.length) g fun g => rok (.str (s || s1 || s2) ((b.drop l.toNat).take (h.toNat - l.toNat))) g
  | .nils => ti T t fun i => i.elem fun e => ti T e fun _ => optInt 0 lo fun _ l => optInt 0 hi fun _ h => guardB (ieq l 0 && ieq h 0) (rok .nils g)
  | .sl s b o n c => ti T t fun i => i.elem fun e => ti T e fun ei => optInt 0 lo fun s1 l => optInt n hi fun s2 h => cutSl (s || s1 || s2) ei.size b o n c l h g
  | .ptr b o => ti T t fun i => cutArr T i.k b o lo hi g
  | _ => none
noncomputable def room (s : Bool) (n bytes : Nat) (g : G) (k : G → R AV) : R AV := chk s ((n * bytes).ble 140737488355328 && n.ble 140737488355328) g k
noncomputable def zeroInt (k : IntKind) (z : List AV) : Bool := match z with | [.int false k' n] => kindEq k k' && ieq n 0 | _ => false
noncomputable def mkNums (e : Nat) (k : TK) (z : List AV) (n c : Nat) (g : G) : R AV := match k with
  | .int k => guardB (zeroInt k z) (alloc g (.nums e k (List.replicate c 0) false) fun b g => rok (.sl true b 0 n (.kn c)) g)
  | _ => none
noncomputable def mkSl (e : Nat) (ei : TI) (s : Bool) (n c : Nat) (g : G) : R AV := match s with
  | false => alloc g (.cells e (reps ei.zero c) false) fun b g => rok (.sl false b 0 n (.kn c)) g
  | true => mkNums e ei.k ei.zero n c g
noncomputable def oMakeSlice (T : Tab) (t : Nat) (n c : AV) (g : G) : R AV := intOf n fun s _ n => intOf c fun s' _ c => chk (s || s') (!(ilt n 0) && !(ilt c n)) g fun g => ti T t fun i => i.elem fun e => ti T e fun ei =>
  room (s || s') c.toNat ei.bytes g fun g => mkSl e ei (s || s') n.toNat c.toNat g
noncomputable def oMakeMap (r : Option AV) (g : G) : R AV := optInt 0 r fun _ _ => alloc g (.map []) fun b g => rok (.mp b) g
inductive Tri where | yes | no | stuck
noncomputable def triB : Bool → Tri | true => .yes | false => .no
noncomputable def keyFit (t : TK) (v : AV) : Bool := match v with
  | .int false k _ => (match t with | .int k' => kindEq k k' | _ => false)
  | .str false _ => t.tag.beq 7
  | .bool false _ => t.tag.beq 1
  | _ => false
noncomputable def keyEq (a b : AV) : Tri := match a with
  | .int false k a => (match b with | .int false k' b => (match kindEq k k' with | true => triB (ieq a b) | false => .stuck) | _ => .stuck)
  | .str false a => (match b with | .str false b => triB (sEq a b) | _ => .stuck)
  | .bool false a => (match b with | .bool false b => triB (a == b) | _ => .stuck)
  | _ => .stuck
inductive Found where | here (v : AV) | no | stuck
noncomputable def findOne (k : AV) (p : AV × AV) (ih : Found) : Found := match keyEq k p.1 with | .yes => .here p.2 | .no => ih | .stuck => .stuck
noncomputable def findE (k : AV) (l : List (AV × AV)) : Found := List.rec (motive := fun _ => Found) .no (fun p _ ih => findOne k p ih) l
noncomputable def putOne (k v : AV) (p : AV × AV) (r : List (AV × AV)) (ih : Option (List (AV × AV))) : Option (List (AV × AV)) := match keyEq k p.1 with
  | .yes => some ((p.1, v) :: r)
  | .no => (match ih with | some l => some (p :: l) | none => none)
  | .stuck => none
noncomputable def putE (k v : AV) (l : List (AV × AV)) : Option (List (AV × AV)) := List.rec (motive := fun _ => Option (List (AV × AV))) (some [(k, v)]) (fun p r ih => putOne k v p r ih) l
noncomputable def entries (m : AV) (g : G) (f : List (AV × AV) → R AV) : R AV := match m with
  | .nilm => f []
  | .mp b => obj g b fun o => o.mapD f
  | _ => none
noncomputable def zeroOf (i : TI) : AV := match i.k.isAgg with | true => .agg i.zero | false => i.zero.headD .bad
noncomputable def foundV (ok : Bool) (z : AV) (f : Found) (g : G) : R AV := match f with
  | .here v => rok (bif ok then .tup [v, .bool false true] else v) g
  | .no => rok (bif ok then .tup [z, .bool false false] else z) g
  | .stuck => none
noncomputable def oLookup (T : Tab) (t : Nat) (m k : AV) (ok : Bool) (g : G) : R AV := ti T t fun i => match i.k with
  | .map kt e => ti T kt fun ki => guardB (keyFit ki.k k) (ti T e fun ei => entries m g fun es => foundV ok (zeroOf ei) (findE k es) g)
  | _ => none
noncomputable def mapPut (m k v : AV) (g : G) : R Unit := match m with
  | .mp b => obj g b fun o => o.mapD fun es => obind (putE k v es) fun es => rok () (g.set b (some (.map es)))
  | _ => none
noncomputable def oMapUpdate (T : Tab) (t : Nat) (m k v : AV) (g : G) : R Unit := ti T t fun i => match i.k with
  | .map kt _ => ti T kt fun ki => guardB (keyFit ki.k k) (mapPut m k v g)
  | _ => none
noncomputable def oAssert (T : Tab) (x : AV) (a : Nat) (ok : Bool) (g : G) : R AV := match x with
  | .ifc t v => ti T a fun ai => guardB (!(ai.k.tag.beq 4)) <| bif t.beq a then rok (bif ok then .tup [v, .bool false true] else v) g else none
  | _ => none
noncomputable def oExtract (t : AV) (i : Nat) (g : G) : R AV := match t with | .tup vs => at_ vs i g | _ => none
noncomputable def oPick (c a b : AV) (g : G) : R AV := boolOf c fun s t => test s t g fun t g => rok (bif t then a else b) g
/-- what is appended or copied: cells -/
noncomputable def srcO (sz o n : Nat) (f : List AV → Nat → R AV) (ob : AObj) : R AV := match ob with
  | .cells _ cs _ => guardB ((o + n * sz).ble cs.length) (f (seg cs o (n * sz)) n)
  | _ => none
noncomputable def srcOf (sz : Nat) (x : AV) (g : G) (f : List AV → Nat → R AV) : R AV := match x with
  | .nils => f [] 0
  | .str false b => guardB (sz.beq 1) (f (strBytes b) b.length)
  | .sl false b o n _ => obj g b (srcO sz o n f)
  | _ => none
/-- .. numbers -/
noncomputable def intCons (k : IntKind) (v : AV) (ih : Option (List Int)) : Option (List Int) := match v with | .int _ k' n => (match ih with | some l => bif kindEq k k' then some (n :: l) else none | none => none) | _ => none
noncomputable def intsOf (k : IntKind) (l : List AV) : Option (List Int) := List.rec (motive := fun _ => Option (List Int)) (some []) (fun v _ ih => intCons k v ih) l
noncomputable def nsrcO (k : IntKind) (o n : Nat) (g : G) (f : List Int → Nat → G → R AV) (ob : AObj) : R AV := match ob with
  | .cells _ cs _ => guardB ((o + n).ble cs.length) (obind (intsOf k (seg cs o n)) fun l => f l n g)
  | .nums _ k' xs _ => guardB (kindEq k k') (chk true ((o + n).ble xs.length) g fun g => f ((xs.drop o).take n) n g)
  | _ => none
noncomputable def nsrcOf (k : IntKind) (x : AV) (g : G) (f : List Int → Nat → G → R AV) : R AV := match x with
  | .nils => f [] 0 g
  | .str _ b => guardB (kindEq k .u8) (f (natInts b) b.length g)
  | .sl _ b o n _ => obj g b (nsrcO k o n g f)
  | _ => none
noncomputable def appNew (e : Nat) (cs : List AV) (n bytes : Nat) (g : G) : R AV := room false n bytes g fun g => alloc g (.cells e cs true) fun b g => rok (.sl false b 0 n (.un 0)) g
noncomputable def appKn (e sz bytes b o len c : Nat) (e' : Nat) (cs : List AV) (gr : Bool) (new : List AV) (n : Nat) (g : G) : R AV :=
  guardB (new.all oneCell) (bif (len + n).ble c then guardB ((o + len * sz + new.length).ble cs.length) (rok (.sl false b o (len + n) (.kn c)) (g.set b (some (.cells e' (putSeg cs (o + len * sz) new) gr))))
  else guardB ((o + len * sz).ble cs.length) (appNew e (seg cs o (len * sz) ++ new) (len + n) bytes g))
noncomputable def appUn (e sz bytes b o len k e' : Nat) (cs : List AV) (gr : Bool) (new : List AV) (n : Nat) (g : G) : R AV :=
  guardB (new.all oneCell && (gr && o.beq 0 && k.beq 0 && cs.length.beq (len * sz) && e.beq e')) (appNew e (cs ++ new) (len + n) bytes (g.set b none))
noncomputable def nappNew (e : Nat) (k : IntKind) (xs : List Int) (n bytes : Nat) (g : G) : R AV := room true n bytes g fun g => alloc g (.nums e k xs true) fun b g => rok (.sl true b 0 n (.un 0)) g
noncomputable def nappUn (e e' : Nat) (k : IntKind) (bytes b o len kk : Nat) (xs : List Int) (gr : Bool) (new : List Int) (n : Nat) (g : G) : R AV :=
  guardB (gr && o.beq 0 && kk.beq 0 && e.beq e') (chk true (xs.length.beq len) g fun g => nappNew e k (xs ++ new) (len + n) bytes (g.set b none))
noncomputable def appC (e sz bytes b o len : Nat) (cap : Cap) (x : AV) (g : G) (e' : Nat) (cs : List AV) (gr : Bool) : R AV := srcOf sz x g fun new n => match cap with
  | .kn c => appKn e sz bytes b o len c e' cs gr new n g
  | .un k => bif n.beq 0 then rok (.sl false b o len cap) g else appUn e sz bytes b o len k e' cs gr new n g
/-- onto a row of numbers: it grows by something, its room is not known -/
noncomputable def appN (e e' bytes b o len : Nat) (cap : Cap) (x : AV) (g : G) (k : IntKind) (xs : List Int) (gr : Bool) : R AV := nsrcOf k x g fun new n g => match cap with
  | .kn _ => none
  | .un kk => test true (n.beq 0) g fun z g => match z with
    | true => rok (.sl true b o len cap) g
    | false => nappUn e e' k bytes b o len kk xs gr new n g
noncomputable def appG (e sz bytes b o len : Nat) (cap : Cap) (e' sz' n : Nat) (f : Nat → List AV) (new : List AV) (k : Nat) (g : G) : R AV := match cap with
  | .kn _ => none
  | .un kk => guardB (new.all oneCell && (k.beq 1 && (new.length.beq sz && (sz.beq sz' && (e.beq e' && (o.beq 0 && kk.beq 0)))))) (chk true (n.beq len) g fun g => room true (len + 1) bytes (g.set b none) fun g => alloc g (.grows e sz (n + 1) (fun i => bif i.blt n then f i else new)) fun b g => rok (.sl true b 0 (len + 1) (.un 0)) g)
noncomputable def appO (e sz bytes b o len : Nat) (cap : Cap) (x : AV) (s : Bool) (g : G) (ob : AObj) : R AV := match ob with
  | .cells e' cs gr => guardB (!s) (appC e sz bytes b o len cap x g e' cs gr)
  | .nums e' k xs gr => guardB (sz.beq 1) (appN e e' bytes b o len cap x g k xs gr)
  | .grows e' sz' n f => srcOf sz x g fun new k => appG e sz bytes b o len cap e' sz' n f new k g
  | _ => none
noncomputable def appNil (e sz bytes : Nat) (k : TK) (x : AV) (g : G) : R AV := match x with
  | .str true b => (match k with
    | .int k => guardB (kindEq k .u8) (test true (b.length.beq 0) g fun z g => match z with | true => rok .nils g | false => nappNew e k (natInts b) b.length bytes g)
    | _ => none)
  | x => srcOf sz x g fun new n => bif n.beq 0 then rok .nils g else appNew e new n bytes g
noncomputable def appTo (e sz bytes : Nat) (k : TK) (s x : AV) (g : G) : R AV := match s with
  | .nils => appNil e sz bytes k x g
  | .sl f b o len cap => obj g b (appO e sz bytes b o len cap x f g)
  | _ => none
noncomputable def srcTy (T : Tab) (ts : List TypeId) (f : TypeId → R AV) : R AV := match ts with
  | t :: u :: _ => ti T u fun i => guardB (i.k.tag.beq 3 || i.k.tag.beq 7) (f t)
  | _ => none
noncomputable def oAppend (T : Tab) (ts : List TypeId) (s x : AV) (g : G) : R AV := srcTy T ts fun t => ti T t fun i => i.elem fun e => ti T e fun ei => appTo e ei.size ei.bytes ei.k s x g
noncomputable def ty1 (ts : List TypeId) (f : TypeId → R AV) : R AV := match ts with | t :: _ => f t | [] => none
noncomputable def copyC (b o m sz : Nat) (e : Nat) (cs : List AV) (gr : Bool) (new : List AV) (n : Nat) (g : G) : R AV := guardB (new.all oneCell && (o + min n m * sz).ble cs.length) (rok (.int false .i64 ((min n m : Nat) : Int)) (g.set b (some (.cells e (putSeg cs o (new.take (min n m * sz))) gr))))
/-- so many of new in the place of those from o on -/
noncomputable def putN (xs : List Int) (o k : Nat) (new : List Int) : List Int := xs.take o ++ (new.take k ++ xs.drop (o + k))
noncomputable def copyN (b o m : Nat) (e : Nat) (k : IntKind) (xs : List Int) (gr : Bool) (new : List Int) (n : Nat) (g : G) : R AV := chk true ((o + min n m).ble xs.length) g fun g => rok (.int true .i64 ((min n m : Nat) : Int)) (g.set b (some (.nums e k (putN xs o (min n m) new) gr)))
noncomputable def copyO (b o m sz : Nat) (s : Bool) (x : AV) (g : G) (ob : AObj) : R AV := match ob with
  | .cells e cs gr => guardB (!s) (srcOf sz x g fun new n => copyC b o m sz e cs gr new n g)
  | .nums e k xs gr => guardB (sz.beq 1) (nsrcOf k x g fun new n g => copyN b o m e k xs gr new n g)
  | _ => none
noncomputable def copyTo (sz : Nat) (d x : AV) (g : G) : R AV := match d with
  | .nils => srcOf sz x g fun _ _ => rok (.int false .i64 0) g
  | .sl s b o m _ => obj g b (copyO b o m sz s x g)
  | _ => none
noncomputable def oCopy (T : Tab) (ts : List TypeId) (d x : AV) (g : G) : R AV := ty1 ts fun t => ti T t fun i => i.elem fun e => ti T e fun ei => copyTo ei.size d x g
noncomputable def oLen (T : Tab) (t : Nat) (x : AV) (g : G) : R AV := match x with
  | .str s b => isK T t 7 (rok (.int s .i64 b.length) g)
  | .nils => isK T t 3 (rok (.int false .i64 0) g)
  | .sl s _ _ n _ => isK T t 3 (rok (.int s .i64 n) g)
  | .osl b n => isK T t 3 (rok (.int (!(b.blt 1100)) .i64 n) g)
  | .nilm => isK T t 5 (rok (.int false .i64 0) g)
  | .mp b => isK T t 5 (obj g b fun o => o.mapD fun es => rok (.int false .i64 es.length) g)
  | _ => none
noncomputable def oMin (x y : AV) (g : G) : R AV := intOf x fun s k a => intOf y fun s' _ b => rok (.int (s || s') k (bif ilt b a then b else a)) g
noncomputable def oMax (x y : AV) (g : G) : R AV := intOf x fun s k a => intOf y fun s' _ b => rok (.int (s || s') k (bif ilt a b then b else a)) g
noncomputable def ev1 (env : Tr AV) (as : List Operand) (f : AV → R AV) : R AV := match as with | [x] => f (ev env x) | _ => none
noncomputable def ev2 (env : Tr AV) (as : List Operand) (f : AV → AV → R AV) : R AV := match as with | [x, y] => f (ev env x) (ev env y) | _ => none
noncomputable def oBuiltin (T : Tab) (env : Tr AV) (b : Builtin) (as : List Operand) (ts : List TypeId) (g : G) : R AV := match b with
  | .len => ty1 ts fun t => ev1 env as fun x => oLen T t x g
  | .min => ev2 env as fun x y => oMin x y g
  | .max => ev2 env as fun x y => oMax x y g
  | .append => ev2 env as fun x y => oAppend T ts x y g
  | .copy => ev2 env as fun x y => oCopy T ts x y g
  | _ => none
abbrev CallT := PM → FuncId → List AV → G → Option (CR × PM × G)
/-- what an operation does: a value, nothing, a panic; the state's other parts -/
abbrev O := Option (Option AV × St)
noncomputable def setD (d : Option Nat) (v : AV) (st : St) (g : G) : St := St.mk (Option.rec (motive := fun _ => Tr AV) st.env (fun d => st.env.put d (some v)) d) g st.df st.pm st.sn
noncomputable def oV (d : Option Nat) (st : St) (r : R AV) : O := Option.rec (motive := fun _ => O) none (fun p => some (none, setD d p.1 st p.2)) r
noncomputable def oU (d : Option Nat) (st : St) (r : R Unit) : O := Option.rec (motive := fun _ => O) none (fun p => some (none, setD d .und st p.2)) r
noncomputable def oCallR (d : Option Nat) (st : St) (r : Option (CR × PM × G)) : O := match r with
  | some (.ret v, _, g) => some (none, setD d v st g)
  | some (.pan v, _, g) => some (some v, { st with g := g })
  | none => none
noncomputable def oCallV (call : CallT) (d : Option Nat) (f : AV) (as : List AV) (st : St) : O := match f with
  | .fn (.func f) first cap => oCallR d st (call .no f (first ++ (as ++ cap)) st.g)
  | _ => none
noncomputable def oRecover (d : Option Nat) (st : St) : O := match st.pm with
  | .pan v false => some (none, { setD d v st st.g with pm := .pan v true })
  | .pan _ true => some (none, setD d .nili st st.g)
  | .ret => some (none, setD d .nili st st.g)
  | .no => none
noncomputable def isRecover : Builtin → Bool | .recover => true | _ => false
abbrev X := Option (Ex × St)
noncomputable def oCall (c : Call) : Tab → CallT → Option Nat → St → O := match c.callee with
  | .value f => fun _ call d st => oCallV call d (ev st.env f) (c.args.toList.map (ev st.env)) st
  | .builtin b => (match isRecover b with
    | true => fun _ _ d st => oRecover d st
    | false => fun T _ d st => oV d st (oBuiltin T st.env b c.args.toList c.argTypes.toList st.g))
  | _ => fun _ _ _ _ => none
noncomputable def deferOp (d : Option Nat) (f : AV) (as : List AV) (st : St) : O := match f with
  | .fn _ _ _ => some (none, { setD d .und st st.g with df := (f, as) :: st.df })
  | _ => none
noncomputable def oDefer (c : Call) : Tab → CallT → Option Nat → St → O := match c.callee with
  | .value f => fun _ _ d st => deferOp d (ev st.env f) (c.args.toList.map (ev st.env)) st
  | _ => fun _ _ _ _ => none
/-- what runs an operation: staged, so that the kernel reads each operation's text once -/
abbrev OpF := Tab → CallT → Option Nat → St → O
abbrev StF := Tab → CallT → St → O
abbrev XF := Tab → CallT → Nat → St → X
noncomputable def fV (f : Tab → St → R AV) : OpF := fun T _ d st => oV d st (f T st)
noncomputable def fU (f : Tab → St → R Unit) : OpF := fun T _ d st => oU d st (f T st)
noncomputable def panicOp (v : AV) (st : St) : O := match v with | .ifc _ _ => some (some v, st) | _ => none
noncomputable def opRun (op : Op) : OpF := match op with
  | .move x => fV fun _ st => rok (ev st.env x) st.g
  | .assign x => fV fun _ st => rok (ev st.env x) st.g
  | .pick c a b => fV fun _ st => oPick (ev st.env c) (ev st.env a) (ev st.env b) st.g
  | .alloc t => fV fun T st => oAlloc T t st.g
  | .box t x => fV fun _ st => oBox t (ev st.env x) st.g
  | .build t ps => fV fun T st => oBuild T t (parts st.env ps) st.g
  | .buildSlice t n ps => fV fun T st => oBuildSlice T t n (parts st.env ps) st.g
  | .load t x => fV fun T st => oLoad T t (ev st.env x) st.g
  | .nilCheck x => fV fun _ st => oNil (ev st.env x) st.g
  | .binOp op t x y _ => fV fun T st => bin T op t (isConst x || isConst y) (ev st.env x) (ev st.env y) st.g
  | .unOp op _ x => fV fun _ st => un op (ev st.env x) st.g
  | .convert s t x => fV fun T st => oConv T s t (ev st.env x) st.g
  | .fieldAddr t x f => fV fun T st => oFieldAddr T t (ev st.env x) f st.g
  | .field t x f => fV fun T st => oField T t (ev st.env x) f st.g
  | .indexAddr t x i => fV fun T st => oIndexAddr T t (ev st.env x) (ev st.env i) st.g
  | .index t x i => fV fun T st => oIndex T t (ev st.env x) (ev st.env i) st.g
  | .slice t x lo hi none => fV fun T st => oSlice T t (ev st.env x) (lo.map (ev st.env)) (hi.map (ev st.env)) st.g
  | .makeInterface t x => fV fun T st => ti T t fun i => guardB (!(i.k.tag.beq 4)) (rok (.ifc t (ev st.env x)) st.g)
  | .makeFunc f a b => fV fun _ st => rok (.fn f (a.toList.map (ev st.env)) (b.toList.map (ev st.env))) st.g
  | .makeMap t r => fV fun T st => isK T t 5 (oMakeMap (r.map (ev st.env)) st.g)
  | .makeSlice t n c => fV fun T st => oMakeSlice T t (ev st.env n) (ev st.env c) st.g
  | .lookup t m k ok => fV fun T st => oLookup T t (ev st.env m) (ev st.env k) ok st.g
  | .typeAssert x _ a ok => fV fun T st => oAssert T (ev st.env x) a ok st.g
  | .extract t i => fV fun _ st => oExtract (ev st.env t) i st.g
  | .store t p x => fU fun T st => oStore T t (ev st.env p) (ev st.env x) st.g
  | .mapUpdate t m k x => fU fun T st => oMapUpdate T t (ev st.env m) (ev st.env k) (ev st.env x) st.g
  | .insert t m k x => fU fun T st => oMapUpdate T t (ev st.env m) (ev st.env k) (ev st.env x) st.g
  | .panic x => fun _ _ _ st => panicOp (ev st.env x) st
  | .call c => oCall c
  | .defer c => oDefer c
  | _ => fun _ _ _ _ => none
noncomputable def onRes (ih : St → O) (r : O) : O := Option.rec (motive := fun _ => O) none (fun p => Option.rec (motive := fun _ => O) (ih p.2) (fun v => some (some v, p.2)) p.1) r
noncomputable def skipOp (d : Option Nat) (ih : St → O) (st : St) : O := ih (setD d .und st st.g)
noncomputable def guardRun (f : St → O) (d : Option Nat) (want : Bool) (ih : St → O) (st : St) (v : AV) : O := match v with
  | .und => skipOp d ih st
  | .bool s b => test s b st.g fun b g => match b == want with
    | true => onRes ih (f { st with g := g })
    | false => skipOp d ih { st with g := g }
  | _ => none
noncomputable def dstOf (ops : List Oper) (j : Nat) : Option Nat := match ops[j]? with | some o => o.dst | none => none
noncomputable def opPlain (f : OpF) (d : Option Nat) (ih : StF) : StF := fun T call st => onRes (ih T call) (f T call d st)
noncomputable def opGuarded (f : OpF) (d : Option Nat) (want : Bool) (g : Option Nat) (ih : StF) : StF := match g with
  | some gd => fun T call st => guardRun (f T call d) d want (ih T call) st (evT st.env gd)
  | none => fun _ _ _ => none
noncomputable def opOne (ops : List Oper) (o : Oper) (ih : StF) : StF := match o.guard with
  | none => opPlain (opRun o.op) o.dst ih
  | some (j, want) => opGuarded (opRun o.op) o.dst want (dstOf ops j) ih
noncomputable def opsRun (ops : List Oper) (l : List Oper) : StF := List.rec (motive := fun _ => StF) (fun _ _ st => some (none, st)) (fun o _ ih => opOne ops o ih) l
noncomputable def seqEnd (k : St → X) (r : X) : X := Option.rec (motive := fun _ => X) none (fun p => Ex.rec (motive := fun _ => X) (k p.2) (fun id => some (.exit id, p.2)) (some (.ret, p.2)) (fun v => some (.pan v, p.2)) p.1) r
noncomputable def iterOne (f : St → X) (ih : St → X) (st : St) : X := seqEnd ih (f st)
noncomputable def iter (f : St → X) (n : Nat) : St → X := Nat.rec (motive := fun _ => St → X) (fun _ => none) (fun _ ih => iterOne f ih) n
noncomputable def regEnd (r : O) : X := Option.rec (motive := fun _ => X) none (fun p => Option.rec (motive := fun _ => X) (some (.normal, p.2)) (fun v => some (.pan v, p.2)) p.1) r
noncomputable def eRegion (f : StF) : XF := fun T call _ st => regEnd (f T call st)
/-! ### a statement whose order is open -/
inductive Cls where | pure | read | soft | hard
noncomputable def clsConv (s d : Option TI) : Cls := match d with
  | some di => (match di.k with
    | .int _ => .pure
    | .string => .read
    | .slice _ => .hard
    | _ => .hard)
  | none => .hard
noncomputable def clsLen (t : Option TI) : Cls := .read
noncomputable def clsBuiltin (T : Tab) (b : Builtin) (ts : List TypeId) : Cls := match b with
  | .len => clsLen (T.ti.get (ts.headD 0))
  | .min => .pure
  | .max => .pure
  | _ => .hard
noncomputable def clsCall (T : Tab) (c : Call) : Cls := match c.callee with
  | .builtin b => clsBuiltin T b c.argTypes.toList
  | _ => .hard
noncomputable def cls (T : Tab) (op : Op) : Cls := match op with
  | .move _ => .pure
  | .assign _ => .pure
  | .pick _ _ _ => .pure
  | .build _ _ => .pure
  | .nilCheck _ => .pure
  | .binOp _ _ _ _ _ => .pure
  | .unOp _ _ _ => .pure
  | .fieldAddr _ _ _ => .pure
  | .field _ _ _ => .pure
  | .indexAddr _ _ _ => .pure
  | .index _ _ _ => .pure
  | .slice _ _ _ _ _ => .pure
  | .makeInterface _ _ => .pure
  | .makeFunc _ _ _ => .pure
  | .typeAssert _ _ _ _ => .pure
  | .extract _ _ => .pure
  | .convert s d _ => clsConv (T.ti.get s) (T.ti.get d)
  | .load _ _ => .read
  | .lookup _ _ _ _ => .read
  | .alloc _ => .soft
  | .box _ _ => .soft
  | .buildSlice _ _ _ => .soft
  | .makeMap _ _ => .soft
  | .makeSlice _ _ _ => .hard
  | .call c => clsCall T c
  | _ => .hard
noncomputable def Cls.isHard : Cls → Bool | .hard => true | _ => false
noncomputable def Cls.isSoft : Cls → Bool | .soft => true | _ => false
noncomputable def Cls.isRead : Cls → Bool | .read => true | _ => false
noncomputable def isStore : Op → Bool | .store _ _ _ => true | _ => false
noncomputable def bitAt (m k : Nat) : Bool := (Nat.mod (Nat.div m (Nat.pow 2 k)) 2).beq 1
noncomputable def ancOf (acc : List Nat) (es : List Edge) : Nat := es.foldl (fun s e => bif Region.binds .any e then Nat.lor (Nat.lor s (Nat.pow 2 e.on)) (acc.getD e.on 0) else s) 0
/-- which operations stand ahead of each -/
noncomputable def ancs (ops : List Oper) : List Nat := ops.foldl (fun acc o => acc ++ [ancOf acc o.after.toList]) []
noncomputable def ups (n : Nat) : List Nat := List.range n
noncomputable def tmpsOf (ops : List Oper) (o : Oper) : List Nat := (o.op.operands.toList.filterMap fun x => match x with | .tmp t => some t | _ => none) ++ (match o.guard with | some (j, _) => (match dstOf ops j with | some d => [d] | none => []) | none => [])
noncomputable def dstIs (o : Oper) (t : Nat) : Bool := match o.dst with | some d => d.beq t | none => false
noncomputable def comparable (m : List Nat) (i j : Nat) : Bool := bif i.blt j then bitAt (m.getD j 0) i else bif j.blt i then bitAt (m.getD i 0) j else true
noncomputable def sameDst (a b : Oper) : Bool := match a.dst with | some d => dstIs b d | none => false
noncomputable def idx (ops : List Oper) : List (Nat × Oper) := (ups ops.length).zip ops
/-- an operation whose variables may be written behind it -/
noncomputable def isLate (T : Tab) (op : Op) : Bool := !((cls T op).isRead) && !(isStore op)
noncomputable def okTmps (T : Tab) (m : List Nat) (ops : List Oper) : Bool := (idx ops).all fun p => (p.2.after.toList.all fun e => !(Region.binds .any e) || e.on.blt p.1) &&
  (idx ops).all fun q => (!(p.1.blt q.1) || !(sameDst p.2 q.2)) && ((tmpsOf ops p.2).all fun t => !(dstIs q.2 t) || (bitAt (m.getD p.1 0) q.1 || (isLate T p.2.op && bitAt (m.getD q.1 0) p.1)))
noncomputable def chainOk (m : List Nat) : List Nat → Bool
  | [] => true
  | i :: r => r.all (fun j => i.blt j && bitAt (m.getD j 0) i) && chainOk m r
/-- may the operation r be carried out where just the first p effects have been? -/
noncomputable def admits (m : List Nat) (hi : List Nat) (r p : Nat) : Bool := ((hi.drop p).all fun c => !(bitAt (m.getD r 0) c)) && ((hi.take p).all fun c => !(bitAt (m.getD c 0) r))
noncomputable def before (hi : List Nat) (r : Nat) : Nat := (hi.filter fun c => c.blt r).length
/-- is there new memory between the last effect and r? -/
noncomputable def near (hi soft : List Nat) (r : Nat) : Bool := soft.any fun a => a.blt r && (before hi a).beq (before hi r)
noncomputable def winsOf (m hi soft : List Nat) (r : Nat) : List (Nat × Nat) := ((ups (hi.length + 1)).filter fun p => admits m hi r p && (!(p.beq (before hi r)) || near hi soft r)).map fun p => (r, p)
/-- .. where the last effect has been, the one ahead of it not -/
noncomputable def winsX (m hi : List Nat) (tw : Option (Nat × Nat)) (r : Nat) : List (Nat × Nat) := match tw with
  | some (x, y) => bif !(bitAt (m.getD r 0) x) && !(bitAt (m.getD y 0) r) then [(r, hi.length + 1)] else []
  | none => []
structure DI where
  ok : Bool
  flags : List (Bool × Bool)
  wins : List (Nat × Nat)
  twin : Option (Nat × Nat)
noncomputable def whoIs (f : Cls → Bool) (T : Tab) (ops : List Oper) : List Nat := ((idx ops).filter fun p => f (cls T p.2.op)).map (·.1)
/-- new memory is made ahead of all effects that stand behind it -/
noncomputable def softOk (m hi soft : List Nat) : Bool := soft.all fun a => hi.all fun c => c.blt a || bitAt (m.getD c 0) a
noncomputable def storeAt (ops : List Oper) (x : Nat) : Bool := match ops[x]? with
  | some o => (match o.guard with | none => (match o.dst with | none => isStore o.op | some _ => false) | some _ => false)
  | none => false
noncomputable def twinOk (m hi soft : List Nat) (ops : List Oper) (p : List Nat) (x y : Nat) : Bool := storeAt ops x && storeAt ops y && chainOk m (p ++ [x]) && chainOk m (p ++ [y]) && soft.all fun a => p.any fun c => a.blt c
/-- the last two effects are stores that stand in no order -/
noncomputable def twinOf (m hi soft : List Nat) (ops : List Oper) : Option (Nat × Nat) := match hi.drop (hi.length - 2) with
  | [x, y] => bif twinOk m hi soft ops (hi.take (hi.length - 2)) x y then some (x, y) else none
  | _ => none
noncomputable def twinFor (pl : Bool) (t : Option (Nat × Nat)) : Option (Nat × Nat) := bif pl then none else t
noncomputable def isSm (t : Option (Nat × Nat)) : Bool := match t with | some _ => true | none => false
noncomputable def drawWith (T : Tab) (ops : List Oper) (m hi soft : List Nat) (pl : Bool) (tw : Option (Nat × Nat)) : DI :=
  { ok := okTmps T m ops && ((pl || isSm tw) && softOk m hi soft),
    flags := (ups ops.length).map fun i => (hi.contains i, (ups ops.length).all fun k => !(i.blt k) || bitAt (m.getD k 0) i),
    wins := (whoIs Cls.isRead T ops).flatMap fun r => winsOf m hi soft r ++ winsX m hi tw r,
    twin := tw }
noncomputable def drawAt (T : Tab) (ops : List Oper) (m hi soft : List Nat) : DI := drawWith T ops m hi soft (chainOk m hi) (twinFor (chainOk m hi) (twinOf m hi soft ops))
noncomputable def drawInfo (T : Tab) (ops : List Oper) : DI := drawAt T ops (ancs ops) (whoIs Cls.isHard T ops) (whoIs Cls.isSoft T ops)
noncomputable def sameL (f : AV → AV → G → R Unit) : List AV → List AV → G → R Unit
  | [], [], g => rok () g
  | x :: a, y :: b, g => (match f x y g with | some (_, g) => sameL f a b g | none => none)
  | _, _, _ => none
noncomputable def sameCap : Cap → Cap → Bool | .kn a, .kn b => a.beq b | .un a, .un b => a.beq b | _, _ => false
noncomputable def boolEq (a b : Bool) : Bool := match a with | true => b | false => !b
/-- two values are the same: seen, or (numbers that are not known) told -/
noncomputable def sameC (v v' : AV) (g : G) : R Unit := match v, v' with
  | .int s k n, .int s' k' n' => guardB (kindEq k k') (chk (s || s') (ieq n n') g fun g => rok () g)
  | .bool s b, .bool s' b' => chk (s || s') (boolEq b b') g fun g => rok () g
  | .str s b, .str s' b' => chk (s || s') (sEq b b') g fun g => rok () g
  | .nilp, .nilp => rok () g
  | .ptr b o, .ptr b' o' => guardB (b.beq b' && o.beq o') (rok () g)
  | .nils, .nils => rok () g
  | .sl s b o n c, .sl s' b' o' n' c' => guardB (b.beq b') (chk (s || s') (o.beq o' && n.beq n' && sameCap c c') g fun g => rok () g)
  | .nilm, .nilm => rok () g
  | .mp b, .mp b' => guardB (b.beq b') (rok () g)
  | .nili, .nili => rok () g
  | .nilf, .nilf => rok () g
  | _, _ => none
noncomputable def sameV (v v' : AV) (g : G) : R Unit := match v, v' with
  | .agg a, .agg b => sameL sameC a b g
  | v, v' => sameC v v' g
/-- a read, once more -/
noncomputable def rdV (T : Tab) (env : Tr AV) (op : Op) (g : G) : R AV := match op with
  | .load t x => oLoad T t (ev env x) g
  | .lookup t m k ok => oLookup T t (ev env m) (ev env k) ok g
  | .convert s t x => oConv T s t (ev env x) g
  | .call c => (match c.callee with | .builtin b => oBuiltin T env b c.args.toList c.argTypes.toList g | _ => none)
  | _ => none
noncomputable def winRead (T : Tab) (env : Tr AV) (op : Op) (d : Nat) (h : Mem) (g : G) : R Unit := match rdV T env op { g with h := h } with
  | some (v, g') => (match sameV v (evT env d) g' with
    | some (_, g'') => some ((), { g'' with h := g.h, nx := g.nx })
    | none => none)
  | none => none
noncomputable def isUnd : AV → Bool | .und => true | _ => false
/-- was it carried out? -/
noncomputable def winWant (T : Tab) (env : Tr AV) (op : Op) (d : Nat) (h : Mem) (want : Bool) (v : AV) (g : G) : R Unit := match v with
  | .und => rok () g
  | .bool s b => (match isUnd (evT env d) with
    | true => chk s (boolEq b (!want)) g fun g => rok () g
    | false => chk s (boolEq b want) g fun g => winRead T env op d h g)
  | _ => none
noncomputable def winGuard (T : Tab) (ops : List Oper) (env : Tr AV) (o : Oper) (d : Nat) (h : Mem) (g : G) : R Unit := match o.guard with
  | none => winRead T env o.op d h g
  | some (j, want) => (match dstOf ops j with
    | some gd => winWant T env o.op d h want (evT env gd) g
    | none => none)
noncomputable def winOne (T : Tab) (ops : List Oper) (env : Tr AV) (hs : List (Mem)) (w : Nat × Nat) (g : G) : R Unit := match ops[w.1]? with
  | some o => (match o.dst, hs[w.2]? with
    | some d, some h => winGuard T ops env o d h g
    | _, _ => none)
  | none => none
noncomputable def winC (r : R Unit) (ih : G → R Unit) : R Unit := match r with | some (_, g) => ih g | none => none
noncomputable def winAll (T : Tab) (ops : List Oper) (env : Tr AV) (hs : List (Mem)) (l : List (Nat × Nat)) : G → R Unit := List.rec (motive := fun _ => G → R Unit) (fun g => rok () g) (fun w _ ih g => winC (winOne T ops env hs w g) ih) l
noncomputable def snapI (h : Bool) (st : St) : St := match h with | true => { st with sn := st.g.h :: st.sn } | false => st
noncomputable def opDraw (h : Bool) (f : St → O) (ih : StF) (T : Tab) (call : CallT) (st : St) : O := onRes (fun st => ih T call (snapI h st)) (f st)
noncomputable def oneOp (ops : List Oper) (o : Oper) : StF := opOne ops o fun _ _ st => some (none, st)
/-- where a panic is told: all that stands behind it waits for it -/
noncomputable def onPan (ok : Bool) (ih : St → O) (r : O) : O := match r with
  | some (none, st) => ih st
  | some (some v, st) => (match ok with | true => some (some v, st) | false => none)
  | none => none
noncomputable def opsDraw (ops : List Oper) (l : List (Oper × Bool × Bool)) : StF := List.rec (motive := fun _ => StF) (fun _ _ st => some (none, st)) (fun p _ ih T call st => onPan p.2.2 (fun st => ih T call (snapI p.2.1 st)) (oneOp ops p.1 T call st)) l
/-- a store, once more, on another memory -/
noncomputable def stAgain (T : Tab) (env : Tr AV) (op : Op) (g : G) : Option (Nat × G) := match op with
  | .store t p x => (match ev env p with
    | .ptr b o => (match oStore T t (.ptr b o) (ev env x) g with | some (_, g) => some (b, g) | none => none)
    | _ => none)
  | _ => none
noncomputable def sameObj (a b : Option AObj) (g : G) : R Unit := match a with
  | some (.cells e cs gr) => (match b with
    | some (.cells e' cs' gr') => guardB (e.beq e' && boolEq gr gr') (sameL sameC cs cs' g)
    | _ => none)
  | _ => none
/-- the two stores in the other order: the memory between them, and that the end is the same -/
noncomputable def twinAt (T : Tab) (env : Tr AV) (x y : Op) (h hEnd : Mem) (g : G) : Option (Mem × G) := match stAgain T env y { g with h := h } with
  | some (b, gx) => (match stAgain T env x gx with
    | some (b', gy) => (match sameObj (gy.h.get b) (hEnd.get b) gy with
      | some (_, g1) => (match sameObj (gy.h.get b') (hEnd.get b') g1 with
        | some (_, g2) => some (gx.h, { g2 with h := g.h, nx := g.nx })
        | none => none)
      | none => none)
    | none => none)
  | none => none
noncomputable def opAt (ops : List Oper) (x : Nat) (k : Op → Option (List (Mem) × G)) : Option (List (Mem) × G) := match ops[x]? with | some o => k o.op | none => none
noncomputable def memAt (hs : List (Mem)) (i : Nat) (k : Mem → Option (List (Mem) × G)) : Option (List (Mem) × G) := match hs[i]? with | some h => k h | none => none
noncomputable def addMem (hs : List (Mem)) (r : Option (Mem × G)) : Option (List (Mem) × G) := match r with | some (h, g) => some (hs ++ [h], g) | none => none
noncomputable def twinRun (T : Tab) (ops : List Oper) (tw : Option (Nat × Nat)) (env : Tr AV) (hs : List (Mem)) (g : G) : Option (List (Mem) × G) := match tw with
  | none => some (hs, g)
  | some (x, y) => opAt ops x fun ox => opAt ops y fun oy => memAt hs (hs.length - 3) fun h => memAt hs (hs.length - 1) fun hEnd => addMem hs (twinAt T env ox oy h hEnd g)
noncomputable def drawFin (T : Tab) (ops : List Oper) (di : DI) (st : St) : X := match twinRun T ops di.twin st.env st.sn.reverse st.g with
  | some (hs, g) => (match winAll T ops st.env hs di.wins g with
    | some (_, g) => some (.normal, { st with g := g, sn := [] })
    | none => none)
  | none => none
noncomputable def drawPan (T : Tab) (ops : List Oper) (di : DI) (env0 : Tr AV) (v : AV) (st : St) : X := match winAll T ops st.env st.sn.reverse (di.wins.filter fun w => w.2.blt st.sn.length) st.g with
  | some (_, g) => some (.pan v, { st with env := env0, g := g, sn := [] })
  | none => none
noncomputable def drawEnd (T : Tab) (ops : List Oper) (di : DI) (env0 : Tr AV) (r : O) : X := match r with
  | some (none, st) => drawFin T ops di st
  | some (some v, st) => drawPan T ops di env0 v st
  | none => none
/-- what is known of the variables where a statement is left midway -/
noncomputable def forget (ops : List Oper) (env : Tr AV) : Tr AV := ops.foldl (fun a o => match o.dst with | some d => a.put d (some .bad) | none => a) env
noncomputable def runDraw (T : Tab) (call : CallT) (ops : List Oper) (di : DI) (st : St) : X := match di.ok with
  | true => drawEnd T ops di (forget ops st.env) (opsDraw ops (ops.zip di.flags) T call { st with sn := [st.g.h] })
  | false => none
noncomputable def eDraw (ops : List Oper) : XF := fun T call _ st => runDraw T call ops (drawInfo T ops) st
noncomputable def eReg (d : Bool) (ops : List Oper) : XF := match d with
  | false => eRegion (opsRun ops ops)
  | true => eDraw ops
noncomputable def eSeq (f k : XF) : XF := fun T call n st => seqEnd (k T call n) (f T call n st)
noncomputable def condB (f k : St → X) (st : St) (s t : Bool) : X := test s t st.g fun t g => Bool.rec (motive := fun _ => X) (k (St.mk st.env g st.df st.pm st.sn)) (f (St.mk st.env g st.df st.pm st.sn)) t
noncomputable def condEnd (f k : St → X) (st : St) (v : AV) : X := AV.casesOn (motive_1 := fun _ => X) v none none (fun s t => condB f k st s t) (fun _ _ _ => none) (fun _ _ => none) none (fun _ _ => none) (fun _ _ _ _ => none) none (fun _ _ _ _ _ => none) none (fun _ => none) none (fun _ _ _ => none) none (fun _ _ => none) (fun _ => none) (fun _ => none) (fun _ _ => none) (fun _ _ _ _ => none) none
noncomputable def eCond (c : Operand) (f k : XF) : XF := fun T call n st => condEnd (f T call n) (k T call n) st (ev st.env c)
noncomputable def blockEnd (id : Nat) (r : X) : X := match r with
  | some (.exit j, st) => bif j.beq id then some (.normal, st) else some (.exit j, st)
  | r => r
noncomputable def eBlock (id : Nat) (f : XF) : XF := fun T call n st => blockEnd id (f T call n st)
noncomputable def eLoop (f : XF) : XF := fun T call n => iter (f T call n) n
noncomputable def eOut (e : Ex) : XF := fun _ _ _ st => some (e, st)
noncomputable def eNo : XF := fun _ _ _ _ => none
noncomputable def exec (c : Code) : XF := Code.rec (motive := fun _ => XF) (eOut .normal) (fun _ ops d => eReg d ops.toList)
    (fun _ _ f k => eSeq f k) (fun c _ _ f k => eCond c f k) (fun id _ f => eBlock id f) (fun _ f => eLoop f) (fun _ _ _ _ _ _ => eNo) (fun id => eOut (.exit id)) (fun _ _ => eNo) (fun _ => eNo) (fun _ => eNo) (eOut .ret) (fun _ => eNo) c
noncomputable def resCell (T : Tab) (t : Nat) (v : AV) (g : G) : R AV := match v with
  | .ptr b o => obj g b fun ob => (match ob with | .cells _ cs _ => loadFrom T t cs o g | _ => none)
  | _ => none
noncomputable def resOne (T : Tab) (env : Tr AV) (g : G) (r : ResultVar) : Option AV := match r with
  | .tmp t => some (evT env t)
  | .cell a t => (match resCell T t (evT env a) g with | some (v, _) => some v | none => none)
noncomputable def resCons (a : Option AV) (b : Option (List AV)) : Option (List AV) := match a with | some v => (match b with | some l => some (v :: l) | none => none) | none => none
noncomputable def results (T : Tab) (env : Tr AV) (g : G) (l : List ResultVar) : Option (List AV) := List.rec (motive := fun _ => Option (List AV)) (some []) (fun r _ ih => resCons (resOne T env g r) ih) l
noncomputable def argsEnv (l : List AV) : Nat → Tr AV → Tr AV := List.rec (motive := fun _ => Nat → Tr AV → Tr AV) (fun _ t => t) (fun v _ ih i t => ih (i + 1) (t.put i (some v))) l
abbrev L := Option (PM × G)
noncomputable def leaveRes (ih : PM → G → L) (r : Option (CR × PM × G)) : L := match r with
  | some (.ret _, .pan _ true, g) => ih .ret g
  | some (.ret _, m, g) => ih m g
  | some (.pan v, _, g) => ih (.pan v false) g
  | none => none
noncomputable def leaveOne (call : CallT) (d : AV × List AV) (ih : PM → G → L) (m : PM) (g : G) : L := match d.1 with
  | .fn (.func f) first cap => leaveRes ih (call m f (first ++ (d.2 ++ cap)) g)
  | _ => none
noncomputable def leave (call : CallT) (l : List (AV × List AV)) : PM → G → L := List.rec (motive := fun _ => PM → G → L) (fun m g => some (m, g)) (fun d _ ih => leaveOne call d ih) l
noncomputable def modeOf : Ex → PM | .pan v => .pan v false | _ => .ret
noncomputable def oneOr (l : List AV) : AV := match l with | [v] => v | l => .tup l
noncomputable def finish (T : Tab) (rs : List ResultVar) (env : Tr AV) (pm : PM) (r : L) : Option (CR × PM × G) := match r with
  | some (.ret, g) => (match results T env g rs with | some l => some (.ret (oneOr l), pm, g) | none => none)
  | some (.pan v false, g) => some (.pan v, pm, g)
  | some (.pan _ true, _) => none
  | some (.no, _) => none
  | none => none
noncomputable def isNo : PM → Bool | .no => true | _ => false
noncomputable def isExit : Ex → Bool | .exit _ => true | _ => false
noncomputable def callEnd (T : Tab) (call : CallT) (rs : List ResultVar) (r : X) : Option (CR × PM × G) := match r with
  | some (e, st) => bif isExit e || (!(isNo st.pm) && !(st.df.isEmpty)) then none else finish T rs st.env st.pm (leave call st.df (modeOf e) st.g)
  | none => none
noncomputable def dstOk (n : Nat) (o : Oper) : Bool := match o.dst with | some d => d.blt n | none => true
noncomputable def opsOk (n : Nat) (l : List Oper) : Bool := l.all (dstOk n)
noncomputable def wf (n : Nat) (c : Code) : Bool := Code.rec (motive := fun _ => Bool) true (fun _ ops _ => opsOk n ops.toList) (fun _ _ a b => a && b) (fun _ _ _ a b => a && b) (fun _ _ a => a) (fun _ a => a) (fun _ _ _ _ _ _ => true) (fun _ => true) (fun _ _ => true) (fun _ => true) (fun _ => true) true (fun _ => true) c
noncomputable def callBody (T : Tab) (call : CallT) (fuel : Nat) (pm : PM) (args : List AV) (g : G) (fn : Func) : Option (CR × PM × G) := match fn.body with
  | some c => (match wf fn.ntmps c && fn.ntmps.blt 16000000 && args.length.ble fn.ntmps with
    | true => callEnd T call fn.results.toList (exec c T call fuel ⟨argsEnv args 0 .e, g, [], pm, []⟩)
    | false => none)
  | none => none
noncomputable def callFn (T : Tab) (call : CallT) (fuel : Nat) (pm : PM) (f : FuncId) (args : List AV) (g : G) : Option (CR × PM × G) := match T.fs f with
  | some fn => callBody T call fuel pm args g fn
  | none => none
noncomputable def callOne (T : Tab) (prim : CallT) (fuel : Nat) (ih : CallT) : CallT := fun pm f args g => match prim pm f args g with
  | some r => some r
  | none => callFn T ih fuel pm f args g
noncomputable def callN (T : Tab) (prim : CallT) (fuel : Nat) (n : Nat) : CallT := Nat.rec (motive := fun _ => CallT) (fun _ _ _ _ => none) (fun _ ih => callOne T prim fuel ih) n
/-- the tables out of a program -/
noncomputable def tkD (d : TypeDesc) : TK := match d with
  | .bool => .bool
  | .int k => .int k
  | .string => .string
  | .pointer e => .pointer e
  | .slice e => .slice e
  | .array n e => .array n e
  | .map k e => .map k e
  | .struct fs => .struct (fs.toList.map fun f => (f.offset, f.type))
  | .interface _ => .iface
  | .func _ _ _ => .func
  | _ => .other
noncomputable def zeroFits (k : TK) (n : Nat) (v : Value) : Bool := v.cells.size.beq n && (match v with | .agg _ => k.isAgg | _ => !k.isAgg)
noncomputable def tiD (i : TypeInfo) (z : Option Value) (d : Option TypeDesc) : Option TI := match z, d with
  | some v, some d => (match zeroFits (tkD d) i.size v with
    | true => some { k := tkD d, size := i.size, bytes := i.bytes, zero := v.cells.toList.map ofCell }
    | false => none)
  | _, _ => none
noncomputable def tiOf (P : Program) (t : TypeId) : Option TI := match P.info? t with
  | some i => tiD i i.zero (P.underlying t)
  | none => none
noncomputable def mkTi (P : Program) (n : Nat) : Tr TI := (List.range n).foldl (fun t i => t.put i (tiOf P i)) .e

end Go.Proofs.YtkclgbccnbiojaaGreatDoor.SX

namespace Go.Proofs.YtkclgbccnbiojaaGreatDoor.SX

/-! ### trees -/
theorem beq_f {a b : Nat} (h : a ≠ b) : Nat.beq a b = false := by
  cases e : Nat.beq a b with
  | false => rfl
  | true => exact absurd (Nat.eq_of_beq_eq_true e) h
theorem beq_t {a b : Nat} (h : a = b) : Nat.beq a b = true := by subst h; exact Nat.beq_refl a
theorem beq_iff {a b : Nat} : Nat.beq a b = true ↔ a = b := ⟨Nat.eq_of_beq_eq_true, beq_t⟩
theorem getF_e {α : Type} (f k : Nat) : getF f k (Tr.e : Tr α) = none := by
  induction f generalizing k with
  | zero => rfl
  | succ f ih =>
    show getStep (getF f) k Tr.e = none
    unfold getStep
    cases k.beq 0 with
    | true => rfl
    | false => cases (Nat.mod k 2).beq 1 with
      | true => exact ih _
      | false => exact ih _
theorem getF_succ {α : Type} (f k : Nat) (t : Tr α) : getF (f + 1) k t = if k = 0 then t.here else if k % 2 = 1 then getF f (k / 2) t.left else getF f (k / 2 - 1) t.right := by
  show getStep (getF f) k t = _
  unfold getStep
  by_cases h : k = 0
  · subst h; rfl
  · have h1 : k.beq 0 = false := beq_f h
    rw [h1, if_neg h]
    by_cases h2 : k % 2 = 1
    · have h3 : (Nat.mod k 2).beq 1 = true := beq_t h2
      rw [h3, if_pos h2]; rfl
    · have h3 : (Nat.mod k 2).beq 1 = false := beq_f h2
      rw [h3, if_neg h2]; rfl
theorem putF_succ {α : Type} (f k : Nat) (x : Option α) (t : Tr α) : putF (f + 1) k x t = if k = 0 then .n t.left x t.right else if k % 2 = 1 then .n (putF f (k / 2) x t.left) t.here t.right else .n t.left t.here (putF f (k / 2 - 1) x t.right) := by
  show putStep (putF f) k x t = _
  unfold putStep
  by_cases h : k = 0
  · subst h; rfl
  · have h1 : k.beq 0 = false := beq_f h
    rw [h1, if_neg h]
    by_cases h2 : k % 2 = 1
    · have h3 : (Nat.mod k 2).beq 1 = true := beq_t h2
      rw [h3, if_pos h2]; rfl
    · have h3 : (Nat.mod k 2).beq 1 = false := beq_f h2
      rw [h3, if_neg h2]; rfl
theorem get_putF {α : Type} (x : Option α) : ∀ (f k j : Nat) (t : Tr α), k + 1 < 2 ^ f → getF f j (putF f k x t) = if j = k then x else getF f j t := by
  intro f
  induction f with
  | zero => intro k j t h; simp at h
  | succ f ih =>
    intro k j t h
    have h2 : 2 ^ (f + 1) = 2 * 2 ^ f := by rw [Nat.pow_succ, Nat.mul_comm]
    rw [getF_succ, putF_succ]
    by_cases hk : k = 0
    · subst hk
      rw [if_pos rfl]
      by_cases hj : j = 0
      · subst hj; simp [Tr.here]
      · rw [if_neg hj, if_neg hj, getF_succ, if_neg hj]; rfl
    · rw [if_neg hk]
      by_cases hk2 : k % 2 = 1
      · rw [if_pos hk2]
        by_cases hj : j = 0
        · subst hj; rw [if_pos rfl, if_neg (by omega), getF_succ, if_pos rfl]; rfl
        · rw [if_neg hj, getF_succ, if_neg hj]
          by_cases hj2 : j % 2 = 1
          · rw [if_pos hj2, if_pos hj2]
            show getF f (j / 2) (putF f (k / 2) x t.left) = _
            rw [ih _ _ _ (by omega)]
            by_cases he : j = k
            · subst he; simp
            · rw [if_neg he, if_neg (by omega)]
          · rw [if_neg hj2, if_neg hj2, if_neg (by intro e; subst e; exact hj2 hk2)]; rfl
      · rw [if_neg hk2]
        by_cases hj : j = 0
        · subst hj; rw [if_pos rfl, if_neg (by omega), getF_succ, if_pos rfl]; rfl
        · rw [if_neg hj, getF_succ, if_neg hj]
          by_cases hj2 : j % 2 = 1
          · rw [if_pos hj2, if_pos hj2, if_neg (by intro e; subst e; exact hk2 hj2)]; rfl
          · rw [if_neg hj2, if_neg hj2]
            show getF f (j / 2 - 1) (putF f (k / 2 - 1) x t.right) = _
            rw [ih _ _ _ (by omega)]
            by_cases he : j = k
            · subst he; simp
            · rw [if_neg he, if_neg (by omega)]
theorem get_put {α : Type} (t : Tr α) (k j : Nat) (x : Option α) (h : k < 16000000) : (t.put k x).get j = if j = k then x else t.get j := get_putF x 24 k j t (by omega)
theorem get_e {α : Type} (k : Nat) : (Tr.e : Tr α).get k = none := getF_e 24 k

theorem Mem.get_eq (m : Mem) (k : Nat) : m.get k = if k < 16000000 then m.t.get k else m.v k := by
  show Bool.rec (motive := fun _ => Option AObj) (m.v k) (m.t.get k) (k.blt 16000000) = _
  by_cases h : k < 16000000
  · have : k.blt 16000000 = true := by simpa [Nat.blt_eq] using h
    rw [this, if_pos h]
  · have : k.blt 16000000 = false := by
      cases e : k.blt 16000000 with
      | false => rfl
      | true => exact absurd (by simpa [Nat.blt_eq] using e) h
    rw [this, if_neg h]
theorem mget_put (m : Mem) (k j : Nat) (x : Option AObj) : (m.put k x).get j = if j = k then x else m.get j := by
  have e : m.put k x = Bool.rec (motive := fun _ => Mem) ⟨m.t, fun j => match j.beq k with | true => x | false => m.v j⟩ ⟨m.t.put k x, m.v⟩ (k.blt 16000000) := rfl
  rw [Mem.get_eq, Mem.get_eq, e]
  by_cases h : k < 16000000
  · have : k.blt 16000000 = true := by simpa [Nat.blt_eq] using h
    rw [this]
    show (if j < 16000000 then (m.t.put k x).get j else m.v j) = _
    rw [get_put _ _ _ _ h]
    by_cases hj : j < 16000000
    · rw [if_pos hj, if_pos hj]
    · rw [if_neg hj, if_neg hj, if_neg (fun e => hj (by omega))]
  · have : k.blt 16000000 = false := by
      cases e : k.blt 16000000 with
      | false => rfl
      | true => exact absurd (by simpa [Nat.blt_eq] using e) h
    rw [this]
    show (if j < 16000000 then m.t.get j else (match j.beq k with | true => x | false => m.v j)) = _
    by_cases hj : j < 16000000
    · rw [if_pos hj, if_pos hj, if_neg (by omega)]
    · rw [if_neg hj, if_neg hj]
      by_cases hk : j = k
      · subst hk; rw [if_pos rfl, Nat.beq_refl]
      · rw [if_neg hk, beq_f hk]
theorem mget_e (k : Nat) : Mem.e.get k = none := by
  rw [Mem.get_eq]
  split
  · exact get_e k
  · rfl

/-! ### numbers -/
theorem ieq_eq (a b : Int) : ieq a b = (a == b) := by
  rw [Bool.eq_iff_iff]
  cases a <;> cases b <;> simp [ieq] <;> omega
theorem ilt_eq (a b : Int) : ilt a b = decide (a < b) := by
  rw [Bool.eq_iff_iff]
  cases a <;> cases b <;> simp [ilt, Nat.blt_eq] <;> omega
theorem wrapU_eq (m : Nat) (n : Int) (hm : 0 < m) : wrapU m n = n % (m : Int) := by
  cases n with
  | ofNat a => rfl
  | negSucc a =>
    show Int.ofNat (Nat.sub (Nat.sub m 1) (Nat.mod a m)) = _
    rw [Int.emod_def]
    have h1 : Int.negSucc a / (m : Int) = -((a / m : Nat) : Int) - 1 := by
      rw [Int.negSucc_ediv _ (by omega)]
      show -((a : Int) / (m : Int) + 1) = _
      rw [Int.natCast_ediv]; omega
    rw [h1]
    have h2 : a % m < m := Nat.mod_lt _ hm
    have h3 := Nat.div_add_mod a m
    have h4 : (m : Int) * (-((a / m : Nat) : Int) - 1) = -((m * (a / m) : Nat) : Int) - m := by
      rw [Int.mul_sub, Int.mul_neg]; simp
    rw [h4]
    show ((m - 1 - a % m : Nat) : Int) = _
    omega
theorem wrapS_eq (m h : Nat) (n : Int) (hm : 0 < m) (hh : h ≤ m) : wrapS m h n = if n % (m : Int) ≥ (h : Int) then n % (m : Int) - m else n % (m : Int) := by
  have key : ∀ r : Nat, r < m → fold2 m h r = if (r : Int) ≥ (h : Int) then (r : Int) - m else (r : Int) := by
    intro r hr
    unfold fold2
    by_cases hlt : r < h
    · have : r.blt h = true := by simpa [Nat.blt_eq] using hlt
      rw [this, if_neg (by omega)]; rfl
    · have : r.blt h = false := by
        cases e : r.blt h with
        | false => rfl
        | true => exact absurd (by simpa [Nat.blt_eq] using e) hlt
      rw [this, if_pos (by omega)]
      show Int.negSucc (m - r - 1) = _
      omega
  have hU := wrapU_eq m n hm
  cases n with
  | ofNat a =>
    show fold2 m h (a % m) = _
    rw [key _ (Nat.mod_lt _ hm)]; rfl
  | negSucc a =>
    show fold2 m h (m - 1 - a % m) = _
    have h2 : a % m < m := Nat.mod_lt _ hm
    rw [key _ (by omega)]
    have : ((m - 1 - a % m : Nat) : Int) = Int.negSucc a % (m : Int) := hU
    rw [this]
theorem wr_eq (k : IntKind) (n : Int) : wr k n = k.wrap n := by
  cases k
  · exact (wrapS_eq 256 128 n (by decide) (by decide)).trans (by simp [IntKind.wrap, IntKind.bits, IntKind.signed])
  · exact (wrapS_eq 65536 32768 n (by decide) (by decide)).trans (by simp [IntKind.wrap, IntKind.bits, IntKind.signed])
  · exact (wrapS_eq 4294967296 2147483648 n (by decide) (by decide)).trans (by simp [IntKind.wrap, IntKind.bits, IntKind.signed])
  · exact (wrapS_eq 18446744073709551616 9223372036854775808 n (by decide) (by decide)).trans (by simp [IntKind.wrap, IntKind.bits, IntKind.signed])
  · exact (wrapU_eq 256 n (by decide)).trans (by simp [IntKind.wrap, IntKind.bits, IntKind.signed])
  · exact (wrapU_eq 65536 n (by decide)).trans (by simp [IntKind.wrap, IntKind.bits, IntKind.signed])
  · exact (wrapU_eq 4294967296 n (by decide)).trans (by simp [IntKind.wrap, IntKind.bits, IntKind.signed])
  · exact (wrapU_eq 18446744073709551616 n (by decide)).trans (by simp [IntKind.wrap, IntKind.bits, IntKind.signed])
theorem wrap_mod (k : IntKind) (m : Nat) : k.wrap ((m % 2 ^ k.bits : Nat) : Int) = k.wrap (m : Int) := by
  unfold IntKind.wrap
  have e : (((m % 2 ^ k.bits : Nat) : Int)) % (2 ^ k.bits : Int) = (m : Int) % (2 ^ k.bits : Int) := by
    rw [Int.natCast_emod, Int.natCast_pow]
    exact Int.emod_emod_of_dvd _ (Int.dvd_refl _)
  simp only [e]
theorem bitsM_eq (op : BinOp) (k : IntKind) (a b : Int) : bitsM op k a b = bits op k a b := by cases op <;> rfl
theorem ofNat_toNat (n x : Nat) : (BitVec.ofInt n (Int.ofNat x)).toNat = x % 2 ^ n := by
  show (BitVec.ofInt n ((x : Nat) : Int)).toNat = _
  rw [BitVec.ofInt_natCast, BitVec.toNat_ofNat]
theorem bitI_and (k : IntKind) (a b : Int) : bitI .and Nat.land k a b = bits .and k a b := by
  cases a with
  | negSucc x => exact (show bitI .and Nat.land k (Int.negSucc x) b = bitsM .and k (Int.negSucc x) b from rfl).trans (bitsM_eq _ _ _ _)
  | ofNat x => cases b with
    | negSucc y => exact (show bitI .and Nat.land k (Int.ofNat x) (Int.negSucc y) = bitsM .and k (Int.ofNat x) (Int.negSucc y) from rfl).trans (bitsM_eq _ _ _ _)
    | ofNat y =>
      show wr k (Int.ofNat (x &&& y)) = _
      rw [wr_eq]
      simp only [bits, BitVec.toNat_and, ofNat_toNat]
      rw [← Nat.and_mod_two_pow, wrap_mod]; rfl
theorem bitI_or (k : IntKind) (a b : Int) : bitI .or Nat.lor k a b = bits .or k a b := by
  cases a with
  | negSucc x => exact (show bitI .or Nat.lor k (Int.negSucc x) b = bitsM .or k (Int.negSucc x) b from rfl).trans (bitsM_eq _ _ _ _)
  | ofNat x => cases b with
    | negSucc y => exact (show bitI .or Nat.lor k (Int.ofNat x) (Int.negSucc y) = bitsM .or k (Int.ofNat x) (Int.negSucc y) from rfl).trans (bitsM_eq _ _ _ _)
    | ofNat y =>
      show wr k (Int.ofNat (x ||| y)) = _
      rw [wr_eq]
      simp only [bits, BitVec.toNat_or, ofNat_toNat]
      rw [← Nat.or_mod_two_pow, wrap_mod]; rfl
theorem bitI_xor (k : IntKind) (a b : Int) : bitI .xor Nat.xor k a b = bits .xor k a b := by
  cases a with
  | negSucc x => exact (show bitI .xor Nat.xor k (Int.negSucc x) b = bitsM .xor k (Int.negSucc x) b from rfl).trans (bitsM_eq _ _ _ _)
  | ofNat x => cases b with
    | negSucc y => exact (show bitI .xor Nat.xor k (Int.ofNat x) (Int.negSucc y) = bitsM .xor k (Int.ofNat x) (Int.negSucc y) from rfl).trans (bitsM_eq _ _ _ _)
    | ofNat y =>
      show wr k (Int.ofNat (x ^^^ y)) = _
      rw [wr_eq]
      simp only [bits, BitVec.toNat_xor, ofNat_toNat]
      rw [← Nat.xor_mod_two_pow, wrap_mod]; rfl
theorem xorM_eq (k : IntKind) (n : Int) : xorM k n = bits .xor k (if k.signed then -1 else k.max) n := by
  cases n with
  | negSucc x =>
    show bitsM .xor k (bif k.signed then -1 else k.max) _ = _
    rw [bitsM_eq]; cases k.signed <;> rfl
  | ofNat x =>
    unfold xorM
    cases hs : k.signed with
    | true => simp only; rw [bitsM_eq]; rfl
    | false =>
      show wr k (Int.ofNat (2 ^ k.bits - 1 - x % 2 ^ k.bits)) = _
      rw [wr_eq]
      simp only [bits, BitVec.toNat_xor, ofNat_toNat]
      have hm : (if false = true then (-1 : Int) else k.max) = Int.ofNat (2 ^ k.bits - 1) := by
        cases k <;> first | rfl | simp [IntKind.signed] at hs
      rw [hm, ofNat_toNat]
      have h1 : (2 ^ k.bits - 1) % 2 ^ k.bits = 2 ^ k.bits - 1 := Nat.mod_eq_of_lt (Nat.sub_lt (Nat.two_pow_pos _) (by decide))
      rw [h1]
      have h2 : (2 ^ k.bits - 1) ^^^ (x % 2 ^ k.bits) = 2 ^ k.bits - 1 - x % 2 ^ k.bits := by
        have hlt : x % 2 ^ k.bits < 2 ^ k.bits := Nat.mod_lt _ (Nat.two_pow_pos _)
        have := BitVec.toNat_not (x := BitVec.ofNat k.bits x)
        rw [BitVec.not_def, BitVec.toNat_xor, BitVec.toNat_allOnes, BitVec.toNat_ofNat] at this
        exact this
      rw [h2]; rfl
theorem clip_eq (n m : Nat) : clip n m = min n m := by
  unfold clip
  cases h : n.ble m with
  | true => have := Nat.le_of_ble_eq_true h; simp; omega
  | false => have : ¬ n ≤ m := fun hh => by rw [Nat.ble_eq_true_of_le hh] at h; cases h
             simp; omega
theorem pow2_eq (n : Int) (m : Nat) : pow2 n m = 2 ^ min n.toNat m := by
  unfold pow2
  rw [clip_eq]
  show ((2 ^ min n.toNat m : Nat) : Int) = _
  rw [Int.natCast_pow]; rfl
theorem kindEq_iff {a b : IntKind} : kindEq a b = true ↔ a = b := by cases a <;> cases b <;> decide
theorem blt_iff {a b : Nat} : Nat.blt a b = true ↔ a < b := by rw [Nat.blt_eq]
theorem ble_iff {a b : Nat} : Nat.ble a b = true ↔ a ≤ b := by rw [Nat.ble_eq]
end Go.Proofs.YtkclgbccnbiojaaGreatDoor.SX

namespace Go.Proofs.YtkclgbccnbiojaaGreatDoor.SX

/-- a renaming of blocks; the room of those that grow -/
structure Rn where
  b : Nat → Nat
  c : Nat → Nat
inductive VR (ρ : Rn) (D : Nat → Prop) : AV → Value → Prop
  | bad (x : Value) : VR ρ D .bad x
  | und : VR ρ D .und undef
  | bool (s b : Bool) : VR ρ D (.bool s b) (.bool b)
  | int (s : Bool) (k : IntKind) (n : Int) : VR ρ D (.int s k n) (.int k n)
  | str (s : Bool) (b : ByteArray) : VR ρ D (.str s (bts b)) (.string b)
  | nilp : VR ρ D .nilp (.pointer none)
  | ptr (b o : Nat) (h : D b) : VR ρ D (.ptr b o) (.pointer (some ⟨ρ.b b, o, none⟩))
  | rptr (b sz i j : Nat) (h : D b) : VR ρ D (.rptr b sz i j) (.pointer (some ⟨ρ.b b, i * sz + j, none⟩))
  | nils : VR ρ D .nils (.slice none 0 0)
  | slk (s : Bool) (b o n c : Nat) (h : D b) (hn : n ≤ c) : VR ρ D (.sl s b o n (.kn c)) (.slice (some ⟨ρ.b b, o, none⟩) n c)
  | slu (s : Bool) (b o n k : Nat) (h : D b) (hn : n + k ≤ ρ.c b) : VR ρ D (.sl s b o n (.un k)) (.slice (some ⟨ρ.b b, o, none⟩) n (ρ.c b - k))
  | nilm : VR ρ D .nilm (.map none)
  | mp (b : Nat) (h : D b) : VR ρ D (.mp b) (.map (some (ρ.b b)))
  | nilf : VR ρ D .nilf .nilFunc
  | fn (f : Fn) (xs ys : List AV) (as bs : Array Value) (l1 : xs.length = as.size) (h1 : ∀ (i : Nat) (x : AV) (a : Value), xs[i]? = some x → as[i]? = some a → VR ρ D x a)
      (l2 : ys.length = bs.size) (h2 : ∀ (i : Nat) (x : AV) (a : Value), ys[i]? = some x → bs[i]? = some a → VR ρ D x a) : VR ρ D (.fn f xs ys) (.func f as bs)
  | nili : VR ρ D .nili .nilIface
  | ifc (t : TypeId) (v : AV) (x : Value) (h : VR ρ D v x) : VR ρ D (.ifc t v) (.iface t x)
  | agg (cs : List AV) (as : Array Value) (l : cs.length = as.size) (h : ∀ (i : Nat) (x : AV) (a : Value), cs[i]? = some x → as[i]? = some a → VR ρ D x a) : VR ρ D (.agg cs) (.agg as)
  | tup (cs : List AV) (as : Array Value) (l : cs.length = as.size) (h : ∀ (i : Nat) (x : AV) (a : Value), cs[i]? = some x → as[i]? = some a → VR ρ D x a) : VR ρ D (.tup cs) (.tuple as)
  | osl (b n : Nat) (as : Option Addr) (c : Nat) (h : D b) (ha : 0 < n → as = some ⟨ρ.b b, ρ.c b, none⟩) : VR ρ D (.osl b n) (.slice as n c)
  | optr (b sz i j : Nat) (h : D b) : VR ρ D (.optr b sz i j) (.pointer (some ⟨ρ.b b, ρ.c b + (i * sz + j), none⟩))
  | unk (x : Value) (h : x.oneCell' = true) : VR ρ D .unk x

theorem VR.mono {ρ ρ' : Rn} {D D' : Nat → Prop} {v : AV} {x : Value} (h : VR ρ D v x) (hD : ∀ b, D b → D' b ∧ ρ'.b b = ρ.b b ∧ ρ'.c b = ρ.c b) : VR ρ' D' v x := by
  induction h with
  | bad x => exact .bad x
  | und => exact .und
  | bool s b => exact .bool s b
  | int s k n => exact .int s k n
  | str s b => exact .str s b
  | nilp => exact .nilp
  | ptr b o h => obtain ⟨h1, h2, h3⟩ := hD b h; rw [← h2]; exact .ptr b o h1
  | rptr b sz i j h => obtain ⟨h1, h2, h3⟩ := hD b h; rw [← h2]; exact .rptr b sz i j h1
  | nils => exact .nils
  | slk s b o n c h hn => obtain ⟨h1, h2, h3⟩ := hD b h; rw [← h2]; exact .slk s b o n c h1 hn
  | slu s b o n k h hn => obtain ⟨h1, h2, h3⟩ := hD b h; rw [← h2, ← h3]; exact .slu s b o n k h1 (by omega)
  | nilm => exact .nilm
  | mp b h => obtain ⟨h1, h2, h3⟩ := hD b h; rw [← h2]; exact .mp b h1
  | nilf => exact .nilf
  | fn f xs ys as bs l1 h1 l2 h2 ih1 ih2 => exact .fn f xs ys as bs l1 ih1 l2 ih2
  | nili => exact .nili
  | ifc t v x h ih => exact .ifc t v x ih
  | agg cs as l h ih => exact .agg cs as l ih
  | tup cs as l h ih => exact .tup cs as l ih
  | osl b n as c h ha => obtain ⟨h1, h2, h3⟩ := hD b h; exact .osl b n as c h1 (fun hn => by rw [ha hn, h2, h3])
  | optr b sz i j h => obtain ⟨h1, h2, h3⟩ := hD b h; rw [← h2, ← h3]; exact .optr b sz i j h1
  | unk x h => exact .unk x h

/-- rows of cells -/
def LR (ρ : Rn) (D : Nat → Prop) (cs : List AV) (as : List Value) : Prop := cs.length = as.length ∧ ∀ (i : Nat) (x : AV) (a : Value), cs[i]? = some x → as[i]? = some a → VR ρ D x a
theorem LR.mono {ρ ρ' : Rn} {D D' : Nat → Prop} {cs : List AV} {as : List Value} (h : LR ρ D cs as) (hD : ∀ b, D b → D' b ∧ ρ'.b b = ρ.b b ∧ ρ'.c b = ρ.c b) : LR ρ' D' cs as := ⟨h.1, fun i x a hx ha => (h.2 i x a hx ha).mono hD⟩
theorem LR.nil (ρ : Rn) (D : Nat → Prop) : LR ρ D [] [] := ⟨rfl, fun i x a hx => by simp at hx⟩
theorem LR.cons {ρ : Rn} {D : Nat → Prop} {c : AV} {a : Value} {cs : List AV} {as : List Value} (h : VR ρ D c a) (hs : LR ρ D cs as) : LR ρ D (c :: cs) (a :: as) := by
  refine ⟨by simp [hs.1], fun i x y hx hy => ?_⟩
  cases i with
  | zero => simp at hx hy; subst hx; subst hy; exact h
  | succ i => simp at hx hy; exact hs.2 i x y hx hy
theorem LR.append {ρ : Rn} {D : Nat → Prop} {cs ds : List AV} {as bs : List Value} (h : LR ρ D cs as) (k : LR ρ D ds bs) : LR ρ D (cs ++ ds) (as ++ bs) := by
  refine ⟨by simp [h.1, k.1], fun i x y hx hy => ?_⟩
  by_cases hi : i < cs.length
  · rw [List.getElem?_append_left hi] at hx
    rw [List.getElem?_append_left (by rw [← h.1]; exact hi)] at hy
    exact h.2 i x y hx hy
  · rw [List.getElem?_append_right (by omega)] at hx
    rw [List.getElem?_append_right (by rw [← h.1]; omega)] at hy
    rw [← h.1] at hy
    exact k.2 _ x y hx hy
theorem LR.take {ρ : Rn} {D : Nat → Prop} {cs : List AV} {as : List Value} (h : LR ρ D cs as) (n : Nat) : LR ρ D (cs.take n) (as.take n) := by
  refine ⟨by simp [h.1], fun i x y hx hy => ?_⟩
  rw [List.getElem?_take] at hx hy
  split at hx
  · rename_i hi; rw [if_pos hi] at hy; exact h.2 i x y hx hy
  · cases hx
theorem LR.drop {ρ : Rn} {D : Nat → Prop} {cs : List AV} {as : List Value} (h : LR ρ D cs as) (n : Nat) : LR ρ D (cs.drop n) (as.drop n) := by
  refine ⟨by simp [h.1], fun i x y hx hy => ?_⟩
  rw [List.getElem?_drop] at hx hy
  exact h.2 _ x y hx hy
theorem LR.seg {ρ : Rn} {D : Nat → Prop} {cs : List AV} {as : List Value} (h : LR ρ D cs as) (o n : Nat) : LR ρ D (seg cs o n) ((as.drop o).take n) := (h.drop o).take n
theorem LR.get {ρ : Rn} {D : Nat → Prop} {cs : List AV} {as : List Value} (h : LR ρ D cs as) {i : Nat} {x : AV} (hx : cs[i]? = some x) : ∃ a, as[i]? = some a ∧ VR ρ D x a := by
  have hi : i < cs.length := by
    rcases Nat.lt_or_ge i cs.length with h' | h'
    · exact h'
    · rw [List.getElem?_eq_none h'] at hx; cases hx
  have hi2 : i < as.length := by rw [← h.1]; exact hi
  have ha : as[i]? = some as[i] := List.getElem?_eq_getElem hi2
  exact ⟨_, ha, h.2 i x _ hx ha⟩
theorem LR.agg {ρ : Rn} {D : Nat → Prop} {cs : List AV} {as : List Value} (h : LR ρ D cs as) : VR ρ D (.agg cs) (.agg as.toArray) :=
  .agg cs _ (by simp [h.1]) (fun i x a hx ha => h.2 i x a hx (by simpa using ha))
theorem VR.agg_inv {ρ : Rn} {D : Nat → Prop} {cs : List AV} {x : Value} (h : VR ρ D (.agg cs) x) : ∃ as, x = .agg as ∧ LR ρ D cs as.toList := by
  cases h with
  | agg cs as l h => exact ⟨as, rfl, by simp [l], fun i x a hx ha => h i x a hx (by simpa using ha)⟩
theorem VR.tup_inv {ρ : Rn} {D : Nat → Prop} {cs : List AV} {x : Value} (h : VR ρ D (.tup cs) x) : ∃ as, x = .tuple as ∧ LR ρ D cs as.toList := by
  cases h with
  | tup cs as l h => exact ⟨as, rfl, by simp [l], fun i x a hx ha => h i x a hx (by simpa using ha)⟩
theorem LR.tup {ρ : Rn} {D : Nat → Prop} {cs : List AV} {as : List Value} (h : LR ρ D cs as) : VR ρ D (.tup cs) (.tuple as.toArray) :=
  .tup cs _ (by simp [h.1]) (fun i x a hx ha => h.2 i x a hx (by simpa using ha))
/-- a value's cells -/
theorem VR.cells {ρ : Rn} {D : Nat → Prop} {v : AV} {x : Value} (h : VR ρ D v x) (hb : v ≠ .bad) : LR ρ D v.cells x.cells.toList := by
  cases h with
  | bad => exact absurd rfl hb
  | agg cs as l h => exact ⟨by simp [AV.cells, Value.cells, l], fun i x a hx ha => h i x a hx (by simpa [Value.cells] using ha)⟩
  | und => exact LR.cons .und (LR.nil _ _)
  | bool s b => exact LR.cons (.bool s b) (LR.nil _ _)
  | int s k n => exact LR.cons (.int s k n) (LR.nil _ _)
  | str s b => exact LR.cons (.str s b) (LR.nil _ _)
  | nilp => exact LR.cons .nilp (LR.nil _ _)
  | ptr b o h => exact LR.cons (.ptr b o h) (LR.nil _ _)
  | rptr b sz i j h => exact LR.cons (.rptr b sz i j h) (LR.nil _ _)
  | nils => exact LR.cons .nils (LR.nil _ _)
  | slk s b o n c h hn => exact LR.cons (.slk s b o n c h hn) (LR.nil _ _)
  | slu s b o n k h hn => exact LR.cons (.slu s b o n k h hn) (LR.nil _ _)
  | nilm => exact LR.cons .nilm (LR.nil _ _)
  | mp b h => exact LR.cons (.mp b h) (LR.nil _ _)
  | nilf => exact LR.cons .nilf (LR.nil _ _)
  | fn f xs ys as bs l1 h1 l2 h2 => exact LR.cons (.fn f xs ys as bs l1 h1 l2 h2) (LR.nil _ _)
  | nili => exact LR.cons .nili (LR.nil _ _)
  | ifc t v x h => exact LR.cons (.ifc t v x h) (LR.nil _ _)
  | tup cs as l h => exact LR.cons (.tup cs as l h) (LR.nil _ _)
  | osl b n as c h ha => exact LR.cons (.osl b n as c h ha) (LR.nil _ _)
  | optr b sz i j h => exact LR.cons (.optr b sz i j h) (LR.nil _ _)
  | unk x h =>
    have e : x.cells.toList = [x] := by cases x <;> first | rfl | cases h
    rw [e]
    exact LR.cons (.unk x h) (LR.nil _ _)
/-- constants -/
theorem ofCell_ok (ρ : Rn) (D : Nat → Prop) (v : Value) : VR ρ D (ofCell v) v := by
  unfold ofCell
  split
  · exact .bool _ _
  · exact .int _ _ _
  · exact .str _ _
  · exact .nilp
  · exact .nils
  · exact .nilm
  · exact .nilf
  · exact .nili
  · exact .bad _
theorem ofCells_ok (ρ : Rn) (D : Nat → Prop) (l : List Value) : LR ρ D (l.map ofCell) l := by
  refine ⟨by simp, fun i x a hx ha => ?_⟩
  rw [List.getElem?_map, ha] at hx
  simp at hx; subst hx
  exact ofCell_ok ρ D a
theorem ofV_ok (ρ : Rn) (D : Nat → Prop) (v : Value) : VR ρ D (ofV v) v := by
  unfold ofV
  split
  · rename_i cs
    have := ofCells_ok ρ D cs.toList
    exact .agg _ cs (by simp) (fun i x a hx ha => this.2 i x a hx (by simpa using ha))
  · rename_i vs
    cases h : vs.size.beq 0 with
    | true =>
      have h0 : vs.size = 0 := Nat.eq_of_beq_eq_true h
      simp only [cond_true]
      exact .tup [] vs (by simp [h0]) (fun i x a hx => by simp at hx)
    | false => exact .bad _
  · rename_i f a b
    cases h1 : a.size.beq 0 with
    | false => exact .bad _
    | true => cases h2 : b.size.beq 0 with
      | false => exact .bad _
      | true =>
        have e1 : a.size = 0 := Nat.eq_of_beq_eq_true h1
        have e2 : b.size = 0 := Nat.eq_of_beq_eq_true h2
        exact .fn f [] [] a b (by simp [e1]) (fun i x a hx => by simp at hx) (by simp [e2]) (fun i x a hx => by simp at hx)
  · exact ofCell_ok ρ D v
theorem notBad_ne {v : AV} (h : notBad v = true) : v ≠ .bad := by intro e; subst e; cases h

/-! ### memory -/
/-- nothing of the row is shut -/
def Open (fz : Nat × Nat) (n : Nat) : Prop := ∀ i, i < n → ¬ (fz.1 ≤ i ∧ i < fz.2)
def ReadL (ρ : Rn) (D : Nat → Prop) (cs : List AV) (arr : Array Value) : Prop := ∀ (i : Nat) (x : AV), cs[i]? = some x → ∃ a, arr[i]? = some a ∧ VR ρ D x a
/-- how much room a row has -/
def Roomy (P : Program) (ρ : Rn) (b : Nat) (e n : Nat) (gr : Bool) (arr : Array Value) : Prop :=
  n ≤ arr.size ∧ (gr = false → arr.size = n) ∧ (gr = true → ∃ i, P.info? e = some i ∧ arr.size = ρ.c b * i.size)
/-- rows, one behind the other -/
def flat (f : Nat → List AV) : Nat → List AV
  | 0 => []
  | n + 1 => flat f n ++ f n
theorem flat_length {f : Nat → List AV} {sz : Nat} : ∀ n, (∀ i, i < n → (f i).length = sz) → (flat f n).length = n * sz
  | 0, _ => by simp [flat]
  | n + 1, h => by rw [flat, List.length_append, flat_length n (fun i hi => h i (by omega)), h n (by omega), Nat.succ_mul]
theorem flat_get {f : Nat → List AV} {sz : Nat} : ∀ n, (∀ i, i < n → (f i).length = sz) → ∀ i j x, i < n → (f i)[j]? = some x → (flat f n)[i * sz + j]? = some x
  | 0, _, i, j, x, hi, _ => absurd hi (Nat.not_lt_zero i)
  | n + 1, h, i, j, x, hi, hx => by
    have hl := flat_length (f := f) (sz := sz) n (fun i hi => h i (by omega))
    have hj : j < sz := by
      rcases Nat.lt_or_ge j sz with h' | h'
      · exact h'
      · rw [List.getElem?_eq_none (by rw [h i hi]; exact h')] at hx; cases hx
    rw [flat]
    by_cases e : i = n
    · subst e
      rw [List.getElem?_append_right (by rw [hl]; omega), hl, Nat.add_sub_cancel_left]; exact hx
    · have hin : i < n := by omega
      have h1 : (i + 1) * sz ≤ n * sz := Nat.mul_le_mul_right _ hin
      rw [Nat.succ_mul] at h1
      rw [List.getElem?_append_left (by rw [hl]; omega)]
      exact flat_get n (fun i hi => h i (by omega)) i j x hin hx
inductive OR (P : Program) (ρ : Rn) (D : Nat → Prop) (b : Nat) : AObj → Obj → Prop
  | cells (e : Nat) (cs : List AV) (gr : Bool) (arr : Array Value) (fz : Nat × Nat) (h : ReadL ρ D cs arr) (ho : Open fz arr.size) (hr : Roomy P ρ b e cs.length gr arr) : OR P ρ D b (.cells e cs gr) (.cells arr e fz)
  | nums (e : Nat) (k : IntKind) (xs : List Int) (gr : Bool) (arr : Array Value) (fz : Nat × Nat) (h : ReadL ρ D (xs.map (.int true k)) arr) (ho : Open fz arr.size) (hr : Roomy P ρ b e xs.length gr arr) : OR P ρ D b (.nums e k xs gr) (.cells arr e fz)
  | rows (e e2 sz n : Nat) (f : Nat → List AV) (arr : Array Value) (fz : Nat × Nat) (hl : ∀ i, i < n → (f i).length = sz) (h : ∀ (i j : Nat) (x : AV), i < n → (f i)[j]? = some x → ∃ a, arr[ρ.c b + (i * sz + j)]? = some a ∧ VR ρ D x a) : OR P ρ D b (.rows e sz n f) (.cells arr e2 fz)
  | grows (e sz n : Nat) (f : Nat → List AV) (arr : Array Value) (fz : Nat × Nat) (hl : ∀ i, i < n → (f i).length = sz) (h : ReadL ρ D (flat f n) arr) (ho : Open fz arr.size) (hr : Roomy P ρ b e (n * sz) true arr) : OR P ρ D b (.grows e sz n f) (.cells arr e fz)
  | map (es : List (AV × AV)) (ms : Array MapEntry) (hl : es.length = ms.size) (h : ∀ (i : Nat) (p : AV × AV) (m : MapEntry), es[i]? = some p → ms[i]? = some m → VR ρ D p.1 m.key ∧ VR ρ D p.2 m.val ∧ m.born = i) : OR P ρ D b (.map es) (.map ms ms.size)
theorem ReadL.mono {ρ ρ' : Rn} {D D' : Nat → Prop} {cs : List AV} {arr : Array Value} (h : ReadL ρ D cs arr) (hD : ∀ b, D b → D' b ∧ ρ'.b b = ρ.b b ∧ ρ'.c b = ρ.c b) : ReadL ρ' D' cs arr := fun i x hx => let ⟨a, ha, hv⟩ := h i x hx; ⟨a, ha, hv.mono hD⟩
theorem OR.mono {P : Program} {ρ ρ' : Rn} {D D' : Nat → Prop} {b : Nat} {o : AObj} {r : Obj} (h : OR P ρ D b o r) (hD : ∀ b, D b → D' b ∧ ρ'.b b = ρ.b b ∧ ρ'.c b = ρ.c b) (hb : ρ'.c b = ρ.c b) : OR P ρ' D' b o r := by
  cases h with
  | cells e cs gr arr fz h ho hr => exact .cells e cs gr arr fz (h.mono hD) ho ⟨hr.1, hr.2.1, fun hg => by rw [hb]; exact hr.2.2 hg⟩
  | nums e k xs gr arr fz h ho hr => exact .nums e k xs gr arr fz (h.mono hD) ho ⟨hr.1, hr.2.1, fun hg => by rw [hb]; exact hr.2.2 hg⟩
  | rows e e2 sz n f arr fz hl h => exact .rows e e2 sz n f arr fz hl (fun i j x hi hx => let ⟨a, ha, hv⟩ := h i j x hi hx; ⟨a, by rw [hb]; exact ha, hv.mono hD⟩)
  | grows e sz n f arr fz hl h ho hr => exact .grows e sz n f arr fz hl (h.mono hD) ho ⟨hr.1, hr.2.1, fun hg => by rw [hb]; exact hr.2.2 hg⟩
  | map es ms hl h => exact .map es ms hl (fun i p m hp hm => let ⟨h1, h2, h3⟩ := h i p m hp hm; ⟨h1.mono hD, h2.mono hD, h3⟩)
/-- what nobody writes -/
def AObj.fixed : AObj → Bool | .rows _ _ _ _ => true | _ => false
/-- the abstract memory H (what each block is) stands in w -/
structure GR (P : Program) (ρ : Rn) (D : Nat → Prop) (H : Nat → Option AObj) (w : World) : Prop where
  dom : ∀ b o, H b = some o → D b ∧ True
  at_ : ∀ b o, H b = some o → ∃ r, w.heap[ρ.b b]? = some r ∧ OR P ρ D b o r
  inj : ∀ b b' o o', H b = some o → H b' = some o' → o.fixed = false → ρ.b b = ρ.b b' → b = b'
/-- what one step may do: new blocks, and those that are known -/
structure Fram (ρ : Rn) (H : Nat → Option AObj) (w : World) (ρ' : Rn) (H' : Nat → Option AObj) (w' : World) : Prop where
  os : w'.os = w.os
  tape : w'.tape = w.tape
  output : w'.output = w.output
  size : w.heap.size ≤ w'.heap.size
  keep : ∀ i, i < w.heap.size → (∀ b o, H b = some o → o.fixed = false → ρ.b b ≠ i) → w'.heap[i]? = w.heap[i]?
  own : ∀ b o, H' b = some o → o.fixed = false → w.heap.size ≤ ρ'.b b ∨ ∃ b0 o0, H b0 = some o0 ∧ o0.fixed = false ∧ ρ.b b0 = ρ'.b b
  fix : ∀ b o, H' b = some o → o.fixed = true → ∃ b0 o0, H b0 = some o0 ∧ o0.fixed = true ∧ ρ.b b0 = ρ'.b b
theorem Fram.refl (ρ : Rn) (H : Nat → Option AObj) (w : World) : Fram ρ H w ρ H w := ⟨rfl, rfl, rfl, Nat.le_refl _, fun _ _ _ => rfl, fun b o h hf => .inr ⟨b, o, h, hf, rfl⟩, fun b o h hf => ⟨b, o, h, hf, rfl⟩⟩
theorem Fram.trans {ρ ρ1 ρ2 : Rn} {H H1 H2 : Nat → Option AObj} {w w1 w2 : World} (h : Fram ρ H w ρ1 H1 w1) (k : Fram ρ1 H1 w1 ρ2 H2 w2) : Fram ρ H w ρ2 H2 w2 := by
  refine ⟨k.os.trans h.os, k.tape.trans h.tape, k.output.trans h.output, Nat.le_trans h.size k.size, fun i hi hne => ?_, fun b o hb hfx => ?_, fun b o hb hfx => ?_⟩
  · rw [k.keep i (Nat.lt_of_lt_of_le hi h.size) ?_, h.keep i hi hne]
    intro b o hb hfx he
    rcases h.own b o hb hfx with hn | ⟨b0, o0, h0, f0, e0⟩
    · omega
    · exact hne b0 o0 h0 f0 (e0.trans he)
  · rcases k.own b o hb hfx with hn | ⟨b1, o1, h1, f1, e1⟩
    · exact .inl (Nat.le_trans h.size hn)
    · rcases h.own b1 o1 h1 f1 with hn | ⟨b0, o0, h0, f0, e0⟩
      · exact .inl (by rw [← e1]; exact hn)
      · exact .inr ⟨b0, o0, h0, f0, e0.trans e1⟩
  · obtain ⟨b1, o1, h1, f1, e1⟩ := k.fix b o hb hfx
    obtain ⟨b0, o0, h0, f0, e0⟩ := h.fix b1 o1 h1 f1
    exact ⟨b0, o0, h0, f0, e0.trans e1⟩
/-- up to a number -/
def Up (n : Nat) (b : Nat) : Prop := b < n
/-- one renaming goes on another: alike below n -/
def Ext (n : Nat) (ρ ρ' : Rn) : Prop := ∀ b, b < n → ρ'.b b = ρ.b b ∧ ρ'.c b = ρ.c b
theorem Ext.refl (n : Nat) (ρ : Rn) : Ext n ρ ρ := fun _ _ => ⟨rfl, rfl⟩
theorem Ext.trans {n m : Nat} {ρ ρ1 ρ2 : Rn} (h : Ext n ρ ρ1) (k : Ext m ρ1 ρ2) (hn : n ≤ m) : Ext n ρ ρ2 := fun b hb => ⟨(k b (by omega)).1.trans (h b hb).1, (k b (by omega)).2.trans (h b hb).2⟩
theorem Ext.use {n m : Nat} {ρ ρ' : Rn} (h : Ext n ρ ρ') (hn : n ≤ m) : ∀ b, Up n b → Up m b ∧ ρ'.b b = ρ.b b ∧ ρ'.c b = ρ.c b := fun b hb => ⟨Nat.lt_of_lt_of_le hb hn, (h b hb).1, (h b hb).2⟩
end Go.Proofs.YtkclgbccnbiojaaGreatDoor.SX

namespace Go.Proofs.YtkclgbccnbiojaaGreatDoor.SX

/-! ### what a computation's answer says -/
/-- only the told conditions have grown -/
structure Pc (g g' : G) : Prop where
  h : g'.h = g.h
  nx : g'.nx = g.nx
  pc : g'.pc → g.pc
theorem Pc.refl (g : G) : Pc g g := ⟨rfl, rfl, id⟩
theorem Pc.trans {g g1 g2 : G} (h : Pc g g1) (k : Pc g1 g2) : Pc g g2 := ⟨k.h.trans h.h, k.nx.trans h.nx, fun p => h.pc (k.pc p)⟩
section
variable {α β : Type}
theorem rok_some {a : α} {g : G} {r : α × G} (h : rok a g = some r) : r = (a, g) := by injection h with h; exact h.symm
theorem guardB_some {b : Bool} {x : R α} {r : α × G} (h : guardB b x = some r) : b = true ∧ x = some r := by
  cases b with
  | false => cases h
  | true => exact ⟨rfl, h⟩
theorem obind_some {x : Option α} {f : α → R β} {r : β × G} (h : obind x f = some r) : ∃ a, x = some a ∧ f a = some r := by
  cases x with
  | none => cases h
  | some a => exact ⟨a, rfl, h⟩
theorem ti_some {T : Tab} {t : Nat} {f : TI → R α} {r : α × G} (h : ti T t f = some r) : ∃ i, T.ti.get t = some i ∧ f i = some r := by
  unfold ti at h
  cases e : T.ti.get t with
  | none => rw [e] at h; cases h
  | some a => rw [e] at h; exact ⟨a, rfl, h⟩
theorem obj_some {g : G} {b : Nat} {f : AObj → R α} {r : α × G} (h : obj g b f = some r) : ∃ o, g.h.get b = some o ∧ f o = some r := by
  unfold obj at h
  cases e : g.h.get b with
  | none => rw [e] at h; cases h
  | some a => rw [e] at h; exact ⟨a, rfl, h⟩
theorem chk_some {s c : Bool} {g : G} {k : G → R α} {r : α × G} (h : chk s c g k = some r) : ∃ g1, Pc g g1 ∧ (g1.pc → c = true) ∧ k g1 = some r := by
  cases s with
  | true => exact ⟨{ g with pc := (c, true) :: g.pc }, ⟨rfl, rfl, fun (p : c = true ∧ g.pc) => p.2⟩, fun (p : c = true ∧ g.pc) => p.1, h⟩
  | false => cases c with
    | false => cases h
    | true => exact ⟨g, .refl g, fun _ => rfl, h⟩
theorem test_some {s c : Bool} {g : G} {k : Bool → G → Option α} {r : α} (h : test s c g k = some r) : ∃ b g1, Pc g g1 ∧ (g1.pc → c = b) ∧ k b g1 = some r := by
  cases s with
  | false => exact ⟨c, g, .refl g, fun _ => rfl, h⟩
  | true =>
    show ∃ b g1, _
    change testS c g k = some r at h
    unfold testS at h
    cases e : g.ch with
    | nil => rw [e] at h; cases h
    | cons b l => rw [e] at h; exact ⟨b, { g with pc := (c, b) :: g.pc, ch := l }, ⟨rfl, rfl, fun (p : c = b ∧ g.pc) => p.2⟩, fun (p : c = b ∧ g.pc) => p.1, h⟩
theorem elem_some {i : TI} {f : Nat → R α} {r : α × G} (h : i.elem f = some r) : ∃ e, i.k = .slice e ∧ f e = some r := by
  unfold TI.elem at h
  split at h
  · exact ⟨_, by assumption, h⟩
  · cases h
theorem intOf_some {v : AV} {f : Bool → IntKind → Int → R α} {r : α × G} (h : intOf v f = some r) : ∃ s k n, v = .int s k n ∧ f s k n = some r := by
  unfold intOf at h
  split at h
  · exact ⟨_, _, _, rfl, h⟩
  · cases h
theorem strOf_some {v : AV} {f : Bool → List Nat → R α} {r : α × G} (h : strOf v f = some r) : ∃ s b, v = .str s b ∧ f s b = some r := by
  unfold strOf at h
  split at h
  · exact ⟨_, _, rfl, h⟩
  · cases h
theorem boolOf_some {v : AV} {f : Bool → Bool → R α} {r : α × G} (h : boolOf v f = some r) : ∃ s b, v = .bool s b ∧ f s b = some r := by
  unfold boolOf at h
  split at h
  · exact ⟨_, _, rfl, h⟩
  · cases h
theorem ptrOf_some {v : AV} {f : Nat → Nat → R α} {r : α × G} (h : ptrOf v f = some r) : ∃ b o, v = .ptr b o ∧ f b o = some r := by
  unfold ptrOf at h
  split at h
  · exact ⟨_, _, rfl, h⟩
  · cases h
end
theorem aggOf_some {v : AV} {f : List AV → R AV} {r : AV × G} (h : aggOf v f = some r) : ∃ cs, v = .agg cs ∧ f cs = some r := by
  unfold aggOf at h
  split at h
  · exact ⟨_, rfl, h⟩
  · cases h
theorem nth_eq (cs : List AV) (o : Nat) : nth cs o = cs[o]? := by
  induction cs generalizing o with
  | nil => rfl
  | cons v r ih => cases o with
    | zero => rfl
    | succ n => exact ih n
theorem at_some {cs : List AV} {o : Nat} {g : G} {r : AV × G} (h : at_ cs o g = some r) : cs[o]? = some r.1 ∧ r.2 = g := by
  unfold at_ at h
  rw [nth_eq] at h
  cases e : cs[o]? with
  | none => rw [e] at h; cases h
  | some v => rw [e] at h; injection h with h; subst h; exact ⟨rfl, rfl⟩

/-! ### tables -/
def TiOk (P : Program) (t : Nat) (i : TI) : Prop := ∃ info z d, P.info? t = some info ∧ info.zero = some z ∧ P.underlying t = some d ∧ i = ⟨tkD d, info.size, info.bytes, z.cells.toList.map ofCell⟩
def ZeroAt (info : TypeInfo) (z : Value) (d : TypeDesc) : Prop := z.cells.size = info.size ∧ ((tkD d).isAgg = true → ∃ cs, z = .agg cs) ∧ ((tkD d).isAgg = false → ∀ cs, z ≠ .agg cs)
structure TabOk (P : Program) (T : Tab) : Prop where
  zi : ∀ t i info z d, T.ti.get t = some i → P.info? t = some info → info.zero = some z → P.underlying t = some d → ZeroAt info z d
  ti : ∀ t i, T.ti.get t = some i → TiOk P t i
  fs : ∀ f fn, T.fs f = some fn → P.funcs[f]? = some fn ∧ (fn.name == "runtime.NumGoroutine") = false
theorem tiOf_ok {P : Program} {t : Nat} {i : TI} (h : tiOf P t = some i) : TiOk P t i ∧ ∀ info z d, P.info? t = some info → info.zero = some z → P.underlying t = some d → ZeroAt info z d := by
  unfold tiOf at h
  cases e : P.info? t with
  | none => rw [e] at h; cases h
  | some info =>
    rw [e] at h
    change tiD info info.zero (P.underlying t) = some i at h
    unfold tiD at h
    cases e2 : info.zero with
    | none => rw [e2] at h; cases h
    | some z => rw [e2] at h; cases e3 : P.underlying t with
      | none => rw [e3] at h; cases h
      | some d =>
        rw [e3] at h
        simp only at h
        cases e4 : zeroFits (tkD d) info.size z with
        | false => rw [e4] at h; cases h
        | true =>
          rw [e4] at h
          injection h with h
          refine ⟨⟨info, z, d, e, e2, e3, h.symm⟩, fun info' z' d' h1 h2 h3 => ?_⟩
          injection h1 with h1
          subst h1
          rw [e2] at h2
          injection h2 with h2
          subst h2
          injection h3 with h3
          subst h3
          unfold zeroFits at e4
          rw [Bool.and_eq_true] at e4
          refine ⟨Nat.eq_of_beq_eq_true e4.1, fun ha => ?_, fun ha cs hc => ?_⟩
          · have := e4.2
            split at this
            · exact ⟨_, rfl⟩
            · rw [ha] at this; cases this
          · have := e4.2
            rw [hc] at this
            simp only at this
            rw [ha] at this; cases this
section
variable {P : Program} {T : Tab}
theorem tk_int {d : TypeDesc} {k : IntKind} (h : tkD d = .int k) : d = .int k := by cases d <;> simp [tkD] at h; rw [h]
theorem tk_string {d : TypeDesc} (h : tkD d = .string) : d = .string := by cases d <;> simp [tkD] at h; rfl
theorem tk_bool {d : TypeDesc} (h : tkD d = .bool) : d = .bool := by cases d <;> simp [tkD] at h; rfl
theorem tk_slice {d : TypeDesc} {e : Nat} (h : tkD d = .slice e) : d = .slice e := by cases d <;> simp [tkD] at h; rw [h]
theorem tk_array {d : TypeDesc} {n e : Nat} (h : tkD d = .array n e) : d = .array n e := by cases d <;> simp [tkD] at h; rw [h.1, h.2]
theorem tk_map {d : TypeDesc} {n e : Nat} (h : tkD d = .map n e) : d = .map n e := by cases d <;> simp [tkD] at h; rw [h.1, h.2]
theorem tk_struct {d : TypeDesc} {fs : List (Nat × TypeId)} (h : tkD d = .struct fs) : ∃ l, d = .struct l ∧ fs = l.toList.map fun f => (f.offset, f.type) := by
  cases d <;> simp only [tkD, reduceCtorEq] at h
  rename_i l
  injection h with h
  exact ⟨l, rfl, h.symm⟩
theorem agg_tk (d : TypeDesc) : (tkD d).isAgg = (match d with | .struct _ | .array _ _ => true | _ => false) := by cases d <;> rfl
theorem run_isAgg {t : Nat} {d : TypeDesc} (h : P.underlying t = some d) (w : World) : (isAgg t).run P w = .ok (tkD d).isAgg w := by
  unfold isAgg
  simp only [Sem.run_bind, run_underlying h, Result.andThen_ok]
  cases d <;> rfl
theorem run_info {t : Nat} {i : TypeInfo} (h : P.info? t = some i) (w : World) : (typeInfo t).run P w = .ok i w := by simp [typeInfo, h]
theorem run_size {t : Nat} {i : TypeInfo} (h : P.info? t = some i) (w : World) : (sizeOf t).run P w = .ok i.size w := by simp [sizeOf, run_info h]
theorem run_zero {t : Nat} {i : TypeInfo} {z : Value} (h : P.info? t = some i) (hz : i.zero = some z) (w : World) : (zeroValue t).run P w = .ok z w := by simp [zeroValue, run_info h, hz]
end

/-! ### operators -/
section
variable {P : Program} {T : Tab} {ρ : Rn} {D : Nat → Prop}
/-- what a pure operation does -/
def Gives (P : Program) (ρ : Rn) (D : Nat → Prop) (g : G) (r : AV × G) (s : Sem Value) : Prop := Pc g r.2 ∧ (r.2.pc → ∀ w, ∃ x, s.run P w = .ok x w ∧ VR ρ D r.1 x)
theorem Gives.of {g g' : G} {v : AV} {x : Value} {s : Sem Value} (h : Pc g g') (hs : ∀ w, s.run P w = .ok x w) (hv : VR ρ D v x) : Gives P ρ D g (v, g') s := ⟨h, fun _ w => ⟨x, hs w, hv⟩⟩
theorem binInt_ok {op : BinOp} {s s' : Bool} {k k' : IntKind} {a b : Int} {g : G} {r : AV × G} (t : Nat) (hk : isShift op = true ∨ k = k') (h : binInt op s s' k a b g = some r) :
    Gives P ρ D g r (Go.binOp op t (.int k a) (.int k' b)) := by
  cases op <;> simp only [binInt] at h
  case add =>
    obtain rfl := rok_some h
    rcases hk with hk | rfl
    · cases hk
    · exact .of (.refl g) (fun w => by simp [Go.binOp, Op.intArith]; rfl) (by rw [wr_eq]; exact .int _ _ _)
  case sub =>
    obtain rfl := rok_some h
    rcases hk with hk | rfl
    · cases hk
    · exact .of (.refl g) (fun w => by simp [Go.binOp, Op.intArith]; rfl) (by rw [wr_eq]; exact .int _ _ _)
  case mul =>
    obtain rfl := rok_some h
    rcases hk with hk | rfl
    · cases hk
    · exact .of (.refl g) (fun w => by simp [Go.binOp, Op.intArith]; rfl) (by rw [wr_eq]; exact .int _ _ _)
  case quo =>
    rcases hk with hk | rfl
    · cases hk
    · obtain ⟨g1, hp, hc, h⟩ := chk_some h
      obtain rfl := rok_some h
      refine ⟨hp, fun p w => ⟨_, ?_, .int _ _ _⟩⟩
      have := hc p
      have hb : ¬ b = 0 := by rw [ieq_eq] at this; simpa using this
      simp [Go.binOp, Op.intDiv, hb, wr_eq]
  case rem =>
    rcases hk with hk | rfl
    · cases hk
    · obtain ⟨g1, hp, hc, h⟩ := chk_some h
      obtain rfl := rok_some h
      refine ⟨hp, fun p w => ⟨_, ?_, .int _ _ _⟩⟩
      have := hc p
      have hb : ¬ b = 0 := by rw [ieq_eq] at this; simpa using this
      simp [Go.binOp, Op.intDiv, hb]
  case and =>
    obtain rfl := rok_some h
    rcases hk with hk | rfl
    · cases hk
    · exact .of (.refl g) (fun w => by simp [Go.binOp, intBits_and]; rfl) (by rw [bitI_and]; exact .int _ _ _)
  case or =>
    obtain rfl := rok_some h
    rcases hk with hk | rfl
    · cases hk
    · exact .of (.refl g) (fun w => by simp [Go.binOp, intBits_or]; rfl) (by rw [bitI_or]; exact .int _ _ _)
  case xor =>
    obtain rfl := rok_some h
    rcases hk with hk | rfl
    · cases hk
    · exact .of (.refl g) (fun w => by simp [Go.binOp, intBits_xor]; rfl) (by rw [bitI_xor]; exact .int _ _ _)
  case andNot =>
    obtain rfl := rok_some h
    rcases hk with hk | rfl
    · cases hk
    · exact .of (.refl g) (fun w => by simp [Go.binOp, intBits_andNot]; rfl) (by rw [bitsM_eq]; exact .int _ _ _)
  case shl =>
    obtain ⟨g1, hp, hc, h⟩ := chk_some h
    obtain rfl := rok_some h
    refine ⟨hp, fun p w => ⟨_, ?_, .int _ _ _⟩⟩
    have := hc p
    have hb : ¬ b < 0 := by rw [ilt_eq] at this; simpa using this
    simp [Go.binOp, Op.shift, hb, wr_eq, pow2_eq]
  case shr =>
    obtain ⟨g1, hp, hc, h⟩ := chk_some h
    obtain rfl := rok_some h
    refine ⟨hp, fun p w => ⟨_, ?_, .int _ _ _⟩⟩
    have := hc p
    have hb : ¬ b < 0 := by rw [ilt_eq] at this; simpa using this
    simp [Go.binOp, Op.shift, hb, pow2_eq]
  case eql =>
    obtain rfl := rok_some h
    rcases hk with hk | rfl
    · cases hk
    · have e : (ieq a b) = (a == b) := by rw [ieq_eq]
      rw [e]
      exact .of (x := .bool ((a == b))) (.refl g) (fun w => by simp [Go.binOp, Op.intCmp]) (.bool _ _)
  case neq =>
    obtain rfl := rok_some h
    rcases hk with hk | rfl
    · cases hk
    · have e : (!(ieq a b)) = (a != b) := by simp only [ieq_eq, bne]
      rw [e]
      exact .of (x := .bool ((a != b))) (.refl g) (fun w => by simp [Go.binOp, Op.intCmp]) (.bool _ _)
  case lss =>
    obtain rfl := rok_some h
    rcases hk with hk | rfl
    · cases hk
    · have e : (ilt a b) = decide (a < b) := by rw [ilt_eq]
      rw [e]
      exact .of (x := .bool (decide (a < b))) (.refl g) (fun w => by simp [Go.binOp, Op.intCmp]) (.bool _ _)
  case leq =>
    obtain rfl := rok_some h
    rcases hk with hk | rfl
    · cases hk
    · have e : (!(ilt b a)) = decide (a ≤ b) := by rw [ilt_eq]; rw [Bool.eq_iff_iff]; simp
      rw [e]
      exact .of (x := .bool (decide (a ≤ b))) (.refl g) (fun w => by simp [Go.binOp, Op.intCmp]) (.bool _ _)
  case gtr =>
    obtain rfl := rok_some h
    rcases hk with hk | rfl
    · cases hk
    · have e : (ilt b a) = decide (a > b) := by simp only [ilt_eq, gt_iff_lt]
      rw [e]
      exact .of (x := .bool (decide (a > b))) (.refl g) (fun w => by simp [Go.binOp, Op.intCmp]) (.bool _ _)
  case geq =>
    obtain rfl := rok_some h
    rcases hk with hk | rfl
    · cases hk
    · have e : (!(ilt a b)) = decide (a ≥ b) := by rw [ilt_eq]; rw [Bool.eq_iff_iff]; simp
      rw [e]
      exact .of (x := .bool (decide (a ≥ b))) (.refl g) (fun w => by simp [Go.binOp, Op.intCmp]) (.bool _ _)
end
end Go.Proofs.YtkclgbccnbiojaaGreatDoor.SX

namespace Go.Proofs.YtkclgbccnbiojaaGreatDoor.SX
theorem bts_len (s : ByteArray) : (bts s).length = s.size := by simp [bts]
theorem bts_inj {a b : ByteArray} (h : bts a = bts b) : a.data.toList = b.data.toList := by
  have h2 : ∀ l m : List UInt8, l.map (fun x => x.toNat) = m.map (fun x => x.toNat) → l = m := by
    intro l
    induction l with
    | nil => intro m h; cases m with | nil => rfl | cons _ _ => simp at h
    | cons x l ih => intro m h; cases m with
      | nil => simp at h
      | cons y m =>
        simp only [List.map_cons, List.cons.injEq] at h
        rw [ih m h.2, UInt8.toNat_inj.1 h.1]
  exact h2 _ _ h
theorem sEq_iff (a b : List Nat) : sEq a b = true ↔ a = b := by
  induction a generalizing b with
  | nil => cases b with
    | nil => exact ⟨fun _ => rfl, fun _ => rfl⟩
    | cons y r => exact ⟨fun h => (by cases h), fun h => (by cases h)⟩
  | cons x r ih =>
    cases b with
    | nil => exact ⟨fun h => (by cases h), fun h => (by cases h)⟩
    | cons y q =>
      show (bif Nat.beq x y then sEq r q else false) = true ↔ _
      cases e : Nat.beq x y with
      | true =>
        have := Nat.eq_of_beq_eq_true e
        simp only [cond_true]
        rw [ih q]; simp [this]
      | false =>
        simp only [cond_false]
        refine ⟨fun h => (by cases h), fun h => ?_⟩
        injection h with h1 h2
        subst h1
        rw [Nat.beq_refl] at e; cases e
theorem sEq_bts (a b : ByteArray) : sEq (bts a) (bts b) = (a.toList == b.toList) := by
  rw [Bool.eq_iff_iff, sEq_iff, ByteArray.toList_eq, ByteArray.toList_eq, beq_iff_eq]
  exact ⟨bts_inj, fun h => by simp [bts, h]⟩
theorem bts_append (a b : ByteArray) : bts (a ++ b) = bts a ++ bts b := by simp [bts]
section
variable {P : Program} {T : Tab} {ρ : Rn} {D : Nat → Prop}
theorem VR.int_inv {s : Bool} {k : IntKind} {n : Int} {x : Value} (h : VR ρ D (.int s k n) x) : x = .int k n := by cases h; rfl
theorem VR.str_inv {s : Bool} {l : List Nat} {x : Value} (h : VR ρ D (.str s l) x) : ∃ b, x = .string b ∧ l = bts b := by cases h; exact ⟨_, rfl, rfl⟩
theorem VR.bool_inv {s b : Bool} {x : Value} (h : VR ρ D (.bool s b) x) : x = .bool b := by cases h; rfl
theorem VR.ptr_inv {b o : Nat} {x : Value} (h : VR ρ D (.ptr b o) x) : x = .pointer (some ⟨ρ.b b, o, none⟩) ∧ D b := by cases h; exact ⟨rfl, by assumption⟩
theorem VR.optr_inv {b sz i j : Nat} {x : Value} (h : VR ρ D (.optr b sz i j) x) : x = .pointer (some ⟨ρ.b b, ρ.c b + (i * sz + j), none⟩) ∧ D b := by cases h; exact ⟨rfl, by assumption⟩
theorem VR.osl_inv {b n : Nat} {x : Value} (h : VR ρ D (.osl b n) x) : ∃ as c, x = .slice as n c ∧ D b ∧ (0 < n → as = some ⟨ρ.b b, ρ.c b, none⟩) := by cases h with | osl b n as c h ha => exact ⟨as, c, rfl, h, ha⟩
theorem VR.rptr_inv {b sz i j : Nat} {x : Value} (h : VR ρ D (.rptr b sz i j) x) : x = .pointer (some ⟨ρ.b b, i * sz + j, none⟩) ∧ D b := by cases h; exact ⟨rfl, by assumption⟩
theorem VR.sl_inv {s : Bool} {b o n : Nat} {c : Cap} {x : Value} (h : VR ρ D (.sl s b o n c) x) : ∃ m, x = .slice (some ⟨ρ.b b, o, none⟩) n m ∧ D b ∧ n ≤ m ∧ (∀ k, c = .kn k → m = k) ∧ (∀ k, c = .un k → m = ρ.c b - k ∧ k ≤ ρ.c b) := by
  cases h with
  | slk s b o n c h hn => exact ⟨_, rfl, h, hn, fun k e => (by injection e), fun k e => (by cases e)⟩
  | slu s b o n k h hn => exact ⟨_, rfl, h, by omega, fun k e => (by cases e), fun k e => (by injection e with e; subst e; exact ⟨rfl, by omega⟩)⟩
theorem VR.nils_inv {x : Value} (h : VR ρ D .nils x) : x = .slice none 0 0 := by cases h; rfl
/-- the two sides of a comparison that needs no guard -/
def Plain (a b : Value) : Prop := (∀ op t x y w, (eqGuard op t x y a b).run P w = .ok () w)
theorem guard_plain {a b : Value} (h1 : ∀ (e : a = .nilIface), b ≠ .nilIface) (h2 : ∀ cs, a ≠ .agg cs) (op : BinOp) (t : Nat) (x y : Operand) (w : World) : (eqGuard op t x y a b).run P w = .ok () w := by
  unfold eqGuard
  cases op <;> simp <;> (cases a <;> cases b <;> first | rfl | (exact absurd rfl (h2 _)) | (exact absurd rfl (h1 rfl)))
theorem binEq_ok {op : BinOp} {s b : Bool} {g : G} {r : AV × G} {x y : Value} {t : Nat} (hx : ∀ w, (Op.equal t x y).run P w = .ok b w) (hb : ∀ e, Go.binOp .eql t x y = e → e = (do pure (.bool (← Op.equal t x y)))) (hn : ∀ e, Go.binOp .neq t x y = e → e = (do pure (.bool (!(← Op.equal t x y)))))
    (h : binEq op s b g = some r) : Gives P ρ D g r (Go.binOp op t x y) := by
  cases op <;> simp only [binEq, reduceCtorEq] at h
  · obtain rfl := rok_some h
    exact .of (x := .bool b) (.refl g) (fun w => by rw [hb _ rfl]; simp [hx w]) (.bool _ _)
  · obtain rfl := rok_some h
    exact .of (x := .bool (!b)) (.refl g) (fun w => by rw [hn _ rfl]; simp [hx w]) (.bool _ _)
theorem isK_some {t tag : Nat} {x : R AV} {r : AV × G} (hT : TabOk P T) (h : isK T t tag x = some r) : ∃ d, P.underlying t = some d ∧ (tkD d).tag = tag ∧ x = some r := by
  obtain ⟨i, hi, h⟩ := ti_some h
  obtain ⟨hb, hx⟩ := guardB_some h
  obtain ⟨info, z, d, h1, h2, h3, he⟩ := hT.ti t i hi
  subst he
  exact ⟨d, h3, Nat.eq_of_beq_eq_true hb, hx⟩
theorem tag_bool {d : TypeDesc} (h : (tkD d).tag = 1) : d = .bool := by cases d <;> simp [tkD, TK.tag] at h; rfl
theorem tag_ptr {d : TypeDesc} (h : (tkD d).tag = 2) : ∃ e, d = .pointer e := by cases d <;> simp [tkD, TK.tag] at h; exact ⟨_, rfl⟩
theorem tag_slice {d : TypeDesc} (h : (tkD d).tag = 3) : ∃ e, d = .slice e := by cases d <;> simp [tkD, TK.tag] at h; exact ⟨_, rfl⟩
theorem tag_iface {d : TypeDesc} (h : (tkD d).tag = 4) : ∃ e, d = .interface e := by cases d <;> simp [tkD, TK.tag] at h; exact ⟨_, rfl⟩
theorem tag_map {d : TypeDesc} (h : (tkD d).tag = 5) : ∃ k e, d = .map k e := by cases d <;> simp [tkD, TK.tag] at h; exact ⟨_, _, rfl⟩
theorem tag_func {d : TypeDesc} (h : (tkD d).tag = 6) : ∃ a b c, d = .func a b c := by cases d <;> simp [tkD, TK.tag] at h; exact ⟨_, _, _, rfl⟩
theorem tag_string {d : TypeDesc} (h : (tkD d).tag = 7) : d = .string := by cases d <;> simp [tkD, TK.tag] at h; rfl
theorem tag_int {d : TypeDesc} (h : (tkD d).tag = 8) : ∃ k, d = .int k := by cases d <;> simp [tkD, TK.tag] at h; exact ⟨_, rfl⟩
theorem equal_run {t : Nat} {d : TypeDesc} {x y : Value} {b : Bool} (hu : P.underlying t = some d) (h : ∀ w, (Op.equalIn 10000 t x y).run P w = .ok b w) (w : World) : (Op.equal t x y).run P w = .ok b w := h w
/-- nil against a value of its kind, by the model -/
inductive NilSide : Nat → Value → Value → Bool → Prop
  | ptr (y : Option Addr) : NilSide 2 (.pointer none) (.pointer y) y.isNone
  | ptr' (a : Addr) : NilSide 2 (.pointer (some a)) (.pointer none) false
  | sl (y : Option Addr) (n c : Nat) : NilSide 3 (.slice none 0 0) (.slice y n c) y.isNone
  | sl' (a : Addr) (n c : Nat) : NilSide 3 (.slice (some a) n c) (.slice none 0 0) false
  | if_ (t : TypeId) (v : Value) : NilSide 4 .nilIface (.iface t v) false
  | if0 : NilSide 4 .nilIface .nilIface true
  | if' (t : TypeId) (v : Value) : NilSide 4 (.iface t v) .nilIface false
  | mp (y : Option Nat) : NilSide 5 (.map none) (.map y) y.isNone
  | mp' (r : Nat) : NilSide 5 (.map (some r)) (.map none) false
  | fn (f : Fn) (a b : Array Value) : NilSide 6 .nilFunc (.func f a b) false
  | fn0 : NilSide 6 .nilFunc .nilFunc true
  | fn' (f : Fn) (a b : Array Value) : NilSide 6 (.func f a b) .nilFunc false
theorem NilSide.runIn {t tag : Nat} {d : TypeDesc} {x y : Value} {b : Bool} (h : NilSide tag x y b) (hu : P.underlying t = some d) (hd : (tkD d).tag = tag) (n : Nat) (w : World) : (Op.equalIn (n + 1) t x y).run P w = .ok b w := by
  cases h <;> simp only [Op.equalIn, Sem.run_bind, run_underlying hu, Result.andThen_ok]
  case ptr y => obtain ⟨e, rfl⟩ := tag_ptr hd; rfl
  case ptr' a => obtain ⟨e, rfl⟩ := tag_ptr hd; rfl
  case sl y n c => obtain ⟨e, rfl⟩ := tag_slice hd; rfl
  case sl' a n c => obtain ⟨e, rfl⟩ := tag_slice hd; rfl
  case if_ => obtain ⟨e, rfl⟩ := tag_iface hd; rfl
  case if0 => obtain ⟨e, rfl⟩ := tag_iface hd; rfl
  case if' => obtain ⟨e, rfl⟩ := tag_iface hd; rfl
  case mp => obtain ⟨k, e, rfl⟩ := tag_map hd; rfl
  case mp' => obtain ⟨k, e, rfl⟩ := tag_map hd; rfl
  case fn => obtain ⟨a, b, c, rfl⟩ := tag_func hd; rfl
  case fn0 => obtain ⟨a, b, c, rfl⟩ := tag_func hd; rfl
  case fn' => obtain ⟨a, b, c, rfl⟩ := tag_func hd; rfl
theorem NilSide.run {t tag : Nat} {d : TypeDesc} {x y : Value} {b : Bool} (h : NilSide tag x y b) (hu : P.underlying t = some d) (hd : (tkD d).tag = tag) (w : World) : (Op.equal t x y).run P w = .ok b w := h.runIn hu hd 9999 w
theorem nil_ok {op : BinOp} {t tag : Nat} {d : TypeDesc} {x y : Value} {s b : Bool} {g : G} {r : AV × G} (hs : NilSide tag x y b) (hu : P.underlying t = some d) (hd : (tkD d).tag = tag) (h : binEq op s b g = some r) : Gives P ρ D g r (Go.binOp op t x y) := by
  refine binEq_ok (hs.run hu hd) ?_ ?_ h <;> (intro e he; cases hs <;> exact he.symm)
end
end Go.Proofs.YtkclgbccnbiojaaGreatDoor.SX

namespace Go.Proofs.YtkclgbccnbiojaaGreatDoor.SX
section
variable {P : Program} {T : Tab} {ρ : Rn} {D : Nat → Prop}
theorem Gives.guarded {g : G} {r : AV × G} {op : BinOp} {t : Nat} {X Y : Operand} {a b : Value} (hg : ∀ w, (eqGuard op t X Y a b).run P w = .ok () w) (h : Gives P ρ D g r (Go.binOp op t a b)) : Gives P ρ D g r (do eqGuard op t X Y a b; Go.binOp op t a b) :=
  ⟨h.1, fun p w => by
    obtain ⟨x, hx, hv⟩ := h.2 p w
    exact ⟨x, by simp only [Sem.run_bind, hg w, Result.andThen_ok, hx], hv⟩⟩
theorem guard_nilIface {X Y : Operand} (hc : isConst X = true ∨ isConst Y = true) (op : BinOp) (t : Nat) (w : World) : (eqGuard op t X Y .nilIface .nilIface).run P w = .ok () w := by
  cases X <;> cases Y <;> first | (exfalso; rcases hc with hc | hc <;> (cases hc; done)) | (cases op <;> simp [eqGuard])
theorem binStr_ok {op : BinOp} {s s' : Bool} {a b : ByteArray} {g : G} {r : AV × G} (t : Nat) (h : binStr op s s' (bts a) (bts b) g = some r) : Gives P ρ D g r (Go.binOp op t (.string a) (.string b)) := by
  cases op <;> simp only [binStr, reduceCtorEq] at h
  · obtain ⟨g1, hp, hc, h⟩ := chk_some h
    obtain rfl := rok_some h
    refine ⟨hp, fun p w => ⟨.string (a ++ b), ?_, by rw [← bts_append]; exact .str _ _⟩⟩
    have := ble_iff.1 (hc p)
    rw [bts_len, bts_len] at this
    have hm : ¬ (((a.size + b.size : Nat) : Int) > IntKind.i64.max) := by
      have e : IntKind.i64.max = 9223372036854775807 := by decide
      rw [e]; omega
    simp only [Go.binOp, Op.stringOp]
    rw [if_neg hm]; rfl
  · obtain rfl := rok_some h
    rw [sEq_bts]
    exact .of (x := .bool (a.toList == b.toList)) (.refl g) (fun w => rfl) (.bool _ _)
  · obtain rfl := rok_some h
    rw [sEq_bts]
    exact .of (x := .bool (!(a.toList == b.toList))) (.refl g) (fun w => rfl) (.bool _ _)
theorem Nil_yes {f : AV → Nil} (y : AV) : True := trivial
theorem bin_ok (hT : TabOk P T) {op : BinOp} {t : Nat} {c : Bool} {x y : AV} {g : G} {r : AV × G} {a b : Value} {X Y : Operand} (hc : c = true → isConst X = true ∨ isConst Y = true)
    (hx : VR ρ D x a) (hy : VR ρ D y b) (h : bin T op t c x y g = some r) : Gives P ρ D g r (do eqGuard op t X Y a b; Go.binOp op t a b) := by
  cases hx with
  | int s k n =>
    obtain ⟨s', k', m, rfl, h⟩ := intOf_some h
    obtain ⟨hb, h⟩ := guardB_some h
    obtain rfl := hy.int_inv
    refine .guarded (guard_plain (fun e => by cases e) (fun cs e => by cases e) op t X Y) (binInt_ok t ?_ h)
    cases hs : isShift op with
    | true => exact .inl rfl
    | false => rw [hs] at hb; exact .inr (kindEq_iff.1 (by simpa using hb))
  | str s l =>
    obtain ⟨s', m, rfl, h⟩ := strOf_some h
    obtain ⟨b2, rfl, rfl⟩ := hy.str_inv
    exact .guarded (guard_plain (fun e => by cases e) (fun cs e => by cases e) op t X Y) (binStr_ok t h)
  | bool s b1 =>
    obtain ⟨s', b2, rfl, h⟩ := boolOf_some h
    obtain rfl := hy.bool_inv
    obtain ⟨d, hu, hd, h⟩ := isK_some hT h
    obtain rfl := tag_bool hd
    refine .guarded (guard_plain (fun e => by cases e) (fun cs e => by cases e) op t X Y) (binEq_ok (t := t) (fun w => run_equalIn_bool' w 9999 t b1 b2 hu) (fun e he => he.symm) (fun e he => he.symm) h)
  | nilp =>
    obtain ⟨d, hu, hd, h⟩ := isK_some hT h
    refine .guarded (guard_plain (fun e => by cases e) (fun cs e => by cases e) op t X Y) ?_
    cases hy <;> first | cases h | exact nil_ok (.ptr _) hu hd h
  | ptr b1 o1 h1 =>
    obtain ⟨d, hu, hd, h⟩ := isK_some hT h
    refine .guarded (guard_plain (fun e => by cases e) (fun cs e => by cases e) op t X Y) ?_
    cases hy <;> first | cases h | exact nil_ok (.ptr' _) hu hd h
  | rptr b1 sz i j h1 =>
    obtain ⟨d, hu, hd, h⟩ := isK_some hT h
    refine .guarded (guard_plain (fun e => by cases e) (fun cs e => by cases e) op t X Y) ?_
    cases hy <;> first | cases h | exact nil_ok (.ptr' _) hu hd h
  | nils =>
    obtain ⟨d, hu, hd, h⟩ := isK_some hT h
    refine .guarded (guard_plain (fun e => by cases e) (fun cs e => by cases e) op t X Y) ?_
    cases hy <;> first | cases h | exact nil_ok (.sl _ _ _) hu hd h
  | slk s b1 o1 n c1 h1 hn =>
    obtain ⟨d, hu, hd, h⟩ := isK_some hT h
    refine .guarded (guard_plain (fun e => by cases e) (fun cs e => by cases e) op t X Y) ?_
    cases hy <;> first | cases h | exact nil_ok (.sl' _ _ _) hu hd h
  | slu s b1 o1 n c1 h1 hn =>
    obtain ⟨d, hu, hd, h⟩ := isK_some hT h
    refine .guarded (guard_plain (fun e => by cases e) (fun cs e => by cases e) op t X Y) ?_
    cases hy <;> first | cases h | exact nil_ok (.sl' _ _ _) hu hd h
  | nili =>
    obtain ⟨d, hu, hd, h⟩ := isK_some hT h
    obtain ⟨hcc, h⟩ := guardB_some h
    cases hy with
    | nili => exact .guarded (guard_nilIface (hc hcc) op t) (nil_ok .if0 hu hd h)
    | ifc t2 v2 x2 h2 => exact .guarded (guard_plain (fun _ e => by cases e) (fun cs e => by cases e) op t X Y) (nil_ok (.if_ _ _) hu hd h)
    | _ => cases h
  | ifc t1 v1 x1 h1 =>
    obtain ⟨d, hu, hd, h⟩ := isK_some hT h
    refine .guarded (guard_plain (fun e => by cases e) (fun cs e => by cases e) op t X Y) ?_
    cases hy <;> first | cases h | exact nil_ok (.if' _ _) hu hd h
  | nilm =>
    obtain ⟨d, hu, hd, h⟩ := isK_some hT h
    refine .guarded (guard_plain (fun e => by cases e) (fun cs e => by cases e) op t X Y) ?_
    cases hy <;> first | cases h | exact nil_ok (.mp _) hu hd h
  | mp b1 h1 =>
    obtain ⟨d, hu, hd, h⟩ := isK_some hT h
    refine .guarded (guard_plain (fun e => by cases e) (fun cs e => by cases e) op t X Y) ?_
    cases hy <;> first | cases h | exact nil_ok (.mp' _) hu hd h
  | nilf =>
    obtain ⟨d, hu, hd, h⟩ := isK_some hT h
    refine .guarded (guard_plain (fun e => by cases e) (fun cs e => by cases e) op t X Y) ?_
    cases hy <;> first | cases h | exact nil_ok .fn0 hu hd h | exact nil_ok (.fn _ _ _) hu hd h
  | fn f xs ys as bs l1 h1 l2 h2 =>
    obtain ⟨d, hu, hd, h⟩ := isK_some hT h
    refine .guarded (guard_plain (fun e => by cases e) (fun cs e => by cases e) op t X Y) ?_
    cases hy <;> first | cases h | exact nil_ok (.fn' _ _ _) hu hd h
  | bad => cases h
  | und => cases h
  | agg => cases h
  | tup => cases h
  | osl => cases h
  | optr => cases h
  | unk => cases h
theorem un_ok {op : UnOp} {x : AV} {a : Value} {g : G} {r : AV × G} (hx : VR ρ D x a) (h : un op x g = some r) : Gives P ρ D g r (Op.unary op a) := by
  cases op <;> simp only [un, reduceCtorEq] at h
  case neg =>
    obtain ⟨s, k, n, rfl, h⟩ := intOf_some h
    obtain rfl := hx.int_inv
    obtain rfl := rok_some h
    rw [wr_eq]
    exact .of (x := .int k (k.wrap (0 - n))) (.refl g) (fun w => rfl) (.int _ _ _)
  case xor =>
    obtain ⟨s, k, n, rfl, h⟩ := intOf_some h
    obtain rfl := hx.int_inv
    obtain rfl := rok_some h
    rw [xorM_eq]
    exact .of (x := .int k (bits .xor k (if k.signed then -1 else k.max) n)) (.refl g) (fun w => rfl) (.int _ _ _)
  case not =>
    unfold unNot at h
    split at h
    · obtain rfl := hx.bool_inv
      obtain rfl := rok_some h
      exact .of (.refl g) (fun w => by simp [Op.unary]) (.bool _ _)
    · cases h
end
end Go.Proofs.YtkclgbccnbiojaaGreatDoor.SX
