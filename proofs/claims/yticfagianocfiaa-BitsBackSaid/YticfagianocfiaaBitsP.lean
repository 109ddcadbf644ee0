import Derived.Test.YticfagianocfiaaSx6
import Derived.Test.YticfagianocfiaaRows
import Derived.KernelRfl
set_option linter.unusedVariables false
set_option linter.unusedSimpArgs false
namespace Go.Proofs.Yticfagianocfiaa.SX
open Go.Proofs Go.Proofs.Yticfagianocfiaa Go.RowKit
noncomputable def bT : Tab := tabOf Try.prog 76
theorem bT_ok : TabOk Try.prog bT := tabOf_ok (by omega) (by kernel_rfl)
theorem bM : Try.prog.follows .mixedOrders = true := by kernel_rfl
noncomputable def bodyOf (f : Nat) : Code := match Try.prog.funcs[f]? with | some fn => (match fn.body with | some c => c | none => .skip) | none => .skip
def c1 : Code → Code | .seq a _ => a | .cond _ a _ => a | .block _ c => c | .loop c => c | c => c
def c2 : Code → Code | .seq _ b => b | .cond _ _ b => b | c => c
noncomputable def noP : CallT := fun _ _ _ _ => none
noncomputable def bC : CallT := callN bT noP 1000 20
theorem bC_ok : CallOk Try.prog bC := sx_ok bT_ok bM none_ok 1000 20
open Go.Proofs Go.Proofs.Yticfagianocfiaa Go.RowKit
set_option maxRecDepth 1000000
/-! Writer.Put -/
noncomputable def L16 : Code := c1 (c1 (c1 (c2 (c2 (bodyOf 16)))))
noncomputable def al (a : Int) : Int := bitI .and Nat.land .i64 a 7
noncomputable def rm (a n : Int) : Int := bif ilt n (wr .i64 (Int.sub 8 (al a))) then n else wr .i64 (Int.sub 8 (al a))
noncomputable def q8 (a : Int) : Int := wr .i64 (a.tdiv 8)
noncomputable def ix (a : Int) : Nat := 0 + (q8 a).toNat
noncomputable def nb (old a v n : Int) : Int := bitI .or Nat.lor .u8 old (wr .u8 ((wr .u8 (bitI .and Nat.land .u32 v (wr .u32 ((wr .u32 (Int.mul 1 (pow2 (rm a n) 32))).sub 1)))).mul (pow2 (al a) 8)))
noncomputable def vr (v a n : Int) : Int := v.fdiv (pow2 (rm a n) 32)
noncomputable def nr (a n : Int) : Int := wr .i64 (n.sub (rm a n))
noncomputable def ar (a n : Int) : Int := wr .i64 (a.add (rm a n))
noncomputable def hW (a : AV) (s : AV) : Nat × Option AObj := (1000, some (.cells 39 [a, s] false))
noncomputable def hX (xs : List Int) : Nat × Option AObj := (1001, some (.nums 5 .u8 xs true))
noncomputable def GB (at_ : Int) (xs : List Int) (l : Nat) (pc : Prop) (ch : List Bool) : G := ⟨mkH [hW (.int true .i64 at_) (.sl true 1001 0 l (.un 0)), hX xs], 1002, pc, ch⟩
noncomputable def GA (pc : Prop) (ch : List Bool) : G := ⟨mkH [hW (.int false .i64 0) .nils], 1001, pc, ch⟩
noncomputable def e16 (v n : Int) : Tr AV := mkEnv 95 [(0, .ptr 1000 0), (1, .int true .u32 v), (2, .int true .i64 n)]
noncomputable def sB (at_ v n : Int) (xs : List Int) (l : Nat) (pc : Prop) (ch : List Bool) : St := ⟨e16 v n, GB at_ xs l pc ch, [], .no, []⟩
noncomputable def sA (v n : Int) (pc : Prop) (ch : List Bool) : St := ⟨e16 v n, GA pc ch, [], .no, []⟩
def m1 : List Mv := [⟨1000, 1000, false⟩]
def m2 (k : Nat) : List Mv := [⟨1000, 1000, false⟩, ⟨k, 1001, true⟩]
def m2n (k : Nat) : List Mv := [⟨1000, 1000, false⟩, ⟨k, 1001, false⟩]
theorem put_a0 (v n : Int) : wkX 95 [0, 1, 2] m1 1001 (exec L16 bT bC 1000 (sA v n True [false])) = some (.exit 0, sA v n (ilt 0 n = false ∧ True) []) := by kernel_rfl
theorem put_a1 (v n : Int) : wkX 95 [0, 1, 2] (m2 1002) 1002 (exec L16 bT bC 1000 (sA v n True [true])) = some (.normal, sB (ar 0 n) (vr v 0 n) (nr 0 n) [nb 0 0 v n] 1 ((!ilt (rm 0 n) 0) = true ∧ (!ilt (rm 0 n) 0) = true ∧ ilt 0 n = true ∧ True) []) := by kernel_rfl
theorem put_b0 (at_ v n : Int) (xs : List Int) (l : Nat) : wkX 95 [0, 1, 2] (m2n 1001) 1002 (exec L16 bT bC 1000 (sB at_ v n xs l True [false])) = some (.exit 0, sB at_ v n xs l (ilt 0 n = false ∧ True) []) := by kernel_rfl
theorem put_b1 (at_ v n : Int) (xs : List Int) (l : Nat) : wkX 95 [0, 1, 2] (m2n 1001) 1002 (exec L16 bT bC 1000 (sB at_ v n xs l True [true, false])) = some (.normal, sB (ar at_ n) (vr v at_ n) (nr at_ n) (xs.set (ix at_) (nb (xs.getD (ix at_) 0) at_ v n)) l
    ((!ilt (rm at_ n) 0) = true ∧ (ix at_).blt xs.length = true ∧ inB (q8 at_) l = true ∧ (!ilt (al at_) 0) = true ∧ (!ilt (rm at_ n) 0) = true ∧ (ix at_).blt xs.length = true ∧ inB (q8 at_) l = true ∧ ieq (al at_) 0 = false ∧ ilt 0 n = true ∧ True) []) := by kernel_rfl
theorem put_b2 (at_ v n : Int) (xs : List Int) (l : Nat) : wkX 95 [0, 1, 2] (m2n 1003) 1002 (exec L16 bT bC 1000 (sB at_ v n xs l True [true, true, false])) = some (.normal, sB (ar at_ n) (vr v at_ n) (nr at_ n) ((xs ++ [0]).set (ix at_) (nb ((xs ++ [0]).getD (ix at_) 0) at_ v n)) (l + 1)
    ((!ilt (rm at_ n) 0) = true ∧ (ix at_).blt (xs ++ [0]).length = true ∧ inB (q8 at_) (l + 1) = true ∧ (!ilt (al at_) 0) = true ∧ (!ilt (rm at_ n) 0) = true ∧ (ix at_).blt (xs ++ [0]).length = true ∧ inB (q8 at_) (l + 1) = true ∧ (((l + 1) * 1).ble 140737488355328 && (l + 1).ble 140737488355328) = true ∧ xs.length.beq l = true ∧ Nat.beq 1 0 = false ∧ ieq (al at_) 0 = true ∧ ilt 0 n = true ∧ True) []) := by kernel_rfl
theorem wr_u8 {x : Int} (h0 : 0 ≤ x) (h1 : x < 256) : wr .u8 x = x := by rw [wr_eq, IntKind.wrap_u8]; omega
theorem wr_u32 {x : Int} (h0 : 0 ≤ x) (h1 : x < 4294967296) : wr .u32 x = x := by rw [wr_eq, IntKind.wrap_u32]; omega
theorem wr_u64 {x : Int} (h0 : 0 ≤ x) (h1 : x < 18446744073709551616) : wr .u64 x = x := by rw [wr_eq]; show x % 2 ^ 64 = x; omega
theorem wr_i64 {x : Int} (h0 : -9223372036854775808 ≤ x) (h1 : x < 9223372036854775808) : wr .i64 x = x := by rw [wr_eq, IntKind.wrap_i64]; omega
theorem land_i64 (a b : Nat) (hb : b < 2 ^ 63) : bitI .and Nat.land .i64 (a : Int) (b : Int) = ((a &&& b : Nat) : Int) := by
  show wr .i64 (Int.ofNat (a &&& b)) = _
  have : a &&& b ≤ b := Nat.and_le_right
  exact wr_i64 (x := ((a &&& b : Nat) : Int)) (by omega) (by omega)
theorem land_u32 (a b : Nat) (hb : b < 2 ^ 32) : bitI .and Nat.land .u32 (a : Int) (b : Int) = ((a &&& b : Nat) : Int) := by
  show wr .u32 (Int.ofNat (a &&& b)) = _
  have : a &&& b ≤ b := Nat.and_le_right
  exact wr_u32 (x := ((a &&& b : Nat) : Int)) (by omega) (by omega)
theorem land_u64 (a b : Nat) (hb : b < 2 ^ 64) : bitI .and Nat.land .u64 (a : Int) (b : Int) = ((a &&& b : Nat) : Int) := by
  show wr .u64 (Int.ofNat (a &&& b)) = _
  have : a &&& b ≤ b := Nat.and_le_right
  exact wr_u64 (x := ((a &&& b : Nat) : Int)) (by omega) (by omega)
theorem lor_u8 (a b : Nat) (ha : a < 2 ^ 8) (hb : b < 2 ^ 8) : bitI .or Nat.lor .u8 (a : Int) (b : Int) = ((a ||| b : Nat) : Int) := by
  show wr .u8 (Int.ofNat (a ||| b)) = _
  have := Nat.or_lt_two_pow ha hb
  exact wr_u8 (x := ((a ||| b : Nat) : Int)) (by omega) (by omega)
theorem lor_u64 (a b : Nat) (ha : a < 2 ^ 64) (hb : b < 2 ^ 64) : bitI .or Nat.lor .u64 (a : Int) (b : Int) = ((a ||| b : Nat) : Int) := by
  show wr .u64 (Int.ofNat (a ||| b)) = _
  have := Nat.or_lt_two_pow ha hb
  exact wr_u64 (x := ((a ||| b : Nat) : Int)) (by omega) (by omega)
theorem pow2_nat (n m : Nat) (h : n ≤ m) : pow2 (n : Int) m = ((2 ^ n : Nat) : Int) := by
  rw [pow2_eq]
  have : min ((n : Int).toNat) m = n := by simp; omega
  rw [this]; push_cast; rfl
theorem fdiv_nat (a b : Nat) : Int.fdiv (a : Int) (b : Int) = ((a / b : Nat) : Int) := by
  rw [Int.fdiv_eq_ediv_of_nonneg _ (by omega)]; push_cast; rfl
theorem tdiv_nat (a b : Nat) : Int.tdiv (a : Int) (b : Int) = ((a / b : Nat) : Int) := rfl
theorem tmod_nat (a b : Nat) : Int.tmod (a : Int) (b : Int) = ((a % b : Nat) : Int) := rfl
theorem ilt_t {a b : Int} (h : a < b) : ilt a b = true := by rw [ilt_eq]; simpa using h
theorem ilt_f {a b : Int} (h : b ≤ a) : ilt a b = false := by rw [ilt_eq]; simp; omega
theorem ieq_t {a b : Int} (h : a = b) : ieq a b = true := by rw [ieq_eq]; simpa using h
theorem ieq_f {a b : Int} (h : a ≠ b) : ieq a b = false := by rw [ieq_eq]; simpa using h
theorem nilt_t {a b : Int} (h : b ≤ a) : (!ilt a b) = true := by rw [ilt_f h]; rfl
theorem blt_t {a b : Nat} (h : a < b) : a.blt b = true := blt_iff.2 h
theorem ble_t {a b : Nat} (h : a ≤ b) : a.ble b = true := ble_iff.2 h
theorem inB_t {a : Int} {n : Nat} (h0 : 0 ≤ a) (h : a < n) : inB a n = true := by
  unfold inB
  rw [nilt_t h0]
  simpa using ilt_t h
/-! the steps of Put -/
def rN (a n : Nat) : Nat := min n (8 - a % 8)
theorem al_nat (a : Nat) : al (a : Int) = ((a % 8 : Nat) : Int) := by
  unfold al
  have := land_i64 a 7 (by omega)
  rw [show ((7 : Nat) : Int) = 7 from rfl] at this
  rw [this, show a &&& 7 = a % 8 from Nat.and_two_pow_sub_one_eq_mod a 3]
theorem rm_nat (a n : Nat) : rm (a : Int) (n : Int) = ((rN a n : Nat) : Int) := by
  unfold rm rN
  rw [al_nat]
  have h8 : a % 8 < 8 := Nat.mod_lt _ (by omega)
  have e : wr .i64 (Int.sub 8 ((a % 8 : Nat) : Int)) = ((8 - a % 8 : Nat) : Int) := by
    show wr .i64 (8 - ((a % 8 : Nat) : Int)) = _
    rw [wr_i64 (by omega) (by omega)]; omega
  rw [e]
  by_cases h : n < 8 - a % 8
  · rw [ilt_t (by omega), cond_true]; congr 1; omega
  · rw [ilt_f (by omega), cond_false]; congr 1; omega
theorem q8_nat (a : Nat) (h : a < 2 ^ 62) : q8 (a : Int) = ((a / 8 : Nat) : Int) := by
  unfold q8
  rw [show Int.tdiv (a : Int) 8 = ((a / 8 : Nat) : Int) from rfl, wr_i64 (by omega) (by omega)]
theorem ix_nat (a : Nat) (h : a < 2 ^ 62) : ix (a : Int) = a / 8 := by
  unfold ix; rw [q8_nat a h, Nat.zero_add]; exact Int.toNat_natCast _
theorem rN_le (a n : Nat) : rN a n ≤ n ∧ rN a n ≤ 8 ∧ rN a n + a % 8 ≤ 8 := by unfold rN; omega
theorem vr_nat (v a n : Nat) : vr (v : Int) (a : Int) (n : Int) = ((v / 2 ^ rN a n : Nat) : Int) := by
  unfold vr
  rw [rm_nat, pow2_nat _ _ (by have := rN_le a n; omega), fdiv_nat]
theorem nr_nat (a n : Nat) (h : n ≤ 32) : nr (a : Int) (n : Int) = ((n - rN a n : Nat) : Int) := by
  unfold nr
  rw [rm_nat]
  have := rN_le a n
  show wr .i64 ((n : Int) - (rN a n : Int)) = _
  rw [wr_i64 (by omega) (by omega)]; omega
theorem ar_nat (a n : Nat) (h : a < 2 ^ 62) : ar (a : Int) (n : Int) = ((a + rN a n : Nat) : Int) := by
  unfold ar
  rw [rm_nat]
  have := rN_le a n
  show wr .i64 ((a : Int) + (rN a n : Int)) = _
  rw [wr_i64 (by omega) (by omega)]; omega
theorem nb_nat (old a v n : Nat) (ho : old < 256) (hv : v < 2 ^ 32) : nb (old : Int) (a : Int) (v : Int) (n : Int) = ((old ||| (v % 2 ^ rN a n) * 2 ^ (a % 8) : Nat) : Int) := by
  unfold nb
  obtain ⟨h1, h2, h3⟩ := rN_le a n
  rw [rm_nat, al_nat, pow2_nat _ 32 (by omega), pow2_nat _ 8 (by omega)]
  generalize hr : rN a n = r at *
  generalize hs : a % 8 = s at *
  have p1 : 2 ^ r ≤ 2 ^ 8 := Nat.pow_le_pow_right (by omega) h2
  have p0 : 0 < 2 ^ r := Nat.two_pow_pos r
  have p2 : 2 ^ r * 2 ^ s ≤ 2 ^ 8 := by rw [← Nat.pow_add]; exact Nat.pow_le_pow_right (by omega) h3
  have hm : v % 2 ^ r < 2 ^ r := Nat.mod_lt _ p0
  have hx : (v % 2 ^ r) * 2 ^ s < 256 := Nat.lt_of_lt_of_le (Nat.mul_lt_mul_of_pos_right hm (Nat.two_pow_pos s)) p2
  have e1 : wr .u32 (Int.mul 1 ((2 ^ r : Nat) : Int)) = ((2 ^ r : Nat) : Int) := by
    show wr .u32 (1 * ((2 ^ r : Nat) : Int)) = _
    rw [Int.one_mul, wr_u32 (by omega) (by omega)]
  have e2 : wr .u32 (Int.sub ((2 ^ r : Nat) : Int) 1) = ((2 ^ r - 1 : Nat) : Int) := by
    show wr .u32 (((2 ^ r : Nat) : Int) - 1) = _
    rw [wr_u32 (by omega) (by omega)]; omega
  rw [e1, e2, land_u32 v _ (by omega), Nat.and_two_pow_sub_one_eq_mod]
  have e4 : wr .u8 ((v % 2 ^ r : Nat) : Int) = ((v % 2 ^ r : Nat) : Int) := wr_u8 (by omega) (by omega)
  rw [e4]
  have e3 : wr .u8 (Int.mul ((v % 2 ^ r : Nat) : Int) ((2 ^ s : Nat) : Int)) = (((v % 2 ^ r) * 2 ^ s : Nat) : Int) := by
    show wr .u8 (((v % 2 ^ r : Nat) : Int) * ((2 ^ s : Nat) : Int)) = _
    rw [show ((v % 2 ^ r : Nat) : Int) * ((2 ^ s : Nat) : Int) = (((v % 2 ^ r) * 2 ^ s : Nat) : Int) from by push_cast; rfl, wr_u8 (by omega) (by omega)]
  rw [e3, lor_u8 _ _ (by omega) (by omega)]
def bytes (k B : Nat) : List Int := (List.range k).map fun i => ((B / 2 ^ (8 * i) % 256 : Nat) : Int)
/-- so many bits of a number, in bytes -/
def enc (a B : Nat) : List Int := bytes ((a + 7) / 8) B
theorem bytes_length (k B : Nat) : (bytes k B).length = k := by simp [bytes]
theorem bytes_get (k B i : Nat) (h : i < (bytes k B).length) : (bytes k B)[i] = ((B / 2 ^ (8 * i) % 256 : Nat) : Int) := by simp [bytes]
theorem bytes_getD (k B i : Nat) (h : i < k) : (bytes k B).getD i 0 = ((B / 2 ^ (8 * i) % 256 : Nat) : Int) := by
  rw [List.getD_eq_getElem?_getD, List.getElem?_eq_getElem (by rw [bytes_length]; exact h), Option.getD_some, bytes_get]
theorem or_add (a b i : Nat) (ha : a < 2 ^ i) : a ||| b * 2 ^ i = a + b * 2 ^ i := by
  rw [Nat.or_comm, ← Nat.shiftLeft_eq, ← Nat.shiftLeft_add_eq_or_of_lt ha, Nat.shiftLeft_eq, Nat.add_comm]
theorem up_div (B x a j : Nat) (h : j ≤ a) : (B + x * 2 ^ a) / 2 ^ j = B / 2 ^ j + x * 2 ^ (a - j) := by
  have e : 2 ^ a = 2 ^ (a - j) * 2 ^ j := by rw [← Nat.pow_add]; congr 1; omega
  rw [e, ← Nat.mul_assoc, Nat.add_mul_div_right _ _ (Nat.two_pow_pos j)]
theorem bytes_set (a B x r : Nat) (hB : B < 2 ^ a) (hx : x < 2 ^ r) (hr : r + a % 8 ≤ 8) : (bytes (a / 8 + 1) B).set (a / 8) ((B / 2 ^ (8 * (a / 8)) % 256 ||| x * 2 ^ (a % 8) : Nat) : Int) = bytes (a / 8 + 1) (B + x * 2 ^ a) := by
  apply List.ext_getElem
  · rw [List.length_set, bytes_length, bytes_length]
  · intro i h1 h2
    rw [List.length_set, bytes_length] at h1
    rw [List.getElem_set, bytes_get, bytes_get]
    by_cases hi : a / 8 = i
    · rw [if_pos hi]
      subst hi
      have hs : a - 8 * (a / 8) = a % 8 := by omega
      rw [up_div _ _ _ _ (by omega), hs]
      have hb : B / 2 ^ (8 * (a / 8)) < 2 ^ (a % 8) := by
        rw [Nat.div_lt_iff_lt_mul (Nat.two_pow_pos _), ← Nat.pow_add]
        rw [show a % 8 + 8 * (a / 8) = a from by omega]; exact hB
      have h8 : 2 ^ (a % 8) ≤ 2 ^ 8 := Nat.pow_le_pow_right (by omega) (by omega)
      have hsum : B / 2 ^ (8 * (a / 8)) + x * 2 ^ (a % 8) < 256 := by
        have e1 : (x + 1) * 2 ^ (a % 8) ≤ 2 ^ r * 2 ^ (a % 8) := Nat.mul_le_mul_right _ hx
        have e2 : 2 ^ r * 2 ^ (a % 8) ≤ 2 ^ 8 := by rw [← Nat.pow_add]; exact Nat.pow_le_pow_right (by omega) hr
        rw [Nat.add_mul, Nat.one_mul] at e1
        omega
      rw [Nat.mod_eq_of_lt (by omega), or_add _ _ _ hb, Nat.mod_eq_of_lt hsum]
    · rw [if_neg hi]
      congr 1
      have hlt : i < a / 8 := by omega
      rw [up_div _ _ _ _ (by omega)]
      have e : 2 ^ (a - 8 * i) = 2 ^ (a - 8 * i - 8) * 256 := by
        rw [show (256 : Nat) = 2 ^ 8 from rfl, ← Nat.pow_add]; congr 1; omega
      rw [e, ← Nat.mul_assoc, Nat.add_mul_mod_self_right]
theorem enc_al (a B : Nat) (h : a % 8 = 0) (hB : B < 2 ^ a) : enc a B ++ [0] = bytes (a / 8 + 1) B := by
  have e : (a + 7) / 8 = a / 8 := by omega
  unfold enc bytes
  rw [e, List.range_succ, List.map_append]
  congr 1
  have : B / 2 ^ (8 * (a / 8)) = 0 := by
    rw [show 8 * (a / 8) = a from by omega]
    exact Nat.div_eq_of_lt hB
  show [(0 : Int)] = [((B / 2 ^ (8 * (a / 8)) % 256 : Nat) : Int)]
  rw [this]
  rfl
theorem enc_un (a B : Nat) (h : a % 8 ≠ 0) : enc a B = bytes (a / 8 + 1) B := by
  have e : (a + 7) / 8 = a / 8 + 1 := by omega
  unfold enc
  rw [e]
theorem enc_nx (a B x r : Nat) (h0 : 0 < r) (hr : r + a % 8 ≤ 8) : enc (a + r) (B + x * 2 ^ a) = bytes (a / 8 + 1) (B + x * 2 ^ a) := by
  have e : (a + r + 7) / 8 = a / 8 + 1 := by omega
  unfold enc
  rw [e]
theorem enc_length (a B : Nat) : (enc a B).length = (a + 7) / 8 := bytes_length _ _
/-- a round of Put -/
theorem put_al (a B v n : Nat) (h : a % 8 = 0) (hB : B < 2 ^ a) (hv : v < 2 ^ 32) (hn : 0 < n) (ha : a < 2 ^ 62) : (enc a B ++ [0]).set (ix (a : Int)) (nb ((enc a B ++ [0]).getD (ix (a : Int)) 0) a v n) = enc (a + rN a n) (B + v % 2 ^ rN a n * 2 ^ a) := by
  obtain ⟨h1, h2, h3⟩ := rN_le a n
  have h0 : 0 < rN a n := by unfold rN; omega
  rw [ix_nat a ha, enc_al a B h hB, bytes_getD _ _ _ (Nat.lt_succ_self _), nb_nat _ _ _ _ (Nat.mod_lt _ (by omega)) hv, bytes_set a B _ (rN a n) hB (Nat.mod_lt _ (Nat.two_pow_pos _)) h3, enc_nx _ _ _ _ h0 h3]
theorem put_un (a B v n : Nat) (h : a % 8 ≠ 0) (hB : B < 2 ^ a) (hv : v < 2 ^ 32) (hn : 0 < n) (ha : a < 2 ^ 62) : (enc a B).set (ix (a : Int)) (nb ((enc a B).getD (ix (a : Int)) 0) a v n) = enc (a + rN a n) (B + v % 2 ^ rN a n * 2 ^ a) := by
  obtain ⟨h1, h2, h3⟩ := rN_le a n
  have h0 : 0 < rN a n := by unfold rN; omega
  rw [ix_nat a ha, enc_un a B h, bytes_getD _ _ _ (Nat.lt_succ_self _), nb_nat _ _ _ _ (Nat.mod_lt _ (by omega)) hv, bytes_set a B _ (rN a n) hB (Nat.mod_lt _ (Nat.two_pow_pos _)) h3, enc_nx _ _ _ _ h0 h3]
theorem put_zero (v n : Nat) (hv : v < 2 ^ 32) (hn : 0 < n) : [nb 0 0 v n] = enc (rN 0 n) (v % 2 ^ rN 0 n) := by
  have := put_al 0 0 v n rfl (by omega) hv hn (by omega)
  rw [ix_nat 0 (by omega)] at this
  simpa [enc, bytes] using this
theorem step_B (a B v r : Nat) (hB : B < 2 ^ a) : B + v % 2 ^ r * 2 ^ a < 2 ^ (a + r) := by
  have h := Nat.mod_lt v (Nat.two_pow_pos r)
  have e1 : (v % 2 ^ r + 1) * 2 ^ a ≤ 2 ^ r * 2 ^ a := Nat.mul_le_mul_right _ h
  rw [Nat.add_mul, Nat.one_mul] at e1
  rw [Nat.add_comm a r, Nat.pow_add]
  omega
theorem step_Z (a B v r : Nat) : B + v % 2 ^ r * 2 ^ a + v / 2 ^ r * 2 ^ (a + r) = B + v * 2 ^ a := by
  have e := Nat.mod_add_div v (2 ^ r)
  rw [Nat.add_comm a r, Nat.pow_add, ← Nat.mul_assoc, Nat.add_assoc, ← Nat.add_mul, Nat.mul_comm (v / 2 ^ r), e]
theorem step_v (v n r : Nat) (hv : v < 2 ^ n) (hr : r ≤ n) : v / 2 ^ r < 2 ^ (n - r) := by
  rw [Nat.div_lt_iff_lt_mul (Nat.two_pow_pos _), ← Nat.pow_add, show n - r + r = n from by omega]
  exact hv
open Go.Proofs Go.Proofs.Yticfagianocfiaa Go.RowKit
set_option maxRecDepth 1000000
noncomputable def R16 : Code := c1 (bodyOf 16)
noncomputable def P16 : Code := c1 (c2 (bodyOf 16))
noncomputable def Z16 : Code := c2 (c2 (c2 (bodyOf 16)))
theorem body16 : bodyOf 16 = .seq R16 (.seq P16 (.seq (.block 0 (.loop L16)) Z16)) := by kernel_rfl
theorem wf16 : wf 95 R16 = true ∧ wf 95 P16 = true ∧ wf 95 L16 = true ∧ wf 95 Z16 = true := ⟨by kernel_rfl, by kernel_rfl, by kernel_rfl, by kernel_rfl⟩
/-- the writer's memory behind a bits, which are B -/
noncomputable def gW (a B : Nat) (pc : Prop) (ch : List Bool) : G := match a with
  | 0 => GA pc ch
  | a + 1 => GB ((a + 1 : Nat) : Int) (enc (a + 1) B) ((a + 1 + 7) / 8) pc ch
noncomputable def sW (a B v n : Nat) : St := ⟨e16 v n, gW a B True [], [], .no, []⟩
theorem gW_pos {a B : Nat} (h : 0 < a) (pc : Prop) (ch : List Bool) : gW a B pc ch = GB (a : Int) (enc a B) ((a + 7) / 8) pc ch := by
  cases a with
  | zero => omega
  | succ a => rfl
theorem sW_b {a B v n : Nat} (h : 0 < a) : sW a B v n = sB a v n (enc a B) ((a + 7) / 8) True [] := by
  unfold sW sB
  rw [gW_pos h]
theorem ok1 : okM m1 1001 = true := by kernel_rfl
theorem ok2 : okM (m2 1002) 1002 = true := by kernel_rfl
theorem ok2n : okM (m2n 1001) 1002 = true := by kernel_rfl
theorem ok2m : okM (m2n 1003) 1002 = true := by kernel_rfl
theorem kp1 : keepF [1000] m1 1001 = true := by kernel_rfl
theorem kp2 : keepF [1000] (m2 1002) 1002 = true := by kernel_rfl
theorem kp2n : keepF [1000] (m2n 1001) 1002 = true := by kernel_rfl
theorem kp2m : keepF [1000] (m2n 1003) 1002 = true := by kernel_rfl
section
variable {ρ0 : Rn} {H0 : Nat → Option AObj} {w0 : World} {act : Act} {w : World}
theorem put_stop {a B v : Nat} (hs : SL Try.prog 95 [1000] ρ0 H0 w0 (sW a B v 0) act w) : L16.wp Try.prog (fun x a' w' => x = .exit 0 ∧ SL Try.prog 95 [1000] ρ0 H0 w0 (sW a B v 0) a' w') act w := by
  cases a with
  | zero =>
    refine wp_mono (exec_sl bT_ok bM bC_ok wf16.2.2.1 (put_a0 v 0) ok1 (fun v h => by cases h) ⟨ilt_f (by omega), trivial⟩ rfl rfl kp1 (hs.alike rfl rfl rfl)) ?_
    exact fun x a' w' ⟨h1, h2⟩ => ⟨h1.exit, h2.alike rfl rfl rfl⟩
  | succ a =>
    refine wp_mono (exec_sl bT_ok bM bC_ok wf16.2.2.1 (put_b0 ((a + 1 : Nat) : Int) v 0 (enc (a + 1) B) ((a + 1 + 7) / 8)) ok2n (fun v h => by cases h) ⟨ilt_f (by omega), trivial⟩ rfl rfl kp2n (hs.alike rfl rfl rfl)) ?_
    exact fun x a' w' ⟨h1, h2⟩ => ⟨h1.exit, h2.alike rfl rfl rfl⟩
theorem put_round {a B v n : Nat} (hB : B < 2 ^ a) (hv : v < 2 ^ 32) (hn : 0 < n) (hn2 : n ≤ 32) (ha : a < 2 ^ 43) (hs : SL Try.prog 95 [1000] ρ0 H0 w0 (sW a B v n) act w) :
    L16.wp Try.prog (fun x a' w' => x = .normal ∧ SL Try.prog 95 [1000] ρ0 H0 w0 (sW (a + rN a n) (B + v % 2 ^ rN a n * 2 ^ a) (v / 2 ^ rN a n) (n - rN a n)) a' w') act w := by
  obtain ⟨r1, r2, r3⟩ := rN_le a n
  have r0 : 0 < rN a n := by unfold rN; omega
  have hq : q8 (a : Int) = ((a / 8 : Nat) : Int) := q8_nat a (by omega)
  have hix : ix (a : Int) = a / 8 := ix_nat a (by omega)
  have hal : al (a : Int) = ((a % 8 : Nat) : Int) := al_nat a
  have hrm : rm (a : Int) (n : Int) = ((rN a n : Nat) : Int) := rm_nat a n
  have hlen := enc_length a B
  rcases Nat.eq_zero_or_pos a with rfl | hpos
  · have e0 := put_a1 v n
    have e1 := ar_nat 0 n (by omega)
    have e2 := vr_nat v 0 n
    have e3 := nr_nat 0 n hn2
    have e4 := put_zero v n hv hn
    have h0 : ((0 : Nat) : Int) = 0 := rfl
    rw [h0] at e1 e2 e3 hrm
    rw [e1, e2, e3, e4] at e0
    refine wp_mono (exec_sl bT_ok bM bC_ok wf16.2.2.1 e0 ok2 (fun v h => by cases h) ⟨nilt_t (by rw [hrm]; omega), nilt_t (by rw [hrm]; omega), ilt_t (by omega), trivial⟩ rfl rfl kp2 (hs.alike rfl rfl rfl)) ?_
    refine fun x a' w' ⟨h1, h2⟩ => ⟨h1.normal, ?_⟩
    rw [sW_b (by omega)]
    have hB0 : B = 0 := by have : (2 : Nat) ^ 0 = 1 := rfl; omega
    subst hB0
    have l1 : (0 + rN 0 n + 7) / 8 = 1 := by omega
    rw [l1, Nat.pow_zero, Nat.mul_one, Nat.zero_add, Nat.zero_add]
    rw [Nat.zero_add] at h2
    exact h2.alike rfl rfl rfl
  · rw [sW_b hpos] at hs
    rw [sW_b (by omega)]
    by_cases h8 : a % 8 = 0
    · have e0 := put_b2 a v n (enc a B) ((a + 7) / 8)
      have lq : (a + 7) / 8 = a / 8 := by omega
      rw [put_al a B v n h8 hB hv hn (by omega), ar_nat a n (by omega), vr_nat, nr_nat a n hn2] at e0
      refine wp_mono (exec_sl bT_ok bM bC_ok wf16.2.2.1 e0 ok2m (fun v h => by cases h) ?_ rfl rfl kp2m (hs.alike rfl rfl rfl)) ?_
      · have b1 : (ix (a : Int)).blt (enc a B ++ [0]).length = true := blt_t (by rw [hix, List.length_append, hlen]; simp; omega)
        have b2 : inB (q8 (a : Int)) ((a + 7) / 8 + 1) = true := inB_t (by rw [hq]; omega) (by rw [hq]; omega)
        have b3 : (!ilt (rm (a : Int) (n : Int)) 0) = true := nilt_t (by rw [hrm]; omega)
        exact ⟨b3, b1, b2, nilt_t (by rw [hal]; omega), b3, b1, b2, by rw [Bool.and_eq_true]; exact ⟨ble_t (by omega), ble_t (by omega)⟩, beq_t (by rw [hlen]), rfl, ieq_t (by rw [hal, h8]; rfl), ilt_t (by omega), trivial⟩
      · refine fun x a' w' ⟨h1, h2⟩ => ⟨h1.normal, ?_⟩
        have l1 : (a + rN a n + 7) / 8 = (a + 7) / 8 + 1 := by omega
        rw [l1]
        exact h2.alike rfl rfl rfl
    · have e0 := put_b1 a v n (enc a B) ((a + 7) / 8)
      rw [put_un a B v n h8 hB hv hn (by omega), ar_nat a n (by omega), vr_nat, nr_nat a n hn2] at e0
      refine wp_mono (exec_sl bT_ok bM bC_ok wf16.2.2.1 e0 ok2n (fun v h => by cases h) ?_ rfl rfl kp2n (hs.alike rfl rfl rfl)) ?_
      · have b1 : (ix (a : Int)).blt (enc a B).length = true := blt_t (by rw [hix, hlen]; omega)
        have b2 : inB (q8 (a : Int)) ((a + 7) / 8) = true := inB_t (by rw [hq]; omega) (by rw [hq]; omega)
        have b3 : (!ilt (rm (a : Int) (n : Int)) 0) = true := nilt_t (by rw [hrm]; omega)
        exact ⟨b3, b1, b2, nilt_t (by rw [hal]; omega), b3, b1, b2, ieq_f (by rw [hal]; omega), ilt_t (by omega), trivial⟩
      · refine fun x a' w' ⟨h1, h2⟩ => ⟨h1.normal, ?_⟩
        have l1 : (a + rN a n + 7) / 8 = (a + 7) / 8 := by omega
        rw [l1]
        exact h2.alike rfl rfl rfl
theorem put_loop {a B v n : Nat} (hB : B < 2 ^ a) (hv : v < 2 ^ n) (hn : n ≤ 32) (ha : a < 2 ^ 42) (hs : SL Try.prog 95 [1000] ρ0 H0 w0 (sW a B v n) act w) :
    (Code.block 0 (.loop L16)).wp Try.prog (fun x a' w' => x = .normal ∧ SL Try.prog 95 [1000] ρ0 H0 w0 (sW (a + n) (B + v * 2 ^ a) 0 0) a' w') act w := by
  refine wp_block (loop_sl (ι := Nat × Nat × Nat × Nat) (fun i => sW i.1 i.2.1 i.2.2.1 i.2.2.2) (fun i => i.2.1 < 2 ^ i.1 ∧ i.2.2.1 < 2 ^ i.2.2.2 ∧ i.2.2.2 ≤ 32 ∧ i.1 + i.2.2.2 = a + n ∧ i.2.1 + i.2.2.1 * 2 ^ i.1 = B + v * 2 ^ a) (fun i => i.2.2.2) (a, B, v, n) ⟨hB, hv, hn, rfl, rfl⟩ hs ?_)
  rintro ⟨a1, B1, v1, n1⟩ ⟨h1, h2, h3, h4, h5⟩ act w hs
  simp only at *
  rcases Nat.eq_zero_or_pos n1 with rfl | hpos
  · refine wp_mono (put_stop hs) ?_
    rintro x a' w' ⟨rfl, hs'⟩
    have : v1 = 0 := by simpa using h2
    subst this
    refine ⟨rfl, ?_⟩
    rw [← h4, ← h5]
    simpa using hs'
  · have hp : 2 ^ n1 ≤ 2 ^ 32 := Nat.pow_le_pow_right (by omega) h3
    refine wp_mono (put_round h1 (by omega) hpos h3 (by omega) hs) ?_
    rintro x a' w' ⟨rfl, hs'⟩
    have r := rN_le a1 n1
    have r0 : 0 < rN a1 n1 := by unfold rN; omega
    have g3 : n1 - rN a1 n1 ≤ 32 := by omega
    have g4 : a1 + rN a1 n1 + (n1 - rN a1 n1) = a + n := by omega
    have g6 : n1 - rN a1 n1 < n1 := by omega
    exact ⟨(_, _, _, _), ⟨step_B _ _ _ _ h1, step_v _ _ _ h2 r.1, g3, g4, by rw [← h5]; exact step_Z _ _ _ _⟩, g6, hs'⟩
end
open Go.Proofs Go.Proofs.Yticfagianocfiaa Go.RowKit
set_option maxRecDepth 1000000
/-- so many choices of one kind -/
def rep (b : Bool) (n : Nat) : List Bool := Nat.rec [] (fun _ ih => b :: ih) n
noncomputable def mW (a : Nat) : List Mv := match a with | 0 => m1 | _ + 1 => m2n 1001
theorem okW (a : Nat) : okM (mW a) (nxW a) = true := by cases a with | zero => exact ok1 | succ a => exact ok2n
theorem kpW (a : Nat) : keepF [1000] (mW a) (nxW a) = true := by cases a with | zero => exact kp1 | succ a => exact kp2n
theorem gW_nx (a B : Nat) (pc : Prop) (ch : List Bool) : (gW a B pc ch).nx = nxW a := by cases a <;> rfl
noncomputable def i16 (v n : Int) : Tr AV := argsEnv [.ptr 1000 0, .int true .u32 v, .int true .i64 n] 0 .e
noncomputable def z16 (r : Int) : Tr AV := mkEnv 95 [(6, .int false .i64 r)]
theorem r16a (v n : Int) : wkX 95 [0, 1, 2] m1 1001 (exec R16 bT bC 1000 ⟨i16 v n, GA True [], [], .no, []⟩) = some (.normal, ⟨e16 v n, GA True [], [], .no, []⟩) := by kernel_rfl
theorem r16b (at_ v n : Int) (xs : List Int) (l : Nat) : wkX 95 [0, 1, 2] (m2n 1001) 1002 (exec R16 bT bC 1000 ⟨i16 v n, GB at_ xs l True [], [], .no, []⟩) = some (.normal, ⟨e16 v n, GB at_ xs l True [], [], .no, []⟩) := by kernel_rfl
theorem z16a (v n : Int) : wkX 95 [6] m1 1001 (exec Z16 bT bC 1000 ⟨e16 v n, GA True [], [], .no, []⟩) = some (.ret, ⟨z16 0, GA True [], [], .no, []⟩) := by kernel_rfl
theorem z16b (at_ v n : Int) (xs : List Int) (l : Nat) : wkX 95 [6] (m2n 1001) 1002 (exec Z16 bT bC 1000 ⟨e16 v n, GB at_ xs l True [], [], .no, []⟩) = some (.ret, ⟨z16 0, GB at_ xs l True [], [], .no, []⟩) := by kernel_rfl
/-- refused: too few, too many, too great -/
noncomputable def pE1 (n : Int) : Prop := ilt n 0 = true ∧ ilt n 0 = true ∧ ilt n 0 = true ∧ True
noncomputable def pE2 (n : Int) : Prop := ilt 32 n = true ∧ ilt 32 n = true ∧ ilt 32 n = true ∧ ilt 32 n = true ∧ ilt 32 n = true ∧ ilt 32 n = true ∧ ilt n 0 = false ∧ ilt n 0 = false ∧ ilt n 0 = false ∧ True
noncomputable def pE3 (v n : Int) (b : Bool) : Prop := ilt 0 ((wr .u64 v).fdiv (pow2 n 64)) = b ∧ ilt 32 n = false ∧ ilt 32 n = false ∧ (!ilt n 0) = true ∧ ilt 32 n = false ∧ ilt 32 n = false ∧ ilt 32 n = false ∧ ilt 32 n = false ∧ ilt n 0 = false ∧ ilt n 0 = false ∧ ilt n 0 = false ∧ True
theorem p16a1 (v n : Int) : wkX 95 [6] m1 1001 (exec P16 bT bC 1000 ⟨e16 v n, GA True (rep true 3), [], .no, []⟩) = some (.ret, ⟨z16 1, GA (pE1 n) [], [], .no, []⟩) := by kernel_rfl
theorem p16a2 (v n : Int) : wkX 95 [6] m1 1001 (exec P16 bT bC 1000 ⟨e16 v n, GA True (rep false 3 ++ rep true 6), [], .no, []⟩) = some (.ret, ⟨z16 1, GA (pE2 n) [], [], .no, []⟩) := by kernel_rfl
theorem p16a3 (v n : Int) : wkX 95 [6] m1 1001 (exec P16 bT bC 1000 ⟨e16 v n, GA True (rep false 9 ++ [true]), [], .no, []⟩) = some (.ret, ⟨z16 1, GA (pE3 v n true) [], [], .no, []⟩) := by kernel_rfl
theorem p16a4 (v n : Int) : wkX 95 [0, 1, 2] m1 1001 (exec P16 bT bC 1000 ⟨e16 v n, GA True (rep false 10), [], .no, []⟩) = some (.normal, ⟨e16 v n, GA (pE3 v n false) [], [], .no, []⟩) := by kernel_rfl
theorem p16b1 (at_ v n : Int) (xs : List Int) (l : Nat) : wkX 95 [6] (m2n 1001) 1002 (exec P16 bT bC 1000 ⟨e16 v n, GB at_ xs l True (rep true 3), [], .no, []⟩) = some (.ret, ⟨z16 1, GB at_ xs l (pE1 n) [], [], .no, []⟩) := by kernel_rfl
theorem p16b2 (at_ v n : Int) (xs : List Int) (l : Nat) : wkX 95 [6] (m2n 1001) 1002 (exec P16 bT bC 1000 ⟨e16 v n, GB at_ xs l True (rep false 3 ++ rep true 6), [], .no, []⟩) = some (.ret, ⟨z16 1, GB at_ xs l (pE2 n) [], [], .no, []⟩) := by kernel_rfl
theorem p16b3 (at_ v n : Int) (xs : List Int) (l : Nat) : wkX 95 [6] (m2n 1001) 1002 (exec P16 bT bC 1000 ⟨e16 v n, GB at_ xs l True (rep false 9 ++ [true]), [], .no, []⟩) = some (.ret, ⟨z16 1, GB at_ xs l (pE3 v n true) [], [], .no, []⟩) := by kernel_rfl
theorem p16b4 (at_ v n : Int) (xs : List Int) (l : Nat) : wkX 95 [0, 1, 2] (m2n 1001) 1002 (exec P16 bT bC 1000 ⟨e16 v n, GB at_ xs l True (rep false 10), [], .no, []⟩) = some (.normal, ⟨e16 v n, GB at_ xs l (pE3 v n false) [], [], .no, []⟩) := by kernel_rfl
theorem r16 (a B : Nat) (v n : Int) : wkX 95 [0, 1, 2] (mW a) (nxW a) (exec R16 bT bC 1000 ⟨i16 v n, gW a B True [], [], .no, []⟩) = some (.normal, ⟨e16 v n, gW a B True [], [], .no, []⟩) := by
  cases a with
  | zero => exact r16a v n
  | succ a => exact r16b _ v n _ _
theorem z16' (a B : Nat) (v n : Int) : wkX 95 [6] (mW a) (nxW a) (exec Z16 bT bC 1000 ⟨e16 v n, gW a B True [], [], .no, []⟩) = some (.ret, ⟨z16 0, gW a B True [], [], .no, []⟩) := by
  cases a with
  | zero => exact z16a v n
  | succ a => exact z16b _ v n _ _
theorem p16e (a B : Nat) (v n : Int) (h : pE1 n ∨ pE2 n ∨ pE3 v n true) : ∃ ch pc, pc ∧ wkX 95 [6] (mW a) (nxW a) (exec P16 bT bC 1000 ⟨e16 v n, gW a B True ch, [], .no, []⟩) = some (.ret, ⟨z16 1, gW a B pc [], [], .no, []⟩) := by
  cases a with
  | zero =>
    rcases h with h | h | h
    · exact ⟨_, _, h, p16a1 v n⟩
    · exact ⟨_, _, h, p16a2 v n⟩
    · exact ⟨_, _, h, p16a3 v n⟩
  | succ a =>
    rcases h with h | h | h
    · exact ⟨_, _, h, p16b1 _ v n _ _⟩
    · exact ⟨_, _, h, p16b2 _ v n _ _⟩
    · exact ⟨_, _, h, p16b3 _ v n _ _⟩
theorem p16k (a B : Nat) (v n : Int) : wkX 95 [0, 1, 2] (mW a) (nxW a) (exec P16 bT bC 1000 ⟨e16 v n, gW a B True (rep false 10), [], .no, []⟩) = some (.normal, ⟨e16 v n, gW a B (pE3 v n false) [], [], .no, []⟩) := by
  cases a with
  | zero => exact p16a4 v n
  | succ a => exact p16b4 _ v n _ _
theorem gW_h (a B : Nat) (pc pc' : Prop) (ch ch' : List Bool) : (gW a B pc ch).h = (gW a B pc' ch').h := by cases a <;> rfl
theorem gW_pc (a B : Nat) (pc : Prop) (ch : List Bool) : (gW a B pc ch).pc = pc := by cases a <;> rfl
theorem fits16 : Try.f16.body = some (bodyOf 16) ∧ Try.f16.ntmps = 95 := ⟨by kernel_rfl, by kernel_rfl⟩
theorem res16 (r : Int) (g : G) : SX.results bT (z16 r) g Try.f16.results.toList = some [.int false .i64 r] := by kernel_rfl
/-- what Put takes -/
def Takes (v : Nat) (n : Int) : Prop := 0 ≤ n ∧ n ≤ 32 ∧ v < 2 ^ n.toNat
theorem shr0 (v : Nat) (n : Int) (hv : v < 2 ^ 32) (h0 : 0 ≤ n) (h1 : n ≤ 32) : (wr .u64 (v : Int)).fdiv (pow2 n 64) = ((v / 2 ^ n.toNat : Nat) : Int) := by
  obtain ⟨m, rfl⟩ := Int.eq_ofNat_of_zero_le h0
  have hm : m ≤ 64 := by omega
  rw [wr_u64 (by omega) (by omega), pow2_nat m 64 hm, fdiv_nat]; rfl
theorem takes_of (v : Nat) (n : Int) (hv : v < 2 ^ 32) : (Takes v n ∧ pE3 v n false) ∨ (¬ Takes v n ∧ (pE1 n ∨ pE2 n ∨ pE3 v n true)) := by
  by_cases h0 : n < 0
  · have e := ilt_t h0
    exact .inr ⟨fun h => by have := h.1; omega, .inl ⟨e, e, e, trivial⟩⟩
  · have e0 : ilt n 0 = false := ilt_f (by omega)
    by_cases h1 : 32 < n
    · have e := ilt_t h1
      exact .inr ⟨fun h => by have := h.2.1; omega, .inr (.inl ⟨e, e, e, e, e, e, e0, e0, e0, trivial⟩)⟩
    · have e1 : ilt 32 n = false := ilt_f (by omega)
      have e2 : (!ilt n 0) = true := nilt_t (by omega)
      have es := shr0 v n hv (by omega) (by omega)
      have hp : 0 < 2 ^ n.toNat := Nat.two_pow_pos _
      by_cases h2 : v < 2 ^ n.toNat
      · refine .inl ⟨⟨by omega, by omega, h2⟩, by rw [es, Nat.div_eq_of_lt h2]; exact ilt_f (by omega), e1, e1, e2, e1, e1, e1, e1, e0, e0, e0, trivial⟩
      · have : 0 < v / 2 ^ n.toNat := Nat.div_pos (by omega) hp
        refine .inr ⟨fun h => h2 h.2.2, .inr (.inr ⟨by rw [es]; exact ilt_t (by omega), e1, e1, e2, e1, e1, e1, e1, e0, e0, e0, trivial⟩)⟩
/-- Put: what it does -/
theorem put_lc {ρ : Rn} {w : World} {vs : List Value} (a B v : Nat) (n : Int) (hB : B < 2 ^ a) (hv : v < 2 ^ 32) (ha : a < 2 ^ 42) (hg : Gl ρ (nxW a)) (hL : LR ρ (Dm N0 (nxW a)) [.ptr 1000 0, .int true .u32 v, .int true .i64 n] vs) (hw : GR Try.prog ρ (Dm N0 (nxW a)) (gW a B True []).h.get w) :
    Calls Try.prog 16 vs.toArray w fun e w' => ∃ a' B' r ρ', ((Takes v n ∧ a' = a + n.toNat ∧ B' = B + v * 2 ^ a ∧ r = 0) ∨ (¬ Takes v n ∧ a' = a ∧ B' = B ∧ r = 1)) ∧ e = .returned (.int .i64 r) ∧ Gl ρ' (nxW a') ∧ GR Try.prog ρ' (Dm N0 (nxW a')) (gW a' B' True []).h.get w' ∧ Fram ρ (gW a B True []).h.get w ρ' (gW a' B' True []).h.get w' ∧ ρ'.b 1000 = ρ.b 1000 := by
  have hnx : (gW a B True []).nx = nxW a := gW_nx _ _ _ _
  have key := calls_sl (F := [1000]) (g := gW a B True []) (ρ := ρ) (w := w) (vs := vs) (args := [.ptr 1000 0, .int true .u32 v, .int true .i64 n]) bT_ok Try.func16 fits16.1 (by rw [fits16.2]; show 3 ≤ 95; omega) (by rw [fits16.2]; omega)
    (R := fun st' l => ∃ a' B' r, ((Takes v n ∧ a' = a + n.toNat ∧ B' = B + v * 2 ^ a ∧ r = 0) ∨ (¬ Takes v n ∧ a' = a ∧ B' = B ∧ r = 1)) ∧ l = [.int false .i64 r] ∧ st'.g.nx = nxW a' ∧ st'.g.h = (gW a' B' True []).h)
    (fun b hb => by rw [hnx]; obtain rfl := List.mem_singleton.1 hb; cases a <;> simp [nxW]) (by rw [hnx]; exact hg) (by rw [hnx]; exact hL) (by rw [hnx]; exact hw) ?_
  · refine key.mono ?_
    rintro e w' ⟨st', l, x, ρ', ⟨a', B', r, h1, rfl, h2, h3⟩, rfl, hx, hg', hgr, hfr, hfx⟩
    rw [h2] at hg' hgr
    rw [h3] at hgr hfr
    obtain rfl := VR.int_inv hx
    exact ⟨a', B', r, ρ', h1, rfl, hg', hgr, hfr, (hfx 1000 (List.mem_singleton.2 rfl)).2⟩
  · intro act hs
    rw [fits16.2] at hs ⊢
    rw [body16]
    refine wp_seq (wp_mono (exec_sl bT_ok bM bC_ok wf16.1 (r16 a B v n) (okW a) (fun v h => by cases h) (by rw [gW_pc]; trivial) rfl rfl (kpW a) hs) ?_)
    intro x a1 w1 ⟨hx, hs⟩
    obtain rfl := hx.normal
    rcases takes_of v n hv with ⟨ht, hp⟩ | ⟨ht, hp⟩
    · refine wp_seq (wp_mono (exec_sl bT_ok bM bC_ok wf16.2.1 (p16k a B v n) (okW a) (fun v h => by cases h) (by rw [gW_pc]; exact hp) rfl rfl (kpW a) (hs.alike rfl (by simp only [gW_nx]) (gW_h _ _ _ _ _ _))) ?_)
      intro x a2 w2 ⟨hx, hs⟩
      obtain rfl := hx.normal
      obtain ⟨m, rfl⟩ := Int.eq_ofNat_of_zero_le ht.1
      refine wp_seq (wp_mono (put_loop (n := m) hB ht.2.2 (by have := ht.2.1; omega) ha (hs.alike rfl (by simp only [sW, gW_nx]) (gW_h _ _ _ _ _ _))) ?_)
      intro x a3 w3 ⟨hx, hs⟩
      subst hx
      refine wp_mono (exec_sl bT_ok bM bC_ok wf16.2.2.2 (z16' _ _ 0 0) (okW _) (fun v h => by cases h) (by rw [gW_pc]; trivial) rfl rfl (kpW _) hs) ?_
      intro x a4 w4 ⟨hx, hs⟩
      exact ⟨.inr hx.ret, _, _, hs, by rw [gW_pc]; trivial, res16 _ _, _, _, _, .inl ⟨ht, rfl, rfl, rfl⟩, rfl, gW_nx _ _ _ _, rfl⟩
    · obtain ⟨ch, pc, hpc, hpath⟩ := p16e a B v n hp
      refine wp_seq (wp_mono (exec_sl bT_ok bM bC_ok wf16.2.1 hpath (okW a) (fun v h => by cases h) (by rw [gW_pc]; exact hpc) rfl rfl (kpW a) (hs.alike rfl (by simp only [gW_nx]) (gW_h _ _ _ _ _ _))) ?_)
      intro x a2 w2 ⟨hx, hs⟩
      obtain rfl := hx.ret
      exact ⟨.inr rfl, _, _, hs, by rw [gW_pc]; exact hpc, res16 _ _, _, _, _, .inr ⟨ht, rfl, rfl, rfl⟩, rfl, gW_nx _ _ _ _, gW_h _ _ _ _ _ _⟩
/-! the writer as a struct that grows -/
noncomputable def KW : WKind := ⟨39, [0], fun a => [(a : Int)], enc, fun a => (a + 7) / 8⟩
theorem gW_hS (a B : Nat) (pc : Prop) (ch : List Bool) : (gW a B pc ch).h = hS KW a B := by cases a <;> rfl
theorem put_yes (a B v : Nat) (n : Int) (hB : B < 2 ^ a) (hv : v < 2 ^ 32) (ha : a < 2 ^ 42) (h : Takes v n) : LCd Try.prog KW 16 [.int .u32 v, .int .i64 n] a B (a + n.toNat) (B + v * 2 ^ a) (.int .i64 0) := by
  intro ρ w p hg hp hw
  refine (put_lc (vs := [p, .int .u32 v, .int .i64 n]) a B v n hB hv ha hg (LR.cons hp (LR.cons (.int _ _ _) (LR.cons (.int _ _ _) (LR.nil _ _)))) (by rw [gW_hS]; exact hw)).mono ?_
  rintro e w' ⟨a', B', r, ρ', h1, h2, h3, h4, h5, h6⟩
  rw [gW_hS] at h4
  rw [gW_hS, gW_hS] at h5
  rcases h1 with ⟨_, rfl, rfl, rfl⟩ | ⟨h7, _⟩
  · exact ⟨ρ', h2, h4, h5, h6⟩
  · exact absurd h h7
theorem put_no (a B v : Nat) (n : Int) (hB : B < 2 ^ a) (hv : v < 2 ^ 32) (ha : a < 2 ^ 42) (h : ¬ Takes v n) : LCd Try.prog KW 16 [.int .u32 v, .int .i64 n] a B a B (.int .i64 1) := by
  intro ρ w p hg hp hw
  refine (put_lc (vs := [p, .int .u32 v, .int .i64 n]) a B v n hB hv ha hg (LR.cons hp (LR.cons (.int _ _ _) (LR.cons (.int _ _ _) (LR.nil _ _)))) (by rw [gW_hS]; exact hw)).mono ?_
  rintro e w' ⟨a', B', r, ρ', h1, h2, h3, h4, h5, h6⟩
  rw [gW_hS] at h4
  rw [gW_hS, gW_hS] at h5
  rcases h1 with ⟨h7, _⟩ | ⟨_, rfl, rfl, rfl⟩
  · exact absurd h7 h
  · exact ⟨ρ', h2, h4, h5, h6⟩
open Go.Proofs Go.Proofs.Yticfagianocfiaa Go.RowKit
set_option maxRecDepth 1000000
/-! the reference's Put -/
def rb (a B : Nat) : List Int := (List.range a).map fun i => ((B / 2 ^ i % 2 : Nat) : Int)
noncomputable def KR : WKind := ⟨42, [], fun _ => [], rb, fun a => a⟩
theorem rb_length (a B : Nat) : (rb a B).length = a := by simp [rb]
theorem rb_succ (a B x : Nat) (hB : B < 2 ^ a) (hx : x < 2) : rb (a + 1) (B + x * 2 ^ a) = rb a B ++ [(x : Int)] := by
  unfold rb
  rw [List.range_succ, List.map_append]
  congr 1
  · apply List.map_congr_left
    intro i hi
    have hi := List.mem_range.1 hi
    congr 1
    rw [up_div _ _ _ _ (by omega)]
    have e : 2 ^ (a - i) = 2 ^ (a - i - 1) * 2 := by
      rw [← Nat.pow_succ]; congr 1; omega
    rw [e, ← Nat.mul_assoc, Nat.add_mul_mod_self_right]
  · show [(((B + x * 2 ^ a) / 2 ^ a % 2 : Nat) : Int)] = [(x : Int)]
    rw [up_div _ _ _ _ (Nat.le_refl a), Nat.sub_self, Nat.pow_zero, Nat.mul_one, Nat.div_eq_of_lt hB, Nat.zero_add, Nat.mod_eq_of_lt hx]
noncomputable def R17 : Code := c1 (bodyOf 17)
noncomputable def P17 : Code := c1 (c2 (bodyOf 17))
noncomputable def I17 : Code := c1 (c1 (c2 (c2 (bodyOf 17))))
noncomputable def L17 : Code := c1 (c1 (c2 (c1 (c2 (c2 (bodyOf 17))))))
noncomputable def Z17 : Code := c2 (c2 (c2 (bodyOf 17)))
theorem body17 : bodyOf 17 = .seq R17 (.seq P17 (.seq (.seq I17 (.block 0 (.loop L17))) Z17)) := by kernel_rfl
theorem wf17 : wf 44 R17 = true ∧ wf 44 P17 = true ∧ wf 44 I17 = true ∧ wf 44 L17 = true ∧ wf 44 Z17 = true := ⟨by kernel_rfl, by kernel_rfl, by kernel_rfl, by kernel_rfl, by kernel_rfl⟩
noncomputable def hRA : Tr AObj := mkH [(1000, some (.cells 42 [.nils] false))]
noncomputable def hRB (xs : List Int) (l : Nat) : Tr AObj := mkH [(1000, some (.cells 42 [.sl true 1001 0 l (.un 0)] false)), (1001, some (.nums 5 .u8 xs true))]
/-- the memory, of either form -/
noncomputable def hRX (x : Option (List Int × Nat)) : Tr AObj := match x with | none => hRA | some p => hRB p.1 p.2
def nxX (x : Option (List Int × Nat)) : Nat := match x with | none => 1001 | some _ => 1002
noncomputable def mX (x : Option (List Int × Nat)) : List Mv := match x with | none => m1 | some _ => m2n 1001
theorem okX (x : Option (List Int × Nat)) : okM (mX x) (nxX x) = true := by cases x with | none => exact ok1 | some _ => exact ok2n
theorem kpX (x : Option (List Int × Nat)) : keepF [1000] (mX x) (nxX x) = true := by cases x with | none => exact kp1 | some _ => exact kp2n
noncomputable def sX (x : Option (List Int × Nat)) (en : Tr AV) (pc : Prop) (ch : List Bool) : St := ⟨en, ⟨hRX x, nxX x, pc, ch⟩, [], .no, []⟩
noncomputable def i17 (v n : Int) : Tr AV := argsEnv [.ptr 1000 0, .int true .u32 v, .int true .i64 n] 0 .e
noncomputable def f17 (v n : Int) : Tr AV := mkEnv 44 [(0, .ptr 1000 0), (1, .int true .u32 v), (2, .int true .i64 n)]
noncomputable def e17 (v n i : Int) : Tr AV := mkEnv 44 [(0, .ptr 1000 0), (1, .int true .u32 v), (2, .int true .i64 n), (7, .int true .i64 i)]
noncomputable def z17 (r : Int) : Tr AV := mkEnv 44 [(6, .int false .i64 r)]
noncomputable def qE2 (n : Int) : Prop := ilt 32 n = true ∧ ilt 32 n = true ∧ ilt 32 n = true ∧ ilt 32 n = true ∧ ilt 32 n = true ∧ ilt n 0 = false ∧ ilt n 0 = false ∧ ilt n 0 = false ∧ True
noncomputable def qE3 (v n : Int) (b : Bool) : Prop := (!ilt v (wr .u32 (Int.mul 1 (pow2 (wr .u64 n) 32)))) = b ∧ ilt 32 n = false ∧ ilt n 32 = true ∧ ilt 32 n = false ∧ ilt n 32 = true ∧ (!ilt (wr .u64 n) 0) = true ∧ ilt n 32 = true ∧ ilt n 32 = true ∧ ilt n 32 = true ∧ ilt n 32 = true ∧ ilt 32 n = false ∧ ilt 32 n = false ∧ ilt 32 n = false ∧ ilt n 0 = false ∧ ilt n 0 = false ∧ ilt n 0 = false ∧ True
noncomputable def qE4 (n : Int) : Prop := ilt 32 n = false ∧ ilt n 32 = false ∧ ilt 32 n = false ∧ ilt n 32 = false ∧ ilt n 32 = false ∧ ilt n 32 = false ∧ ilt n 32 = false ∧ ilt n 32 = false ∧ ilt 32 n = false ∧ ilt 32 n = false ∧ ilt 32 n = false ∧ ilt n 0 = false ∧ ilt n 0 = false ∧ ilt n 0 = false ∧ True
theorem r17 (x : Option (List Int × Nat)) (v n : Int) : wkX 44 [0, 1, 2] (mX x) (nxX x) (exec R17 bT bC 1000 (sX x (i17 v n) True [])) = some (.normal, sX x (f17 v n) True []) := by cases x <;> kernel_rfl
theorem p17a (x : Option (List Int × Nat)) (v n : Int) : wkX 44 [6] (mX x) (nxX x) (exec P17 bT bC 1000 (sX x (f17 v n) True (rep true 3))) = some (.ret, sX x (z17 1) (pE1 n) []) := by cases x <;> kernel_rfl
theorem p17b (x : Option (List Int × Nat)) (v n : Int) : wkX 44 [6] (mX x) (nxX x) (exec P17 bT bC 1000 (sX x (f17 v n) True (rep false 3 ++ rep true 5))) = some (.ret, sX x (z17 1) (qE2 n) []) := by cases x <;> kernel_rfl
theorem p17c (x : Option (List Int × Nat)) (v n : Int) : wkX 44 [6] (mX x) (nxX x) (exec P17 bT bC 1000 (sX x (f17 v n) True (rep false 6 ++ (rep true 5 ++ [false, true, false, true])))) = some (.ret, sX x (z17 1) (qE3 v n true) []) := by cases x <;> kernel_rfl
theorem p17d (x : Option (List Int × Nat)) (v n : Int) : wkX 44 [0, 1, 2] (mX x) (nxX x) (exec P17 bT bC 1000 (sX x (f17 v n) True (rep false 6 ++ (rep true 5 ++ [false, true, false, false])))) = some (.normal, sX x (f17 v n) (qE3 v n false) []) := by cases x <;> kernel_rfl
theorem p17e (x : Option (List Int × Nat)) (v n : Int) : wkX 44 [0, 1, 2] (mX x) (nxX x) (exec P17 bT bC 1000 (sX x (f17 v n) True (rep false 14))) = some (.normal, sX x (f17 v n) (qE4 n) []) := by cases x <;> kernel_rfl
theorem i17' (x : Option (List Int × Nat)) (v n : Int) : wkX 44 [0, 1, 2, 7] (mX x) (nxX x) (exec I17 bT bC 1000 (sX x (f17 v n) True [])) = some (.normal, sX x (mkEnv 44 [(0, .ptr 1000 0), (1, .int true .u32 v), (2, .int true .i64 n), (7, .int false .i64 0)]) True []) := by cases x <;> kernel_rfl
theorem z17' (x : Option (List Int × Nat)) (v n i : Int) : wkX 44 [6] (mX x) (nxX x) (exec Z17 bT bC 1000 (sX x (e17 v n i) True [])) = some (.ret, sX x (z17 0) True []) := by cases x <;> kernel_rfl
theorem l17z (x : Option (List Int × Nat)) (v n i : Int) : wkX 44 [0, 1, 2, 7] (mX x) (nxX x) (exec L17 bT bC 1000 (sX x (e17 v n i) True [false])) = some (.exit 0, sX x (e17 v n i) (ilt i n = false ∧ True) []) := by cases x <;> kernel_rfl
theorem l17a (v n i : Int) : wkX 44 [0, 1, 2, 7] (m2 1002) 1002 (exec L17 bT bC 1000 (sX none (e17 v n i) True [true])) = some (.normal, sX (some ([wr .u8 (v.tmod 2)], 1)) (e17 (wr .u32 (v.tdiv 2)) n (wr .i64 (i.add 1))) (ilt i n = true ∧ True) []) := by kernel_rfl
theorem l17b (xs : List Int) (l : Nat) (v n i : Int) : wkX 44 [0, 1, 2, 7] (m2n 1003) 1002 (exec L17 bT bC 1000 (sX (some (xs, l)) (e17 v n i) True [true, false])) = some (.normal, sX (some (xs ++ [wr .u8 (v.tmod 2)], l + 1)) (e17 (wr .u32 (v.tdiv 2)) n (wr .i64 (i.add 1))) ((((l + 1) * 1).ble 140737488355328 && (l + 1).ble 140737488355328) = true ∧ xs.length.beq l = true ∧ Nat.beq 1 0 = false ∧ ilt i n = true ∧ True) []) := by kernel_rfl
/-- the memory behind a bits, which are B -/
def xR (a B : Nat) : Option (List Int × Nat) := match a with | 0 => none | a + 1 => some (rb (a + 1) B, a + 1)
theorem xR_pos {a : Nat} (B : Nat) (h : 0 < a) : xR a B = some (rb a B, a) := by cases a with | zero => omega | succ a => rfl
theorem xR_h (a B : Nat) : hRX (xR a B) = hS KR a B := by cases a <;> rfl
theorem xR_nx (a B : Nat) : nxX (xR a B) = nxW a := by cases a <;> rfl
noncomputable def s17 (a B v n i : Nat) : St := sX (xR a B) (e17 v n i) True []
theorem put_bit (a B v : Nat) (hB : B < 2 ^ a) (hv : v < 2 ^ 32) : rb a B ++ [wr .u8 ((v : Int).tmod 2)] = rb (a + 1) (B + v % 2 * 2 ^ a) := by
  rw [rb_succ a B _ hB (Nat.mod_lt _ (by omega))]
  have e : (v : Int).tmod 2 = ((v % 2 : Nat) : Int) := rfl
  rw [e, wr_u8 (by omega) (by omega)]
section
variable {ρ0 : Rn} {H0 : Nat → Option AObj} {w0 : World} {act : Act} {w : World}
theorem bit_round {a B v n i : Nat} (hB : B < 2 ^ a) (hv : v < 2 ^ 32) (hi : i < n) (hn : n ≤ 32) (ha : a < 2 ^ 45) (hs : SL Try.prog 44 [1000] ρ0 H0 w0 (s17 a B v n i) act w) :
    L17.wp Try.prog (fun x a' w' => x = .normal ∧ SL Try.prog 44 [1000] ρ0 H0 w0 (s17 (a + 1) (B + v % 2 * 2 ^ a) (v / 2) n (i + 1)) a' w') act w := by
  have e1 : wr .u32 ((v : Int).tdiv 2) = ((v / 2 : Nat) : Int) := wr_u32 (x := ((v / 2 : Nat) : Int)) (by omega) (by omega)
  have e2 : wr .i64 ((i : Int).add 1) = ((i + 1 : Nat) : Int) := by show wr .i64 ((i : Int) + 1) = _; rw [wr_i64 (by omega) (by omega)]; omega
  have e3 := put_bit a B v hB hv
  rcases Nat.eq_zero_or_pos a with rfl | hpos
  · have e0 := l17a v n i
    rw [e1, e2] at e0
    have e4 : [wr .u8 ((v : Int).tmod 2)] = rb 1 (B + v % 2 * 2 ^ 0) := e3
    rw [e4] at e0
    refine wp_mono (exec_sl bT_ok bM bC_ok wf17.2.2.2.1 e0 ok2 (fun v h => by cases h) ⟨ilt_t (by omega), trivial⟩ rfl rfl kp2 hs) ?_
    exact fun x a' w' ⟨h1, h2⟩ => ⟨h1.normal, h2.alike rfl rfl rfl⟩
  · have e0 := l17b (rb a B) a v n i
    rw [e1, e2, e3] at e0
    unfold s17 at *
    rw [xR_pos _ hpos] at hs
    rw [xR_pos _ (by omega)]
    refine wp_mono (exec_sl bT_ok bM bC_ok wf17.2.2.2.1 e0 ok2m (fun v h => by cases h) ⟨by rw [Bool.and_eq_true]; exact ⟨ble_t (by omega), ble_t (by omega)⟩, beq_t (rb_length a B), rfl, ilt_t (by omega), trivial⟩ rfl rfl kp2m (hs.alike rfl rfl rfl)) ?_
    exact fun x a' w' ⟨h1, h2⟩ => ⟨h1.normal, h2.alike rfl rfl rfl⟩
theorem bit_stop {a B v n i : Nat} (hi : n ≤ i) (hs : SL Try.prog 44 [1000] ρ0 H0 w0 (s17 a B v n i) act w) : L17.wp Try.prog (fun x a' w' => x = .exit 0 ∧ SL Try.prog 44 [1000] ρ0 H0 w0 (s17 a B v n i) a' w') act w := by
  refine wp_mono (exec_sl bT_ok bM bC_ok wf17.2.2.2.1 (l17z (xR a B) v n i) (okX _) (fun v h => by cases h) ⟨ilt_f (by omega), trivial⟩ rfl rfl (kpX _) (hs.alike rfl rfl rfl)) ?_
  exact fun x a' w' ⟨h1, h2⟩ => ⟨h1.exit, h2.alike rfl rfl rfl⟩
theorem bit_loop {a B v n : Nat} (hB : B < 2 ^ a) (hv : v < 2 ^ n) (hn : n ≤ 32) (ha : a < 2 ^ 44) (hs : SL Try.prog 44 [1000] ρ0 H0 w0 (s17 a B v n 0) act w) :
    (Code.block 0 (.loop L17)).wp Try.prog (fun x a' w' => x = .normal ∧ SL Try.prog 44 [1000] ρ0 H0 w0 (s17 (a + n) (B + v * 2 ^ a) 0 n n) a' w') act w := by
  refine wp_block (loop_sl (ι := Nat × Nat × Nat × Nat) (fun i => s17 i.1 i.2.1 i.2.2.1 n i.2.2.2) (fun i => i.2.1 < 2 ^ i.1 ∧ i.2.2.1 < 2 ^ (n - i.2.2.2) ∧ i.2.2.2 ≤ n ∧ i.1 = a + i.2.2.2 ∧ i.2.1 + i.2.2.1 * 2 ^ i.1 = B + v * 2 ^ a) (fun i => n - i.2.2.2) (a, B, v, 0) ⟨hB, by simpa using hv, Nat.zero_le _, rfl, rfl⟩ hs ?_)
  rintro ⟨a1, B1, v1, i1⟩ ⟨h1, h2, h3, h4, h5⟩ act w hs
  simp only at *
  rcases Nat.lt_or_ge i1 n with hlt | hge
  · have hp : 2 ^ (n - i1) ≤ 2 ^ 32 := Nat.pow_le_pow_right (by omega) (by omega)
    refine wp_mono (bit_round h1 (by omega) hlt hn (by omega) hs) ?_
    rintro x a' w' ⟨rfl, hs'⟩
    have e1 := step_B a1 B1 v1 1 h1
    have e2 := step_Z a1 B1 v1 1
    have e3 := step_v v1 (n - i1) 1 h2 (by omega)
    rw [Nat.pow_one] at e1 e2 e3
    have g1 : v1 / 2 < 2 ^ (n - (i1 + 1)) := by rw [show n - (i1 + 1) = n - i1 - 1 from by omega]; exact e3
    have g3 : i1 + 1 ≤ n := hlt
    have g4 : a1 + 1 = a + (i1 + 1) := by omega
    have g6 : n - (i1 + 1) < n - i1 := by omega
    exact ⟨(a1 + 1, B1 + v1 % 2 * 2 ^ a1, v1 / 2, i1 + 1), ⟨e1, g1, g3, g4, by rw [← h5]; exact e2⟩, g6, hs'⟩
  · refine wp_mono (bit_stop hge hs) ?_
    rintro x a' w' ⟨rfl, hs'⟩
    obtain rfl : i1 = n := by omega
    have : v1 = 0 := by rw [Nat.sub_self] at h2; have : (2 : Nat) ^ 0 = 1 := rfl; omega
    subst this
    refine ⟨rfl, ?_⟩
    have e : B1 = B + v * 2 ^ a := by rw [← h5]; simp
    rw [← h4, ← e]
    exact hs'
end
theorem fits17 : Try.f17.body = some (bodyOf 17) ∧ Try.f17.ntmps = 44 := ⟨by kernel_rfl, by kernel_rfl⟩
theorem res17 (r : Int) (g : G) : SX.results bT (z17 r) g Try.f17.results.toList = some [.int false .i64 r] := by kernel_rfl
theorem bit_takes (v : Nat) (n : Int) (hv : v < 2 ^ 32) : (Takes v n ∧ (qE3 v n false ∨ qE4 n)) ∨ (¬ Takes v n ∧ (pE1 n ∨ qE2 n ∨ qE3 v n true)) := by
  by_cases h0 : n < 0
  · have e := ilt_t h0
    exact .inr ⟨fun h => by have := h.1; omega, .inl ⟨e, e, e, trivial⟩⟩
  · have e0 : ilt n 0 = false := ilt_f (by omega)
    by_cases h1 : 32 < n
    · have e := ilt_t h1
      exact .inr ⟨fun h => by have := h.2.1; omega, .inr (.inl ⟨e, e, e, e, e, e0, e0, e0, trivial⟩)⟩
    · have e1 : ilt 32 n = false := ilt_f (by omega)
      by_cases h3 : n < 32
      · have e3 := ilt_t h3
        obtain ⟨m, rfl⟩ := Int.eq_ofNat_of_zero_le (by omega : 0 ≤ n)
        have hw : wr .u64 (m : Int) = (m : Int) := wr_u64 (by omega) (by omega)
        have hp : 2 ^ m ≤ 2 ^ 31 := Nat.pow_le_pow_right (by omega) (by omega)
        have hx : wr .u32 (Int.mul 1 (pow2 (wr .u64 (m : Int)) 32)) = ((2 ^ m : Nat) : Int) := by
          rw [hw, pow2_nat m 32 (by omega)]
          show wr .u32 (1 * ((2 ^ m : Nat) : Int)) = _
          rw [Int.one_mul, wr_u32 (Int.natCast_nonneg _) (Int.ofNat_lt.2 (show 2 ^ m < 4294967296 by omega))]
        have hy : (!ilt (wr .u64 (m : Int)) 0) = true := by rw [hw]; exact nilt_t (by omega)
        have ht : (m : Int).toNat = m := Int.toNat_natCast m
        by_cases h2 : v < 2 ^ m
        · refine .inl ⟨⟨by omega, by omega, by rw [ht]; exact h2⟩, .inl ⟨by rw [hx, ilt_t (Int.ofNat_lt.2 h2)]; rfl, e1, e3, e1, e3, hy, e3, e3, e3, e3, e1, e1, e1, e0, e0, e0, trivial⟩⟩
        · refine .inr ⟨fun h => h2 (by have := h.2.2; rw [ht] at this; exact this),   .inr (.inr ⟨by rw [hx]; exact nilt_t (Int.ofNat_le.2 (Nat.le_of_not_lt h2)), e1, e3, e1, e3, hy, e3, e3, e3, e3, e1, e1, e1, e0, e0, e0, trivial⟩)⟩
      · have e3 : ilt n 32 = false := ilt_f (by omega)
        obtain rfl : n = 32 := by omega
        exact .inl ⟨⟨by omega, by omega, hv⟩, .inr ⟨e1, e3, e1, e3, e3, e3, e3, e3, e1, e1, e1, e0, e0, e0, trivial⟩⟩
/-- the reference's Put: what it does -/
theorem bit_lc (a B v : Nat) (n : Int) (hB : B < 2 ^ a) (hv : v < 2 ^ 32) (ha : a < 2 ^ 42) {ρ : Rn} {w : World} {p : Value} (hg : Gl ρ (nxW a)) (hp : VR ρ (Dm N0 (nxW a)) (.ptr 1000 0) p) (hw : GR Try.prog ρ (Dm N0 (nxW a)) (hS KR a B).get w) :
    Calls Try.prog 17 [p, .int .u32 v, .int .i64 n].toArray w fun e w' => ∃ a' B' r ρ', ((Takes v n ∧ a' = a + n.toNat ∧ B' = B + v * 2 ^ a ∧ r = 0) ∨ (¬ Takes v n ∧ a' = a ∧ B' = B ∧ r = 1)) ∧ e = .returned (.int .i64 r) ∧ GR Try.prog ρ' (Dm N0 (nxW a')) (hS KR a' B').get w' ∧ Fram ρ (hS KR a B).get w ρ' (hS KR a' B').get w' ∧ ρ'.b 1000 = ρ.b 1000 := by
  have hnx : (sX (xR a B) (i17 v n) True []).g.nx = nxW a := xR_nx a B
  have hh : (sX (xR a B) (i17 v n) True []).g.h = hS KR a B := xR_h a B
  have key := calls_sl (F := [1000]) (g := (sX (xR a B) (i17 v n) True []).g) (ρ := ρ) (w := w) (vs := [p, .int .u32 v, .int .i64 n]) (args := [.ptr 1000 0, .int true .u32 v, .int true .i64 n]) bT_ok Try.func17 fits17.1 (by rw [fits17.2]; show 3 ≤ 44; omega) (by rw [fits17.2]; omega)
    (R := fun st' l => ∃ a' B' r, ((Takes v n ∧ a' = a + n.toNat ∧ B' = B + v * 2 ^ a ∧ r = 0) ∨ (¬ Takes v n ∧ a' = a ∧ B' = B ∧ r = 1)) ∧ l = [.int false .i64 r] ∧ st'.g.nx = nxW a' ∧ st'.g.h = hS KR a' B')
    (fun b hb => by rw [hnx]; obtain rfl := List.mem_singleton.1 hb; cases a <;> simp [nxW]) (by rw [hnx]; exact hg) (by rw [hnx]; exact LR.cons hp (LR.cons (.int _ _ _) (LR.cons (.int _ _ _) (LR.nil _ _)))) (by rw [hnx, hh]; exact hw) ?_
  · refine key.mono ?_
    rintro e w' ⟨st', l, x, ρ', ⟨a', B', r, h1, rfl, h2, h3⟩, rfl, hx, hg', hgr, hfr, hfx⟩
    rw [h2, h3] at hgr
    rw [h3, hh] at hfr
    obtain rfl := VR.int_inv hx
    exact ⟨a', B', r, ρ', h1, rfl, hgr, hfr, (hfx 1000 (List.mem_singleton.2 rfl)).2⟩
  · intro act hs
    rw [fits17.2] at hs ⊢
    rw [body17]
    refine wp_seq (wp_mono (exec_sl bT_ok bM bC_ok wf17.1 (r17 (xR a B) v n) (okX _) (fun v h => by cases h) trivial rfl rfl (kpX _) (hs.alike rfl rfl rfl)) ?_)
    intro x a1 w1 ⟨hx, hs⟩
    obtain rfl := hx.normal
    have fin : ∀ a2 w2, Takes v n → SL Try.prog 44 [1000] ρ (sX (xR a B) (i17 v n) True []).g.h.get w (sX (xR a B) (f17 v n) True []) a2 w2 → (Code.seq (.seq I17 (.block 0 (.loop L17))) Z17).wp Try.prog (fun x a' w' => (x = .normal ∨ x = .ret) ∧ ∃ st' l, SL Try.prog 44 [1000] ρ (sX (xR a B) (i17 v n) True []).g.h.get w st' a' w' ∧ st'.g.pc ∧ SX.results bT st'.env st'.g Try.f17.results.toList = some l ∧ ∃ a' B' r, ((Takes v n ∧ a' = a + n.toNat ∧ B' = B + v * 2 ^ a ∧ r = 0) ∨ (¬ Takes v n ∧ a' = a ∧ B' = B ∧ r = 1)) ∧ l = [.int false .i64 r] ∧ st'.g.nx = nxW a' ∧ st'.g.h = hS KR a' B') a2 w2 := by
      intro a2 w2 ht hs
      refine wp_seq (wp_seq (wp_mono (exec_sl bT_ok bM bC_ok wf17.2.2.1 (i17' (xR a B) v n) (okX _) (fun v h => by cases h) trivial rfl rfl (kpX _) hs) ?_))
      intro x a2 w2 ⟨hx, hs⟩
      obtain rfl := hx.normal
      obtain ⟨m, rfl⟩ := Int.eq_ofNat_of_zero_le ht.1
      refine wp_mono (bit_loop (n := m) hB ht.2.2 (by have := ht.2.1; omega) (by omega) (hs.sim rfl rfl (.same (.same (.same (.int .nil)))) rfl rfl)) ?_
      intro x a3 w3 ⟨hx, hs⟩
      subst hx
      refine wp_mono (exec_sl bT_ok bM bC_ok wf17.2.2.2.2 (z17' _ _ _ _) (okX _) (fun v h => by cases h) trivial rfl rfl (kpX _) hs) ?_
      intro x a4 w4 ⟨hx, hs⟩
      exact ⟨.inr hx.ret, _, _, hs, trivial, res17 _ _, _, _, _, .inl ⟨ht, rfl, rfl, rfl⟩, rfl, xR_nx _ _, xR_h _ _⟩
    rcases bit_takes v n hv with ⟨ht, hp | hp⟩ | ⟨ht, hp | hp | hp⟩
    · refine wp_seq (wp_mono (exec_sl bT_ok bM bC_ok wf17.2.1 (p17d (xR a B) v n) (okX _) (fun v h => by cases h) hp rfl rfl (kpX _) (hs.alike rfl rfl rfl)) ?_)
      intro x a2 w2 ⟨hx, hs⟩
      obtain rfl := hx.normal
      exact fin a2 w2 ht (hs.alike rfl rfl rfl)
    · refine wp_seq (wp_mono (exec_sl bT_ok bM bC_ok wf17.2.1 (p17e (xR a B) v n) (okX _) (fun v h => by cases h) hp rfl rfl (kpX _) (hs.alike rfl rfl rfl)) ?_)
      intro x a2 w2 ⟨hx, hs⟩
      obtain rfl := hx.normal
      exact fin a2 w2 ht (hs.alike rfl rfl rfl)
    · refine wp_seq (wp_mono (exec_sl bT_ok bM bC_ok wf17.2.1 (p17a (xR a B) v n) (okX _) (fun v h => by cases h) hp rfl rfl (kpX _) (hs.alike rfl rfl rfl)) ?_)
      intro x a2 w2 ⟨hx, hs⟩
      obtain rfl := hx.ret
      exact ⟨.inr rfl, _, _, hs, hp, res17 _ _, _, _, _, .inr ⟨ht, rfl, rfl, rfl⟩, rfl, xR_nx _ _, xR_h _ _⟩
    · refine wp_seq (wp_mono (exec_sl bT_ok bM bC_ok wf17.2.1 (p17b (xR a B) v n) (okX _) (fun v h => by cases h) hp rfl rfl (kpX _) (hs.alike rfl rfl rfl)) ?_)
      intro x a2 w2 ⟨hx, hs⟩
      obtain rfl := hx.ret
      exact ⟨.inr rfl, _, _, hs, hp, res17 _ _, _, _, _, .inr ⟨ht, rfl, rfl, rfl⟩, rfl, xR_nx _ _, xR_h _ _⟩
    · refine wp_seq (wp_mono (exec_sl bT_ok bM bC_ok wf17.2.1 (p17c (xR a B) v n) (okX _) (fun v h => by cases h) hp rfl rfl (kpX _) (hs.alike rfl rfl rfl)) ?_)
      intro x a2 w2 ⟨hx, hs⟩
      obtain rfl := hx.ret
      exact ⟨.inr rfl, _, _, hs, hp, res17 _ _, _, _, _, .inr ⟨ht, rfl, rfl, rfl⟩, rfl, xR_nx _ _, xR_h _ _⟩
theorem bit_yes (a B v : Nat) (n : Int) (hB : B < 2 ^ a) (hv : v < 2 ^ 32) (ha : a < 2 ^ 42) (h : Takes v n) : LCd Try.prog KR 17 [.int .u32 v, .int .i64 n] a B (a + n.toNat) (B + v * 2 ^ a) (.int .i64 0) := by
  intro ρ w p hg hp hw
  refine (bit_lc a B v n hB hv ha hg hp hw).mono ?_
  rintro e w' ⟨a', B', r, ρ', h1, h2, h4, h5, h6⟩
  rcases h1 with ⟨_, rfl, rfl, rfl⟩ | ⟨h7, _⟩
  · exact ⟨ρ', h2, h4, h5, h6⟩
  · exact absurd h h7
theorem bit_no (a B v : Nat) (n : Int) (hB : B < 2 ^ a) (hv : v < 2 ^ 32) (ha : a < 2 ^ 42) (h : ¬ Takes v n) : LCd Try.prog KR 17 [.int .u32 v, .int .i64 n] a B a B (.int .i64 1) := by
  intro ρ w p hg hp hw
  refine (bit_lc a B v n hB hv ha hg hp hw).mono ?_
  rintro e w' ⟨a', B', r, ρ', h1, h2, h4, h5, h6⟩
  rcases h1 with ⟨h7, _⟩ | ⟨_, rfl, rfl, rfl⟩
  · exact absurd h7 h
  · exact ⟨ρ', h2, h4, h5, h6⟩
end Go.Proofs.Yticfagianocfiaa.SX
