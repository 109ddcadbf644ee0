import Derived.Test.YtkclgbccnbiojaaGreatDoorTopGa
import Derived.Test.YtkclgbccnbiojaaGreatDoorTopGb
import Derived.Test.YtkclgbccnbiojaaGreatDoorTopGc
import Derived.Test.YtkclgbccnbiojaaGreatDoorTopGd
import Derived.Test.YtkclgbccnbiojaaGreatDoorTopGe
import Derived.Test.YtkclgbccnbiojaaGreatDoorTopGf
import Derived.Test.YtkclgbccnbiojaaGreatDoorSx7
set_option linter.unusedVariables false
set_option linter.unusedSimpArgs false
namespace Go.Proofs.YtkclgbccnbiojaaGreatDoor.SX
open Go.Proofs Go.Proofs.YtkclgbccnbiojaaGreatDoor.Mor
set_option maxRecDepth 1000000
set_option maxHeartbeats 0
theorem byteW (x k : Nat) : Nat.mod (Int.toNat (wr .u8 (Int.fdiv (x : Int) (Int.ofNat k)))) 256 = x / k % 256 := by
  rw [show (Int.ofNat k) = ((k : Nat) : Int) from rfl, fdiv_nat, wr_eq, IntKind.wrap_u8]
  show Int.toNat _ % 256 = _
  omega
theorem orStep (x y k i : Nat) (hk : k = 2 ^ i) (hx : x < k) (hy : y * k < 9223372036854775808 ∧ k ≤ 4294967296) : bitI .or Nat.lor .u64 (x : Int) (wr .u64 (Int.mul (wr .u64 (y : Int)) (Int.ofNat k))) = ((x + y * k : Nat) : Int) := by
  have hk0 : 0 < k := by omega
  have hy2 : y ≤ y * k := Nat.le_mul_of_pos_right _ hk0
  rw [wr_u64 (x := (y : Int)) (by omega) (by omega), show Int.mul (y : Int) (Int.ofNat k) = ((y * k : Nat) : Int) from rfl, wr_u64 (by omega) (by omega), lor_u64 x (y * k) (by omega) (by omega)]
  subst hk
  rw [Nat.or_comm, Nat.mul_comm, ← Nat.two_pow_add_eq_or_of_lt hx, Nat.add_comm]
theorem nat_ints (t : List Nat) (ht : ∀ x ∈ t, x < 256) : numBytes (natInts t) = t := by
  unfold numBytes natInts
  rw [List.map_map]
  refine (List.map_congr_left fun x hx => ?_).trans (List.map_id _)
  exact Nat.mod_eq_of_lt (ht x hx)
theorem put6 (a b c d e f : Int) (S : List Nat) : putN (a :: b :: c :: d :: e :: f :: List.replicate S.length (0 : Int)) 6 S.length (natInts S) = a :: b :: c :: d :: e :: f :: natInts S := by
  have hl : (natInts S).length = S.length := by rw [natInts, List.length_map]
  show a :: b :: c :: d :: e :: f :: (List.take S.length (natInts S) ++ List.drop (6 + S.length) (a :: b :: c :: d :: e :: f :: List.replicate S.length (0 : Int))) = _
  rw [List.take_of_length_le (by omega), List.drop_of_length_le (by simp only [List.length_cons, List.length_replicate]; omega), List.append_nil]
def hdr (n c : Nat) : List Nat := [n % 256, n / 256 % 256, c / 16777216 % 256, c / 65536 % 256, c / 256 % 256, c % 256]
theorem out6 (a b c d e f : Nat) (S : List Nat) (h1 : a < 256) (h2 : b < 256) (h3 : c < 256) (h4 : d < 256) (h5 : e < 256) (h6 : f < 256) (h : ∀ x ∈ S, x < 256) : numBytes (List.take (6 + S.length) (List.drop 0 ((a : Int) :: (b : Int) :: (c : Int) :: (d : Int) :: (e : Int) :: (f : Int) :: natInts S))) = [a, b, c, d, e, f] ++ S := by
  have hl : (natInts S).length = S.length := by rw [natInts, List.length_map]
  rw [List.drop_zero, List.take_of_length_le (by simp only [List.length_cons, hl]; omega)]
  show numBytes (natInts (a :: b :: c :: d :: e :: f :: S)) = _
  rw [nat_ints]
  · rfl
  · intro x hx
    simp only [List.mem_cons] at hx
    rcases hx with rfl | rfl | rfl | rfl | rfl | rfl | hx
    all_goals first | assumption | exact h x hx
theorem sEq_refl : ∀ S : List Nat, sEq S S = true
  | [] => rfl
  | x :: S => by
    show (bif x.beq x then sEq S S else false) = true
    rw [Nat.beq_refl, sEq_refl S]; rfl
theorem crcMore_le (S : List Nat) (h : ∀ x ∈ S, x < 256) : crcMore 0 S < 4294967296 := crcMore_lt (by decide) h
theorem adlerMore_le (S : List Nat) (h : ∀ x ∈ S, x < 256) : adlerMore 1 S < 4294967296 := adlerMore_lt 1 S
theorem inU64_t {x : Int} (h0 : 0 ≤ x) (h1 : x < 18446744073709551616) : inU64 x = true := by
  unfold inU64
  rw [nilt_t h0, ilt_t h1]; rfl
section
variable (S : List Nat) (h1 : S ≠ []) (h2 : S.length ≤ 1000) (h3 : ∀ x ∈ S, x < 256)
include h2
theorem eA1 : kA_1Q S = ((6 + S.length : Nat) : Int) := by
  have e : kA_1Q S = wr .i64 (Int.add (Int.ofNat 6) (S.length : Int)) := rfl
  rw [e, show Int.add (Int.ofNat 6) (S.length : Int) = ((6 + S.length : Nat) : Int) from rfl]
  exact wr_i64 (by omega) (by omega)
theorem eA2 : kA_2Q S = 6 + S.length := by
  show Int.toNat (kA_1Q S) = _
  rw [eA1 S h2]; rfl
theorem eA4 : kA_4Q S = (S.length : Int) := by
  have e : kA_4Q S = wr .u64 (wr .i64 (Int.sub (kA_1Q S) (Int.ofNat 6))) := rfl
  rw [e, eA1 S h2, show Int.sub ((6 + S.length : Nat) : Int) (Int.ofNat 6) = (S.length : Int) from by show ((6 + S.length : Nat) : Int) - (6 : Int) = _; omega, wr_i64 (by omega) (by omega), wr_u64 (by omega) (by omega)]
theorem eA5 : kA_5Q S = [S.length % 256, S.length / 256 % 256] := by
  have e : kA_5Q S = [Nat.mod (Int.toNat (wr .u8 (Int.fdiv (kA_4Q S) (Int.ofNat 1)))) 256, Nat.mod (Int.toNat (wr .u8 (Int.fdiv (kA_4Q S) (Int.ofNat 256)))) 256] := rfl
  rw [e, eA4 S h2, byteW, byteW, Nat.div_one]
theorem eA7 : kA_7Q S = 6 + S.length := by
  show Int.toNat ((kA_2Q S : Nat) : Int) = _
  rw [eA2 S h2]; rfl
theorem eA8 : kA_8Q S = 2 := by
  show min (List.length (kA_5Q S)) (kA_7Q S - 0) = 2
  rw [eA5 S h2, eA7 S h2]; show min 2 _ = 2; omega
theorem eA3 : kA_3Q S = 0 :: 0 :: 0 :: 0 :: 0 :: 0 :: List.replicate S.length (0 : Int) := by
  show List.replicate (kA_2Q S) (Int.ofNat 0) = _
  rw [eA2 S h2, Nat.add_comm]; rfl
theorem eA9 : kA_9Q S = ((S.length % 256 : Nat) : Int) :: ((S.length / 256 % 256 : Nat) : Int) :: 0 :: 0 :: 0 :: 0 :: List.replicate S.length (0 : Int) := by
  show putN (kA_3Q S) 0 (kA_8Q S) (natInts (kA_5Q S)) = _
  rw [eA3 S h2, eA8 S h2, eA5 S h2]; rfl
theorem eA10 : kA_10Q S = 4 + S.length := by
  show kA_7Q S - 2 = _
  rw [eA7 S h2]; omega
theorem eA11 : kA_11Q S = 4 := by
  show min 4 (kA_10Q S) = _
  rw [eA10 S h2]; omega
theorem eA12 : kA_12Q S = ((S.length % 256 : Nat) : Int) :: ((S.length / 256 % 256 : Nat) : Int) :: 0 :: 0 :: 0 :: 0 :: List.replicate S.length (0 : Int) := by
  show putN (kA_9Q S) 2 (kA_11Q S) (natInts [0, 0, 0, 0]) = _
  rw [eA9 S h2, eA11 S h2]; rfl
theorem eA13 : kA_13Q S = S.length := by
  show min S.length (kA_7Q S - 6) = _
  rw [eA7 S h2]; omega
theorem eA14 : kA_14Q S = ((S.length % 256 : Nat) : Int) :: ((S.length / 256 % 256 : Nat) : Int) :: 0 :: 0 :: 0 :: 0 :: natInts S := by
  show putN (kA_12Q S) 6 (kA_13Q S) (natInts S) = _
  rw [eA12 S h2, eA13 S h2]
  exact put6 _ _ _ _ _ _ S
theorem eA15 : kA_15Q S = S.length := by
  show kA_2Q S - 6 = _
  rw [eA2 S h2]; omega
include h3
theorem eA16 : kA_16Q S = S := by
  show numBytes (List.take (kA_15Q S) (List.drop 6 (kA_14Q S))) = _
  rw [eA14 S h2, eA15 S h2]
  show numBytes (List.take S.length (natInts S)) = _
  rw [List.take_of_length_le (by rw [natInts, List.length_map]; omega), nat_ints S h3]
theorem eA17 : kA_17Q S = ((crcMore 0 S : Nat) : Int) := by
  have e : kA_17Q S = wr .u64 ((crcMore 0 (kA_16Q S) : Nat) : Int) := rfl
  have := crcMore_le S h3
  rw [e, eA16 S h2 h3, wr_u64 (by omega) (by omega)]
theorem eA18 : kA_18Q S = [crcMore 0 S / 16777216 % 256, crcMore 0 S / 65536 % 256, crcMore 0 S / 256 % 256, crcMore 0 S % 256] := by
  have e : kA_18Q S = [Nat.mod (Int.toNat (wr .u8 (Int.fdiv (kA_17Q S) (Int.ofNat 16777216)))) 256, Nat.mod (Int.toNat (wr .u8 (Int.fdiv (kA_17Q S) (Int.ofNat 65536)))) 256, Nat.mod (Int.toNat (wr .u8 (Int.fdiv (kA_17Q S) (Int.ofNat 256)))) 256, Nat.mod (Int.toNat (wr .u8 (Int.fdiv (kA_17Q S) (Int.ofNat 1)))) 256] := rfl
  rw [e, eA17 S h2 h3, byteW, byteW, byteW, byteW, Nat.div_one]
theorem eA19 : kA_19Q S = 4 := by
  show min (List.length (kA_18Q S)) (kA_10Q S) = _
  rw [eA18 S h2 h3, eA10 S h2]; show min 4 _ = 4; omega
theorem eA20 : kA_20Q S = ((S.length % 256 : Nat) : Int) :: ((S.length / 256 % 256 : Nat) : Int) :: ((crcMore 0 S / 16777216 % 256 : Nat) : Int) :: ((crcMore 0 S / 65536 % 256 : Nat) : Int) :: ((crcMore 0 S / 256 % 256 : Nat) : Int) :: ((crcMore 0 S % 256 : Nat) : Int) :: natInts S := by
  show putN (kA_14Q S) 2 (kA_19Q S) (natInts (kA_18Q S)) = _
  rw [eA14 S h2, eA19 S h2 h3, eA18 S h2 h3]; rfl
theorem outA_eq : outA S = hdr S.length (crcMore 0 S) ++ S := by
  show numBytes (List.take (kA_2Q S) (List.drop 0 (kA_20Q S))) = _
  rw [eA2 S h2, eA20 S h2 h3]
  exact out6 _ _ _ _ _ _ S (Nat.mod_lt _ (by decide)) (Nat.mod_lt _ (by decide)) (Nat.mod_lt _ (by decide)) (Nat.mod_lt _ (by decide)) (Nat.mod_lt _ (by decide)) (Nat.mod_lt _ (by decide)) h3
include h1
theorem pcA_ok : Holds (pcA S) := by
  have hp : 0 < S.length := List.length_pos_iff.2 h1
  have hc := crcMore_le S h3
  have hl : (natInts S).length = S.length := by rw [natInts, List.length_map]
  have k20 : (kA_20Q S).length = 6 + S.length := by rw [eA20 S h2 h3]; simp only [List.length_cons, hl]; omega
  have k21 : kA_21Q S = 6 + S.length := by show (kA_14Q S).length = _; rw [eA14 S h2]; simp only [List.length_cons, hl]; omega
  have k12 : (kA_12Q S).length = 6 + S.length := by rw [eA12 S h2]; simp only [List.length_cons, List.length_replicate]; omega
  have k9 : (kA_9Q S).length = 6 + S.length := by rw [eA9 S h2]; simp only [List.length_cons, List.length_replicate]; omega
  have k3 : (kA_3Q S).length = 6 + S.length := by rw [eA3 S h2]; simp only [List.length_cons, List.length_replicate]; omega
  have k6 : kA_6Q S = ((6 + S.length : Nat) : Int) := by show ((kA_2Q S : Nat) : Int) = _; rw [eA2 S h2]
  have k0 : kA_0Q S = (S.length : Int) := rfl
  have a1 : ilt (Int.ofNat 6) (kA_1Q S) = true := by rw [eA1 S h2]; exact ilt_t (by show (6 : Int) < _; omega)
  have a2 : Nat.ble (0 + kA_2Q S) (kA_20Q S).length = true := ble_t (by rw [k20, eA2 S h2]; omega)
  have a3 : Nat.ble (2 + kA_19Q S) (kA_21Q S) = true := ble_t (by rw [k21, eA19 S h2 h3]; omega)
  have a4 : ∀ q, q ≠ 6 + S.length → Nat.beq (kA_2Q S) q = false := fun q hq => beq_f (by rw [eA2 S h2]; omega)
  have a5 : ∀ q : Nat, q ≤ 6 → okCut (Int.ofNat q) (kA_6Q S) (kA_2Q S) = true := fun q hq => okCut_iff.2 (by rw [k6, eA2 S h2]; refine ⟨?_, ?_, ?_⟩ <;> (try show ((q : Nat) : Int) ≤ _) <;> (try show (0 : Int) ≤ ((q : Nat) : Int)) <;> omega)
  have a6 : ilt (Int.ofNat 32) (lenB (Int.toNat (kA_17Q S)) : Int) = false := ilt_f (by rw [eA17 S h2 h3]; have := (lenB_lt (crcMore 0 S) 32).2 (by omega); show ((lenB (crcMore 0 S) : Nat) : Int) ≤ (32 : Int); omega)
  have a7 : inU64 (kA_17Q S) = true := inU64_t (by rw [eA17 S h2 h3]; omega) (by rw [eA17 S h2 h3]; omega)
  have a8 : Nat.ble (List.length (kA_16Q S)) 1000000 = true := ble_t (by rw [eA16 S h2 h3]; omega)
  have a9 : Nat.ble (6 + kA_15Q S) (kA_21Q S) = true := ble_t (by rw [k21, eA15 S h2]; omega)
  have a10 : okCut (Int.ofNat 6) (kA_1Q S) (kA_2Q S) = true := okCut_iff.2 (by rw [eA1 S h2, eA2 S h2]; refine ⟨?_, ?_, ?_⟩ <;> (try show (6 : Int) ≤ _) <;> (try show (0 : Int) ≤ 6) <;> omega)
  have a11 : Nat.ble (6 + kA_13Q S) (kA_12Q S).length = true := ble_t (by rw [k12, eA13 S h2]; omega)
  have a12 : Nat.ble (2 + kA_11Q S) (kA_9Q S).length = true := ble_t (by rw [k9, eA11 S h2]; omega)
  have a13 : Nat.ble (0 + kA_8Q S) (kA_3Q S).length = true := ble_t (by rw [k3, eA8 S h2]; omega)
  have a14 : ilt (Int.ofNat 16) (lenB (Int.toNat (kA_4Q S)) : Int) = false := ilt_f (by rw [eA4 S h2]; have := (lenB_lt S.length 16).2 (by omega); show ((lenB S.length : Nat) : Int) ≤ (16 : Int); omega)
  have a15 : inU64 (kA_4Q S) = true := inU64_t (by rw [eA4 S h2]; omega) (by rw [eA4 S h2]; omega)
  have a16 : (Nat.ble (kA_2Q S * 1) 140737488355328 && Nat.ble (kA_2Q S) 140737488355328) = true := by rw [eA2 S h2, ble_t (by omega), ble_t (by omega)]; rfl
  have a17 : (!ilt (kA_1Q S) (Int.ofNat 0) && !ilt (kA_1Q S) (kA_1Q S)) = true := by rw [eA1 S h2, nilt_t (by show (0 : Int) ≤ _; omega), nilt_t (Int.le_refl _)]; rfl
  have a18 : (!ieq (kA_4Q S) (wr .u64 (kA_0Q S))) = false := by rw [eA4 S h2, k0, wr_u64 (by omega) (by omega), ieq_t rfl]; rfl
  have a19 : ilt (Int.ofNat 4611686018427387904) (kA_4Q S) = false := ilt_f (by rw [eA4 S h2]; show _ ≤ (4611686018427387904 : Int); omega)
  have a20 : ilt (Int.ofNat 2000) (kA_1Q S) = false := ilt_f (by rw [eA1 S h2]; show _ ≤ (2000 : Int); omega)
  have a21 : sEq S S = true := sEq_refl S
  unfold pcA
  simp only [Holds, a1, a2, a3, a4 2 (by omega), a4 6 (by omega), a4 0 (by omega), a5 0 (by omega), a5 2 (by omega), a5 6 (by omega), a6, a7, a8, a9, a10, a11, a12, a13, a14, a15, a16, a17, a18, a19, a20, a21, and_self]
end
section
variable (S : List Nat) (h1 : S ≠ []) (h2 : S.length ≤ 1000) (h3 : ∀ x ∈ S, x < 256)
include h2
theorem eB1 : kB_1Q S = ((6 + S.length : Nat) : Int) := by
  have e : kB_1Q S = wr .i64 (Int.add (Int.ofNat 6) (S.length : Int)) := rfl
  rw [e, show Int.add (Int.ofNat 6) (S.length : Int) = ((6 + S.length : Nat) : Int) from rfl]
  exact wr_i64 (by omega) (by omega)
theorem eB2 : kB_2Q S = 6 + S.length := by
  show Int.toNat (kB_1Q S) = _
  rw [eB1 S h2]; rfl
theorem eB4 : kB_4Q S = (S.length : Int) := by
  have e : kB_4Q S = wr .u64 (wr .i64 (Int.sub (kB_1Q S) (Int.ofNat 6))) := rfl
  rw [e, eB1 S h2, show Int.sub ((6 + S.length : Nat) : Int) (Int.ofNat 6) = (S.length : Int) from by show ((6 + S.length : Nat) : Int) - (6 : Int) = _; omega, wr_i64 (by omega) (by omega), wr_u64 (by omega) (by omega)]
theorem eB5 : kB_5Q S = [S.length % 256, S.length / 256 % 256] := by
  have e : kB_5Q S = [Nat.mod (Int.toNat (wr .u8 (Int.fdiv (kB_4Q S) (Int.ofNat 1)))) 256, Nat.mod (Int.toNat (wr .u8 (Int.fdiv (kB_4Q S) (Int.ofNat 256)))) 256] := rfl
  rw [e, eB4 S h2, byteW, byteW, Nat.div_one]
theorem eB7 : kB_7Q S = 6 + S.length := by
  show Int.toNat ((kB_2Q S : Nat) : Int) = _
  rw [eB2 S h2]; rfl
theorem eB8 : kB_8Q S = 2 := by
  show min (List.length (kB_5Q S)) (kB_7Q S - 0) = 2
  rw [eB5 S h2, eB7 S h2]; show min 2 _ = 2; omega
theorem eB3 : kB_3Q S = 0 :: 0 :: 0 :: 0 :: 0 :: 0 :: List.replicate S.length (0 : Int) := by
  show List.replicate (kB_2Q S) (Int.ofNat 0) = _
  rw [eB2 S h2, Nat.add_comm]; rfl
theorem eB9 : kB_9Q S = ((S.length % 256 : Nat) : Int) :: ((S.length / 256 % 256 : Nat) : Int) :: 0 :: 0 :: 0 :: 0 :: List.replicate S.length (0 : Int) := by
  show putN (kB_3Q S) 0 (kB_8Q S) (natInts (kB_5Q S)) = _
  rw [eB3 S h2, eB8 S h2, eB5 S h2]; rfl
theorem eB10 : kB_10Q S = 4 + S.length := by
  show kB_7Q S - 2 = _
  rw [eB7 S h2]; omega
theorem eB11 : kB_11Q S = 4 := by
  show min 4 (kB_10Q S) = _
  rw [eB10 S h2]; omega
theorem eB12 : kB_12Q S = ((S.length % 256 : Nat) : Int) :: ((S.length / 256 % 256 : Nat) : Int) :: 0 :: 0 :: 0 :: 0 :: List.replicate S.length (0 : Int) := by
  show putN (kB_9Q S) 2 (kB_11Q S) (natInts [0, 0, 0, 0]) = _
  rw [eB9 S h2, eB11 S h2]; rfl
theorem eB13 : kB_13Q S = S.length := by
  show min S.length (kB_7Q S - 6) = _
  rw [eB7 S h2]; omega
theorem eB14 : kB_14Q S = ((S.length % 256 : Nat) : Int) :: ((S.length / 256 % 256 : Nat) : Int) :: 0 :: 0 :: 0 :: 0 :: natInts S := by
  show putN (kB_12Q S) 6 (kB_13Q S) (natInts S) = _
  rw [eB12 S h2, eB13 S h2]
  exact put6 _ _ _ _ _ _ S
theorem eB15 : kB_15Q S = S.length := by
  show kB_2Q S - 6 = _
  rw [eB2 S h2]; omega
include h3
theorem eB16 : kB_16Q S = S := by
  show numBytes (List.take (kB_15Q S) (List.drop 6 (kB_14Q S))) = _
  rw [eB14 S h2, eB15 S h2]
  show numBytes (List.take S.length (natInts S)) = _
  rw [List.take_of_length_le (by rw [natInts, List.length_map]; omega), nat_ints S h3]
theorem eB17 : kB_17Q S = ((adlerMore 1 S : Nat) : Int) := by
  have e : kB_17Q S = wr .u64 ((adlerMore 1 (kB_16Q S) : Nat) : Int) := rfl
  have := adlerMore_le S h3
  rw [e, eB16 S h2 h3, wr_u64 (by omega) (by omega)]
theorem eB18 : kB_18Q S = [adlerMore 1 S / 16777216 % 256, adlerMore 1 S / 65536 % 256, adlerMore 1 S / 256 % 256, adlerMore 1 S % 256] := by
  have e : kB_18Q S = [Nat.mod (Int.toNat (wr .u8 (Int.fdiv (kB_17Q S) (Int.ofNat 16777216)))) 256, Nat.mod (Int.toNat (wr .u8 (Int.fdiv (kB_17Q S) (Int.ofNat 65536)))) 256, Nat.mod (Int.toNat (wr .u8 (Int.fdiv (kB_17Q S) (Int.ofNat 256)))) 256, Nat.mod (Int.toNat (wr .u8 (Int.fdiv (kB_17Q S) (Int.ofNat 1)))) 256] := rfl
  rw [e, eB17 S h2 h3, byteW, byteW, byteW, byteW, Nat.div_one]
theorem eB19 : kB_19Q S = 4 := by
  show min (List.length (kB_18Q S)) (kB_10Q S) = _
  rw [eB18 S h2 h3, eB10 S h2]; show min 4 _ = 4; omega
theorem eB20 : kB_20Q S = ((S.length % 256 : Nat) : Int) :: ((S.length / 256 % 256 : Nat) : Int) :: ((adlerMore 1 S / 16777216 % 256 : Nat) : Int) :: ((adlerMore 1 S / 65536 % 256 : Nat) : Int) :: ((adlerMore 1 S / 256 % 256 : Nat) : Int) :: ((adlerMore 1 S % 256 : Nat) : Int) :: natInts S := by
  show putN (kB_14Q S) 2 (kB_19Q S) (natInts (kB_18Q S)) = _
  rw [eB14 S h2, eB19 S h2 h3, eB18 S h2 h3]; rfl
theorem outB_eq : outB S = hdr S.length (adlerMore 1 S) ++ S := by
  show numBytes (List.take (kB_2Q S) (List.drop 0 (kB_20Q S))) = _
  rw [eB2 S h2, eB20 S h2 h3]
  exact out6 _ _ _ _ _ _ S (Nat.mod_lt _ (by decide)) (Nat.mod_lt _ (by decide)) (Nat.mod_lt _ (by decide)) (Nat.mod_lt _ (by decide)) (Nat.mod_lt _ (by decide)) (Nat.mod_lt _ (by decide)) h3
include h1
theorem pcB_ok : Holds (pcB S) := by
  have hp : 0 < S.length := List.length_pos_iff.2 h1
  have hc := adlerMore_le S h3
  have hl : (natInts S).length = S.length := by rw [natInts, List.length_map]
  have k20 : (kB_20Q S).length = 6 + S.length := by rw [eB20 S h2 h3]; simp only [List.length_cons, hl]; omega
  have k21 : kB_21Q S = 6 + S.length := by show (kB_14Q S).length = _; rw [eB14 S h2]; simp only [List.length_cons, hl]; omega
  have k12 : (kB_12Q S).length = 6 + S.length := by rw [eB12 S h2]; simp only [List.length_cons, List.length_replicate]; omega
  have k9 : (kB_9Q S).length = 6 + S.length := by rw [eB9 S h2]; simp only [List.length_cons, List.length_replicate]; omega
  have k3 : (kB_3Q S).length = 6 + S.length := by rw [eB3 S h2]; simp only [List.length_cons, List.length_replicate]; omega
  have k6 : kB_6Q S = ((6 + S.length : Nat) : Int) := by show ((kB_2Q S : Nat) : Int) = _; rw [eB2 S h2]
  have k0 : kB_0Q S = (S.length : Int) := rfl
  have a1 : ilt (Int.ofNat 6) (kB_1Q S) = true := by rw [eB1 S h2]; exact ilt_t (by show (6 : Int) < _; omega)
  have a2 : Nat.ble (0 + kB_2Q S) (kB_20Q S).length = true := ble_t (by rw [k20, eB2 S h2]; omega)
  have a3 : Nat.ble (2 + kB_19Q S) (kB_21Q S) = true := ble_t (by rw [k21, eB19 S h2 h3]; omega)
  have a4 : ∀ q, q ≠ 6 + S.length → Nat.beq (kB_2Q S) q = false := fun q hq => beq_f (by rw [eB2 S h2]; omega)
  have a5 : ∀ q : Nat, q ≤ 6 → okCut (Int.ofNat q) (kB_6Q S) (kB_2Q S) = true := fun q hq => okCut_iff.2 (by rw [k6, eB2 S h2]; refine ⟨?_, ?_, ?_⟩ <;> (try show ((q : Nat) : Int) ≤ _) <;> (try show (0 : Int) ≤ ((q : Nat) : Int)) <;> omega)
  have a6 : ilt (Int.ofNat 32) (lenB (Int.toNat (kB_17Q S)) : Int) = false := ilt_f (by rw [eB17 S h2 h3]; have := (lenB_lt (adlerMore 1 S) 32).2 (by omega); show ((lenB (adlerMore 1 S) : Nat) : Int) ≤ (32 : Int); omega)
  have a7 : inU64 (kB_17Q S) = true := inU64_t (by rw [eB17 S h2 h3]; omega) (by rw [eB17 S h2 h3]; omega)
  have a8 : Nat.ble (List.length (kB_16Q S)) 5000 = true := ble_t (by rw [eB16 S h2 h3]; omega)
  have a9 : Nat.ble (6 + kB_15Q S) (kB_21Q S) = true := ble_t (by rw [k21, eB15 S h2]; omega)
  have a10 : okCut (Int.ofNat 6) (kB_1Q S) (kB_2Q S) = true := okCut_iff.2 (by rw [eB1 S h2, eB2 S h2]; refine ⟨?_, ?_, ?_⟩ <;> (try show (6 : Int) ≤ _) <;> (try show (0 : Int) ≤ 6) <;> omega)
  have a11 : Nat.ble (6 + kB_13Q S) (kB_12Q S).length = true := ble_t (by rw [k12, eB13 S h2]; omega)
  have a12 : Nat.ble (2 + kB_11Q S) (kB_9Q S).length = true := ble_t (by rw [k9, eB11 S h2]; omega)
  have a13 : Nat.ble (0 + kB_8Q S) (kB_3Q S).length = true := ble_t (by rw [k3, eB8 S h2]; omega)
  have a14 : ilt (Int.ofNat 16) (lenB (Int.toNat (kB_4Q S)) : Int) = false := ilt_f (by rw [eB4 S h2]; have := (lenB_lt S.length 16).2 (by omega); show ((lenB S.length : Nat) : Int) ≤ (16 : Int); omega)
  have a15 : inU64 (kB_4Q S) = true := inU64_t (by rw [eB4 S h2]; omega) (by rw [eB4 S h2]; omega)
  have a16 : (Nat.ble (kB_2Q S * 1) 140737488355328 && Nat.ble (kB_2Q S) 140737488355328) = true := by rw [eB2 S h2, ble_t (by omega), ble_t (by omega)]; rfl
  have a17 : (!ilt (kB_1Q S) (Int.ofNat 0) && !ilt (kB_1Q S) (kB_1Q S)) = true := by rw [eB1 S h2, nilt_t (by show (0 : Int) ≤ _; omega), nilt_t (Int.le_refl _)]; rfl
  have a18 : (!ieq (kB_4Q S) (wr .u64 (kB_0Q S))) = false := by rw [eB4 S h2, k0, wr_u64 (by omega) (by omega), ieq_t rfl]; rfl
  have a19 : ilt (Int.ofNat 4611686018427387904) (kB_4Q S) = false := ilt_f (by rw [eB4 S h2]; show _ ≤ (4611686018427387904 : Int); omega)
  have a20 : ilt (Int.ofNat 2000) (kB_1Q S) = false := ilt_f (by rw [eB1 S h2]; show _ ≤ (2000 : Int); omega)
  have a21 : sEq S S = true := sEq_refl S
  unfold pcB
  simp only [Holds, a1, a2, a3, a4 2 (by omega), a4 6 (by omega), a4 0 (by omega), a5 0 (by omega), a5 2 (by omega), a5 6 (by omega), a6, a7, a8, a9, a10, a11, a12, a13, a14, a15, a16, a17, a18, a19, a20, a21, and_self]
end
section
variable (w : Int) (S : List Nat) (h0 h1 h2 h3 h4 h5 : Nat)
theorem pcD_ok (hS : S ≠ []) (hn : S.length ≤ 1000) (hb : ∀ x ∈ S, x < 256) (hw : w = ((crcMore 0 S : Nat) : Int)) (e0 : h0 = S.length % 256) (e1 : h1 = S.length / 256 % 256) (e2 : h2 = crcMore 0 S / 16777216 % 256) (e3 : h3 = crcMore 0 S / 65536 % 256) (e4 : h4 = crcMore 0 S / 256 % 256) (e5 : h5 = crcMore 0 S % 256) : Holds (pcD w S h0 h1 h2 h3 h4 h5) := by
  have hp : 0 < S.length := List.length_pos_iff.2 hS
  have hc := crcMore_le S hb
  have d0 : kD_0Q w S h0 h1 h2 h3 h4 h5 = h0 :: h1 :: h2 :: h3 :: h4 :: h5 :: S := rfl
  have d1 : kD_1Q w S h0 h1 h2 h3 h4 h5 = [h0, h1] := rfl
  have d3 : kD_3Q w S h0 h1 h2 h3 h4 h5 = [h2, h3, h4, h5] := rfl
  have d2 : kD_2Q w S h0 h1 h2 h3 h4 h5 = (S.length : Int) := by
    have e : kD_2Q w S h0 h1 h2 h3 h4 h5 = bitI .or Nat.lor .u64 (bitI .or Nat.lor .u64 ((0 : Nat) : Int) (wr .u64 (Int.mul (wr .u64 (h0 : Int)) (Int.ofNat 1)))) (wr .u64 (Int.mul (wr .u64 (h1 : Int)) (Int.ofNat 256))) := rfl
    rw [e, orStep 0 h0 1 0 rfl (by omega) (by omega), orStep (0 + h0 * 1) h1 256 8 rfl (by omega) (by omega)]
    omega
  have d4 : kD_4Q w S h0 h1 h2 h3 h4 h5 = ((crcMore 0 S : Nat) : Int) := by
    have e : kD_4Q w S h0 h1 h2 h3 h4 h5 = bitI .or Nat.lor .u64 (bitI .or Nat.lor .u64 (bitI .or Nat.lor .u64 (bitI .or Nat.lor .u64 ((0 : Nat) : Int) (wr .u64 (Int.mul (wr .u64 (h5 : Int)) (Int.ofNat 1)))) (wr .u64 (Int.mul (wr .u64 (h4 : Int)) (Int.ofNat 256)))) (wr .u64 (Int.mul (wr .u64 (h3 : Int)) (Int.ofNat 65536)))) (wr .u64 (Int.mul (wr .u64 (h2 : Int)) (Int.ofNat 16777216))) := rfl
    rw [e, orStep 0 h5 1 0 rfl (by omega) (by omega), orStep (0 + h5 * 1) h4 256 8 rfl (by omega) (by omega), orStep _ h3 65536 16 rfl (by omega) (by omega), orStep _ h2 16777216 24 rfl (by omega) (by omega)]
    omega
  clear e0 e1 e2 e3 e4 e5
  have d5 : kD_5Q w S h0 h1 h2 h3 h4 h5 = (S.length : Int) := by show wr .i64 (kD_2Q w S h0 h1 h2 h3 h4 h5) = _; rw [d2, wr_i64 (by omega) (by omega)]
  have d6 : kD_6Q w S h0 h1 h2 h3 h4 h5 = ((6 + S.length : Nat) : Int) := by
    show wr .i64 (Int.add (Int.ofNat 6) (kD_5Q w S h0 h1 h2 h3 h4 h5)) = _
    rw [d5, show Int.add (Int.ofNat 6) (S.length : Int) = ((6 + S.length : Nat) : Int) from rfl]
    exact wr_i64 (by omega) (by omega)
  have d7 : kD_7Q w S h0 h1 h2 h3 h4 h5 = S := by
    show List.take (Int.toNat (kD_6Q w S h0 h1 h2 h3 h4 h5) - 6) S = S
    rw [d6]
    exact List.take_of_length_le (by show S.length ≤ 6 + S.length - 6; omega)
  have d8 : kD_8Q w S h0 h1 h2 h3 h4 h5 = 6 + S.length := by show (h0 :: h1 :: h2 :: h3 :: h4 :: h5 :: S).length = _; simp only [List.length_cons]; omega
  have d9 : kD_9Q w S h0 h1 h2 h3 h4 h5 = ((6 + S.length : Nat) : Int) := by show (((kD_8Q w S h0 h1 h2 h3 h4 h5) : Nat) : Int) = _; rw [d8]
  have sub : ∀ q : Nat, q ≤ 6 → wr .i64 (Int.sub (kD_9Q w S h0 h1 h2 h3 h4 h5) (Int.ofNat q)) = ((6 + S.length - q : Nat) : Int) := fun q hq => by
    rw [d9, show Int.sub ((6 + S.length : Nat) : Int) (Int.ofNat q) = ((6 + S.length - q : Nat) : Int) from by show ((6 + S.length : Nat) : Int) - ((q : Nat) : Int) = _; omega]
    exact wr_i64 (by omega) (by omega)
  have d10 : kD_10Q w S h0 h1 h2 h3 h4 h5 = (S.length : Int) := by show wr .i64 (Int.sub (kD_9Q w S h0 h1 h2 h3 h4 h5) (Int.ofNat 6)) = _; rw [sub 6 (by omega)]; omega
  have d11 : kD_11Q w S h0 h1 h2 h3 h4 h5 = ((4 + S.length : Nat) : Int) := by show wr .i64 (Int.sub (kD_9Q w S h0 h1 h2 h3 h4 h5) (Int.ofNat 2)) = _; rw [sub 2 (by omega)]; omega
  have d12 : kD_12Q w S h0 h1 h2 h3 h4 h5 = ((6 + S.length : Nat) : Int) := by show wr .i64 (Int.sub (kD_9Q w S h0 h1 h2 h3 h4 h5) (Int.ofNat 0)) = _; rw [sub 0 (by omega)]; omega
  have ww : wr .u64 w = ((crcMore 0 S : Nat) : Int) := by rw [hw]; exact wr_u64 (by omega) (by omega)
  have wl : wr .u64 (S.length : Int) = (S.length : Int) := wr_u64 (by omega) (by omega)
  have w11 : wr .u64 ((4 + S.length : Nat) : Int) = ((4 + S.length : Nat) : Int) := wr_u64 (by omega) (by omega)
  have w12 : wr .u64 ((6 + S.length : Nat) : Int) = ((6 + S.length : Nat) : Int) := wr_u64 (by omega) (by omega)
  have wc : wr .u32 ((crcMore 0 S : Nat) : Int) = ((crcMore 0 S : Nat) : Int) := wr_u32 (by omega) (by omega)
  have r : ∀ z : Int, ieq z z = true := fun z => ieq_t rfl
  have a1 : Nat.ble S.length 1000000 = true := ble_t (by omega)
  have a2 : okCut (Int.ofNat 6) ((6 + S.length : Nat) : Int) (6 + S.length) = true := okCut_iff.2 (by refine ⟨?_, ?_, ?_⟩ <;> (try show (6 : Int) ≤ _) <;> (try show (0 : Int) ≤ 6) <;> omega)
  have a3 : wr .i64 (Int.sub ((6 + S.length : Nat) : Int) (Int.ofNat 6)) = (S.length : Int) := by
    rw [show Int.sub ((6 + S.length : Nat) : Int) (Int.ofNat 6) = (S.length : Int) from by show ((6 + S.length : Nat) : Int) - (6 : Int) = _; omega]
    exact wr_i64 (by omega) (by omega)
  have a4 : ilt (Int.ofNat 4611686018427387904) ((6 + S.length : Nat) : Int) = false := ilt_f (by show _ ≤ (4611686018427387904 : Int); omega)
  have a5 : ilt (Int.ofNat 6) ((6 + S.length : Nat) : Int) = true := ilt_t (by show (6 : Int) < _; omega)
  have a6 : ilt (Int.ofNat 0) (S.length : Int) = true := ilt_t (by show (0 : Int) < _; omega)
  have a7 : ilt (S.length : Int) (S.length : Int) = false := ilt_f (Int.le_refl _)
  have a8 : ilt (S.length : Int) (Int.ofNat 0) = false := ilt_f (by show (0 : Int) ≤ _; omega)
  have a9 : ilt (Int.ofNat 4611686018427387904) (S.length : Int) = false := ilt_f (by show _ ≤ (4611686018427387904 : Int); omega)
  have a10 : ilt ((4 + S.length : Nat) : Int) (Int.ofNat 4) = false := ilt_f (by show (4 : Int) ≤ _; omega)
  have a11 : ilt ((6 + S.length : Nat) : Int) (Int.ofNat 2) = false := ilt_f (by show (2 : Int) ≤ _; omega)
  have a12 : ∀ l, sEq l l = true := sEq_refl
  unfold pcD
  simp only [d1, d3, d2, d4, d5, d6, d7, d8, d10, d11, d12, ww, wl, w11, w12, wc]
  simp only [Holds, r, a1, a2, a3, wl, a4, a5, a6, a7, a8, a9, a10, a11, a12, Bool.not_true, Bool.not_false, and_self]
end
section
variable (w : Int) (S : List Nat) (h0 h1 h2 h3 h4 h5 : Nat)
theorem pcG_ok (hS : S ≠ []) (hn : S.length ≤ 1000) (hb : ∀ x ∈ S, x < 256) (hw : w = ((adlerMore 1 S : Nat) : Int)) (e0 : h0 = S.length % 256) (e1 : h1 = S.length / 256 % 256) (e2 : h2 = adlerMore 1 S / 16777216 % 256) (e3 : h3 = adlerMore 1 S / 65536 % 256) (e4 : h4 = adlerMore 1 S / 256 % 256) (e5 : h5 = adlerMore 1 S % 256) : Holds (pcG w S h0 h1 h2 h3 h4 h5) := by
  have hp : 0 < S.length := List.length_pos_iff.2 hS
  have hc := adlerMore_le S hb
  have d0 : kG_0Q w S h0 h1 h2 h3 h4 h5 = h0 :: h1 :: h2 :: h3 :: h4 :: h5 :: S := rfl
  have d1 : kG_1Q w S h0 h1 h2 h3 h4 h5 = [h0, h1] := rfl
  have d3 : kG_3Q w S h0 h1 h2 h3 h4 h5 = [h2, h3, h4, h5] := rfl
  have d2 : kG_2Q w S h0 h1 h2 h3 h4 h5 = (S.length : Int) := by
    have e : kG_2Q w S h0 h1 h2 h3 h4 h5 = bitI .or Nat.lor .u64 (bitI .or Nat.lor .u64 ((0 : Nat) : Int) (wr .u64 (Int.mul (wr .u64 (h0 : Int)) (Int.ofNat 1)))) (wr .u64 (Int.mul (wr .u64 (h1 : Int)) (Int.ofNat 256))) := rfl
    rw [e, orStep 0 h0 1 0 rfl (by omega) (by omega), orStep (0 + h0 * 1) h1 256 8 rfl (by omega) (by omega)]
    omega
  have d4 : kG_4Q w S h0 h1 h2 h3 h4 h5 = ((adlerMore 1 S : Nat) : Int) := by
    have e : kG_4Q w S h0 h1 h2 h3 h4 h5 = bitI .or Nat.lor .u64 (bitI .or Nat.lor .u64 (bitI .or Nat.lor .u64 (bitI .or Nat.lor .u64 ((0 : Nat) : Int) (wr .u64 (Int.mul (wr .u64 (h5 : Int)) (Int.ofNat 1)))) (wr .u64 (Int.mul (wr .u64 (h4 : Int)) (Int.ofNat 256)))) (wr .u64 (Int.mul (wr .u64 (h3 : Int)) (Int.ofNat 65536)))) (wr .u64 (Int.mul (wr .u64 (h2 : Int)) (Int.ofNat 16777216))) := rfl
    rw [e, orStep 0 h5 1 0 rfl (by omega) (by omega), orStep (0 + h5 * 1) h4 256 8 rfl (by omega) (by omega), orStep _ h3 65536 16 rfl (by omega) (by omega), orStep _ h2 16777216 24 rfl (by omega) (by omega)]
    omega
  clear e0 e1 e2 e3 e4 e5
  have d5 : kG_5Q w S h0 h1 h2 h3 h4 h5 = (S.length : Int) := by show wr .i64 (kG_2Q w S h0 h1 h2 h3 h4 h5) = _; rw [d2, wr_i64 (by omega) (by omega)]
  have d6 : kG_6Q w S h0 h1 h2 h3 h4 h5 = ((6 + S.length : Nat) : Int) := by
    show wr .i64 (Int.add (Int.ofNat 6) (kG_5Q w S h0 h1 h2 h3 h4 h5)) = _
    rw [d5, show Int.add (Int.ofNat 6) (S.length : Int) = ((6 + S.length : Nat) : Int) from rfl]
    exact wr_i64 (by omega) (by omega)
  have d7 : kG_7Q w S h0 h1 h2 h3 h4 h5 = S := by
    show List.take (Int.toNat (kG_6Q w S h0 h1 h2 h3 h4 h5) - 6) S = S
    rw [d6]
    exact List.take_of_length_le (by show S.length ≤ 6 + S.length - 6; omega)
  have d8 : kG_8Q w S h0 h1 h2 h3 h4 h5 = 6 + S.length := by show (h0 :: h1 :: h2 :: h3 :: h4 :: h5 :: S).length = _; simp only [List.length_cons]; omega
  have d9 : kG_9Q w S h0 h1 h2 h3 h4 h5 = ((6 + S.length : Nat) : Int) := by show (((kG_8Q w S h0 h1 h2 h3 h4 h5) : Nat) : Int) = _; rw [d8]
  have sub : ∀ q : Nat, q ≤ 6 → wr .i64 (Int.sub (kG_9Q w S h0 h1 h2 h3 h4 h5) (Int.ofNat q)) = ((6 + S.length - q : Nat) : Int) := fun q hq => by
    rw [d9, show Int.sub ((6 + S.length : Nat) : Int) (Int.ofNat q) = ((6 + S.length - q : Nat) : Int) from by show ((6 + S.length : Nat) : Int) - ((q : Nat) : Int) = _; omega]
    exact wr_i64 (by omega) (by omega)
  have d10 : kG_10Q w S h0 h1 h2 h3 h4 h5 = (S.length : Int) := by show wr .i64 (Int.sub (kG_9Q w S h0 h1 h2 h3 h4 h5) (Int.ofNat 6)) = _; rw [sub 6 (by omega)]; omega
  have d11 : kG_11Q w S h0 h1 h2 h3 h4 h5 = ((4 + S.length : Nat) : Int) := by show wr .i64 (Int.sub (kG_9Q w S h0 h1 h2 h3 h4 h5) (Int.ofNat 2)) = _; rw [sub 2 (by omega)]; omega
  have d12 : kG_12Q w S h0 h1 h2 h3 h4 h5 = ((6 + S.length : Nat) : Int) := by show wr .i64 (Int.sub (kG_9Q w S h0 h1 h2 h3 h4 h5) (Int.ofNat 0)) = _; rw [sub 0 (by omega)]; omega
  have ww : wr .u64 w = ((adlerMore 1 S : Nat) : Int) := by rw [hw]; exact wr_u64 (by omega) (by omega)
  have wl : wr .u64 (S.length : Int) = (S.length : Int) := wr_u64 (by omega) (by omega)
  have w11 : wr .u64 ((4 + S.length : Nat) : Int) = ((4 + S.length : Nat) : Int) := wr_u64 (by omega) (by omega)
  have w12 : wr .u64 ((6 + S.length : Nat) : Int) = ((6 + S.length : Nat) : Int) := wr_u64 (by omega) (by omega)
  have wc : wr .u32 ((adlerMore 1 S : Nat) : Int) = ((adlerMore 1 S : Nat) : Int) := wr_u32 (by omega) (by omega)
  have r : ∀ z : Int, ieq z z = true := fun z => ieq_t rfl
  have a1 : Nat.ble S.length 5000 = true := ble_t (by omega)
  have a2 : okCut (Int.ofNat 6) ((6 + S.length : Nat) : Int) (6 + S.length) = true := okCut_iff.2 (by refine ⟨?_, ?_, ?_⟩ <;> (try show (6 : Int) ≤ _) <;> (try show (0 : Int) ≤ 6) <;> omega)
  have a3 : wr .i64 (Int.sub ((6 + S.length : Nat) : Int) (Int.ofNat 6)) = (S.length : Int) := by
    rw [show Int.sub ((6 + S.length : Nat) : Int) (Int.ofNat 6) = (S.length : Int) from by show ((6 + S.length : Nat) : Int) - (6 : Int) = _; omega]
    exact wr_i64 (by omega) (by omega)
  have a4 : ilt (Int.ofNat 4611686018427387904) ((6 + S.length : Nat) : Int) = false := ilt_f (by show _ ≤ (4611686018427387904 : Int); omega)
  have a5 : ilt (Int.ofNat 6) ((6 + S.length : Nat) : Int) = true := ilt_t (by show (6 : Int) < _; omega)
  have a6 : ilt (Int.ofNat 0) (S.length : Int) = true := ilt_t (by show (0 : Int) < _; omega)
  have a7 : ilt (S.length : Int) (S.length : Int) = false := ilt_f (Int.le_refl _)
  have a8 : ilt (S.length : Int) (Int.ofNat 0) = false := ilt_f (by show (0 : Int) ≤ _; omega)
  have a9 : ilt (Int.ofNat 4611686018427387904) (S.length : Int) = false := ilt_f (by show _ ≤ (4611686018427387904 : Int); omega)
  have a10 : ilt ((4 + S.length : Nat) : Int) (Int.ofNat 4) = false := ilt_f (by show (4 : Int) ≤ _; omega)
  have a11 : ilt ((6 + S.length : Nat) : Int) (Int.ofNat 2) = false := ilt_f (by show (2 : Int) ≤ _; omega)
  have a12 : ∀ l, sEq l l = true := sEq_refl
  unfold pcG
  simp only [d1, d3, d2, d4, d5, d6, d7, d8, d10, d11, d12, ww, wl, w11, w12, wc]
  simp only [Holds, r, a1, a2, a3, wl, a4, a5, a6, a7, a8, a9, a10, a11, a12, Bool.not_true, Bool.not_false, and_self]
end
theorem pcE_ok (w : Int) (hw : w = 0) : Holds (pcE w) := by
  subst hw
  have e : ieq (Int.ofNat 0) (wr .u64 0) = true := by rw [wr_u64 (by omega) (by omega)]; rfl
  unfold pcE
  simp only [Holds, e, and_self]
theorem pcF_ok (w : Int) (hw : w = 1) : Holds (pcF w) := by
  subst hw
  have e : ieq (Int.ofNat 1) (wr .u64 1) = true := by rw [wr_u64 (by omega) (by omega)]; rfl
  unfold pcF
  simp only [Holds, e, and_self]
end Go.Proofs.YtkclgbccnbiojaaGreatDoor.SX
