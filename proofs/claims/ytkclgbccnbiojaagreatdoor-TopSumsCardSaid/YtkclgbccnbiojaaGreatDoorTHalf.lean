/- The walk of sums.More: wherever the table of half a byte reads as the program lays it, the call answers the CRC by the plain law. -/
import Derived.Test.YtkclgbccnbiojaaGreatDoorProg
import Derived.Test.YtkclgbccnbiojaaGreatDoorTCrc
import Derived.Below
import Derived.ProofKit
import Derived.Laws.BitsAllLaws
import Derived.WalkKit
import Derived.KernelRfl
import Derived.Lib.Hide
import Derived.Outline
namespace Go.Proofs.YtkclgbccnbiojaaGreatDoor.Mor
open Go Go.RowKit
set_option linter.unusedVariables false
set_option linter.unusedSimpArgs false

/-- The table's cells hold the numbers of half a byte. -/
structure HalfIs (w : World) : Prop where mk :: (out : ∀ i : Nat, i < 16 → w.cell? ⟨0, i, none⟩ = some (.int .u32 ((half.getD i 0 : Nat) : Int)))
theorem HalfIs.below {w w' : World} (h : HalfIs w) (hb : Below w.heap.size w w') : HalfIs w' :=
  ⟨fun i hi => (hb.cell (World.block_lt_of_cell? w _ (h.out i hi))).trans (h.out i hi)⟩

/-- A text's bytes as numbers. -/
def byts (s : ByteArray) : List Nat := s.data.toList.map (·.toNat)
theorem byts_length (s : ByteArray) : (byts s).length = s.size := by simp [byts]
theorem byts_lt (s : ByteArray) : ∀ b ∈ byts s, b < 256 := by
  intro b hb
  obtain ⟨x, _, rfl⟩ := List.mem_map.1 hb
  exact x.toNat_lt
theorem byts_take (s : ByteArray) (k : Nat) (h : k < s.size) : (byts s).take (k + 1) = (byts s).take k ++ [(s[k]'h).toNat] := by
  have hl : k < (byts s).length := by rw [byts_length]; exact h
  rw [List.take_succ_eq_append_getElem hl]
  congr 2
  simp [byts]
  rfl
theorem reg_take_lt (c : Nat) (hc : c < 4294967296) (s : ByteArray) (k : Nat) : reg c ((byts s).take k) < 4294967296 :=
  reg_lt _ hc fun b hb => byts_lt s b (List.mem_of_mem_take hb)

theorem ret_u32 {a b : Int} (h : a = b) : Ending.returned (.int .u32 a) = .returned (.int .u32 b) := by rw [h]

theorem flip_u32 (c : Nat) (hc : c < 4294967296) : Go.bits .xor .u32 IntKind.u32.max (c : Int) = ((flip c : Nat) : Int) := by
  have h := u32_xor_nat 4294967295 c (by decide) hc
  rw [Nat.xor_comm] at h
  exact h
theorem half_u32 (x : Nat) (hx : x < 4294967296) : Go.bits .xor .u32 ((x : Int) / 16) ((half.getD (x % 16) 0 : Nat) : Int) = ((stp4 x : Nat) : Int) := by
  have h := u32_xor_nat (x / 16) (half.getD (x % 16) 0) (by omega) (half_lt _)
  rw [half_stp4] at h
  exact h
theorem low_u32 (x : Nat) (hx : x < 4294967296) : Go.bits .and .u32 (x : Int) 15 = ((x % 16 : Nat) : Int) := by
  have h := u32_and_nat x 15 hx (by decide)
  have e : x &&& 15 = x % 16 := Nat.and_two_pow_sub_one_eq_mod x 4
  rw [e] at h
  exact h

set_option maxHeartbeats 4000000 in
set_option maxRecDepth 100000 in
theorem more_any (c : Nat) (s : ByteArray) (w : World) (hc : c < 4294967296) (hs : s.size ≤ maxLen) (hg : HalfIs w) :
    Calls Tryz.prog 18 #[.int .u32 c, .string s] w fun e w' => e = .returned (.int .u32 ((crcMore c (byts s) : Nat) : Int)) ∧ w' = w := by
  unfold maxLen at hs
  have hflip := flip_u32 c hc
  have hf := flip_lt hc
  have Hcm := Lib.hid (show crcMore c (byts s) = flip (reg (flip c) (byts s)) from rfl)
  generalize hfc : flip c = f at *
  clear hfc
  go_enter Tryz.func18, Tryz.ntmps18
  go_wp2
  go_loop [0, 10] (fun v i => ∃ k : Nat, k ≤ s.size ∧ i = .int .i64 k ∧ v = .int .u32 ((reg f ((byts s).take k) : Nat) : Int)) (fun _ i => s.size - (intOf i).toNat)
  case atStart => exact ⟨0, Nat.zero_le _, rfl, rfl⟩
  case round =>
    clear hflip
    obtain ⟨k, hk, rfl, rfl⟩ := hrel
    have hr := reg_take_lt f hf s k
    by_cases hlt : k < s.size
    · have Hts := Lib.hid (byts_take s k hlt)
      have hb : (s[k]'hlt).toNat < 256 := (s[k]'hlt).toNat_lt
      generalize hR : reg f ((byts s).take k) = R at *
      have HR := Lib.hid hR
      clear hR
      have h1 := u32_xor_nat R (s[k]'hlt).toNat hr (by omega)
      have hX := xor_lt (a := R) (b := (s[k]'hlt).toNat) hr (by omega)
      generalize hX1 : R ^^^ (s[k]'hlt).toNat = X at *
      have HX := Lib.hid hX1
      clear hX1
      have h2 := low_u32 X hX
      have h3 := hg.out (X % 16) (by omega)
      have h4 := half_u32 X hX
      have hY := stp4_lt hX
      generalize hY1 : stp4 X = Y at *
      have HY := Lib.hid hY1
      clear hY1
      have h5 := low_u32 Y hY
      have h6 := hg.out (Y % 16) (by omega)
      have h7 := half_u32 Y hY
      have l1 : X % 16 < 16 := by omega
      have l2 : Y % 16 < 16 := by omega
      generalize hz1 : half.getD (X % 16) 0 = z1 at *
      clear hz1
      generalize hz2 : half.getD (Y % 16) 0 = z2 at *
      clear hz2
      generalize hm1 : X % 16 = m1 at *
      clear hm1
      generalize hm2 : Y % 16 = m2 at *
      clear hm2
      go_wp2
      go_round
      case rel =>
        refine ⟨k + 1, by omega, by go_num, ?_⟩
        rw [Hts.out, reg_snoc, HR.out, HX.out]
        show _ = Value.int IntKind.u32 ((stp4 (stp4 X) : Nat) : Int)
        rw [HY.out]
      case measure => simp [intOf]; omega
    · have hkk : k = s.size := by omega
      have Hall := Lib.hid (show (byts s).take k = byts s from List.take_of_length_le (by rw [byts_length]; omega))
      have hl := flip_u32 _ hr
      rw [Hall.out] at hl
      rw [Hall.out]
      generalize hR : reg f (byts s) = R at *
      have HR := Lib.hid hR
      clear hR
      clear hkk
      go_wp2
      go_ret
      exact ⟨ret_u32 (by rw [Hcm.out]), rfl⟩
end Go.Proofs.YtkclgbccnbiojaaGreatDoor.Mor
